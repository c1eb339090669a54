/- Audit: Next. -/
import Derived.Test.YtajbchecjbddgaaGreatDoorH6
import Derived.Test.YtajbchecjbddgaaGreatDoorH5
import Derived.Test.YtajbchecjbddgaaGreatDoorUk
import Derived.Deep.CutRange
import Derived.Test.YtajbchecjbddgaaGreatDoorH3
namespace Go.Proofs.YtajbchecjbddgaaGreatDoor
open Go.RowKit
namespace P20
open P7

theorem own_at {w : World} {base size n T c : Nat} {e : TypeId} {xs : List Value} (h : w.ownsRow base e size (.slice (some ⟨T, 0, none⟩) n c) n xs) (hn : 0 < n) : base ≤ T ∧ T < w.heap.size ∧ (∀ j u, xs[j]? = some u → w.cell? ⟨T, j, none⟩ = some u) ∧ ∀ j, w.frozen? ⟨T, j, none⟩ = false := by
  obtain ⟨g, cap, e1, h1, h2, _, h3, h4⟩ := own_open h hn
  injection e1 with e1 _ _
  injection e1 with e1
  injection e1 with e1 _ _
  subst e1
  exact ⟨h1, h2, h3, h4⟩
theorem tN_toN (a b : Sh) (i : Nat) : tN a.l b.l i = toN a b i := rfl
theorem toL_was {a b : Sh} {i : Nat} : decide ((i : Int) ∈ toL a.l b.l a.l.length) = wasB a b i := by
  rw [Bool.eq_iff_iff, decide_eq_true_iff, wasB_iff]
  unfold toL
  rw [List.mem_map]
  constructor
  · rintro ⟨j, h1, h2⟩
    rw [List.mem_range] at h1
    rw [if_pos h1, tN_toN] at h2
    exact ⟨j, h1, by omega⟩
  · rintro ⟨j, h1, h2⟩
    refine ⟨j, List.mem_range.2 h1, ?_⟩
    rw [if_pos h1, tN_toN, h2]
theorem nxt_a {a b : Sh} (h : chkS a ≠ 0) : nxt a b = chkS a := by unfold nxt; rw [if_pos h]
theorem nxt_b {a b : Sh} (h : chkS a = 0) (h2 : chkS b ≠ 0) : nxt a b = chkS b := by unfold nxt; rw [if_neg (by simpa using h), if_pos h2]
theorem nxt_no {a b : Sh} (h : chkS a = 0) (h2 : chkS b = 0) (h3 : ¬ nextOk a b) : nxt a b = 26 := by unfold nxt; rw [if_neg (by simpa using h), if_neg (by simpa using h2), if_neg h3]
theorem nxt_ok {a b : Sh} (h : chkS a = 0) (h2 : chkS b = 0) (h3 : nextOk a b) : nxt a b = 0 := by unfold nxt; rw [if_neg (by simpa using h), if_neg (by simpa using h2), if_pos h3]
set_option maxRecDepth 100000 in
set_option maxHeartbeats 16000000 in
theorem next_any {w : World} {var vas vaw vbr vbs vbw : Value} {a b : Sh} (hA : Shm w var vas vaw a) (hB : Shm w vbr vbs vbw b) (hfa : FewS a) (hfb : FewS b) :
    Calls Tryz.prog 6 #[.agg #[var, vas, vaw], .agg #[vbr, vbs, vbw]] w fun e w' => e = .returned (.int .i64 (nxt a b)) ∧ Below w.heap.size w w' := by
  obtain ⟨Ar, car, hvr, hncr, -⟩ := rows_open hA.rows.sl
  obtain ⟨As, cas, hvs, hnc, hAs⟩ := scs_open hA.scs
  obtain ⟨Aw, caw, hvw, -, -⟩ := hA.wks.open_
  obtain ⟨Br, cbr, hur, hncr2, -⟩ := rows_open hB.rows.sl
  obtain ⟨Bs, cbs, hus, hnc2, hBs⟩ := scs_open hB.scs
  obtain ⟨Bw, cbw, huw, -, -⟩ := hB.wks.open_
  have HAS := Lib.hid hAs
  have HBS := Lib.hid hBs
  have HFA := Lib.hid hfa
  have HFB := Lib.hid hfb
  have hla := hfa.l
  have hlb := hfb.l
  have hsa := hfa.sc
  have hsb := hfb.sc
  obtain ⟨nar, hnar⟩ := name_of a.l.length
  obtain ⟨nas, hnas⟩ := name_of a.sc.length
  obtain ⟨naw, hnaw⟩ := name_of a.ws.length
  obtain ⟨nbr, hnbr⟩ := name_of b.l.length
  obtain ⟨nbs, hnbs⟩ := name_of b.sc.length
  obtain ⟨nbw, hnbw⟩ := name_of b.ws.length
  have HNAR := Lib.hid hnar
  have HNAS := Lib.hid hnas
  have HNAW := Lib.hid hnaw
  have HNBR := Lib.hid hnbr
  have HNBS := Lib.hid hnbs
  have HNBW := Lib.hid hnbw
  rw [hnar] at hvr hncr hla
  rw [hnas] at hvs hnc hsa
  rw [hnaw] at hvw
  rw [hnbr] at hur hncr2 hlb
  rw [hnbs] at hus hnc2 hsb
  rw [hnbw] at huw
  subst hvr hvs hvw hur hus huw
  obtain ⟨R, hR⟩ := name_of (nxt a b)
  obtain ⟨E, hE⟩ := name_of (chkS a)
  obtain ⟨F, hF⟩ := name_of (chkS b)
  have HR := Lib.hid hR
  have HE := Lib.hid hE
  have HF := Lib.hid hF
  have hb1 : Below w.heap.size w ((w.alloc (.cells #[.slice Ar nar car, .slice As nas cas, .slice Aw naw caw] 31)).alloc (.cells #[.slice Br nbr cbr, .slice Bs nbs cbs, .slice Bw nbw cbw] 31)) := by go_grown
  have k0 := heap_alloc2_old w (.cells #[.slice Ar nar car, .slice As nas cas, .slice Aw naw caw] 31) (.cells #[.slice Br nbr cbr, .slice Bs nbs cbs, .slice Bw nbw cbw] 31)
  have k1 := heap_alloc2_new w (.cells #[.slice Ar nar car, .slice As nas cas, .slice Aw naw caw] 31) (.cells #[.slice Br nbr cbr, .slice Bs nbs cbs, .slice Bw nbw cbw] 31)
  have hCa := checkS_any (hA.next hb1) hfa
  rw [hE] at hCa
  have HB1 := Lib.hid hb1
  have HK0 := Lib.hid k0
  have HK1 := Lib.hid k1
  have HA := Lib.hid hA
  have HB := Lib.hid hB
  rw [hR]
  clear hA hB hfa hfb hAs hBs hnar hnas hnaw hnbr hnbs hnbw hR hE hF hb1 k0 k1
  go_enter Tryz.func6, Tryz.ntmps6
  go_wp2_with fail
  refine hCa.mono ?_
  rintro e w2 ⟨rfl, hb2⟩
  have HB2 := Lib.hid (HB1.out.next hb2)
  have h20 := blk_next HK0.out hb2
  have h21 := blk_next HK1.out hb2
  clear hCa hb2
  by_cases hE0 : E = 0
  rotate_left
  · have f1 : (E != 0) = true := by simpa using hE0
    have HV : Hid (E = R) := Lib.hid (by rw [← HR.out, ← HE.out]; exact (nxt_a (by rw [HE.out]; exact hE0)).symm)
    clear hE0 h20 h21
    go_wp2_with fail
    go_ret
    exact ⟨ret_i HV.out, HB2.out⟩
  subst hE0
  have HK20 := Lib.hid h20
  have HK21 := Lib.hid h21
  have hLk := look_any (HB.out.next HB2.out) HFB.out
  unfold LookPost at hLk
  rw [HF.out] at hLk
  clear h20 h21
  have y20 : ∀ j, w2.cell? ⟨w.heap.size + 1, j, none⟩ = (#[Value.slice Br nbr cbr, .slice Bs nbs cbs, .slice Bw nbw cbw] : Array Value)[j]? := fun j => cell_of_row _ _ _ _ _ _ HK21.out
  go_wp2_with fail
  refine hLk.mono ?_
  clear hLk
  rintro e w3 ⟨hb3, ⟨hne, rfl⟩ | ⟨hF0, hFine, bv, bm, rfl, hVm⟩⟩
  · have f1 : (F != 0) = true := by simpa using hne
    have HV : Hid (F = R) := Lib.hid (by rw [← HR.out, ← HF.out]; exact (nxt_b HE.out (by rw [HF.out]; exact hne)).symm)
    have HB3 := Lib.hid (HB2.out.next hb3)
    clear hne hb3 y20
    go_wp2_with fail
    go_ret
    exact ⟨ret_i HV.out, HB3.out⟩
  subst hF0
  have HFN := Lib.hid hFine
  have HVM := Lib.hid hVm
  have HB3 := Lib.hid (HB2.out.next hb3)
  have HK30 := Lib.hid (blk_next HK20.out hb3)
  have HK31 := Lib.hid (blk_next HK21.out hb3)
  have HNO : Hid (¬ nextOk a b → 26 = R) := Lib.hid (fun h => by rw [← HR.out]; exact (nxt_no HE.out HF.out h).symm)
  have hsmA := HFA.out.small
  have hsmB := HFB.out.small
  have hG := grownAll_any (HA.out.next HB3.out).rows.sl (HB.out.next HB3.out).rows.sl hsmA hsmB
  have y30 : w3.cell? ⟨w.heap.size, 0, none⟩ = some (.slice Ar nar car) := (cell_of_row _ _ _ _ _ _ HK30.out).trans rfl
  have y31 : w3.cell? ⟨w.heap.size + 1, 0, none⟩ = some (.slice Br nbr cbr) := (cell_of_row _ _ _ _ _ _ HK31.out).trans rfl
  clear hFine hVm hb3 y20 hsmA hsmB HK20 HK21 HB1 HK0 HK1 HB2
  obtain ⟨G, hGG⟩ := name_of (GrownT a.l b.l)
  have HGG := Lib.hid hGG
  rw [hGG] at hG
  clear hGG
  go_wp2_with fail
  refine hG.mono ?_
  rintro e w4 ⟨rfl, hb4⟩
  have HB4 := Lib.hid (HB3.out.next hb4)
  have HVM4 := Lib.hid (HVM.out.next hb4)
  have HK40 := Lib.hid (blk_next HK30.out hb4)
  have HK41 := Lib.hid (blk_next HK31.out hb4)
  clear hG hb4 y30 y31 HK30 HK31 HVM HB3
  cases G with
  | false =>
    have HV := Lib.hid (HNO.out (fun h => by have := h.1; rw [HGG.out] at this; cases this))
    go_wp2_with fail
    go_ret
    exact ⟨ret_i HV.out, HB4.out⟩
  | true =>
  have y42 : w4.cell? ⟨w.heap.size, 2, none⟩ = some (.slice Aw naw caw) := (cell_of_row _ _ _ _ _ _ HK40.out).trans rfl
  have y43 : w4.cell? ⟨w.heap.size + 1, 2, none⟩ = some (.slice Bw nbw cbw) := (cell_of_row _ _ _ _ _ _ HK41.out).trans rfl
  by_cases hw : naw = nbw
  rotate_left
  · have f1 : ((naw : Int) != nbw) = true := by simp; omega
    have HV := Lib.hid (HNO.out (fun h => hw (by have := h.2.1; rw [HNAW.out, HNBW.out] at this; exact this)))
    clear hw
    go_wp2_with fail
    go_ret
    exact ⟨ret_i HV.out, HB4.out⟩
  have f1 : ((naw : Int) != nbw) = false := by simp; omega
  have HWW : Hid (a.ws.length = b.ws.length) := Lib.hid (by rw [HNAW.out, HNBW.out]; exact hw)
  have y40 : w4.cell? ⟨w.heap.size, 0, none⟩ = some (.slice Ar nar car) := (cell_of_row _ _ _ _ _ _ HK40.out).trans rfl
  have y41 : w4.cell? ⟨w.heap.size + 1, 0, none⟩ = some (.slice Br nbr cbr) := (cell_of_row _ _ _ _ _ _ HK41.out).trans rfl
  have hBe := becameA_any (HA.out.next HB4.out).rows.sl (HB.out.next HB4.out).rows.sl HGG.out HFA.out.l HFB.out.l
  unfold BecP at hBe
  rw [HNAR.out] at hBe
  clear hw
  go_wp2_with fail
  refine hBe.mono ?_
  clear hBe y40 y41 y42 y43 f1
  rintro e w5 ⟨⟨T, rfl, hown⟩, hb5⟩
  have HTB : Hid (w4.heap.size ≤ T ∧ T < w5.heap.size) := Lib.hid (hown.lt T rfl)
  have HVM5 := Lib.hid (HVM4.out.next hb5)
  have HOW := Lib.hid hown
  have HB5 := Lib.hid (HB4.out.next hb5)
  have HB45 := Lib.hid hb5
  have HK50 := Lib.hid (blk_next HK40.out hb5)
  have HK51 := Lib.hid (blk_next HK41.out hb5)
  clear hown hb5
  obtain ⟨V, hV⟩ := name_of ((w5.alloc (.map #[] 0)).alloc (.cells #[.map (some w5.heap.size)] 47))
  have hMV : MapO V w5.heap.size a b 0 := by
    rw [← hV]
    exact (World.ownsMap_made w5 _ _ _).alloc _
  have hXV : Boxed V (w5.heap.size + 1) 47 (.map (some w5.heap.size)) := by
    have h := Boxed.new (w5.alloc (.map #[] 0)) 47 (.map (some w5.heap.size))
    rw [hV, World.size_alloc] at h
    exact h
  have hBV : Below w5.heap.size w5 V := by
    rw [← hV]
    exact ((Below.refl _ _).alloc (Nat.le_refl _) _).alloc (by simp) _
  have HMV := Lib.hid hMV
  have HXV := Lib.hid hXV
  have HBV := Lib.hid hBV
  have y51 : V.cell? ⟨w.heap.size, 1, none⟩ = some (.slice As nas cas) := (cell_of_row _ _ _ _ _ _ (blk_next HK50.out hBV)).trans rfl
  have HTR : Hid (∀ r : Int, r < nar → toR a b r = if 0 ≤ r then (toN a b r.toNat : Int) else r) := Lib.hid (fun r _ => rfl)
  have HTI : Hid (∀ r : Nat, r < nar → toN a b r < nbr) := Lib.hid (fun r hr => by
    rw [← HNBR.out]
    exact toN_lt HGG.out (by rw [HNAR.out]; exact hr))
  have HSR : Hid (∀ i, i < nas → (sA a.sc i).r < nar) := Lib.hid (fun i hi => by
    have h := chkS_split HE.out
    have h1 := sc_row h.2.1.1 h.1.pos (i := i) (by rw [HNAS.out]; exact hi)
    rw [HNAR.out] at h1
    exact h1)
  clear hMV hXV hBV
  go_wp2_with fail
  rw [run_makeMap_plain]
  go_wp2_with fail
  clear hV
  go_loopw [62] (fun x wr => ∃ i : Nat, i ≤ nas ∧ x = .int .i64 i ∧ Hid (∀ m, m < i → ltOk a b m) ∧ Hid (MapO wr w5.heap.size a b i) ∧ Hid (Boxed wr (w5.heap.size + 1) 47 (.map (some w5.heap.size))) ∧ Below w5.heap.size w5 wr) (fun x _ => nas - (intOf x).toNat)
  case atStart => exact ⟨0, Nat.zero_le _, rfl, Lib.hid (fun m hm => by omega), HMV, HXV, HBV.out⟩
  case round =>
    clear y51 HMV HXV HBV
    obtain ⟨i, hi, rfl, hno, HM, HX, hB⟩ := hrel
    by_cases hlt : i < nas
    · obtain ⟨g, off, rfl, hg, c0, c1, c2, c3, c4, c5⟩ := HAS.out i (by rw [HNAS.out]; exact hlt)
      have hBw : Below w.heap.size w wr := HB5.out.next hB
      have hxr := HSR.out i hlt
      have hwf := sA_wf HA.out.scf (i := i) (by rw [HNAS.out]; exact hlt)
      have HSN : Hid (ltOk a b i → ∀ m, m < i + 1 → ltOk a b m) := Lib.hid (fun h m hm => by
        by_cases e : m = i
        · rw [e]; exact h
        · exact hno.out m (by omega))
      have HNL : Hid (¬ ltOk a b i → 26 = R) := Lib.hid (fun h => HNO.out (fun hk => h (hk.2.2.1 i (by rw [HNAS.out]; exact hlt))))
      have HLE : Hid (ltN a b i = fnd b.sc (toR a b (sA a.sc i).r) (sA a.sc i).k) := Lib.hid rfl
      have HOD : Hid (oldD a b (i + 1) = (oldD a b i).put (.int .i64 (((ltN a b i).getD 0 : Nat) : Int)) (scDat (sA a.sc i))) := Lib.hid rfl
      have HOK : Hid (∀ j, ltN a b i = some j → (sA b.sc j).n = (sA a.sc i).n → ((sA a.sc i).a = true → (sA b.sc j).a = true) → ((sA a.sc i).c = true → (sA b.sc j).c = true) → ltOk a b i) := Lib.hid (fun j hj h1 h2 h3 => ⟨by rw [hj]; simp, by rw [hj]; exact ⟨h1, h2, h3⟩⟩)
      have HKO : Hid (∀ j, ltN a b i = some j → ltOk a b i → (sA b.sc j).n = (sA a.sc i).n ∧ ((sA a.sc i).a = true → (sA b.sc j).a = true) ∧ ((sA a.sc i).c = true → (sA b.sc j).c = true)) := Lib.hid (fun j hj h => by have h2 := h.2; rw [hj] at h2; exact h2)
      have HKN : Hid (ltN a b i = none → ¬ ltOk a b i) := Lib.hid (fun hn h => h.1 hn)
      obtain ⟨⟨xr, xk, xn, xa, xc, xv⟩, hx⟩ := name_of (sA a.sc i)
      rw [hx] at c0 c1 c2 c3 c4 c5 hxr hwf HLE HOD HOK HKO
      dsimp only at c0 c1 c2 c3 c4 c5 hxr HLE HOK HKO
      have d0 := (hBw.cell (p := ⟨g, _, none⟩) hg).trans c0
      have d1 := (hBw.cell (p := ⟨g, _, none⟩) hg).trans c1
      have d2 := (hBw.cell (p := ⟨g, _, none⟩) hg).trans c2
      have d3 := (hBw.cell (p := ⟨g, _, none⟩) hg).trans c3
      have d4 := (hBw.cell (p := ⟨g, _, none⟩) hg).trans c4
      have d5 := (hBw.cell (p := ⟨g, _, none⟩) hg).trans c5
      have hblk := heap_alloc_last wr (.cells #[.int .i64 xr, .int .i64 xk, .int .i64 xn, .bool xa, .bool xc, .int .i64 xv] 49)
      have hb1 : Below wr.heap.size wr (wr.alloc (.cells #[.int .i64 xr, .int .i64 xk, .int .i64 xn, .bool xa, .bool xc, .int .i64 xv] 49)) := (Below.refl _ _).alloc (Nat.le_refl _) _
      obtain ⟨W1, hW1⟩ := name_of (wr.alloc (.cells #[.int .i64 xr, .int .i64 xk, .int .i64 xn, .bool xa, .bool xc, .int .i64 xv] 49))
      have hl1 : wr.heap.size < W1.heap.size := by rw [← hW1]; simp
      rw [hW1] at hblk hb1
      have x0 : W1.cell? ⟨wr.heap.size, 0, none⟩ = some (.int .i64 xr) := (cell_of_row _ _ _ _ _ _ hblk).trans rfl
      have x1 : W1.cell? ⟨wr.heap.size, 1, none⟩ = some (.int .i64 xk) := (cell_of_row _ _ _ _ _ _ hblk).trans rfl
      have x2 : W1.cell? ⟨wr.heap.size, 2, none⟩ = some (.int .i64 xn) := (cell_of_row _ _ _ _ _ _ hblk).trans rfl
      have x3 : W1.cell? ⟨wr.heap.size, 3, none⟩ = some (.bool xa) := (cell_of_row _ _ _ _ _ _ hblk).trans rfl
      have x4 : W1.cell? ⟨wr.heap.size, 4, none⟩ = some (.bool xc) := (cell_of_row _ _ _ _ _ _ hblk).trans rfl
      have x5 : W1.cell? ⟨wr.heap.size, 5, none⟩ = some (.int .i64 xv) := (cell_of_row _ _ _ _ _ _ hblk).trans rfl
      have HBW1 := Lib.hid (hB.next hb1)
      have HM1 := Lib.hid (HM.out.next hb1)
      have HX1 := Lib.hid (boxNext HX.out hb1)
      have hvm1 := HVM5.out.next HBW1.out
      have q1 := hvm1.vb.c1
      have q3 := hvm1.vb.c3
      have l3 := hvm1.vb.lt
      have hcx := HX1.out.cell
      have hlx := HX1.out.lt
      have hRR : i64R (toR a b xr) := by
        rw [HTR.out xr hxr]
        split
        · have := HTI.out xr.toNat (by omega)
          exact ⟨by omega, by omega⟩
        · exact hwf.r
      have hLook : ∀ N, (Instr.lookup 51 (.map (some bm)) (.agg #[.int .i64 (toR a b xr), .int .i64 xk]) true).run Tryz.prog (W1.drewN N) = .ok (.tuple #[.int .i64 (((ltN a b i).getD 0 : Nat) : Int), .bool (ltN a b i).isSome]) (W1.drewN N) := fun N => by
        have h := ((hvm1.next (below_drewN N)).mp.look HFN.out.sc.1 HB.out.scf hRR hwf.k).2
        rw [← HLE.out] at h
        exact h
      have HVM1 := Lib.hid hvm1
      have HXX := Lib.hid hx
      clear c0 c1 c2 c3 c4 c5 hB hBw hb1 hblk hvm1 hRR hwf hx hno HM HX HLE HSR
      have hrr := HTR.out xr hxr
      obtain ⟨RR, hRe⟩ := name_of (toR a b xr)
      rw [hRe] at hLook hrr
      have HRE := Lib.hid hRe
      clear hRe
      cases hl : ltN a b i with
      | none =>
        rw [hl] at hLook
        simp only [Option.getD_none, Option.isSome_none] at hLook
        have HV := Lib.hid (HNL.out (HKN.out hl))
        clear hl
        go_upto_if 69 with ((with_reducible (show wpList _ _ _ (Oper.mk _ (Op.store _ _ _) _ _ _ _ :: _) _ _)); refine wpList_store_new rfl 49 49 (.tmp 11) (.tmp 65) rfl _ _ wr.heap.size rfl rfl rfl (by kernel_rfl) rfl (by kernel_rfl) ?_)
        go_cut [12] from 68 to 73 (fun s12 wx => s12 = .int .i64 RR ∧ wx = W1)
        case first =>
          by_cases hr0 : 0 ≤ xr
          · have fr : decide (0 ≤ xr) = true := decide_eq_true hr0
            obtain ⟨p, rfl⟩ := Int.eq_ofNat_of_zero_le hr0
            have hpn : p < nar := by omega
            have HQ : Hid (RR = (toN a b p : Int)) := Lib.hid (by rw [hrr, if_pos hr0]; rfl)
            obtain ⟨-, hgl2, hTc, -⟩ := own_at HOW.out (by omega)
            have hTp := hTc p _ (toL_get a.l b.l (by rw [HNAR.out]; exact hpn))
            rw [if_pos hpn, tN_toN] at hTp
            rw [← HQ.out] at hTp
            have t0 := (HBW1.out.cell (p := ⟨T, p, none⟩) hgl2).trans hTp
            clear hr0 hrr hTc hTp hxr
            go_wp2_with fail
            go_meet
            exact ⟨rfl, rfl⟩
          · have fr : decide (0 ≤ xr) = false := decide_eq_false hr0
            have HQ : Hid (RR = xr) := Lib.hid (by rw [hrr, if_neg hr0])
            clear hr0 hxr hrr
            rw [fr]
            go_wp2_with fail
            go_meet
            exact ⟨by rw [HQ.out], rfl⟩
        obtain ⟨rfl, hwc⟩ := hcut
        rw [hwc]
        clear hwc wc hrr hxr
        clear d0 d1 d2 d3 d4 d5 x0 x2 x3 x4 x5
        go_wp2_with fail
        go_quiet (fail)
        go_wp2_with fail
        go_ret
        exact ⟨ret_i HV.out, HB5.out.next (HBW1.out.next (below_drewN _))⟩
      | some j =>
        rw [hl] at hLook HOD
        simp only [Option.getD_some, Option.isSome_some] at hLook HOD
        have hjl : j < nbs := by
          rw [← HNBS.out]
          exact (fnd_some hl).1
        have hOK := HOK.out j hl
        have hKO := HKO.out j hl
        obtain ⟨gb, offb, rfl, hgb, b0, b1, b2, b3, b4, b5⟩ := HBS.out j (by rw [HNBS.out]; exact hjl)
        obtain ⟨⟨yr, yk, yn, ya, yc, yv⟩, hy⟩ := name_of (sA b.sc j)
        rw [hy] at b0 b1 b2 b3 b4 b5 hOK hKO
        dsimp only at b0 b1 b2 b3 b4 b5 hOK hKO
        have hBw1 := HB5.out.next HBW1.out
        have e0 := (hBw1.cell (p := ⟨gb, _, none⟩) hgb).trans b0
        have e1 := (hBw1.cell (p := ⟨gb, _, none⟩) hgb).trans b1
        have e2 := (hBw1.cell (p := ⟨gb, _, none⟩) hgb).trans b2
        have e3 := (hBw1.cell (p := ⟨gb, _, none⟩) hgb).trans b3
        have e4 := (hBw1.cell (p := ⟨gb, _, none⟩) hgb).trans b4
        have e5 := (hBw1.cell (p := ⟨gb, _, none⟩) hgb).trans b5
        have HHO := Lib.hid hOK
        have HHK := Lib.hid hKO
        have HKJ := Lib.hid (key_nat (k := j) (by omega))
        clear b0 b1 b2 b3 b4 b5 hl hOK hKO hy hBw1
        go_upto_if 69 with ((with_reducible (show wpList _ _ _ (Oper.mk _ (Op.store _ _ _) _ _ _ _ :: _) _ _)); refine wpList_store_new rfl 49 49 (.tmp 11) (.tmp 65) rfl _ _ wr.heap.size rfl rfl rfl (by kernel_rfl) rfl (by kernel_rfl) ?_)
        go_cut [12] from 68 to 73 (fun s12 wx => s12 = .int .i64 RR ∧ wx = W1)
        case first =>
          by_cases hr0 : 0 ≤ xr
          · have fr : decide (0 ≤ xr) = true := decide_eq_true hr0
            obtain ⟨p, rfl⟩ := Int.eq_ofNat_of_zero_le hr0
            have hpn : p < nar := by omega
            have HQ : Hid (RR = (toN a b p : Int)) := Lib.hid (by rw [hrr, if_pos hr0]; rfl)
            obtain ⟨-, hgl2, hTc, -⟩ := own_at HOW.out (by omega)
            have hTp := hTc p _ (toL_get a.l b.l (by rw [HNAR.out]; exact hpn))
            rw [if_pos hpn, tN_toN] at hTp
            rw [← HQ.out] at hTp
            have t0 := (HBW1.out.cell (p := ⟨T, p, none⟩) hgl2).trans hTp
            clear hr0 hrr hTc hTp hxr
            go_wp2_with fail
            go_meet
            exact ⟨rfl, rfl⟩
          · have fr : decide (0 ≤ xr) = false := decide_eq_false hr0
            have HQ : Hid (RR = xr) := Lib.hid (by rw [hrr, if_neg hr0])
            clear hr0 hxr hrr
            rw [fr]
            go_wp2_with fail
            go_meet
            exact ⟨by rw [HQ.out], rfl⟩
        obtain ⟨rfl, hwc⟩ := hcut
        rw [hwc]
        clear hwc wc hrr hxr
        clear d0 d1 d2 d3 d4 d5
        go_wp2_with fail
        go_quiet (fail)
        obtain ⟨W2, hW2⟩ := name_of (W1.drewN nq)
        have hb12 : Below W1.heap.size W1 W2 := by rw [← hW2]; exact below_drewN _
        rw [hW2]
        clear hW2
        have hgb1 := Nat.lt_of_lt_of_le hgb (HB5.out.next HBW1.out).size
        have q1b := (hb12.cell (p := ⟨bv, 1, none⟩) l3).trans q1
        have g0 := (hb12.cell (p := ⟨gb, _, none⟩) hgb1).trans e0
        have g1 := (hb12.cell (p := ⟨gb, _, none⟩) hgb1).trans e1
        have g2 := (hb12.cell (p := ⟨gb, _, none⟩) hgb1).trans e2
        have g3 := (hb12.cell (p := ⟨gb, _, none⟩) hgb1).trans e3
        have g4 := (hb12.cell (p := ⟨gb, _, none⟩) hgb1).trans e4
        have g5 := (hb12.cell (p := ⟨gb, _, none⟩) hgb1).trans e5
        have hblk3 := heap_alloc_last W2 (.cells #[.int .i64 yr, .int .i64 yk, .int .i64 yn, .bool ya, .bool yc, .int .i64 yv] 49)
        have hb3 : Below W2.heap.size W2 (W2.alloc (.cells #[.int .i64 yr, .int .i64 yk, .int .i64 yn, .bool ya, .bool yc, .int .i64 yv] 49)) := (Below.refl _ _).alloc (Nat.le_refl _) _
        obtain ⟨W3, hW3⟩ := name_of (W2.alloc (.cells #[.int .i64 yr, .int .i64 yk, .int .i64 yn, .bool ya, .bool yc, .int .i64 yv] 49))
        rw [hW3] at hblk3 hb3
        have hb13 := hb12.next hb3
        have v0 := (hb13.cell (p := ⟨wr.heap.size, _, none⟩) hl1).trans x0
        have v1 := (hb13.cell (p := ⟨wr.heap.size, _, none⟩) hl1).trans x1
        have v2 := (hb13.cell (p := ⟨wr.heap.size, _, none⟩) hl1).trans x2
        have v3 := (hb13.cell (p := ⟨wr.heap.size, _, none⟩) hl1).trans x3
        have v4 := (hb13.cell (p := ⟨wr.heap.size, _, none⟩) hl1).trans x4
        have v5 := (hb13.cell (p := ⟨wr.heap.size, _, none⟩) hl1).trans x5
        have y2 : W3.cell? ⟨W2.heap.size, 2, none⟩ = some (.int .i64 yn) := (cell_of_row _ _ _ _ _ _ hblk3).trans rfl
        have y3 : W3.cell? ⟨W2.heap.size, 3, none⟩ = some (.bool ya) := (cell_of_row _ _ _ _ _ _ hblk3).trans rfl
        have y4 : W3.cell? ⟨W2.heap.size, 4, none⟩ = some (.bool yc) := (cell_of_row _ _ _ _ _ _ hblk3).trans rfl
        have hcx3 := (hb13.cell (p := ⟨w5.heap.size + 1, 0, none⟩) hlx).trans hcx
        have HM3 := Lib.hid (HM1.out.next hb13)
        have HX3 := Lib.hid (boxNext HX1.out hb13)
        have HBW3 := Lib.hid (HBW1.out.next hb13)
        clear hb12 hb3 hb13 hblk3 e0 e1 e2 e3 e4 e5 q1 q3 x0 x1 x2 x3 x4 x5 hcx HM1 HX1 hLook hgb1
        obtain ⟨Z, hZ⟩ := name_of (!(decide (yn = xn)) || (xa && !ya) || (xc && !yc))
        have HZZ := Lib.hid hZ
        clear hZ
        go_upto_region 21 with (first | ((with_reducible (show wpList _ _ _ (Oper.mk _ (Op.store _ _ _) _ _ _ _ :: _) _ _)); refine wpList_store_new rfl 49 49 (.tmp 15) (.tmp 95) rfl _ _ W2.heap.size rfl rfl rfl (by kernel_rfl) rfl (by kernel_rfl) ?_) | fail)
        go_simp
        go_cut [118] from 96 to 118 (fun c wx => c = .bool Z ∧ wx = W3)
        case first =>
          by_cases hn : yn = xn
          · have f2 : (yn != xn) = false := by simpa using hn
            have HN2 := Lib.hid hn
            clear hn
            cases xa <;> cases xc <;> (try cases ya) <;> (try cases yc) <;> (go_wp2_with fail; go_meet; exact ⟨by rw [← HZZ.out, decide_eq_true HN2.out]; rfl, rfl⟩)
          · have f2 : (yn != xn) = true := by simpa using hn
            have HN2 := Lib.hid hn
            clear hn
            go_wp2_with fail
            go_meet
            exact ⟨by rw [← HZZ.out, decide_eq_false HN2.out]; rfl, rfl⟩
        case rest =>
          obtain ⟨rfl, hwc⟩ := hcut
          rw [hwc]
          clear hwc wc
          cases Z with
          | true =>
            have HV : Hid (26 = R) := Lib.hid (HNL.out (fun h => by
              obtain ⟨h1, h2, h3⟩ := HHK.out h
              have hz := HZZ.out
              rw [decide_eq_true h1] at hz
              cases xa with
              | true =>
                rw [h2 rfl] at hz
                cases xc with
                | true => rw [h3 rfl] at hz; cases hz
                | false => cases hz
              | false =>
                cases xc with
                | true => rw [h3 rfl] at hz; cases hz
                | false => cases hz))
            go_wp2_with fail
            go_ret
            exact ⟨ret_i HV.out, HB5.out.next HBW3.out⟩
          | false =>
            have HSS := HSN.out (by
              have hz := HZZ.out
              rw [Bool.or_eq_false_iff, Bool.or_eq_false_iff] at hz
              refine HHO.out (by simpa using hz.1.1) (fun h => ?_) (fun h => ?_)
              · have := hz.1.2
                rw [h] at this
                simpa using this
              · have := hz.2
                rw [h] at this
                simpa using this)
            go_wp2_with (at_mapUpdate; refine wpList_mapUpdate_own _ rfl _ _ _ 47 rfl 3 49 intLaw Tryz.underlying47 scR w5.heap.size i _ rfl HM3.out (by unfold maxLen; omega) _ _ _ rfl rfl HKJ.out _ [] (scR_mk ⟨xr, xk, xn, xa, xc, xv⟩) ?_; intro w6 hown6 hgrow6)
            have hM6 : MapO w6 w5.heap.size a b (i + 1) := by
              unfold MapO
              rw [HOD.out]
              exact hown6
            have hX6 : Boxed w6 (w5.heap.size + 1) 47 (.map (some w5.heap.size)) := (hgrow6.block _ HX3.out.lt (fun e => by injection e with e; omega)).trans HX3.out
            have hB6 : Below w5.heap.size w5 w6 := HBW3.out.grown hgrow6 HBW3.out.size (fun k e => by injection e with e; omega)
            exact ⟨⟨i + 1, by omega, by go_num, Lib.hid HSS, Lib.hid hM6, Lib.hid hX6, hB6⟩, by simp [intOf]; omega⟩
    · obtain rfl : i = nas := by omega
      have HLO : Hid (∀ m, m < a.sc.length → ltOk a b m) := Lib.hid (by rw [HNAS.out]; exact hno.out)
      have HMA : Hid (MapO wr w5.heap.size a b a.sc.length) := Lib.hid (by rw [HNAS.out]; exact HM.out)
      have HLN : Hid (∀ m, m < a.sc.length → ltN a b m ≠ none) := Lib.hid (fun m hm => (HLO.out m hm).1)
      have HBW := Lib.hid hB
      have HVM6 := Lib.hid (HVM5.out.next hB)
      have HX6 := Lib.hid HX.out
      have HK61 := Lib.hid (blk_next HK51.out hB)
      have y61 : wr.cell? ⟨w.heap.size + 1, 1, none⟩ = some (.slice Bs nbs cbs) := (cell_of_row _ _ _ _ _ _ HK61.out).trans rfl
      have hmf : ∀ fn first cap w, (Instr.makeFunc fn first cap).run Tryz.prog w = .ok (.func fn first cap) w := fun _ _ _ _ => rfl
      have HAN : Hid (∀ W' W i, Vm W' bv bm (.slice Br nbr cbr) (.slice Bs nbs cbs) (.slice Bw nbw cbw) b → MapO W' w5.heap.size a b a.sc.length → Boxed W' (w5.heap.size + 1) 47 (.map (some w5.heap.size)) → Below W'.heap.size W' W → i < b.sc.length → Calls Tryz.prog 17 #[.pointer (some ⟨bv, 0, none⟩), .int .i64 i, .func (.func 16) #[] #[.pointer (some ⟨w5.heap.size + 1, 0, none⟩)]] W fun e w' => e = .returned (.bool (inShut a b i)) ∧ Below W.heap.size W w') :=
        Lib.hid (fun W' W i hV hM hX hW hi => any_any (hV.next hW) HFN.out i hi 16 #[.pointer (some ⟨w5.heap.size + 1, 0, none⟩)] (shutN a b) enters_was (fun W2 x hW2 hxl => was_any ((hM.next hW).next hW2) HLN.out (boxNext (boxNext hX hW) hW2) x (by have := HFB.out.sc; omega)))
      have HSM : Hid (∀ k, k < nbs → oldS a b k = none → inShut a b k = true → 26 = R) := Lib.hid (fun k hk h1 h2 => HNO.out (fun h => by have := h.2.2.2.1 k (by rw [HNBS.out]; exact hk) h1; rw [h2] at this; cases this))
      have HSW : Hid (∀ k, k < nbr → wasB a b k = false → inShut a b ((ofN b k).getD 0) = true → 26 = R) := Lib.hid (fun k hk h1 h2 => HNO.out (fun h => by have := h.2.2.2.2 k (by rw [HNBR.out]; exact hk) h1; rw [h2] at this; cases this))
      clear hno HM HX hB HVM5 HK51 HTR HTI HSR
      go_wp2_with fail
      obtain ⟨W6, rfl⟩ : ∃ W6, W6 = wr := ⟨_, rfl⟩
      go_loopw [127] (fun x wr => ∃ k : Nat, k ≤ nbs ∧ x = .int .i64 k ∧ Hid (∀ m, m < k → oldS a b m = none → inShut a b m = false) ∧ Below W6.heap.size W6 wr) (fun x _ => nbs - (intOf x).toNat)
      case atStart => exact ⟨0, Nat.zero_le _, rfl, Lib.hid (fun m hm => by omega), Below.refl _ _⟩
      case round =>
        clear y61
        obtain ⟨k, hk, rfl, hnq, hBq⟩ := hrel
        by_cases hkl : k < nbs
        · have hcx := (boxNext HX6.out hBq).cell
          have hLk := ((HMA.out.next hBq).look HLN.out (k := k) (by omega)).2
          have HAK := Lib.hid (fun W hW => HAN.out W6 W k HVM6.out HMA.out HX6.out hW (by rw [HNBS.out]; exact hkl))
          have HSK := Lib.hid (HSM.out k hkl)
          have HSN : Hid ((oldS a b k = none → inShut a b k = false) → ∀ m, m < k + 1 → oldS a b m = none → inShut a b m = false) := Lib.hid (fun h m hm => by
            by_cases e : m = k
            · rw [e]; exact h
            · exact hnq.out m (by omega))
          obtain ⟨⟨xr, xk, xn, xa, xc, xv⟩, hx⟩ := name_of (oldX a b a.sc.length k)
          rw [hx] at hLk
          unfold scV at hLk
          dsimp only at hLk
          have hb1 : Below wr.heap.size wr (wr.alloc (.cells #[.int .i64 xr, .int .i64 xk, .int .i64 xn, .bool xa, .bool xc, .int .i64 xv] 49)) := (Below.refl _ _).alloc (Nat.le_refl _) _
          have HB1 := Lib.hid (hBq.next hb1)
          cases ho : oldN a b a.sc.length k with
          | some i =>
            rw [ho] at hLk
            simp only [Option.isSome_some] at hLk
            have HS := Lib.hid (HSN.out (fun h => by rw [show oldS a b k = some i from ho] at h; cases h))
            clear hx hb1 hBq ho hnq
            go_wp2_with ((with_reducible (show wpList _ _ _ (Oper.mk _ (Op.store _ _ _) _ _ _ _ :: _) _ _)); refine wpList_store_new rfl 49 49 (.tmp 18) (.tmp 134) rfl _ _ wr.heap.size rfl rfl rfl (by kernel_rfl) rfl (by kernel_rfl) ?_)
            exact ⟨⟨k + 1, by omega, by go_num, HS, HB1.out⟩, by simp [intOf]; omega⟩
          | none =>
            rw [ho] at hLk
            simp only [Option.isSome_none] at hLk
            have hC := HAK.out _ HB1.out
            obtain ⟨Z, hZ⟩ := name_of (inShut a b k)
            rw [hZ] at hC
            have HZ := Lib.hid hZ
            have HO : Hid (oldS a b k = none) := Lib.hid ho
            clear hx hb1 hBq ho hnq hZ
            go_wp2_with ((with_reducible (show wpList _ _ _ (Oper.mk _ (Op.store _ _ _) _ _ _ _ :: _) _ _)); refine wpList_store_new rfl 49 49 (.tmp 18) (.tmp 134) rfl _ _ wr.heap.size rfl rfl rfl (by kernel_rfl) rfl (by kernel_rfl) ?_)
            refine hC.mono ?_
            rintro e w8 ⟨rfl, hb8⟩
            have HB8 := Lib.hid (HB1.out.next hb8)
            clear hC hb8
            cases Z with
            | true =>
              have HV := Lib.hid (HSK.out HO.out HZ.out)
              go_wp2_with fail
              go_ret
              exact ⟨ret_i HV.out, HB5.out.next (HBW.out.next HB8.out)⟩
            | false =>
              have HS := Lib.hid (HSN.out (fun _ => HZ.out))
              go_wp2_with fail
              exact ⟨⟨k + 1, by omega, by go_num, HS, HB8.out⟩, by simp [intOf]; omega⟩
        · obtain rfl : k = nbs := by omega
          have hBq4 := HB45.out.next (HBW.out.next hBq)
          have hlt4 := HTB.out.1
          have hownT : wr.ownsRow w4.heap.size 3 1 (.slice (some ⟨T, 0, none⟩) nar nar) nar (iv (toL a.l b.l nar)) := own_same HOW.out fun g hg => (HBW.out.next hBq).block g (HOW.out.lt g hg).2
          have hSo := sortA_any hownT (by rw [toL_length, HNAR.out]) (by omega)
          have HQ : Hid (∀ m, m < b.sc.length → oldS a b m = none → inShut a b m = false) := Lib.hid (by rw [HNBS.out]; exact hnq.out)
          have HBq := Lib.hid hBq
          have HBq4 := Lib.hid hBq4
          clear hnq hBq hBq4 hownT
          go_wp2_with fail
          refine hSo.mono ?_
          rintro e w7 ⟨rfl, hown7, hgr7⟩
          have HO7 := Lib.hid hown7
          have HB47 : Hid (Below w4.heap.size w4 w7) := Lib.hid (HBq4.out.grown hgr7 HBq4.out.size (fun k e => by injection e with e; omega))
          have HB7 : Hid (Below w.heap.size w w7) := Lib.hid (HB4.out.next HB47.out)
          have HVM7 := Lib.hid (HVM4.out.next HB47.out)
          have hM7 : MapO w7 w5.heap.size a b a.sc.length := by
            have h := HMA.out.next HBq.out
            have hl := World.ownsMap.lt h
            obtain ⟨es, clock, h1, h2⟩ := h
            exact ⟨es, clock, (hgr7.block _ hl (fun e => by injection e with e; have := HTB.out.2; omega)).trans h1, h2⟩
          have hX7 : Boxed w7 (w5.heap.size + 1) 47 (.map (some w5.heap.size)) := (hgr7.block _ (boxNext HX6.out HBq.out).lt (fun e => by injection e with e; have := HTB.out.2; omega)).trans (boxNext HX6.out HBq.out)
          have HM7 := Lib.hid hM7
          have HX7 := Lib.hid hX7
          have hK7 := blk_next HK41.out HB47.out
          have y70 : w7.cell? ⟨w.heap.size + 1, 0, none⟩ = some (.slice Br nbr cbr) := (cell_of_row _ _ _ _ _ _ hK7).trans rfl
          clear hSo hown7 hgr7 hM7 hX7 hK7 hlt4
          go_wp2_with fail
          go_loopw [150] (fun x wr => ∃ i : Nat, i ≤ nbr ∧ x = .int .i64 i ∧ Hid (∀ m, m < i → wasB a b m = false → inShut a b ((ofN b m).getD 0) = false) ∧ Below w7.heap.size w7 wr) (fun x _ => nbr - (intOf x).toNat)
          case atStart => exact ⟨0, Nat.zero_le _, rfl, Lib.hid (fun m hm => by omega), Below.refl _ _⟩
          case round =>
            clear y70
            obtain ⟨i, hi, rfl, hnw, hBi⟩ := hrel
            by_cases hil : i < nbr
            · have hown := own_same HO7.out (W' := wr) fun g hg => hBi.block g (HO7.out.lt g hg).2
              have hSe := searchA_any hown (by rw [toL_length, HNAR.out]) (by omega) (i : Int)
              rw [← HNAR.out, toL_was] at hSe
              rw [HNAR.out] at hSe
              have HSN : Hid ((wasB a b i = false → inShut a b ((ofN b i).getD 0) = false) → ∀ m, m < i + 1 → wasB a b m = false → inShut a b ((ofN b m).getD 0) = false) := Lib.hid (fun h m hm => by
                by_cases e : m = i
                · rw [e]; exact h
                · exact hnw.out m (by omega))
              have HSK := Lib.hid (HSW.out i hil)
              have HOF := Lib.hid (fun W (hW : Below w7.heap.size w7 W) => of_any (HVM7.out.next hW) HFN.out.sc.1 HFB.out i (by rw [HNBR.out]; exact hil))
              obtain ⟨q, hq, hql⟩ := ofN_lt HFN.out.sc (i := i) (by rw [HNBR.out]; exact hil)
              have HAQ := Lib.hid (fun W (hW : Below w7.heap.size w7 W) => HAN.out w7 W q HVM7.out HM7.out HX7.out hW hql)
              rw [hq] at HSK HSN HOF
              simp only [Option.getD_some] at HSK HSN HOF
              have HBi := Lib.hid hBi
              clear hown hnw hBi hq hql
              obtain ⟨Y, hY⟩ := name_of (wasB a b i)
              rw [hY] at hSe HSK HSN
              clear hY
              go_wp2_with fail
              refine hSe.mono ?_
              rintro e w8 ⟨⟨z, rfl⟩, hb8⟩
              have HB8 := Lib.hid (HBi.out.next hb8)
              clear hSe hb8
              cases Y with
              | true =>
                have HS := Lib.hid (HSN.out (fun h => by cases h))
                go_wp2_with fail
                exact ⟨⟨i + 1, by omega, by go_num, HS, HB8.out⟩, by simp [intOf]; omega⟩
              | false =>
                have hO := HOF.out _ HB8.out
                go_wp2_with fail
                refine hO.mono ?_
                rintro e w9 ⟨rfl, hb9⟩
                have HB9 := Lib.hid (HB8.out.next hb9)
                clear hO hb9
                have hC := HAQ.out _ HB9.out
                obtain ⟨Z, hZ⟩ := name_of (inShut a b q)
                rw [hZ] at hC
                have HZ := Lib.hid hZ
                clear hZ
                go_wp2_with fail
                refine hC.mono ?_
                rintro e wa ⟨rfl, hba⟩
                have HBa := Lib.hid (HB9.out.next hba)
                clear hC hba
                cases Z with
                | true =>
                  have HV := Lib.hid (HSK.out trivial HZ.out)
                  go_wp2_with fail
                  go_ret
                  exact ⟨ret_i HV.out, HB7.out.next HBa.out⟩
                | false =>
                  have HS := Lib.hid (HSN.out (fun _ => HZ.out))
                  go_wp2_with fail
                  exact ⟨⟨i + 1, by omega, by go_num, HS, HBa.out⟩, by simp [intOf]; omega⟩
            · obtain rfl : i = nbr := by omega
              have HV : Hid (0 = R) := Lib.hid (by rw [← HR.out]; exact (nxt_ok HE.out HF.out ⟨HGG.out, HWW.out, HLO.out, HQ.out, by rw [HNBR.out]; exact hnw.out⟩).symm)
              clear hnw
              go_wp2_with fail
              go_ret
              exact ⟨ret_i HV.out, HB7.out.next hBi⟩
end P20
end Go.Proofs.YtajbchecjbddgaaGreatDoor
