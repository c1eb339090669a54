/- Audit: (view).closed. -/
import Derived.Test.YtajbchecjbddgaaGreatDoorUg
import Derived.Laws.EntriesVeiled
namespace Go.Proofs.YtajbchecjbddgaaGreatDoor
open Go.RowKit
namespace P20
open P7

theorem busy_iff {s : Sh} {i : Nat} : busyB s i = true ↔ ∃ j, rowIn s i j ∧ (sA s.sc j).c = true := by
  unfold busyB rowIn
  rw [List.any_eq_true]
theorem busy_no {s : Sh} (hn : scOk s) (hu : ∀ j, j < s.l.length → (at_ s.l j).p < j) (hc : clOk s) {i : Nat} (hi : i < s.l.length) (hb : busyB s i = true) : 2 ≤ (at_ s.l i).k ∧ (i : Int) ∉ allS s.ws ∧ (i : Int) ∉ allD s.ws := by
  obtain ⟨j, h1, h2⟩ := busy_iff.1 hb
  obtain ⟨k, hk, hkl⟩ := ofN_lt hn hi
  have hj : j < s.sc.length := by
    have h3 := h1
    unfold rowIn at h3
    rw [hk] at h3
    have := ch_lt hn hu k hkl j h3
    omega
  exact (hc j hj h2).2 i hi h1
theorem clOk_of {s : Sh} (hA : ∀ j, j < s.sc.length → (sA s.sc j).c = true → (sA s.sc j).v = 0) (hB : ∀ i, i < s.l.length → (at_ s.l i).k < 2 → busyB s i = false) (hC : ∀ i : Nat, (i : Int) ∈ allS s.ws ∨ (i : Int) ∈ allD s.ws → busyB s i = false) : clOk s := by
  intro j hj hc
  refine ⟨hA j hj hc, fun i hi hin => ?_⟩
  have hb : busyB s i = true := busy_iff.2 ⟨j, hin, hc⟩
  refine ⟨?_, fun h => ?_, fun h => ?_⟩
  · rcases Int.lt_or_le (at_ s.l i).k 2 with h | h
    · rw [hB i hi h] at hb; cases hb
    · exact h
  · rw [hC i (.inl h)] at hb; cases hb
  · rw [hC i (.inr h)] at hb; cases hb
theorem sel_mem {s : Sh} {j q : Nat} (hj : j < s.ws.length) {y : Int} (h : y ∈ selL (wA s.ws j) q) : y ∈ allS s.ws ∨ y ∈ allD s.ws := by
  unfold selL at h
  split at h
  · exact .inl (in_S hj h)
  · exact .inr (in_D hj h)
theorem sel_all {s : Sh} {P : Int → Prop} (h : ∀ j, j < s.ws.length → ∀ q, q < 2 → ∀ y ∈ selL (wA s.ws j) q, P y) : ∀ y, y ∈ allS s.ws ∨ y ∈ allD s.ws → P y := by
  rintro y (hy | hy)
  · obtain ⟨x, hx, hy⟩ := mem_allS.1 hy
    obtain ⟨j, hj, e⟩ := List.getElem_of_mem hx
    refine h j hj 0 (by omega) y ?_
    unfold selL
    rw [if_pos rfl, wA_eq hj, e]
    exact hy
  · obtain ⟨x, hx, hy⟩ := mem_allD.1 hy
    obtain ⟨j, hj, e⟩ := List.getElem_of_mem hx
    refine h j hj 1 (by omega) y ?_
    unfold selL
    rw [if_neg (by omega), wA_eq hj, e]
    exact hy
theorem getD_mem {x : List Int} {p : Nat} (h : p < x.length) : x.getD p 0 ∈ x := by
  rw [List.getD_eq_getElem?_getD, List.getElem?_eq_getElem h]
  exact List.getElem_mem h
theorem all_getD {x : List Int} {P : Int → Prop} (h : ∀ p, p < x.length → P (x.getD p 0)) : ∀ y ∈ x, P y := fun y hy => by
  obtain ⟨p, hp, e⟩ := List.getElem_of_mem hy
  have := h p hp
  rw [List.getD_eq_getElem?_getD, List.getElem?_eq_getElem hp] at this
  rw [← e]
  exact this
set_option maxRecDepth 100000 in
set_option maxHeartbeats 8000000 in
theorem closed_any {w : World} {bv bm : Nat} {vr vs vw : Value} {s : Sh} (hV : Vm w bv bm vr vs vw s) (hf : Fine s) (hnum : numOk s) (R : Int) (h1 : clOk s → R = 0) (h2 : ¬ clOk s → R = 26) :
    Calls Tryz.prog 32 #[.pointer (some ⟨bv, 0, none⟩)] w fun e w' => e = .returned (.int .i64 R) ∧ Below w.heap.size w w' := by
  have H1 := Lib.hid h1
  have H2 := Lib.hid h2
  have HV := Lib.hid hV
  have HF := Lib.hid hf
  have HNUM := Lib.hid hnum
  obtain ⟨Ar, cr, hvr, hncr, hAr⟩ := rows_open hV.sh.rows.sl
  obtain ⟨A, c, hvs, hnc, hA⟩ := scs_open hV.sh.scs
  obtain ⟨Aw, cw, hvw, hncw, hAw⟩ := hV.sh.wks.open_
  have HA := Lib.hid hA
  have HAR := Lib.hid hAr
  have HAW := Lib.hid hAw
  have hvb := hV.vb
  rw [hvr, hvs, hvw] at hvb
  have h60 := hf.few.sc
  have hl40 := hf.few.l
  have hw20 := hf.few.ws
  obtain ⟨n, hn⟩ := name_of s.sc.length
  obtain ⟨nr, hnr⟩ := name_of s.l.length
  obtain ⟨nw, hnw⟩ := name_of s.ws.length
  have HN := Lib.hid hn
  have HNR := Lib.hid hnr
  have HNW := Lib.hid hnw
  rw [hn] at hnc hvb h60
  rw [hnr] at hncr hl40 hvb
  rw [hnw] at hncw hw20 hvb
  have hb2 : Below w.heap.size w ((w.alloc (.cells #[.pointer (some ⟨bv, 0, none⟩)] 42)).alloc (.cells #[.func (.func 53) #[] #[.pointer (some ⟨w.heap.size, 0, none⟩)]] 56)) := by go_grown
  have bx := (Boxed.new w 42 (.pointer (some ⟨bv, 0, none⟩))).alloc (.cells #[.func (.func 53) #[] #[.pointer (some ⟨w.heap.size, 0, none⟩)]] 56)
  have by_ := Boxed.new (w.alloc (.cells #[.pointer (some ⟨bv, 0, none⟩)] 42)) 56 (.func (.func 53) #[] #[.pointer (some ⟨w.heap.size, 0, none⟩)])
  rw [World.size_alloc] at by_
  have hvb2 := VwB.next hvb hb2
  have HBZ : Hid (∀ W i, Below (((w.alloc (.cells #[.pointer (some ⟨bv, 0, none⟩)] 42)).alloc (.cells #[.func (.func 53) #[] #[.pointer (some ⟨w.heap.size, 0, none⟩)]] 56))).heap.size (((w.alloc (.cells #[.pointer (some ⟨bv, 0, none⟩)] 42)).alloc (.cells #[.func (.func 53) #[] #[.pointer (some ⟨w.heap.size, 0, none⟩)]] 56))) W → i < nr → Calls Tryz.prog 54 #[.int .i64 i, .pointer (some ⟨w.heap.size, 0, none⟩), .pointer (some ⟨w.heap.size + 1, 0, none⟩)] W fun e w' => e = .returned (.bool (busyB s i)) ∧ Below W.heap.size W w') :=
    Lib.hid (fun W i hW hi => busy_any ((hV.next hb2).next hW) (boxNext bx hW) (boxNext by_ hW) hf i (by rw [hnr]; exact hi))
  have hmf : ∀ fn first cap w, (Instr.makeFunc fn first cap).run Tryz.prog w = .ok (.func fn first cap) w := fun _ _ _ _ => rfl
  have HB2 := Lib.hid hb2
  have cx := bx.cell
  have hsz2 : w.heap.size < (((w.alloc (.cells #[.pointer (some ⟨bv, 0, none⟩)] 42)).alloc (.cells #[.func (.func 53) #[] #[.pointer (some ⟨w.heap.size, 0, none⟩)]] 56))).heap.size := by simp; omega
  have HVB := Lib.hid hvb2
  have HCX := Lib.hid cx
  have q1 := HVB.out.c1
  have HFW := Lib.hid hf.few
  have HBN : Hid (∀ i, i < nr → busyB s i = true → clOk s → 2 ≤ (at_ s.l i).k ∧ (i : Int) ∉ allS s.ws ∧ (i : Int) ∉ allD s.ws) := Lib.hid (fun i hi hb hc => busy_no hf.sc hf.up hc (by rw [hnr]; exact hi) hb)
  have HNL : Hid (∀ j, j < nw → ∀ q, q < 2 → numL (selL (wA s.ws j) q) s.l.length) := Lib.hid (fun j hj q hq => sel_num.1 (numW.1 hnum.2 j (by rw [hnw]; exact hj)) q hq)
  clear hA hAr hAw hV hf hvr hvs hvw hvb hn hnr hnw hnum h1 h2 hb2 bx by_ hvb2
  go_enter Tryz.func32, Tryz.ntmps32
  go_wp2_with fail
  obtain ⟨W2, hW2⟩ := name_of (((w.alloc (.cells #[.pointer (some ⟨bv, 0, none⟩)] 42)).alloc (.cells #[.func (.func 53) #[] #[.pointer (some ⟨w.heap.size, 0, none⟩)]] 56)))
  rw [hW2] at HVB HBZ HB2 HCX hsz2 ⊢
  clear hW2 cx q1
  go_loopw [23] (fun x wr => ∃ j : Nat, j ≤ n ∧ x = .int .i64 j ∧ Hid (∀ m, m < j → (sA s.sc m).c = true → (sA s.sc m).v = 0) ∧ Below W2.heap.size W2 wr) (fun x _ => n - (intOf x).toNat)
  case atStart => exact ⟨0, Nat.zero_le _, rfl, Lib.hid (fun m hm => by omega), Below.refl _ _⟩
  case round =>
    obtain ⟨j, hj, rfl, hno, hB⟩ := hrel
    have hBw : Below w.heap.size w wr := HB2.out.next hB
    by_cases hlt : j < n
    · obtain ⟨g, off, rfl, hg, c0, c1, c2, c3, c4, c5⟩ := HA.out j (by rw [HN.out]; exact hlt)
      have HBAD : Hid ((sA s.sc j).c = true → (sA s.sc j).v ≠ 0 → 26 = R) := Lib.hid (fun h1 h2 => (H2.out (fun hc => h2 (hc j (by rw [HN.out]; exact hlt) h1).1)).symm)
      have HSN : Hid (((sA s.sc j).c = true → (sA s.sc j).v = 0) → ∀ m, m < j + 1 → (sA s.sc m).c = true → (sA s.sc m).v = 0) := Lib.hid (fun h m hm => by
        by_cases e : m = j
        · rw [e]; exact h
        · exact hno.out m (by omega))
      obtain ⟨⟨xr, xk, xn, xa, xc, xv⟩, hx⟩ := name_of (sA s.sc j)
      rw [hx] at c0 c1 c2 c3 c4 c5 HBAD HSN
      dsimp only at c0 c1 c2 c3 c4 c5 HBAD HSN
      have d0 := (hBw.cell (p := ⟨g, _, none⟩) hg).trans c0
      have d1 := (hBw.cell (p := ⟨g, _, none⟩) hg).trans c1
      have d2 := (hBw.cell (p := ⟨g, _, none⟩) hg).trans c2
      have d3 := (hBw.cell (p := ⟨g, _, none⟩) hg).trans c3
      have d4 := (hBw.cell (p := ⟨g, _, none⟩) hg).trans c4
      have d5 := (hBw.cell (p := ⟨g, _, none⟩) hg).trans c5
      have hb1 : Below wr.heap.size wr (wr.alloc (.cells #[.int .i64 xr, .int .i64 xk, .int .i64 xn, .bool xa, .bool xc, .int .i64 xv] 49)) := (Below.refl _ _).alloc (Nat.le_refl _) _
      have HB1 := Lib.hid (hB.next hb1)
      clear c0 c1 c2 c3 c4 c5 hx hb1 hB hBw hno
      cases xc with
      | false =>
        have HR := Lib.hid (HSN.out (fun h => by cases h))
        go_wp2_with ((with_reducible (show wpList _ _ _ (Oper.mk _ (Op.store _ _ _) _ _ _ _ :: _) _ _)); refine wpList_store_new rfl 49 49 (.tmp 6) (.tmp 26) rfl _ _ wr.heap.size rfl rfl rfl (by kernel_rfl) rfl (by kernel_rfl) ?_)
        exact ⟨⟨j + 1, by omega, by go_num, HR, HB1.out⟩, by simp [intOf]; omega⟩
      | true =>
        by_cases hv : xv = 0
        · have f1 : (xv != 0) = false := by simpa using hv
          have HR := Lib.hid (HSN.out (fun _ => hv))
          clear hv
          go_wp2_with ((with_reducible (show wpList _ _ _ (Oper.mk _ (Op.store _ _ _) _ _ _ _ :: _) _ _)); refine wpList_store_new rfl 49 49 (.tmp 6) (.tmp 26) rfl _ _ wr.heap.size rfl rfl rfl (by kernel_rfl) rfl (by kernel_rfl) ?_)
          exact ⟨⟨j + 1, by omega, by go_num, HR, HB1.out⟩, by simp [intOf]; omega⟩
        · have f1 : (xv != 0) = true := by simpa using hv
          have HR := Lib.hid (HBAD.out rfl hv)
          clear hv
          go_wp2_with ((with_reducible (show wpList _ _ _ (Oper.mk _ (Op.store _ _ _) _ _ _ _ :: _) _ _)); refine wpList_store_new rfl 49 49 (.tmp 6) (.tmp 26) rfl _ _ wr.heap.size rfl rfl rfl (by kernel_rfl) rfl (by kernel_rfl) ?_)
          go_ret
          exact ⟨ret_i HR.out, HB2.out.next HB1.out⟩
    · obtain rfl : j = n := by omega
      have HFA : Hid (∀ m, m < s.sc.length → (sA s.sc m).c = true → (sA s.sc m).v = 0) := Lib.hid (by rw [HN.out]; exact hno.out)
      have cx := (hB.cell (p := ⟨w.heap.size, 0, none⟩) hsz2).trans HCX.out
      have q0 := (HVB.out.next hB).c0
      clear hno hBw
      go_wp2_with fail
      go_loopw [41] (fun x wr => ∃ i : Nat, i ≤ nr ∧ x = .int .i64 i ∧ Hid (∀ m, m < i → (at_ s.l m).k < 2 → busyB s m = false) ∧ Below W2.heap.size W2 wr) (fun x _ => nr - (intOf x).toNat)
      case atStart => exact ⟨0, Nat.zero_le _, rfl, Lib.hid (fun m hm => by omega), hB⟩
      case round =>
        clear cx q0 hB
        obtain ⟨i, hi, rfl, hno, hB⟩ := hrel
        have hBw : Below w.heap.size w wr := HB2.out.next hB
        by_cases hlt2 : i < nr
        · obtain ⟨g, off, rfl, hg, c0, c1, c2, c3, c4, c5, c6⟩ := HAR.out i (by rw [HNR.out]; exact hlt2)
          have HBAD : Hid ((at_ s.l i).k < 2 → busyB s i = true → 26 = R) := Lib.hid (fun h1 h2 => (H2.out (fun hc => by have := (HBN.out i hlt2 h2 hc).1; omega)).symm)
          have HSN : Hid (((at_ s.l i).k < 2 → busyB s i = false) → ∀ m, m < i + 1 → (at_ s.l m).k < 2 → busyB s m = false) := Lib.hid (fun h m hm => by
            by_cases e : m = i
            · rw [e]; exact h
            · exact hno.out m (by omega))
          obtain ⟨⟨rp, ri, rf, rk, rv, rs, rc⟩, hr⟩ := name_of (at_ s.l i)
          rw [hr] at c0 c1 c2 c3 c4 c5 c6 HBAD HSN
          dsimp only at c0 c1 c2 c3 c4 c5 c6 HBAD HSN
          have d0 := (hBw.cell (p := ⟨g, _, none⟩) hg).trans c0
          have d1 := (hBw.cell (p := ⟨g, _, none⟩) hg).trans c1
          have d2 := (hBw.cell (p := ⟨g, _, none⟩) hg).trans c2
          have d3 := (hBw.cell (p := ⟨g, _, none⟩) hg).trans c3
          have d4 := (hBw.cell (p := ⟨g, _, none⟩) hg).trans c4
          have d5 := (hBw.cell (p := ⟨g, _, none⟩) hg).trans c5
          have d6 := (hBw.cell (p := ⟨g, _, none⟩) hg).trans c6
          have hb1 : Below wr.heap.size wr (wr.alloc (.cells #[.int .i64 rp, .int .i64 ri, .int .i64 rf, .int .i64 rk, .int .i64 rv, .int .i64 rs, .string rc] 69)) := (Below.refl _ _).alloc (Nat.le_refl _) _
          have hC := HBZ.out _ i (hB.next hb1) hlt2
          have HB1 := Lib.hid (hB.next hb1)
          obtain ⟨T, hT⟩ := name_of (busyB s i)
          rw [hT] at hC HBAD HSN
          clear c0 c1 c2 c3 c4 c5 c6 hr hb1 hB hBw hno hT
          by_cases hk : rk < 2
          · have f1 : decide (rk < 2) = true := decide_eq_true hk
            have HK := Lib.hid hk
            clear hk
            go_wp2_with ((with_reducible (show wpList _ _ _ (Oper.mk _ (Op.store _ _ _) _ _ _ _ :: _) _ _)); refine wpList_store_new rfl 69 69 (.tmp 8) (.tmp 45) rfl _ _ wr.heap.size rfl rfl rfl (by kernel_rfl) rfl rfl ?_)
            refine hC.mono ?_
            rintro e w3 ⟨rfl, hb3⟩
            have HB3 := Lib.hid (HB1.out.next hb3)
            clear hb3 hC
            cases T with
            | true =>
              have HR := Lib.hid (HBAD.out HK.out rfl)
              go_wp2_with fail
              go_ret
              exact ⟨ret_i HR.out, HB2.out.next HB3.out⟩
            | false =>
              have HR := Lib.hid (HSN.out (fun _ => rfl))
              go_wp2_with fail
              exact ⟨⟨i + 1, by omega, by go_num, HR, HB3.out⟩, by simp [intOf]; omega⟩
          · have f1 : decide (rk < 2) = false := decide_eq_false hk
            have HR := Lib.hid (HSN.out (fun h => absurd h hk))
            clear hk hC
            go_wp2_with ((with_reducible (show wpList _ _ _ (Oper.mk _ (Op.store _ _ _) _ _ _ _ :: _) _ _)); refine wpList_store_new rfl 69 69 (.tmp 8) (.tmp 45) rfl _ _ wr.heap.size rfl rfl rfl (by kernel_rfl) rfl rfl ?_)
            exact ⟨⟨i + 1, by omega, by go_num, HR, HB1.out⟩, by simp [intOf]; omega⟩
        · obtain rfl : nr = i := by omega
          have HFB : Hid (∀ m, m < s.l.length → (at_ s.l m).k < 2 → busyB s m = false) := Lib.hid (by rw [HNR.out]; exact hno.out)
          have cx := (hB.cell (p := ⟨w.heap.size, 0, none⟩) hsz2).trans HCX.out
          have q2 := (HVB.out.next hB).c2
          clear hno hBw
          go_wp2_with fail
          go_loopw [61] (fun x wr => ∃ j : Nat, j ≤ nw ∧ x = .int .i64 j ∧ Hid (∀ m, m < j → ∀ q, q < 2 → ∀ y ∈ selL (wA s.ws m) q, busyB s y.toNat = false) ∧ Below W2.heap.size W2 wr) (fun x _ => nw - (intOf x).toNat)
          case atStart => exact ⟨0, Nat.zero_le _, rfl, Lib.hid (fun m hm => by omega), hB⟩
          case round =>
            clear cx q2 hB
            obtain ⟨j, hj, rfl, hno, hB⟩ := hrel
            have hBw : Below w.heap.size w wr := HB2.out.next hB
            by_cases hlt : j < nw
            · obtain ⟨gw, offw, sv, dv, rfl, hgw, d0, d1, d2, d3, hs, hd⟩ := HAW.out j (by rw [HNW.out]; exact hlt)
              have e0 := (hBw.cell (p := ⟨gw, _, none⟩) hgw).trans d0
              have e1 := (hBw.cell (p := ⟨gw, _, none⟩) hgw).trans d1
              have e2 := (hBw.cell (p := ⟨gw, _, none⟩) hgw).trans d2
              have e3 := (hBw.cell (p := ⟨gw, _, none⟩) hgw).trans d3
              have hst := HFW.out.st j (by rw [HNW.out]; exact hlt)
              have hdq := HFW.out.dq j (by rw [HNW.out]; exact hlt)
              have hsB := hs.below hBw
              have hdB := hd.below hBw
              obtain ⟨on, hon⟩ := name_of (wA s.ws j).on
              obtain ⟨pk, hpk⟩ := name_of (wA s.ws j).pk
              rw [hon] at e0
              rw [hpk] at e1
              obtain ⟨As, cs, rfl, -⟩ := ints_open hs
              obtain ⟨Ad, cd, rfl, -⟩ := ints_open hd
              obtain ⟨ns, hns⟩ := name_of (wA s.ws j).st.length
              obtain ⟨nd, hnd⟩ := name_of (wA s.ws j).dq.length
              rw [hns] at e2 hst hsB
              rw [hnd] at e3 hdq hdB
              have HSB := Lib.hid hsB
              have HDB := Lib.hid hdB
              have HNS := Lib.hid hns
              have HND := Lib.hid hnd
              clear d0 d1 d2 d3 hs hd hon hpk hsB hdB hns hnd
              go_wp2_with ((with_reducible (show wpList _ _ _ (Oper.mk _ (Op.store _ _ _) _ _ _ _ :: _) _ _)); refine wpList_store_new rfl 38 38 (.tmp 10) (.tmp 64) rfl _ _ wr.heap.size rfl rfl rfl (by kernel_rfl) rfl (by kernel_rfl) ?_)
              have hb2 : Below wr.heap.size wr ((wr.alloc (.cells #[.bool on, .bool pk, .slice As ns cs, .slice Ad nd cd] 38)).alloc (.cells #[.slice As ns cs, .slice Ad nd cd] 36)) := ((Below.refl _ _).alloc (Nat.le_refl _) _).alloc (by simp) _
              have hkeep : Below w.heap.size wr ((wr.alloc (.cells #[.bool on, .bool pk, .slice As ns cs, .slice Ad nd cd] 38)).alloc (.cells #[.slice As ns cs, .slice Ad nd cd] 36)) := hb2.mono hBw.size
              have hblk := heap_alloc_last (wr.alloc (.cells #[.bool on, .bool pk, .slice As ns cs, .slice Ad nd cd] 38)) (.cells #[.slice As ns cs, .slice Ad nd cd] 36)
              rw [World.size_alloc] at hblk
              have hsel : ∀ m, m < 2 → ∃ Am nm cm, (((wr.alloc (.cells #[.bool on, .bool pk, .slice As ns cs, .slice Ad nd cd] 38)).alloc (.cells #[.slice As ns cs, .slice Ad nd cd] 36))).cell? ⟨wr.heap.size + 1, m, none⟩ = some (.slice Am nm cm) ∧ Sl (((wr.alloc (.cells #[.bool on, .bool pk, .slice As ns cs, .slice Ad nd cd] 38)).alloc (.cells #[.slice As ns cs, .slice Ad nd cd] 36))) w.heap.size 1 (.slice Am nm cm) (iv (selL (wA s.ws j) m)) ∧ (selL (wA s.ws j) m).length = nm ∧ nm ≤ 60 := fun m hm => by
                by_cases e : m = 0
                · subst e
                  exact ⟨As, ns, cs, by rw [cell_of_row _ _ _ _ _ _ hblk]; rfl, HSB.out.below hkeep, HNS.out, hst⟩
                · obtain rfl : m = 1 := by omega
                  exact ⟨Ad, nd, cd, by rw [cell_of_row _ _ _ _ _ _ hblk]; rfl, HDB.out.below hkeep, HND.out, hdq⟩
              have hls : wr.heap.size + 1 < ((wr.alloc (.cells #[.bool on, .bool pk, .slice As ns cs, .slice Ad nd cd] 38)).alloc (.cells #[.slice As ns cs, .slice Ad nd cd] 36)).heap.size := by simp
              have hws : w.heap.size ≤ ((wr.alloc (.cells #[.bool on, .bool pk, .slice As ns cs, .slice Ad nd cd] 38)).alloc (.cells #[.slice As ns cs, .slice Ad nd cd] 36)).heap.size := Nat.le_trans hBw.size hb2.size
              have HSEL := Lib.hid hsel
              have HBV := Lib.hid (hB.next hb2)
              obtain ⟨V, hV⟩ := name_of ((wr.alloc (.cells #[.bool on, .bool pk, .slice As ns cs, .slice Ad nd cd] 38)).alloc (.cells #[.slice As ns cs, .slice Ad nd cd] 36))
              obtain ⟨H, hH⟩ := name_of (wr.heap.size + 1)
              rw [hV] at HSEL HBV hls hws ⊢
              rw [hH] at HSEL hls ⊢
              have HLS := Lib.hid hls
              have HWS := Lib.hid hws
              clear hV hH hb2 hkeep hblk hsel hls hws e0 e1 e2 e3 hst hdq HSB HDB HNS HND hB hBw
              go_loopw [71] (fun x wr => ∃ q : Nat, q ≤ 2 ∧ x = .int .i64 q ∧ Hid (∀ m, m < q → ∀ y ∈ selL (wA s.ws j) m, busyB s y.toNat = false) ∧ Below V.heap.size V wr) (fun x _ => 2 - (intOf x).toNat)
              case atStart => exact ⟨0, Nat.zero_le _, rfl, Lib.hid (fun m hm => by omega), Below.refl _ _⟩
              case round =>
                obtain ⟨q, hq, rfl, hnq, hB⟩ := hrel
                by_cases hq2 : q < 2
                · obtain ⟨Am, nm, cm, hcm0, hSm, hnm, hm60⟩ := HSEL.out q hq2
                  have hcm := (hB.cell (p := ⟨H, _, none⟩) HLS.out).trans hcm0
                  obtain ⟨A', c', hAe, -, hAm⟩ := ints_open hSm
                  rw [hnm] at hAe hAm
                  injection hAe with ea _ ec
                  subst ea ec
                  have HAM := Lib.hid hAm
                  have HNM := Lib.hid hnm
                  have hqI : (q : Int) < 2 := by omega
                  clear hSm hAm hnm hcm0
                  go_wp2_with fail
                  go_loopw [77] (fun x wr => ∃ p : Nat, p ≤ nm ∧ x = .int .i64 p ∧ Hid (∀ m, m < p → busyB s ((selL (wA s.ws j) q).getD m 0).toNat = false) ∧ Below V.heap.size V wr) (fun x _ => nm - (intOf x).toNat)
                  case atStart => exact ⟨0, Nat.zero_le _, rfl, Lib.hid (fun m hm => by omega), hB⟩
                  case round =>
                    clear hcm hB
                    obtain ⟨p, hp, rfl, hnp, hB⟩ := hrel
                    by_cases hpl : p < nm
                    · obtain ⟨b', off, rfl, hb', c00⟩ := HAM.out p hpl
                      have c0 := (hB.cell (p := ⟨b', _, none⟩) (Nat.lt_of_lt_of_le hb' HWS.out)).trans c00
                      have hyb := numL_all.1 (HNL.out j hlt q hq2) p (by rw [HNM.out]; exact hpl)
                      have hmem : (selL (wA s.ws j) q).getD p 0 ∈ selL (wA s.ws j) q := getD_mem (by rw [HNM.out]; exact hpl)
                      have hall := sel_mem (s := s) (j := j) (by rw [HNW.out]; exact hlt) hmem
                      have HSN : Hid (busyB s ((selL (wA s.ws j) q).getD p 0).toNat = false → ∀ m, m < p + 1 → busyB s ((selL (wA s.ws j) q).getD m 0).toNat = false) := Lib.hid (fun h m hm => by
                        by_cases e : m = p
                        · rw [e]; exact h
                        · exact hnp.out m (by omega))
                      obtain ⟨y, hy⟩ := name_of ((selL (wA s.ws j) q).getD p 0)
                      rw [hy] at c0 hyb hall HSN
                      obtain ⟨yi, hyi⟩ := Int.eq_ofNat_of_zero_le hyb.1
                      subst hyi
                      rw [Int.toNat_natCast] at HSN
                      have hyl : yi < nr := by have := hyb.2; rw [HNR.out] at this; omega
                      have HBAD : Hid (busyB s yi = true → 26 = R) := Lib.hid (fun h2 => (H2.out (fun hc => by
                        have h3 := (HBN.out yi hyl h2 hc).2
                        rcases hall with h | h
                        · exact h3.1 h
                        · exact h3.2 h)).symm)
                      have hC := HBZ.out _ yi (HBV.out.next hB) hyl
                      obtain ⟨T, hT⟩ := name_of (busyB s yi)
                      rw [hT] at hC HBAD HSN
                      have HB1 := Lib.hid hB
                      clear c00 hyb hmem hall hy hB hyl hT hnp
                      go_wp2_with fail
                      refine hC.mono ?_
                      rintro e w3 ⟨rfl, hb3⟩
                      have HB3 := Lib.hid (HB1.out.next hb3)
                      clear hb3 hC
                      cases T with
                      | true =>
                        have HR := Lib.hid (HBAD.out rfl)
                        go_wp2_with fail
                        go_ret
                        exact ⟨ret_i HR.out, HB2.out.next (HBV.out.next HB3.out)⟩
                      | false =>
                        have HR := Lib.hid (HSN.out rfl)
                        go_wp2_with fail
                        exact ⟨⟨p + 1, by omega, by go_num, HR, HB3.out⟩, by simp [intOf]; omega⟩
                    · obtain rfl : p = nm := by omega
                      have HR : Hid (∀ m, m < q + 1 → ∀ y ∈ selL (wA s.ws j) m, busyB s y.toNat = false) := Lib.hid fun m hm => by
                        by_cases e : m = q
                        · rw [e]; exact all_getD (P := fun y => busyB s y.toNat = false) (by rw [HNM.out]; exact hnp.out)
                        · exact hnq.out m (by omega)
                      go_wp2_with fail
                      exact ⟨⟨q + 1, by omega, by go_num, HR, hB⟩, by simp [intOf]; omega⟩
                · obtain rfl : q = 2 := by omega
                  have HR : Hid (∀ m, m < j + 1 → ∀ q, q < 2 → ∀ y ∈ selL (wA s.ws m) q, busyB s y.toNat = false) := Lib.hid fun m hm => by
                    by_cases e : m = j
                    · rw [e]; exact hnq.out
                    · exact hno.out m (by omega)
                  go_wp2_with fail
                  exact ⟨⟨j + 1, by omega, by go_num, HR, HBV.out.next hB⟩, by simp [intOf]; omega⟩
            · obtain rfl : j = nw := by omega
              have HR : Hid (0 = R) := Lib.hid (H1.out (clOk_of HFA.out HFB.out (fun i hi => by
                have h := sel_all (s := s) (P := fun y => busyB s y.toNat = false) (by rw [HNW.out]; exact hno.out) (i : Int) hi
                rwa [Int.toNat_natCast] at h))).symm
              go_wp2_with fail
              go_ret
              exact ⟨ret_i HR.out, hBw⟩
end P20
end Go.Proofs.YtajbchecjbddgaaGreatDoor
