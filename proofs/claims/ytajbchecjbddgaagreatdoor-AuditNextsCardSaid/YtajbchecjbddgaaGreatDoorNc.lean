/- Audit: the reference's Next. -/
import Derived.Test.YtajbchecjbddgaaGreatDoorNb
import Derived.Test.YtajbchecjbddgaaGreatDoorRc
import Derived.Test.YtajbchecjbddgaaGreatDoorUt
import Derived.Test.YtajbchecjbddgaaGreatDoorU9
import Derived.Deep.CutRange
namespace Go.Proofs.YtajbchecjbddgaaGreatDoor
open Go.RowKit
namespace P20
open P7

/-- The boxes of the two shots, and three rows of marks. -/
structure NxS (V : World) (P br bs bh nr ns : Nat) (a b : Array Value) (R S H : Nat → Bool) (W : World) : Prop where
  tb : TwB V P a b W
  r : Bits W br nr R
  s : Bits W bs ns S
  h : Bits W bh ns H
  lr : br < W.heap.size
  ls : bs < W.heap.size
  lh : bh < W.heap.size
section
variable {V W W' : World} {P br bs bh nr ns : Nat} {a b : Array Value} {R S H : Nat → Bool}
theorem NxS.next (h : NxS V P br bs bh nr ns a b R S H W) (hb : Below W.heap.size W W') : NxS V P br bs bh nr ns a b R S H W' :=
  ⟨h.tb.next hb, h.r.next hb h.lr, h.s.next hb h.ls, h.h.next hb h.lh, Nat.lt_of_lt_of_le h.lr hb.size, Nat.lt_of_lt_of_le h.ls hb.size, Nat.lt_of_lt_of_le h.lh hb.size⟩
theorem Bits.put {W : World} {b n : Nat} {S : Nat → Bool} (h : Bits W b n S) (x : Nat) (hx : x < n) (v : Bool) : Bits (W.setCell ⟨b, x, none⟩ (.bool v)) b n (fun k => if k = x then v else S k) := fun k hk => by
  refine ⟨?_, by rw [World.frozen?_setCell]; exact (h k hk).2⟩
  dsimp only
  by_cases e : k = x
  · rw [if_pos e, e]
    exact World.cell?_setCell_same W _ _ (h x hx).1
  · rw [if_neg e, World.cell?_setCell_other W _ _ _ (by intro e'; injection e' with _ e'; exact e e'.symm)]
    exact (h k hk).1
theorem Bits.congr {W : World} {b n : Nat} {S S' : Nat → Bool} (h : Bits W b n S) (hS : ∀ k, k < n → S' k = S k) : Bits W b n S' := fun k hk => by rw [hS k hk]; exact h k hk
theorem lt_next {P : Nat → Prop} {k : Nat} (h : ∀ m, m < k → P m) (hk : P k) : ∀ m, m < k + 1 → P m := fun m hm => by
  rcases Nat.lt_or_ge m k with e | e
  · exact h m e
  · rw [show m = k by omega]; exact hk
theorem TwB.put {x j : Nat} {v : Value} (h : TwB V P a b W) (hx : V.heap.size ≤ x) (hP : P + 1 < V.heap.size) : TwB V P a b (W.setCell ⟨x, j, none⟩ v) :=
  ⟨h.gr.setCell (p := ⟨x, j, none⟩) hx v, (setCell_away W ⟨x, j, none⟩ v (by show P ≠ x; omega)).trans h.ba, (setCell_away W ⟨x, j, none⟩ v (by show P + 1 ≠ x; omega)).trans h.bb⟩
theorem NxS.setR {q : Nat} {R' : Nat → Bool} (h : NxS V P br bs bh nr ns a b R S H W) (hv : V.heap.size ≤ br) (hP : P + 1 < V.heap.size) (h1 : br < bs) (h2 : bs < bh) (hq : q < nr) (hR : ∀ k, k < nr → R' k = if k = q then true else R k) : NxS V P br bs bh nr ns a b R' S H (W.setCell ⟨br, q, none⟩ (.bool true)) :=
  ⟨h.tb.put (by omega) hP, (h.r.put q hq true).congr hR, h.s.other (by omega) _, h.h.other (by omega) _, by simpa [World.setCell] using h.lr, by simpa [World.setCell] using h.ls, by simpa [World.setCell] using h.lh⟩
theorem NxS.setS {q : Nat} {S' : Nat → Bool} (h : NxS V P br bs bh nr ns a b R S H W) (hP : P + 1 < V.heap.size) (h1 : br < bs) (h2 : bs < bh) (h3 : V.heap.size ≤ bs) (hq : q < ns) (hR : ∀ k, k < ns → S' k = if k = q then true else S k) : NxS V P br bs bh nr ns a b R S' H (W.setCell ⟨bs, q, none⟩ (.bool true)) :=
  ⟨h.tb.put (by omega) hP, h.r.other (by omega) _, (h.s.put q hq true).congr hR, h.h.other (by omega) _, by simpa [World.setCell] using h.lr, by simpa [World.setCell] using h.ls, by simpa [World.setCell] using h.lh⟩
theorem NxS.setH {v : Bool} {q : Nat} {H' : Nat → Bool} (h : NxS V P br bs bh nr ns a b R S H W) (hP : P + 1 < V.heap.size) (h1 : br < bs) (h2 : bs < bh) (h3 : V.heap.size ≤ bh) (hq : q < ns) (hR : ∀ k, k < ns → H' k = if k = q then v else H k) : NxS V P br bs bh nr ns a b R S H' (W.setCell ⟨bh, q, none⟩ (.bool v)) :=
  ⟨h.tb.put (by omega) hP, h.r.other (by omega) _, h.s.other (by omega) _, (h.h.put q hq v).congr hR, by simpa [World.setCell] using h.lr, by simpa [World.setCell] using h.ls, by simpa [World.setCell] using h.lh⟩
end
set_option maxRecDepth 100000 in
set_option maxHeartbeats 32000000 in
theorem refNext_any {w : World} {var vas vaw vbr vbs vbw : Value} {a b : Sh} (hA : Shm w var vas vaw a) (hB : Shm w vbr vbs vbw b) (hfa : FewS a) (hfb : FewS b) :
    Calls Tryz.prog 8 #[.agg #[var, vas, vaw], .agg #[vbr, vbs, vbw]] w fun e w' => e = .returned (.int .i64 (nxt a b)) ∧ Below w.heap.size w w' := by
  have hla := hfa.l
  have hlb := hfb.l
  have hsa := hfa.sc
  have hsb := hfb.sc
  obtain ⟨Ar, car, hra, hncra, -⟩ := rows_open hA.rows.sl
  obtain ⟨As, cas, hsa, hncsa, hAs⟩ := scs_open hA.scs
  obtain ⟨Aw, caw, hwa, -, -⟩ := hA.wks.open_
  have HAS := Lib.hid hAs
  obtain ⟨nar, hnar⟩ := name_of a.l.length
  obtain ⟨nas, hnas⟩ := name_of a.sc.length
  obtain ⟨naw, hnaw⟩ := name_of a.ws.length
  have HNAR := Lib.hid hnar
  have HNAS := Lib.hid hnas
  have HNAW := Lib.hid hnaw
  rw [hnar] at hra hncra
  rw [hnas] at hsa hncsa
  rw [hnaw] at hwa
  subst hra hsa hwa
  clear hnar hnas hnaw hAs
  obtain ⟨Br, cbr, hrb, hncrb, -⟩ := rows_open hB.rows.sl
  obtain ⟨Bs, cbs, hsb, hncsb, hBs⟩ := scs_open hB.scs
  obtain ⟨Bw, cbw, hwb, -, -⟩ := hB.wks.open_
  have HBS := Lib.hid hBs
  obtain ⟨nbr, hnbr⟩ := name_of b.l.length
  obtain ⟨nbs, hnbs⟩ := name_of b.sc.length
  obtain ⟨nbw, hnbw⟩ := name_of b.ws.length
  have HNBR := Lib.hid hnbr
  have HNBS := Lib.hid hnbs
  have HNBW := Lib.hid hnbw
  rw [hnbr] at hrb hncrb
  rw [hnbs] at hsb hncsb
  rw [hnbw] at hwb
  subst hrb hsb hwb
  clear hnbr hnbs hnbw hBs
  rw [HNAR.out] at hla
  rw [HNBR.out] at hlb
  rw [HNAS.out] at hsa
  rw [HNBS.out] at hsb
  obtain ⟨V, hV⟩ := name_of ((w.alloc (.cells #[.slice Ar nar car, .slice As nas cas, .slice Aw naw caw] 26)).alloc (.cells #[.slice Br nbr cbr, .slice Bs nbs cbs, .slice Bw nbw cbw] 26))
  have hbV : Below w.heap.size w V := by rw [← hV]; go_grown
  have hTB : TwB V w.heap.size #[.slice Ar nar car, .slice As nas cas, .slice Aw naw caw] #[.slice Br nbr cbr, .slice Bs nbs cbs, .slice Bw nbw cbw] V := by
    rw [← hV]
    exact ⟨Below.refl _ _, heap_alloc2_old w _ _, heap_alloc2_new w _ _⟩
  have hPV : w.heap.size + 1 < V.heap.size := lt_of_block hTB.bb
  have HPV := Lib.hid hPV
  have HBV := Lib.hid hbV
  have HA := Lib.hid (hA.next hbV)
  have HB := Lib.hid (hB.next hbV)
  have HFA := Lib.hid hfa
  have HFB := Lib.hid hfb
  have HASV : Hid (∀ i, i < nas → ∃ g off, As = some ⟨g, off, none⟩ ∧ g < V.heap.size ∧ ScAt V g (off + i * 6) (sA a.sc i)) := Lib.hid fun i hi => by
    obtain ⟨g, off, e, hg, hc⟩ := HAS.out i (by rw [HNAS.out]; exact hi)
    exact ⟨g, off, e, Nat.lt_of_lt_of_le hg hbV.size, hc.below hbV hg⟩
  have HBSV : Hid (∀ i, i < nbs → ∃ g off, Bs = some ⟨g, off, none⟩ ∧ g < V.heap.size ∧ ScAt V g (off + i * 6) (sA b.sc i)) := Lib.hid fun i hi => by
    obtain ⟨g, off, e, hg, hc⟩ := HBS.out i (by rw [HNBS.out]; exact hi)
    exact ⟨g, off, e, Nat.lt_of_lt_of_le hg hbV.size, hc.below hbV hg⟩
  obtain ⟨R, hR⟩ := name_of (nxt a b)
  obtain ⟨E, hE⟩ := name_of (chkS a)
  obtain ⟨F, hF⟩ := name_of (chkS b)
  have HR := Lib.hid hR
  have HE := Lib.hid hE
  have HF := Lib.hid hF
  have hCa := refCheckS_any HA.out hfa
  rw [hE] at hCa
  rw [hR]
  obtain ⟨q0, q1, q2, -, -, -⟩ := hTB.cells
  have HTB := Lib.hid hTB
  clear hA hB hfa hfb hbV hTB hR hE hF HAS HBS hPV
  go_enter Tryz.func8, Tryz.ntmps8
  go_wp2_with fail
  clear hV
  refine hCa.mono ?_
  rintro e w2 ⟨rfl, hb2⟩
  have HT2 := Lib.hid (HTB.out.next hb2)
  clear hCa hb2 q0 q1 q2
  by_cases hE0 : E = 0
  rotate_left
  · have f0 : (E == 0) = false := by simpa using hE0
    have f1 : (E != 0) = true := by simpa using hE0
    have HV : Hid (E = R) := Lib.hid (by rw [← HR.out, ← HE.out]; exact (nxt_a (by rw [HE.out]; exact hE0)).symm)
    clear hE0
    go_wp2_with fail
    go_ret
    exact ⟨ret_i HV.out, HBV.out.trans (Below.mono HT2.out.gr HBV.out.size)⟩
  subst hE0
  obtain ⟨-, -, -, q3, q4, q5⟩ := HT2.out.cells
  have hCb := refCheckS_any (HB.out.next HT2.out.gr) HFB.out
  rw [HF.out] at hCb
  go_wp2_with fail
  refine hCb.mono ?_
  clear hCb q3 q4 q5
  rintro e w3 ⟨rfl, hb3⟩
  have HT3 := Lib.hid (HT2.out.next hb3)
  clear hb3 HT2
  by_cases hF0 : F = 0
  rotate_left
  · have f1 : (F != 0) = true := by simpa using hF0
    have HV : Hid (F = R) := Lib.hid (by rw [← HR.out, ← HF.out]; exact (nxt_b HE.out (by rw [HF.out]; exact hF0)).symm)
    clear hF0
    go_wp2_with fail
    go_ret
    exact ⟨ret_i HV.out, HBV.out.trans (Below.mono HT3.out.gr HBV.out.size)⟩
  subst hF0
  have HNO : Hid (¬ nextOk a b → 26 = R) := Lib.hid (fun h => by rw [← HR.out]; exact (nxt_no HE.out HF.out h).symm)
  have HYES : Hid (nextOk a b → 0 = R) := Lib.hid (fun h => by rw [← HR.out]; exact (nxt_ok HE.out HF.out h).symm)
  have HCA : Hid (chkS a = 0) := Lib.hid HE.out
  have HCB : Hid (chkS b = 0) := Lib.hid HF.out
  clear HE HF HR
  have hG := refGrownLoop (HA.out.next HT3.out.gr).rows.sl (HB.out.next HT3.out.gr).rows.sl HFA.out.small HFB.out.small
  obtain ⟨G, hGG⟩ := name_of (GrownT a.l b.l)
  have HGG := Lib.hid hGG
  rw [← grown_ref, hGG] at hG
  clear hGG
  obtain ⟨q0, q1, q2, q3, q4, q5⟩ := HT3.out.cells
  go_wp2_with fail
  refine hG.mono ?_
  clear hG q0 q1 q2 q3 q4 q5
  rintro e w4 ⟨rfl, hb4⟩
  have HT4 := Lib.hid (HT3.out.next hb4)
  clear hb4 HT3
  obtain ⟨q0, q1, q2, q3, q4, q5⟩ := HT4.out.cells
  cases G with
  | false =>
    have HV := Lib.hid (HNO.out (fun h => by have := h.1; rw [HGG.out] at this; cases this))
    clear q0 q1 q3 q4
    go_wp2_with fail
    go_ret
    exact ⟨ret_i HV.out, HBV.out.trans (Below.mono HT4.out.gr HBV.out.size)⟩
  | true =>
  by_cases hw : naw = nbw
  rotate_left
  · have f1 : ((naw : Int) != nbw) = true := by simp; omega
    have HV := Lib.hid (HNO.out (fun h => hw (by have := h.2.1; rw [HNAW.out, HNBW.out] at this; exact this)))
    clear hw
    go_wp2_with fail
    go_ret
    exact ⟨ret_i HV.out, HBV.out.trans (Below.mono HT4.out.gr HBV.out.size)⟩
  have f1 : ((naw : Int) != nbw) = false := by simp; omega
  have HWW : Hid (a.ws.length = b.ws.length) := Lib.hid (by rw [HNAW.out, HNBW.out]; exact hw)
  clear hw
  have hmr := run_make_row' (P := Tryz.prog) 63 4 (.bool false) 1 Tryz.underlying63 (by kernel_rfl) rfl .i64 .i64 nbr (by omega) (by omega)
  have hms := run_make_row' (P := Tryz.prog) 63 4 (.bool false) 1 Tryz.underlying63 (by kernel_rfl) rfl .i64 .i64 nbs (by omega) (by omega)
  have R1 := World.rowIs_made w4 (.bool false) nbr 4
  obtain ⟨MR, hMR⟩ := name_of (madeCells #[.bool false] nbr)
  rw [hMR] at hmr R1
  have hb5 := (Below.refl w4.heap.size w4).alloc (Nat.le_refl _) (.cells MR 4)
  have hl5 : w4.heap.size < (w4.alloc (.cells MR 4)).heap.size := by simp
  obtain ⟨w5, hw5⟩ := name_of (w4.alloc (.cells MR 4))
  rw [hw5] at R1 hb5 hl5
  have R2 := World.rowIs_made w5 (.bool false) nbs 4
  obtain ⟨MS, hMS⟩ := name_of (madeCells #[.bool false] nbs)
  rw [hMS] at hms R2
  have hb6 := (Below.refl w5.heap.size w5).alloc (Nat.le_refl _) (.cells MS 4)
  have hl6 : w5.heap.size < (w5.alloc (.cells MS 4)).heap.size := by simp
  obtain ⟨w6, hw6⟩ := name_of (w5.alloc (.cells MS 4))
  rw [hw6] at R2 hb6 hl6
  have R3 := World.rowIs_made w6 (.bool false) nbs 4
  rw [hMS] at R3
  have hb7 := (Below.refl w6.heap.size w6).alloc (Nat.le_refl _) (.cells MS 4)
  have hl7 : w6.heap.size < (w6.alloc (.cells MS 4)).heap.size := by simp
  obtain ⟨w7, hw7⟩ := name_of (w6.alloc (.cells MS 4))
  rw [hw7] at R3 hb7 hl7
  have y3 := (hb5.cell (p := ⟨w.heap.size + 1, _, none⟩) (lt_of_block HT4.out.bb)).trans q3
  have y4 := (hb5.cell (p := ⟨w.heap.size + 1, _, none⟩) (lt_of_block HT4.out.bb)).trans q4
  have z4 := ((hb5.next hb6).cell (p := ⟨w.heap.size + 1, _, none⟩) (lt_of_block HT4.out.bb)).trans q4
  have HNX : Hid (∃ br bs bh, br = w4.heap.size ∧ bs = w5.heap.size ∧ bh = w6.heap.size ∧ V.heap.size ≤ br ∧ br < bs ∧ bs < bh ∧ NxS V w.heap.size br bs bh nbr nbs #[.slice Ar nar car, .slice As nas cas, .slice Aw naw caw] #[.slice Br nbr cbr, .slice Bs nbs cbs, .slice Bw nbw cbw] (rowB a b 0) (scB a b 0) (shB a b 0) w7) := Lib.hid ⟨_, _, _, rfl, rfl, rfl, HT4.out.gr.size, hl5, hl6, ((HT4.out.next hb5).next hb6).next hb7,
    Bits.next (Bits.next (fun k hk => ⟨R1.cell hk, R1.frozen k⟩) hb6 hl5) hb7 (by omega), Bits.next (fun k hk => ⟨R2.cell hk, R2.frozen k⟩) hb7 hl6, fun k hk => ⟨R3.cell hk, R3.frozen k⟩, by omega, by omega, hl7⟩
  clear R1 R2 R3 hb5 hb6 hb7 hl5 hl6 hl7 hMR hMS
  go_wp2_with fail
  clear hmr hms hw5 hw6 hw7 y3 y4 z4 q0 q1 q2 q3 q4 q5 MR MS
  obtain ⟨br, bs, bh, e1, e2, e3, hv, hrs, hsh, hn0⟩ := HNX.out
  rw [← e1, ← e2, ← e3]
  have HN0 := Lib.hid hn0
  clear HNX hn0 e1 e2 e3 f1 HT4
  have HTA : Hid (Tab a.l ∧ scOk a) := Lib.hid ⟨(chkS_split HCA.out).1, (chkS_split HCA.out).2.1⟩
  have HTBB : Hid (Tab b.l ∧ scOk b) := Lib.hid ⟨(chkS_split HCB.out).1, (chkS_split HCB.out).2.1⟩
  go_loopw [9] (fun x wr => ∃ i : Nat, i ≤ nar ∧ x = .int .i64 i ∧ Hid (NxS V w.heap.size br bs bh nbr nbs #[.slice Ar nar car, .slice As nas cas, .slice Aw naw caw] #[.slice Br nbr cbr, .slice Bs nbs cbs, .slice Bw nbw cbw] (rowB a b i) (scB a b 0) (shB a b 0) wr)) (fun x _ => nar - (intOf x).toNat)
  case atStart => exact ⟨0, Nat.zero_le _, rfl, HN0⟩
  case round =>
    clear HN0
    obtain ⟨i, hi, rfl, HN⟩ := hrel
    obtain ⟨q0, q1, -, q3, q4, -⟩ := HN.out.tb.cells
    by_cases hlt : i < nar
    · have hBe := refBec_any HA.out.rows.sl HB.out.rows.sl HGG.out HFA.out.l HFB.out.l i (by rw [HNAR.out]; exact hlt) wr HN.out.tb.gr
      have hq := tN_lt HGG.out (i := i) (by rw [HNAR.out]; exact hlt)
      obtain ⟨q, hqq⟩ := name_of (tN a.l b.l i)
      rw [hqq] at hBe hq
      rw [HNBR.out] at hq
      have HQ := Lib.hid hqq
      clear hqq
      go_wp2_with fail
      refine hBe.mono ?_
      rintro e w8 ⟨rfl, hb⟩
      have HN8 := Lib.hid (HN.out.next hb)
      obtain ⟨c0, z0⟩ := HN8.out.r q hq
      have HN9 := Lib.hid (HN8.out.setR hv HPV.out (by omega) (by omega) hq (R' := rowB a b (i + 1)) (fun k hk => by rw [rowB_succ, ← tN_toN, HQ.out]))
      clear hBe hb HN q0 q1 q3 q4
      go_wp2_with fail
      exact ⟨⟨i + 1, by omega, by go_num, HN9⟩, by simp [intOf]; omega⟩
    · have hin : nar = i := by omega
      subst hin
      clear hlt hi
      go_wp2_with fail
      go_loopw [10] (fun x wr => ∃ j : Nat, j ≤ nas ∧ x = .int .i64 j ∧ Hid (∀ m, m < j → ltOk a b m) ∧ Hid (NxS V w.heap.size br bs bh nbr nbs #[.slice Ar nar car, .slice As nas cas, .slice Aw naw caw] #[.slice Br nbr cbr, .slice Bs nbs cbs, .slice Bw nbw cbw] (rowB a b nar) (scB a b j) (shB a b j) wr)) (fun x _ => nas - (intOf x).toNat)
      case atStart => exact ⟨0, Nat.zero_le _, rfl, Lib.hid (fun m hm => by omega), HN⟩
      case round =>
        clear HN q0 q1 q3 q4
        obtain ⟨j, hj, rfl, HOK, HN⟩ := hrel
        obtain ⟨q0, q1, q2, q3, q4, q5⟩ := HN.out.tb.cells
        by_cases hlt : j < nas
        · obtain ⟨g, off, rfl, hg, hc⟩ := HASV.out j hlt
          obtain ⟨⟨xr, xk, xn, xa, xc, xv⟩, hx⟩ := name_of (sA a.sc j)
          have hrl : (sA a.sc j).r < a.l.length := sc_row HTA.out.2.1 HTA.out.1.pos (by rw [HNAS.out]; exact hlt)
          rw [hx] at hc
          obtain ⟨c0, c1, c2, c3, c4, c5⟩ := hc
          dsimp only at c0 c1 c2 c3 c4 c5
          have k := fun j => HN.out.tb.gr.cell (p := ⟨g, j, none⟩) hg
          have x0 := (k _).trans c0
          have x1 := (k _).trans c1
          have x2 := (k _).trans c2
          have x3 := (k _).trans c3
          have x4 := (k _).trans c4
          have x5 := (k _).trans c5
          have hbX := (Below.refl wr.heap.size wr).alloc (Nat.le_refl _) (.cells #[.int .i64 xr, .int .i64 xk, .int .i64 xn, .bool xa, .bool xc, .int .i64 xv] 49)
          have hgX := heap_alloc_last wr (.cells #[.int .i64 xr, .int .i64 xk, .int .i64 xn, .bool xa, .bool xc, .int .i64 xv] 49)
          obtain ⟨W1, hW1⟩ := name_of (wr.alloc (.cells #[.int .i64 xr, .int .i64 xk, .int .i64 xn, .bool xa, .bool xc, .int .i64 xv] 49))
          rw [hW1] at hbX hgX
          have HN1 := Lib.hid (HN.out.next hbX)
          have HX1 := Lib.hid hgX
          have HXJ := Lib.hid hx
          have hLt := later_any (HA.out.next HN1.out.tb.gr) (HB.out.next HN1.out.tb.gr) HGG.out HFA.out HFB.out j (by rw [HNAS.out]; exact hlt) hrl
          have HBXL : Hid (V.heap.size ≤ wr.heap.size) := Lib.hid HN.out.tb.gr.size
          have HLR : Hid (br < wr.heap.size ∧ bs < wr.heap.size ∧ bh < wr.heap.size) := Lib.hid ⟨HN.out.lr, HN.out.ls, HN.out.lh⟩
          have y0 := (hbX.cell (p := ⟨w.heap.size, _, none⟩) (lt_of_block HN.out.tb.ba)).trans q0
          have y1 := (hbX.cell (p := ⟨w.heap.size, _, none⟩) (lt_of_block HN.out.tb.ba)).trans q1
          have y2 := (hbX.cell (p := ⟨w.heap.size, _, none⟩) (lt_of_block HN.out.tb.ba)).trans q2
          have y3 := (hbX.cell (p := ⟨w.heap.size + 1, _, none⟩) (lt_of_block HN.out.tb.bb)).trans q3
          have y4 := (hbX.cell (p := ⟨w.heap.size + 1, _, none⟩) (lt_of_block HN.out.tb.bb)).trans q4
          have y5 := (hbX.cell (p := ⟨w.heap.size + 1, _, none⟩) (lt_of_block HN.out.tb.bb)).trans q5
          clear hbX hgX hx hrl c0 c1 c2 c3 c4 c5 k HN q2 q3 q4 q5
          go_wp2_with ((with_reducible (show wpList _ _ _ (Oper.mk _ (Op.store _ _ _) _ _ _ _ :: _) _ _)); refine wpList_store_new rfl 49 49 (.tmp 11) (.tmp 79) rfl _ _ wr.heap.size rfl rfl rfl (by kernel_rfl) rfl (by kernel_rfl) ?_)
          clear hW1
          refine hLt.mono ?_
          clear hLt x0 x1 x2 x3 x4 x5 q0 q1 y0 y1 y2 y3 y4 y5
          rintro e W2 ⟨rfl, hb2⟩
          have HN2 := Lib.hid (HN1.out.next hb2)
          have HX2 := Lib.hid (blk_next HX1.out hb2)
          clear hb2 HN1 HX1
          cases hl : ltN a b j with
          | none =>
            have HV := Lib.hid (HNO.out (fun h => (h.2.2.1 j (by rw [HNAS.out]; exact hlt)).1 hl))
            have hI : inI none = -1 := rfl
            rw [hI]
            clear hl hI
            go_wp2_with fail
            go_ret
            exact ⟨ret_i HV.out, HBV.out.trans (Below.mono HN2.out.tb.gr HBV.out.size)⟩
          | some q =>
            have hqn : q < nbs := by
              have h := (fnd_some (show fnd b.sc _ _ = some q from hl)).1
              rw [HNBS.out] at h
              exact h
            have hI : inI (some q) = (q : Int) := rfl
            rw [hI]
            have f3 : decide ((q : Int) < 0) = false := decide_eq_false (by omega)
            obtain ⟨gb, offb, rfl, hgb, hc⟩ := HBSV.out q hqn
            obtain ⟨⟨yr, yk, yn, ya, yc, yv⟩, hy⟩ := name_of (sA b.sc q)
            have HLO : Hid (ltOk a b j ↔ scUp ⟨xr, xk, xn, xa, xc, xv⟩ ⟨yr, yk, yn, ya, yc, yv⟩) := Lib.hid (by
              unfold ltOk
              rw [hl, Option.getD_some, HXJ.out, hy]
              exact ⟨fun h => h.2, fun h => ⟨by simp, h⟩⟩)
            rw [hy] at hc
            obtain ⟨c0, c1, c2, c3, c4, c5⟩ := hc
            dsimp only at c0 c1 c2 c3 c4 c5
            have k := fun j => HN2.out.tb.gr.cell (p := ⟨gb, j, none⟩) hgb
            have x0 := (k _).trans c0
            have x1 := (k _).trans c1
            have x2 := (k _).trans c2
            have x3 := (k _).trans c3
            have x4 := (k _).trans c4
            have x5 := (k _).trans c5
            obtain ⟨-, -, -, -, q4, -⟩ := HN2.out.tb.cells
            have hbY := (Below.refl W2.heap.size W2).alloc (Nat.le_refl _) (.cells #[.int .i64 yr, .int .i64 yk, .int .i64 yn, .bool ya, .bool yc, .int .i64 yv] 49)
            have hgY := heap_alloc_last W2 (.cells #[.int .i64 yr, .int .i64 yk, .int .i64 yn, .bool ya, .bool yc, .int .i64 yv] 49)
            obtain ⟨W3, hW3⟩ := name_of (W2.alloc (.cells #[.int .i64 yr, .int .i64 yk, .int .i64 yn, .bool ya, .bool yc, .int .i64 yv] 49))
            rw [hW3] at hbY hgY
            have HN3 := Lib.hid (HN2.out.next hbY)
            have HX3 := Lib.hid (blk_next HX2.out hbY)
            have v2 : W3.cell? ⟨wr.heap.size, 2, none⟩ = some (.int .i64 xn) := (cell_of_row _ _ _ _ _ _ HX3.out).trans rfl
            have v3 : W3.cell? ⟨wr.heap.size, 3, none⟩ = some (.bool xa) := (cell_of_row _ _ _ _ _ _ HX3.out).trans rfl
            have v4 : W3.cell? ⟨wr.heap.size, 4, none⟩ = some (.bool xc) := (cell_of_row _ _ _ _ _ _ HX3.out).trans rfl
            have u2 : W3.cell? ⟨W2.heap.size, 2, none⟩ = some (.int .i64 yn) := (cell_of_row _ _ _ _ _ _ hgY).trans rfl
            have u3 : W3.cell? ⟨W2.heap.size, 3, none⟩ = some (.bool ya) := (cell_of_row _ _ _ _ _ _ hgY).trans rfl
            have u4 : W3.cell? ⟨W2.heap.size, 4, none⟩ = some (.bool yc) := (cell_of_row _ _ _ _ _ _ hgY).trans rfl
            obtain ⟨Z, hZ⟩ := name_of (!(decide (yn = xn)) || (xa && !ya) || (xc && !yc))
            have HZZ := Lib.hid hZ
            have HLQ := Lib.hid hl
            clear hZ hl hI hy hbY hgY c0 c1 c2 c3 c4 c5 k HN2 HX2
            go_upto_region 23 with (first | ((with_reducible (show wpList _ _ _ (Oper.mk _ (Op.store _ _ _) _ _ _ _ :: _) _ _)); refine wpList_store_new rfl 49 49 (.tmp 13) (.tmp 90) rfl _ _ W2.heap.size rfl rfl rfl (by kernel_rfl) rfl (by kernel_rfl) ?_) | fail)
            go_simp
            clear hW3 x0 x1 x2 x3 x4 x5 q4 f3
            go_cut [113] from 91 to 113 (fun c wx => c = .bool Z ∧ wx = W3)
            case first =>
              by_cases hn : yn = xn
              · have f2 : (yn != xn) = false := by simpa using hn
                have HN2 := Lib.hid hn
                clear hn
                cases xa <;> cases xc <;> (try cases ya) <;> (try cases yc) <;> (go_wp2_with fail; go_meet; exact ⟨by rw [← HZZ.out, decide_eq_true HN2.out]; rfl, rfl⟩)
              · have f2 : (yn != xn) = true := by simpa using hn
                have HN2 := Lib.hid hn
                clear hn
                go_wp2_with fail
                go_meet
                exact ⟨by rw [← HZZ.out, decide_eq_false HN2.out]; rfl, rfl⟩
            case rest =>
              obtain ⟨rfl, hwc⟩ := hcut
              rw [hwc]
              clear hwc wc
              cases Z with
              | true =>
                have HV : Hid (26 = R) := Lib.hid (HNO.out (fun h => by
                  obtain ⟨h1, h2, h3⟩ := HLO.out.1 (h.2.2.1 j (by rw [HNAS.out]; exact hlt))
                  dsimp only at h1 h2 h3
                  have hz := HZZ.out
                  rw [decide_eq_true h1] at hz
                  cases xa with
                  | true =>
                    rw [h2 rfl] at hz
                    cases xc with
                    | true => rw [h3 rfl] at hz; cases hz
                    | false => cases hz
                  | false =>
                    cases xc with
                    | true => rw [h3 rfl] at hz; cases hz
                    | false => cases hz))
                go_wp2_with fail
                go_ret
                exact ⟨ret_i HV.out, HBV.out.trans (Below.mono HN3.out.tb.gr HBV.out.size)⟩
              | false =>
                have HLJ : Hid (ltOk a b j) := Lib.hid (by
                  have hz := HZZ.out
                  rw [Bool.or_eq_false_iff, Bool.or_eq_false_iff] at hz
                  refine HLO.out.2 ⟨by simpa using hz.1.1, fun h => ?_, fun h => ?_⟩
                  · have := hz.1.2
                    dsimp only at h ⊢
                    rw [h] at this
                    simpa using this
                  · have := hz.2
                    dsimp only at h ⊢
                    rw [h] at this
                    simpa using this)
                obtain ⟨s0, z0⟩ := HN3.out.s q hqn
                have hN4 := HN3.out.setS HPV.out (by omega) (by omega) (by omega) hqn (S' := scB a b (j + 1)) (fun k hk => scB_succ HLQ.out k)
                obtain ⟨W4, hW4⟩ := name_of (W3.setCell ⟨bs, q, none⟩ (.bool true))
                rw [hW4] at hN4
                have x4 : W4.cell? ⟨wr.heap.size, 4, none⟩ = some (.bool xc) := by
                  rw [← hW4, World.cell?_setCell_other W3 _ _ _ (by intro e'; injection e' with e' _; have := HLR.out; omega)]
                  exact v4
                obtain ⟨h0, z1⟩ := hN4.h q hqn
                have HN5 := Lib.hid (hN4.setH HPV.out (by omega) (by omega) (by omega) hqn (H' := shB a b (j + 1)) (v := xc) (fun k hk => by rw [shB_succ HLQ.out, HXJ.out]))
                clear hN4 v2 v3 v4 u2 u3 u4
                go_wp2_with fail
                exact ⟨⟨j + 1, by omega, by go_num, Lib.hid (fun m hm => by
                  rcases Nat.lt_or_ge m j with h | h
                  · exact HOK.out m h
                  · rw [show m = j by omega]; exact HLJ.out), HN5⟩, by simp [intOf]; omega⟩
        · have hjn : nas = j := by omega
          subst hjn
          clear hlt hj
          go_wp2_with fail
          clear q0 q1 q2 q3 q4 q5
          go_loopw [14] (fun x wr => ∃ k : Nat, k ≤ nbs ∧ x = .int .i64 k ∧ Hid (∀ m, m < k → cutOk a b m) ∧ Hid (NxS V w.heap.size br bs bh nbr nbs #[.slice Ar nar car, .slice As nas cas, .slice Aw naw caw] #[.slice Br nbr cbr, .slice Bs nbs cbs, .slice Bw nbw cbw] (rowB a b nar) (scB a b nas) (shB a b nas) wr)) (fun x _ => nbs - (intOf x).toNat)
          case atStart => exact ⟨0, Nat.zero_le _, rfl, Lib.hid (fun m hm => by omega), HN⟩
          case round =>
            clear HN
            obtain ⟨k, hk, rfl, HCK, HN⟩ := hrel
            by_cases hlt : k < nbs
            · obtain ⟨c0, z0⟩ := HN.out.h k hlt
              obtain ⟨Z, hZ⟩ := name_of (shB a b nas k)
              rw [hZ] at c0
              have HZ : Hid (shutN a b k = Z) := Lib.hid (by rw [← shB_all, HNAS.out]; exact hZ)
              clear hZ z0
              cases Z with
              | false =>
                have HCK2 : Hid (∀ m, m < k + 1 → cutOk a b m) := Lib.hid (lt_next HCK.out (fun h => by rw [HZ.out] at h; cases h))
                go_wp2_with fail
                exact ⟨⟨k + 1, by omega, by go_num, HCK2, HN⟩, by simp [intOf]; omega⟩
              | true =>
                go_wp2_with fail
                clear c0
                go_loopw [15] (fun x wr => ∃ i : Nat, i ≤ nbr ∧ x = .int .i64 i ∧ Hid (∀ m, m < i → wasB a b m = false → ¬ k ∈ ch b ((ofN b m).getD 0)) ∧ Hid (NxS V w.heap.size br bs bh nbr nbs #[.slice Ar nar car, .slice As nas cas, .slice Aw naw caw] #[.slice Br nbr cbr, .slice Bs nbs cbs, .slice Bw nbw cbw] (rowB a b nar) (scB a b nas) (shB a b nas) wr)) (fun x _ => nbr - (intOf x).toNat)
                case atStart => exact ⟨0, Nat.zero_le _, rfl, Lib.hid (fun m hm => by omega), HN⟩
                case round =>
                  clear HN
                  obtain ⟨i, hi, rfl, HRW, HN⟩ := hrel
                  obtain ⟨-, -, -, q3, q4, q5⟩ := HN.out.tb.cells
                  by_cases hlti : i < nbr
                  · obtain ⟨z, hz⟩ := name_of (rowB a b nar i)
                    have HRZ := Lib.hid hz
                    have HWZ : Hid (wasB a b i = z) := Lib.hid (by rw [← rowB_all, HNAR.out]; exact hz)
                    obtain ⟨q, hq, hql⟩ := ofN_lt HTBB.out.2 (i := i) (by rw [HNBR.out]; exact hlti)
                    have hOf := refOf_next HB.out (by rw [HNBS.out]; omega) i (by rw [HNBR.out]; exact hlti)
                    have hIn := refIn_next HB.out (by rw [HNBS.out]; omega) HTBB.out.2 (Tab_lt HTBB.out.1) q k hql
                    rw [hq] at hOf
                    rw [show inI (some q) = (q : Int) from rfl] at hOf
                    obtain ⟨D, hD⟩ := name_of (decide (k ∈ ch b q))
                    rw [hD] at hIn
                    have HDD : Hid (k ∈ ch b ((ofN b i).getD 0) ↔ D = true) := Lib.hid (by rw [hq, Option.getD_some, ← hD, decide_eq_true_iff])
                    have HOF := Lib.hid hOf
                    have HIN := Lib.hid hIn
                    clear hz hq hql hOf hIn hD
                    go_upto_region 34 with fail
                    clear q3 q4 q5
                    cases z with
                    | true =>
                      refine wp_region_held_drew (S := (fun W => NxS V w.heap.size br bs bh nbr nbs #[.slice Ar nar car, .slice As nas cas, .slice Aw naw caw] #[.slice Br nbr cbr, .slice Bs nbs cbs, .slice Bw nbw cbw] (rowB a b nar) (scB a b nas) (shB a b nas) W)) (by kernel_rfl) (HN.out.next below_drewU) (fun hH => ?_)
                      refine Rg.take (i := 0) (d := 139) (v := .slice (some ⟨br, 0, none⟩) nbr nbr) rfl rfl (by kernel_rfl) (by kernel_rfl) (by kernel_rfl) (fun _ _ _ h => h) (by kernel_rfl) (fun W hSW => ?_) hH ?_
                      · clear hSW
                        go_simp
                      simp only [List.setIfInBounds_toArray, List.set_cons_zero, List.set_cons_succ]
                      refine Rg.take (i := 1) (d := 140) (v := .int .i64 i) rfl rfl (by kernel_rfl) (by kernel_rfl) (by kernel_rfl) (fun _ _ _ h => h) (by kernel_rfl) (fun W hSW => ?_) hH ?_
                      · clear hSW
                        go_simp
                      simp only [List.setIfInBounds_toArray, List.set_cons_zero, List.set_cons_succ]
                      refine Rg.take (i := 2) (d := 141) (v := .pointer (some ⟨br, i, none⟩)) rfl rfl (by kernel_rfl) (by kernel_rfl) (by kernel_rfl) (fun _ _ _ h => h) (by kernel_rfl) (fun W hSW => ?_) hH ?_
                      · clear hSW
                        go_simp
                      simp only [List.setIfInBounds_toArray, List.set_cons_zero, List.set_cons_succ]
                      refine Rg.take (i := 3) (d := 142) (v := .bool true) rfl rfl (by kernel_rfl) (by kernel_rfl) (by kernel_rfl) (fun _ _ _ h => h) (by kernel_rfl) (fun W hSW => ?_) hH ?_
                      · have h0 := (hSW.r i hlti).1
                        rw [HRZ.out] at h0
                        go_simp
                      simp only [List.setIfInBounds_toArray, List.set_cons_zero, List.set_cons_succ]
                      refine Rg.take (i := 4) (d := 143) (v := .bool false) rfl rfl (by kernel_rfl) (by kernel_rfl) (by kernel_rfl) (fun _ _ _ h => h) (by kernel_rfl) (fun W hSW => ?_) hH ?_
                      · clear hSW
                        go_simp
                      simp only [List.setIfInBounds_toArray, List.set_cons_zero, List.set_cons_succ]
                      refine Rg.take (i := 5) (d := 144) (v := .bool false) rfl rfl (by kernel_rfl) (by kernel_rfl) (by kernel_rfl) (fun _ _ _ h => h) (by kernel_rfl) (fun W hSW => ?_) hH ?_
                      · clear hSW
                        go_simp
                      simp only [List.setIfInBounds_toArray, List.set_cons_zero, List.set_cons_succ]
                      refine Rg.skips_of (fuel' := 1) [6, 7, 8, 9, 10, 11] [145, 146, 147, 148, 149, 150] (by kernel_rfl) (fun _ _ _ _ _ h => h) hH rfl (by kernel_rfl) ?_
                      simp only [Rg.puts, List.setIfInBounds_toArray, List.set_cons_zero, List.set_cons_succ]
                      refine Rg.take (i := 12) (d := 151) (v := .bool false) rfl rfl (by kernel_rfl) (by kernel_rfl) (by kernel_rfl) (fun _ _ _ h => h) (by kernel_rfl) (fun W hSW => ?_) hH ?_
                      · clear hSW
                        go_simp
                      simp only [List.setIfInBounds_toArray, List.set_cons_zero, List.set_cons_succ]
                      refine wpAnyH_done (by kernel_rfl) ?_ _
                      have HRW2 : Hid (∀ m, m < i + 1 → wasB a b m = false → ¬ k ∈ ch b ((ofN b m).getD 0)) := Lib.hid (lt_next HRW.out (fun h => by rw [HWZ.out] at h; cases h))
                      have HN8 := Lib.hid hH
                      go_wp2_with fail
                      exact ⟨⟨i + 1, by omega, by go_num, HRW2, HN8⟩, by simp [intOf]; omega⟩
                    | false =>
                      refine wp_region_held_drew (S := (fun W => NxS V w.heap.size br bs bh nbr nbs #[.slice Ar nar car, .slice As nas cas, .slice Aw naw caw] #[.slice Br nbr cbr, .slice Bs nbs cbs, .slice Bw nbw cbw] (rowB a b nar) (scB a b nas) (shB a b nas) W)) (by kernel_rfl) (HN.out.next below_drewU) (fun hH => ?_)
                      refine Rg.take (i := 0) (d := 139) (v := .slice (some ⟨br, 0, none⟩) nbr nbr) rfl rfl (by kernel_rfl) (by kernel_rfl) (by kernel_rfl) (fun _ _ _ h => h) (by kernel_rfl) (fun W hSW => ?_) hH ?_
                      · clear hSW
                        go_simp
                      simp only [List.setIfInBounds_toArray, List.set_cons_zero, List.set_cons_succ]
                      refine Rg.take (i := 1) (d := 140) (v := .int .i64 i) rfl rfl (by kernel_rfl) (by kernel_rfl) (by kernel_rfl) (fun _ _ _ h => h) (by kernel_rfl) (fun W hSW => ?_) hH ?_
                      · clear hSW
                        go_simp
                      simp only [List.setIfInBounds_toArray, List.set_cons_zero, List.set_cons_succ]
                      refine Rg.take (i := 2) (d := 141) (v := .pointer (some ⟨br, i, none⟩)) rfl rfl (by kernel_rfl) (by kernel_rfl) (by kernel_rfl) (fun _ _ _ h => h) (by kernel_rfl) (fun W hSW => ?_) hH ?_
                      · clear hSW
                        go_simp
                      simp only [List.setIfInBounds_toArray, List.set_cons_zero, List.set_cons_succ]
                      refine Rg.take (i := 3) (d := 142) (v := .bool false) rfl rfl (by kernel_rfl) (by kernel_rfl) (by kernel_rfl) (fun _ _ _ h => h) (by kernel_rfl) (fun W hSW => ?_) hH ?_
                      · have h0 := (hSW.r i hlti).1
                        rw [HRZ.out] at h0
                        go_simp
                      simp only [List.setIfInBounds_toArray, List.set_cons_zero, List.set_cons_succ]
                      refine Rg.take (i := 4) (d := 143) (v := .bool true) rfl rfl (by kernel_rfl) (by kernel_rfl) (by kernel_rfl) (fun _ _ _ h => h) (by kernel_rfl) (fun W hSW => ?_) hH ?_
                      · clear hSW
                        go_simp
                      simp only [List.setIfInBounds_toArray, List.set_cons_zero, List.set_cons_succ]
                      refine Rg.take (i := 5) (d := 144) (v := .bool true) rfl rfl (by kernel_rfl) (by kernel_rfl) (by kernel_rfl) (fun _ _ _ h => h) (by kernel_rfl) (fun W hSW => ?_) hH ?_
                      · clear hSW
                        go_simp
                      simp only [List.setIfInBounds_toArray, List.set_cons_zero, List.set_cons_succ]
                      refine Rg.take (i := 6) (d := 145) (v := .agg #[.slice Br nbr cbr, .slice Bs nbs cbs, .slice Bw nbw cbw]) rfl rfl (by kernel_rfl) (by kernel_rfl) (by kernel_rfl) (fun _ _ _ h => h) (by kernel_rfl) (fun W hSW => ?_) hH ?_
                      · obtain ⟨q0, q1, q2, q3, q4, q5⟩ := hSW.tb.cells
                        go_simp
                      simp only [List.setIfInBounds_toArray, List.set_cons_zero, List.set_cons_succ]
                      refine Rg.take (i := 7) (d := 146) (v := .agg #[.slice Br nbr cbr, .slice Bs nbs cbs, .slice Bw nbw cbw]) rfl rfl (by kernel_rfl) (by kernel_rfl) (by kernel_rfl) (fun _ _ _ h => h) (by kernel_rfl) (fun W hSW => ?_) hH ?_
                      · obtain ⟨q0, q1, q2, q3, q4, q5⟩ := hSW.tb.cells
                        go_simp
                      simp only [List.setIfInBounds_toArray, List.set_cons_zero, List.set_cons_succ]
                      refine Rg.take (i := 8) (d := 147) (v := .int .i64 i) rfl rfl (by kernel_rfl) (by kernel_rfl) (by kernel_rfl) (fun _ _ _ h => h) (by kernel_rfl) (fun W hSW => ?_) hH ?_
                      · clear hSW
                        go_simp
                      simp only [List.setIfInBounds_toArray, List.set_cons_zero, List.set_cons_succ]
                      refine Rg.take (i := 10) (d := 149) (v := .int .i64 k) rfl rfl (by kernel_rfl) (by kernel_rfl) (by kernel_rfl) (fun _ _ _ h => h) (by kernel_rfl) (fun W hSW => ?_) hH ?_
                      · clear hSW
                        go_simp
                      simp only [List.setIfInBounds_toArray, List.set_cons_zero, List.set_cons_succ]
                      refine wpAnyH_ready (rs := [9]) (by kernel_rfl) (by simp) (AllReadyH.cons rfl (fun K hK => ?_) AllReadyH.nil)
                      go_simp
                      refine ((HOF.out _ hH.tb.gr)).mono ?_
                      rintro e X1 ⟨rfl, hb⟩
                      go_simp
                      refine hK.out _ _ (hH.next hb) (fun hH => ?_)
                      clear hK K
                      clear hb
                      refine wpAnyH_ready (rs := [11]) (by kernel_rfl) (by simp) (AllReadyH.cons rfl (fun K hK => ?_) AllReadyH.nil)
                      go_simp
                      refine ((HIN.out _ hH.tb.gr)).mono ?_
                      rintro e X2 ⟨rfl, hb⟩
                      go_simp
                      refine hK.out _ _ (hH.next hb) (fun hH => ?_)
                      clear hK K
                      clear hb
                      refine Rg.take (i := 12) (d := 151) (v := .bool D) rfl rfl (by kernel_rfl) (by kernel_rfl) (by kernel_rfl) (fun _ _ _ h => h) (by kernel_rfl) (fun W hSW => ?_) hH ?_
                      · clear hSW
                        go_simp
                      simp only [List.setIfInBounds_toArray, List.set_cons_zero, List.set_cons_succ]
                      refine wpAnyH_done (by kernel_rfl) ?_ _
                      have HN8 := Lib.hid hH
                      cases D with
                      | true =>
                        have HV := Lib.hid (HNO.out (fun h => ((nextOk_iff.1 h).2.2.2 k (by rw [HNBS.out]; exact hlt) HZ.out).1 i (by rw [HNBR.out]; exact hlti) HWZ.out (HDD.out.2 rfl)))
                        go_wp2_with fail
                        go_ret
                        exact ⟨ret_i HV.out, HBV.out.trans (Below.mono HN8.out.tb.gr HBV.out.size)⟩
                      | false =>
                        have HRW2 : Hid (∀ m, m < i + 1 → wasB a b m = false → ¬ k ∈ ch b ((ofN b m).getD 0)) := Lib.hid (lt_next HRW.out (fun _ h => by have := HDD.out.1 h; cases this))
                        go_wp2_with fail
                        exact ⟨⟨i + 1, by omega, by go_num, HRW2, HN8⟩, by simp [intOf]; omega⟩
                  · have hin : nbr = i := by omega
                    subst hin
                    clear hlti hi
                    go_wp2_with fail
                    clear q3 q4 q5
                    go_loopw [16] (fun x wr => ∃ i : Nat, i ≤ nbs ∧ x = .int .i64 i ∧ Hid (∀ m, m < i → oldS a b m = none → ¬ k ∈ ch b m) ∧ Hid (NxS V w.heap.size br bs bh nbr nbs #[.slice Ar nar car, .slice As nas cas, .slice Aw naw caw] #[.slice Br nbr cbr, .slice Bs nbs cbs, .slice Bw nbw cbw] (rowB a b nar) (scB a b nas) (shB a b nas) wr)) (fun x _ => nbs - (intOf x).toNat)
                    case atStart => exact ⟨0, Nat.zero_le _, rfl, Lib.hid (fun m hm => by omega), HN⟩
                    case round =>
                      clear HN
                      obtain ⟨i, hi, rfl, HSW, HN⟩ := hrel
                      obtain ⟨-, -, -, q3, q4, q5⟩ := HN.out.tb.cells
                      by_cases hlti : i < nbs
                      · obtain ⟨c0, z0⟩ := HN.out.s i hlti
                        obtain ⟨z, hz⟩ := name_of (scB a b nas i)
                        rw [hz] at c0
                        have HOZ : Hid ((oldS a b i).isSome = z) := Lib.hid (by rw [← scB_all, HNAS.out]; exact hz)
                        have hIn := refIn_next HB.out (by rw [HNBS.out]; omega) HTBB.out.2 (Tab_lt HTBB.out.1) i k (by rw [HNBS.out]; exact hlti) wr HN.out.tb.gr
                        obtain ⟨D, hD⟩ := name_of (decide (k ∈ ch b i))
                        rw [hD] at hIn
                        have HDD : Hid (k ∈ ch b i ↔ D = true) := Lib.hid (by rw [← hD, decide_eq_true_iff])
                        clear hz hD z0
                        cases z with
                        | true =>
                          have HSW2 : Hid (∀ m, m < i + 1 → oldS a b m = none → ¬ k ∈ ch b m) := Lib.hid (lt_next HSW.out (fun h => by have := HOZ.out; rw [h] at this; cases this))
                          clear hIn
                          go_wp2_with fail
                          exact ⟨⟨i + 1, by omega, by go_num, HSW2, HN⟩, by simp [intOf]; omega⟩
                        | false =>
                          go_wp2_with fail
                          refine hIn.mono ?_
                          clear hIn c0 q3 q4 q5
                          rintro e w8 ⟨rfl, hb⟩
                          have HN8 := Lib.hid (HN.out.next hb)
                          clear hb HN
                          cases D with
                          | true =>
                            have HV := Lib.hid (HNO.out (fun h => ((nextOk_iff.1 h).2.2.2 k (by rw [HNBS.out]; exact hlt) HZ.out).2 i (by rw [HNBS.out]; exact hlti) (by have := HOZ.out; cases hh : oldS a b i with
                              | none => rfl
                              | some y => rw [hh] at this; cases this) (HDD.out.2 rfl)))
                            go_wp2_with fail
                            go_ret
                            exact ⟨ret_i HV.out, HBV.out.trans (Below.mono HN8.out.tb.gr HBV.out.size)⟩
                          | false =>
                            have HSW2 : Hid (∀ m, m < i + 1 → oldS a b m = none → ¬ k ∈ ch b m) := Lib.hid (lt_next HSW.out (fun _ h => by have := HDD.out.1 h; cases this))
                            go_wp2_with fail
                            exact ⟨⟨i + 1, by omega, by go_num, HSW2, HN8⟩, by simp [intOf]; omega⟩
                      · have hin : nbs = i := by omega
                        subst hin
                        have HCK2 : Hid (∀ m, m < k + 1 → cutOk a b m) := Lib.hid (lt_next HCK.out (fun _ => ⟨fun m hm h => HRW.out m (by rw [← HNBR.out]; exact hm) h, fun m hm h => HSW.out m (by rw [← HNBS.out]; exact hm) h⟩))
                        clear hlti hi
                        go_wp2_with fail
                        exact ⟨⟨k + 1, by omega, by go_num, HCK2, HN⟩, by simp [intOf]; omega⟩
            · have hin : nbs = k := by omega
              subst hin
              have HV : Hid (0 = R) := Lib.hid (HYES.out (nextOk_iff.2 ⟨HGG.out, HWW.out, fun m hm => HOK.out m (by rw [← HNAS.out]; exact hm), fun m hm => HCK.out m (by rw [← HNBS.out]; exact hm)⟩))
              clear hlt hk
              go_wp2_with fail
              go_ret
              exact ⟨ret_i HV.out, HBV.out.trans (Below.mono HN.out.tb.gr HBV.out.size)⟩
end P20
end Go.Proofs.YtajbchecjbddgaaGreatDoor
