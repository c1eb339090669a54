/- Audit: the law AuditNil. -/
import Derived.Test.YtajbchecjbddgaaDoorH7
import Derived.Test.YtajbchecjbddgaaDoorVs
import Derived.Test.YtajbchecjbddgaaDoorVo
namespace Go.Proofs.YtajbchecjbddgaaDoor
open Go.RowKit
namespace P20
open P7

/-- The boxes of the two shots, and of the two copies. -/
structure NiB (W0 : World) (P X Y : Nat) (a b x y : Array Value) (W : World) : Prop where
  tb : TwB W0 P a b W
  bx : W.heap[X]? = some (.cells x 31 (0, 0))
  by_ : W.heap[Y]? = some (.cells y 31 (0, 0))
theorem NiB.next {W0 W W' : World} {P X Y : Nat} {a b x y : Array Value} (h : NiB W0 P X Y a b x y W) (hb : Below W.heap.size W W') : NiB W0 P X Y a b x y W' :=
  ⟨h.tb.next hb, blk_next h.bx hb, blk_next h.by_ hb⟩
theorem NiB.cells {W0 W : World} {P X Y : Nat} {a b : Array Value} {a0 a1 a2 b0 b1 b2 : Value} (h : NiB W0 P X Y a b #[a0, a1, a2] #[b0, b1, b2] W) :
    W.cell? ⟨X, 0, none⟩ = some a0 ∧ W.cell? ⟨X, 1, none⟩ = some a1 ∧ W.cell? ⟨X, 2, none⟩ = some a2 ∧ W.cell? ⟨Y, 0, none⟩ = some b0 ∧ W.cell? ⟨Y, 1, none⟩ = some b1 ∧ W.cell? ⟨Y, 2, none⟩ = some b2 :=
  ⟨(cell_of_row _ _ _ _ _ _ h.bx).trans rfl, (cell_of_row _ _ _ _ _ _ h.bx).trans rfl, (cell_of_row _ _ _ _ _ _ h.bx).trans rfl, (cell_of_row _ _ _ _ _ _ h.by_).trans rfl, (cell_of_row _ _ _ _ _ _ h.by_).trans rfl, (cell_of_row _ _ _ _ _ _ h.by_).trans rfl⟩
set_option maxRecDepth 100000 in
set_option maxHeartbeats 16000000 in
theorem auditNil_any (hAw : AwP) {w : World} {var vas vaw vbr vbs vbw : Value} {a b : Sh} (hA : Shm w var vas vaw a) (hB : Shm w vbr vbs vbw b) :
    Calls Tryd.prog 8 #[.agg #[var, vas, vaw], .agg #[vbr, vbs, vbw]] w fun e w' => e = .returned (.bool true) ∧ Below w.heap.size w w' := by
  obtain ⟨Ar, car, hra, -, -⟩ := rows_open hA.rows.sl
  obtain ⟨As, cas, hsa, -, -⟩ := scs_open hA.scs
  obtain ⟨Aw, caw, hwa, -, -⟩ := hA.wks.open_
  obtain ⟨nar, hnar⟩ := name_of a.l.length
  obtain ⟨nas, hnas⟩ := name_of a.sc.length
  obtain ⟨naw, hnaw⟩ := name_of a.ws.length
  rw [hnar] at hra
  rw [hnas] at hsa
  rw [hnaw] at hwa
  subst hra hsa hwa
  clear hnar hnas hnaw
  obtain ⟨Br, cbr, hrb, -, -⟩ := rows_open hB.rows.sl
  obtain ⟨Bs, cbs, hsb, -, -⟩ := scs_open hB.scs
  obtain ⟨Bw, cbw, hwb, -, -⟩ := hB.wks.open_
  obtain ⟨nbr, hnbr⟩ := name_of b.l.length
  obtain ⟨nbs, hnbs⟩ := name_of b.sc.length
  obtain ⟨nbw, hnbw⟩ := name_of b.ws.length
  rw [hnbr] at hrb
  rw [hnbs] at hsb
  rw [hnbw] at hwb
  subst hrb hsb hwb
  clear hnbr hnbs hnbw
  obtain ⟨V, hV⟩ := name_of ((w.alloc (.cells #[.slice Ar nar car, .slice As nas cas, .slice Aw naw caw] 26)).alloc (.cells #[.slice Br nbr cbr, .slice Bs nbs cbs, .slice Bw nbw cbw] 26))
  have hbV : Below w.heap.size w V := by rw [← hV]; go_grown
  have hTB : TwB V w.heap.size #[.slice Ar nar car, .slice As nas cas, .slice Aw naw caw] #[.slice Br nbr cbr, .slice Bs nbs cbs, .slice Bw nbw cbw] V := by
    rw [← hV]
    exact ⟨Below.refl _ _, heap_alloc2_old w _ _, heap_alloc2_new w _ _⟩
  have HBV := Lib.hid hbV
  have HA := Lib.hid (hA.next hbV)
  have HB := Lib.hid (hB.next hbV)
  obtain ⟨q0, q1, q2, q3, q4, q5⟩ := hTB.cells
  have hF := few20_any HA.out
  have HTB := Lib.hid hTB
  clear hA hB hbV hTB
  go_enter Tryd.func8, Tryd.ntmps8
  go_wp2_with fail
  clear hV
  refine hF.mono ?_
  clear hF
  rintro e w2 ⟨⟨z, rfl, hz⟩, hb⟩
  have HZA := Lib.hid hz
  have HT2 := Lib.hid (HTB.out.next hb)
  clear hz hb q0 q1 q2 q3 q4 q5
  cases z with
  | false =>
    go_wp2_with fail
    refine (hAw _).mono ?_
    rintro e w3 ⟨rfl, hb3⟩
    have HB3 := Lib.hid (HBV.out.next (HT2.out.gr.next hb3))
    clear hb3
    go_wp2_with fail
    go_ret
    exact ⟨rfl, HB3.out⟩
  | true =>
  obtain ⟨-, -, -, q3, q4, q5⟩ := HT2.out.cells
  have hF := few20_any (HB.out.next HT2.out.gr)
  go_wp2_with fail
  refine hF.mono ?_
  clear hF
  rintro e w3 ⟨⟨z, rfl, hz⟩, hb⟩
  have HZB := Lib.hid hz
  have HT3 := Lib.hid (HT2.out.next hb)
  clear hz hb q3 q4 q5
  cases z with
  | false =>
    go_wp2_with fail
    refine (hAw _).mono ?_
    rintro e w4 ⟨rfl, hb3⟩
    have HB3 := Lib.hid (HBV.out.next (HT3.out.gr.next hb3))
    clear hb3
    go_wp2_with fail
    go_ret
    exact ⟨rfl, HB3.out⟩
  | true =>
  have HFA := Lib.hid (HZA.out trivial)
  have HFB := Lib.hid (HZB.out (by first | rfl | trivial))
  clear HZA HZB
  go_wp2_with fail
  refine seenNil_any.mono ?_
  rintro e w4 ⟨rfl, rfl⟩
  go_wp2_with fail
  refine new_any.mono ?_
  rintro e w5 ⟨rfl, h5⟩
  have hb5 : Below w4.heap.size w4 w5 := by rw [h5]; exact (Below.refl _ _).alloc (Nat.le_refl _) _
  have hg5 : w5.heap[w4.heap.size]? = some (.cells (auC (.slice none 0 0) (.slice none 0 0) (.slice none 0 0) 0 0) 83 (0, 0)) := by rw [h5]; exact heap_alloc_last _ _
  have HT5 := Lib.hid (HT3.out.next hb5)
  have HVG : Hid (V.heap.size ≤ w4.heap.size) := Lib.hid HT3.out.gr.size
  obtain ⟨g, hg⟩ := name_of w4.heap.size
  rw [hg] at hg5 HVG ⊢
  clear h5 hb5 hg HT3 HT2
  have hSn := seen_any hg5
  have HG5 := Lib.hid hg5
  clear hg5
  go_wp2_with fail
  refine hSn.mono ?_
  clear hSn
  rintro e w6 ⟨rfl, hb6⟩
  have HT6 := Lib.hid (HT5.out.next hb6)
  have HG6 := Lib.hid (blk_next HG5.out hb6)
  clear hb6 HT5 HG5
  obtain ⟨q0, q1, q2, -, -, -⟩ := HT6.out.cells
  go_wp2_with fail
  refine shot_any.mono ?_
  rintro e w7 ⟨rfl, hb7⟩
  have HT7 := Lib.hid (HT6.out.next hb7)
  have HG7 := Lib.hid (blk_next HG6.out hb7)
  clear hb7 HT6 HG6 q0 q1 q2
  go_wp2_with fail
  refine seeNil_any.mono ?_
  rintro e w8 ⟨rfl, hb8⟩
  have HT8 := Lib.hid (HT7.out.next hb8)
  have HG8 := Lib.hid (blk_next HG7.out hb8)
  clear hb8 HT7 HG7
  obtain ⟨q0, q1, q2, -, -, -⟩ := HT8.out.cells
  go_wp2_with fail
  refine (copied_any (HA.out.next HT8.out.gr) HFA.out).mono ?_
  rintro e w9 ⟨⟨ur, us, uw, rfl, hO⟩, hb9⟩
  obtain ⟨Xr, nxr, kxr, rfl⟩ := PC.own_slice hO.rows
  obtain ⟨Xs, nxs, kxs, rfl⟩ := PC.own_slice hO.scs
  obtain ⟨Xw, nxw, kxw, rfl⟩ := hO.wks_slice
  have hbA := (Below.refl w9.heap.size w9).alloc (Nat.le_refl _) (.cells #[.slice Xr nxr kxr, .slice Xs nxs kxs, .slice Xw nxw kxw] 31)
  have hgA := heap_alloc_last w9 (.cells #[.slice Xr nxr kxr, .slice Xs nxs kxs, .slice Xw nxw kxw] 31)
  obtain ⟨wA, hwA⟩ := name_of (w9.alloc (.cells #[.slice Xr nxr kxr, .slice Xs nxs kxs, .slice Xw nxw kxw] 31))
  rw [hwA] at hbA hgA
  have HGA := Lib.hid (blk_next (blk_next HG8.out hb9) hbA)
  have HTA := Lib.hid ((HT8.out.next hb9).next hbA)
  have HOA := Lib.hid (hO.next hbA)
  have HXA := Lib.hid hgA
  have HGL : Hid (g < w8.heap.size) := Lib.hid (lt_of_block HG8.out)
  have HXL : Hid (w8.heap.size ≤ w9.heap.size) := Lib.hid hb9.size
  clear hb9 hO HT8 HG8 q0 q1 q2 hbA hgA
  obtain ⟨q3, q4, q5⟩ := HTA.out.cells.2.2.2
  have hCp := copied_any (HB.out.next HTA.out.gr) HFB.out
  go_wp2_with (refine wpList_store_new rfl 31 31 (.tmp 11) (.tmp 59) rfl _ _ w9.heap.size rfl rfl rfl (by kernel_rfl) rfl (by kernel_rfl) ?_)
  clear hwA
  refine hCp.mono ?_
  clear hCp
  rintro e w10 ⟨⟨ur, us, uw, rfl, hO⟩, hb10⟩
  obtain ⟨Yr, nyr, kyr, rfl⟩ := PC.own_slice hO.rows
  obtain ⟨Ys, nys, kys, rfl⟩ := PC.own_slice hO.scs
  obtain ⟨Yw, nyw, kyw, rfl⟩ := hO.wks_slice
  have hbB := (Below.refl w10.heap.size w10).alloc (Nat.le_refl _) (.cells #[.slice Yr nyr kyr, .slice Ys nys kys, .slice Yw nyw kyw] 31)
  have hgB := heap_alloc_last w10 (.cells #[.slice Yr nyr kyr, .slice Ys nys kys, .slice Yw nyw kyw] 31)
  obtain ⟨wB, hwB⟩ := name_of (w10.alloc (.cells #[.slice Yr nyr kyr, .slice Ys nys kys, .slice Yw nyw kyw] 31))
  rw [hwB] at hbB hgB
  have HGB := Lib.hid (blk_next (blk_next HGA.out hb10) hbB)
  have HTB2 := (HTA.out.next hb10).next hbB
  have HNB : Hid (NiB V w.heap.size w9.heap.size w10.heap.size #[.slice Ar nar car, .slice As nas cas, .slice Aw naw caw] #[.slice Br nbr cbr, .slice Bs nbs cbs, .slice Bw nbw cbw] #[.slice Xr nxr kxr, .slice Xs nxs kxs, .slice Xw nxw kxw] #[.slice Yr nyr kyr, .slice Ys nys kys, .slice Yw nyw kyw] wB) := Lib.hid ⟨HTB2, blk_next (blk_next HXA.out hb10) hbB, hgB⟩
  have HXB := Lib.hid ((HOA.out.next hb10).next hbB)
  have HYB := Lib.hid (hO.next hbB)
  have HYL : Hid (w8.heap.size ≤ wA.heap.size ∧ wA.heap.size ≤ w10.heap.size) := Lib.hid ⟨Nat.le_trans HXL.out (Nat.le_of_lt (lt_of_block HXA.out)), hb10.size⟩
  clear hb10 hO HTA HGA HOA HXA HTB2 q3 q4 q5 hbB hgB
  obtain ⟨q0, q1, q2, -, -, -⟩ := HNB.out.cells
  have hC := checkS_any HXB.out.shm HFA.out
  go_wp2_with (refine wpList_store_new rfl 31 31 (.tmp 12) (.tmp 61) rfl _ _ w10.heap.size rfl rfl rfl (by kernel_rfl) rfl (by kernel_rfl) ?_)
  clear hwB
  refine hC.mono ?_
  clear hC q0 q1 q2
  rintro e w11 ⟨rfl, hb⟩
  have HNB := Lib.hid (HNB.out.next hb)
  have HXB := Lib.hid (HXB.out.next hb)
  have HYB := Lib.hid (HYB.out.next hb)
  have HGB := Lib.hid (blk_next HGB.out hb)
  clear hb
  obtain ⟨q0, q1, q2, -, -, -⟩ := HNB.out.cells
  have hC := allowed_any HXB.out.shm HFA.out
  go_wp2_with fail
  refine hC.mono ?_
  clear hC q0 q1 q2
  rintro e w12 ⟨rfl, hb⟩
  have HNB := Lib.hid (HNB.out.next hb)
  have HXB := Lib.hid (HXB.out.next hb)
  have HYB := Lib.hid (HYB.out.next hb)
  have HGB := Lib.hid (blk_next HGB.out hb)
  clear hb
  obtain ⟨q0, q1, q2, q3, q4, q5⟩ := HNB.out.cells
  have hC := next_any HXB.out.shm HYB.out.shm HFA.out HFB.out
  go_wp2_with fail
  refine hC.mono ?_
  clear hC q0 q1 q2 q3 q4 q5
  rintro e w13 ⟨rfl, hb⟩
  have HNB := Lib.hid (HNB.out.next hb)
  have HXB := Lib.hid (HXB.out.next hb)
  have HYB := Lib.hid (HYB.out.next hb)
  have HGB := Lib.hid (blk_next HGB.out hb)
  clear hb
  obtain ⟨q0, q1, q2, -, -, -⟩ := HNB.out.cells
  have hC := seeFirst_any HGB.out HXB.out HFA.out
  go_wp2_with fail
  refine hC.mono ?_
  clear hC q0 q1 q2
  rintro e w14 ⟨rfl, hP⟩
  have hlt13 := Nat.lt_of_lt_of_le HGL.out (Nat.le_trans HXL.out (Nat.le_of_lt (lt_of_block HNB.out.bx)))
  have hN14 : NiB V w.heap.size w9.heap.size w10.heap.size #[.slice Ar nar car, .slice As nas cas, .slice Aw naw caw] #[.slice Br nbr cbr, .slice Bs nbs cbs, .slice Bw nbw cbw] #[.slice Xr nxr kxr, .slice Xs nxs kxs, .slice Xw nxw kxw] #[.slice Yr nyr kyr, .slice Ys nys kys, .slice Yw nyw kyw] w14 := ⟨⟨HNB.out.tb.gr.trans (Below.mono hP.low HVG.out), (hP.old _ (by have := HVG.out; have := lt_of_block HTB.out.ba; omega) (lt_of_block HNB.out.tb.ba)).trans HNB.out.tb.ba, (hP.old _ (by have := HVG.out; have := lt_of_block HTB.out.bb; omega) (lt_of_block HNB.out.tb.bb)).trans HNB.out.tb.bb⟩,
    (hP.old _ (by have := HGL.out; have := HXL.out; omega) (lt_of_block HNB.out.bx)).trans HNB.out.bx, (hP.old _ (by have := HGL.out; have := HYL.out; omega) (lt_of_block HNB.out.by_)).trans HNB.out.by_⟩
  have HX14 := Lib.hid (HXB.out.same fun k h1 h2 => hP.old k (by have := HGL.out; omega) h2)
  have HY14 := Lib.hid (HYB.out.same fun k h1 h2 => hP.old k (by have := HGL.out; have := HYL.out; omega) h2)
  have HB14 := Lib.hid (HBV.out.next hN14.tb.gr)
  clear hP HNB HXB HYB HGB hlt13
  go_upto_region 15 with fail
  refine wp_region_held_drew (S := (fun W => NiB V w.heap.size w9.heap.size w10.heap.size #[.slice Ar nar car, .slice As nas cas, .slice Aw naw caw] #[.slice Br nbr cbr, .slice Bs nbs cbs, .slice Bw nbw cbw] #[.slice Xr nxr kxr, .slice Xs nxs kxs, .slice Xw nxw kxw] #[.slice Yr nyr kyr, .slice Ys nys kys, .slice Yw nyw kyw] W ∧ Below w14.heap.size w14 W)) (by kernel_rfl) ⟨hN14.next below_drewU, below_drewU⟩ (fun hH => ?_)
  refine Rg.take (i := 0) (d := 72) (v := .agg #[.slice Xr nxr kxr, .slice Xs nxs kxs, .slice Xw nxw kxw]) rfl rfl (by kernel_rfl) (by kernel_rfl) (by kernel_rfl) (fun _ _ _ h => h) (by kernel_rfl) (fun W hSW => ?_) hH ?_
  · obtain ⟨q0, q1, q2, -, -, -⟩ := hSW.1.cells
    go_simp
  simp only [List.setIfInBounds_toArray, List.set_cons_zero, List.set_cons_succ]
  refine Rg.take (i := 1) (d := 73) (v := .agg #[.slice Ar nar car, .slice As nas cas, .slice Aw naw caw]) rfl rfl (by kernel_rfl) (by kernel_rfl) (by kernel_rfl) (fun _ _ _ h => h) (by kernel_rfl) (fun W hSW => ?_) hH ?_
  · obtain ⟨q0, q1, q2, -, -, -⟩ := hSW.1.tb.cells
    go_simp
  simp only [List.setIfInBounds_toArray, List.set_cons_zero, List.set_cons_succ]
  refine wpAnyH_ready (rs := [2]) (by kernel_rfl) (by simp) (AllReadyH.cons rfl (fun K hK => ?_) AllReadyH.nil)
  go_simp
  refine ((copied_any (HA.out.next hH.1.tb.gr) HFA.out)).mono ?_
  rintro e W1 ⟨⟨u0, u1, u2, rfl, hO⟩, hb⟩
  obtain ⟨Zr, nzr, kzr, rfl⟩ := PC.own_slice hO.rows
  obtain ⟨Zs, nzs, kzs, rfl⟩ := PC.own_slice hO.scs
  obtain ⟨Zw, nzw, kzw, rfl⟩ := hO.wks_slice
  go_simp
  refine hK.out _ _ (⟨hH.1.next hb, hH.2.next hb⟩) (fun hH => ?_)
  clear hK K
  clear hb
  refine wpAnyH_ready (rs := [3]) (by kernel_rfl) (by simp) (AllReadyH.cons rfl (fun K hK => ?_) AllReadyH.nil)
  go_simp
  refine ((same_any (HX14.out.next hH.2).shm hO.shm HFA.out)).mono ?_
  rintro e W2 ⟨rfl, hb⟩
  go_simp
  refine hK.out _ _ (⟨hH.1.next hb, hH.2.next hb⟩) (fun hH => ?_)
  clear hK K
  clear hb hO
  refine Rg.take (i := 4) (d := 76) (v := .bool true) rfl rfl (by kernel_rfl) (by kernel_rfl) (by kernel_rfl) (fun _ _ _ h => h) (by kernel_rfl) (fun W hSW => ?_) hH ?_
  · clear hSW
    go_simp
  simp only [List.setIfInBounds_toArray, List.set_cons_zero, List.set_cons_succ]
  refine Rg.take (i := 5) (d := 77) (v := .agg #[.slice Yr nyr kyr, .slice Ys nys kys, .slice Yw nyw kyw]) rfl rfl (by kernel_rfl) (by kernel_rfl) (by kernel_rfl) (fun _ _ _ h => h) (by kernel_rfl) (fun W hSW => ?_) hH ?_
  · obtain ⟨-, -, -, q0, q1, q2⟩ := hSW.1.cells
    go_simp
  simp only [List.setIfInBounds_toArray, List.set_cons_zero, List.set_cons_succ]
  refine Rg.take (i := 6) (d := 78) (v := .agg #[.slice Br nbr cbr, .slice Bs nbs cbs, .slice Bw nbw cbw]) rfl rfl (by kernel_rfl) (by kernel_rfl) (by kernel_rfl) (fun _ _ _ h => h) (by kernel_rfl) (fun W hSW => ?_) hH ?_
  · obtain ⟨-, -, -, q0, q1, q2⟩ := hSW.1.tb.cells
    go_simp
  simp only [List.setIfInBounds_toArray, List.set_cons_zero, List.set_cons_succ]
  refine wpAnyH_ready (rs := [7]) (by kernel_rfl) (by simp) (AllReadyH.cons rfl (fun K hK => ?_) AllReadyH.nil)
  go_simp
  refine ((copied_any (HB.out.next hH.1.tb.gr) HFB.out)).mono ?_
  rintro e W3 ⟨⟨u0, u1, u2, rfl, hO⟩, hb⟩
  obtain ⟨Zr, nzr, kzr, rfl⟩ := PC.own_slice hO.rows
  obtain ⟨Zs, nzs, kzs, rfl⟩ := PC.own_slice hO.scs
  obtain ⟨Zw, nzw, kzw, rfl⟩ := hO.wks_slice
  go_simp
  refine hK.out _ _ (⟨hH.1.next hb, hH.2.next hb⟩) (fun hH => ?_)
  clear hK K
  clear hb
  refine wpAnyH_ready (rs := [8]) (by kernel_rfl) (by simp) (AllReadyH.cons rfl (fun K hK => ?_) AllReadyH.nil)
  go_simp
  refine ((same_any (HY14.out.next hH.2).shm hO.shm HFB.out)).mono ?_
  rintro e W4 ⟨rfl, hb⟩
  go_simp
  refine hK.out _ _ (⟨hH.1.next hb, hH.2.next hb⟩) (fun hH => ?_)
  clear hK K
  clear hb hO
  refine Rg.take (i := 9) (d := 81) (v := .bool true) rfl rfl (by kernel_rfl) (by kernel_rfl) (by kernel_rfl) (fun _ _ _ h => h) (by kernel_rfl) (fun W hSW => ?_) hH ?_
  · clear hSW
    go_simp
  simp only [List.setIfInBounds_toArray, List.set_cons_zero, List.set_cons_succ]
  refine Rg.take (i := 10) (d := 82) (v := .bool true) rfl rfl (by kernel_rfl) (by kernel_rfl) (by kernel_rfl) (fun _ _ _ h => h) (by kernel_rfl) (fun W hSW => ?_) hH ?_
  · clear hSW
    go_simp
  simp only [List.setIfInBounds_toArray, List.set_cons_zero, List.set_cons_succ]
  refine wpAnyH_ready (rs := [11]) (by kernel_rfl) (by simp) (AllReadyH.cons rfl (fun K hK => ?_) AllReadyH.nil)
  go_simp
  refine ((hAw _)).mono ?_
  rintro e W5 ⟨rfl, hb⟩
  go_simp
  refine hK.out _ _ (⟨hH.1.next hb, hH.2.next hb⟩) (fun hH => ?_)
  clear hK K
  clear hb
  refine Rg.take (i := 12) (d := 84) (v := .bool true) rfl rfl (by kernel_rfl) (by kernel_rfl) (by kernel_rfl) (fun _ _ _ h => h) (by kernel_rfl) (fun W hSW => ?_) hH ?_
  · clear hSW
    go_simp
  simp only [List.setIfInBounds_toArray, List.set_cons_zero, List.set_cons_succ]
  refine Rg.take (i := 13) (d := 4) (v := .bool true) rfl rfl (by kernel_rfl) (by kernel_rfl) (by kernel_rfl) (fun _ _ _ h => h) (by kernel_rfl) (fun W hSW => ?_) hH ?_
  · clear hSW
    go_simp
  simp only [List.setIfInBounds_toArray, List.set_cons_zero, List.set_cons_succ]
  refine wpAnyH_done (by kernel_rfl) ?_ _
  go_wp2_with fail
  go_ret
  exact ⟨rfl, HB14.out.trans (Below.mono hH.2 HB14.out.size)⟩
end P20
end Go.Proofs.YtajbchecjbddgaaDoor
