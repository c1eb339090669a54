/- Audit: the law AuditNexts. -/
import Derived.Test.YtajbchecjbddgaaGreatDoorH7
import Derived.Test.YtajbchecjbddgaaGreatDoorNc
namespace Go.Proofs.YtajbchecjbddgaaGreatDoor
open Go.RowKit
namespace P20
open P7

set_option maxRecDepth 100000 in
set_option maxHeartbeats 16000000 in
theorem auditNexts_any (hAw : AwP) {w : World} {var vas vaw vbr vbs vbw : Value} {a b : Sh} (hA : Shm w var vas vaw a) (hB : Shm w vbr vbs vbw b) :
    Calls Tryz.prog 3 #[.agg #[var, vas, vaw], .agg #[vbr, vbs, vbw]] w fun e w' => e = .returned (.bool true) ∧ Below w.heap.size w w' := by
  obtain ⟨Ar, car, hra, -, -⟩ := rows_open hA.rows.sl
  obtain ⟨As, cas, hsa, -, -⟩ := scs_open hA.scs
  obtain ⟨Aw, caw, hwa, -, -⟩ := hA.wks.open_
  obtain ⟨nar, hnar⟩ := name_of a.l.length
  obtain ⟨nas, hnas⟩ := name_of a.sc.length
  obtain ⟨naw, hnaw⟩ := name_of a.ws.length
  rw [hnar] at hra
  rw [hnas] at hsa
  rw [hnaw] at hwa
  subst hra hsa hwa
  clear hnar hnas hnaw
  obtain ⟨Br, cbr, hrb, -, -⟩ := rows_open hB.rows.sl
  obtain ⟨Bs, cbs, hsb, -, -⟩ := scs_open hB.scs
  obtain ⟨Bw, cbw, hwb, -, -⟩ := hB.wks.open_
  obtain ⟨nbr, hnbr⟩ := name_of b.l.length
  obtain ⟨nbs, hnbs⟩ := name_of b.sc.length
  obtain ⟨nbw, hnbw⟩ := name_of b.ws.length
  rw [hnbr] at hrb
  rw [hnbs] at hsb
  rw [hnbw] at hwb
  subst hrb hsb hwb
  clear hnbr hnbs hnbw
  obtain ⟨V, hV⟩ := name_of ((w.alloc (.cells #[.slice Ar nar car, .slice As nas cas, .slice Aw naw caw] 26)).alloc (.cells #[.slice Br nbr cbr, .slice Bs nbs cbs, .slice Bw nbw cbw] 26))
  have hbV : Below w.heap.size w V := by rw [← hV]; go_grown
  have hTB : TwB V w.heap.size #[.slice Ar nar car, .slice As nas cas, .slice Aw naw caw] #[.slice Br nbr cbr, .slice Bs nbs cbs, .slice Bw nbw cbw] V := by
    rw [← hV]
    exact ⟨Below.refl _ _, heap_alloc2_old w _ _, heap_alloc2_new w _ _⟩
  have HBV := Lib.hid hbV
  have HA := Lib.hid (hA.next hbV)
  have HB := Lib.hid (hB.next hbV)
  obtain ⟨q0, q1, q2, q3, q4, q5⟩ := hTB.cells
  have hF := few20_any HA.out
  have HTB := Lib.hid hTB
  clear hA hB hbV hTB
  go_enter Tryz.func3, Tryz.ntmps3
  go_wp2_with fail
  clear hV
  refine hF.mono ?_
  clear hF
  rintro e w2 ⟨⟨z, rfl, hz⟩, hb⟩
  have HZA := Lib.hid hz
  have HT2 := Lib.hid (HTB.out.next hb)
  clear hz hb q0 q1 q2 q3 q4 q5
  cases z with
  | false =>
    go_wp2_with fail
    refine (hAw _).mono ?_
    rintro e w3 ⟨rfl, hb3⟩
    have HB3 := Lib.hid (HBV.out.next (HT2.out.gr.next hb3))
    clear hb3
    go_wp2_with fail
    go_ret
    exact ⟨rfl, HB3.out⟩
  | true =>
  obtain ⟨-, -, -, q3, q4, q5⟩ := HT2.out.cells
  have hF := few20_any (HB.out.next HT2.out.gr)
  go_wp2_with fail
  refine hF.mono ?_
  clear hF
  rintro e w3 ⟨⟨z, rfl, hz⟩, hb⟩
  have HZB := Lib.hid hz
  have HT3 := Lib.hid (HT2.out.next hb)
  clear hz hb q3 q4 q5
  cases z with
  | false =>
    go_wp2_with fail
    refine (hAw _).mono ?_
    rintro e w4 ⟨rfl, hb3⟩
    have HB3 := Lib.hid (HBV.out.next (HT3.out.gr.next hb3))
    clear hb3
    go_wp2_with fail
    go_ret
    exact ⟨rfl, HB3.out⟩
  | true =>
  have HFA := Lib.hid (HZA.out (by first | rfl | trivial))
  have HFB := Lib.hid (HZB.out (by first | rfl | trivial))
  clear HZA HZB
  obtain ⟨X, hX⟩ := name_of (nxt a b)
  have HX := Lib.hid hX
  clear hX
  have fX : (X == X) = true := by simp
  go_upto_region 3 with fail
  refine wp_region_held_drew (S := (fun W => TwB V w.heap.size #[.slice Ar nar car, .slice As nas cas, .slice Aw naw caw] #[.slice Br nbr cbr, .slice Bs nbs cbs, .slice Bw nbw cbw] W)) (by kernel_rfl) (HT3.out.next below_drewU) (fun hH => ?_)
  refine Rg.take (i := 0) (d := 14) (v := .agg #[.slice Ar nar car, .slice As nas cas, .slice Aw naw caw]) rfl rfl (by kernel_rfl) (by kernel_rfl) (by kernel_rfl) (fun _ _ _ h => h) (by kernel_rfl) (fun W hSW => ?_) hH ?_
  · obtain ⟨q0, q1, q2, q3, q4, q5⟩ := hSW.cells
    go_simp
  simp only [List.setIfInBounds_toArray, List.set_cons_zero, List.set_cons_succ]
  refine Rg.take (i := 2) (d := 16) (v := .agg #[.slice Br nbr cbr, .slice Bs nbs cbs, .slice Bw nbw cbw]) rfl rfl (by kernel_rfl) (by kernel_rfl) (by kernel_rfl) (fun _ _ _ h => h) (by kernel_rfl) (fun W hSW => ?_) hH ?_
  · obtain ⟨q0, q1, q2, q3, q4, q5⟩ := hSW.cells
    go_simp
  simp only [List.setIfInBounds_toArray, List.set_cons_zero, List.set_cons_succ]
  refine Rg.take (i := 5) (d := 19) (v := .agg #[.slice Ar nar car, .slice As nas cas, .slice Aw naw caw]) rfl rfl (by kernel_rfl) (by kernel_rfl) (by kernel_rfl) (fun _ _ _ h => h) (by kernel_rfl) (fun W hSW => ?_) hH ?_
  · obtain ⟨q0, q1, q2, q3, q4, q5⟩ := hSW.cells
    go_simp
  simp only [List.setIfInBounds_toArray, List.set_cons_zero, List.set_cons_succ]
  refine Rg.take (i := 6) (d := 20) (v := .agg #[.slice Br nbr cbr, .slice Bs nbs cbs, .slice Bw nbw cbw]) rfl rfl (by kernel_rfl) (by kernel_rfl) (by kernel_rfl) (fun _ _ _ h => h) (by kernel_rfl) (fun W hSW => ?_) hH ?_
  · obtain ⟨q0, q1, q2, q3, q4, q5⟩ := hSW.cells
    go_simp
  simp only [List.setIfInBounds_toArray, List.set_cons_zero, List.set_cons_succ]
  refine wpAnyH_ready (rs := [1]) (by kernel_rfl) (by simp) (AllReadyH.cons rfl (fun K hK => ?_) AllReadyH.nil)
  go_simp
  refine (shot_any).mono ?_
  rintro e X1 ⟨rfl, hb⟩
  go_simp
  refine hK.out _ _ (hH.next hb) (fun hH => ?_)
  clear hK K
  clear hb
  refine wpAnyH_ready (rs := [3]) (by kernel_rfl) (by simp) (AllReadyH.cons rfl (fun K hK => ?_) AllReadyH.nil)
  go_simp
  refine (shot_any).mono ?_
  rintro e X2 ⟨rfl, hb⟩
  go_simp
  refine hK.out _ _ (hH.next hb) (fun hH => ?_)
  clear hK K
  clear hb
  refine wpAnyH_ready (rs := [4]) (by kernel_rfl) (by simp) (AllReadyH.cons rfl (fun K hK => ?_) AllReadyH.nil)
  go_simp
  refine ((next_any (HA.out.next hH.gr) (HB.out.next hH.gr) HFA.out HFB.out)).mono ?_
  rw [HX.out]
  rintro e X3 ⟨rfl, hb⟩
  go_simp
  refine hK.out _ _ (hH.next hb) (fun hH => ?_)
  clear hK K
  clear hb
  refine wpAnyH_ready (rs := [7]) (by kernel_rfl) (by simp) (AllReadyH.cons rfl (fun K hK => ?_) AllReadyH.nil)
  go_simp
  refine ((refNext_any (HA.out.next hH.gr) (HB.out.next hH.gr) HFA.out HFB.out)).mono ?_
  rw [HX.out]
  rintro e X4 ⟨rfl, hb⟩
  go_simp
  refine hK.out _ _ (hH.next hb) (fun hH => ?_)
  clear hK K
  clear hb
  refine Rg.take (i := 8) (d := 22) (v := .bool true) rfl rfl (by kernel_rfl) (by kernel_rfl) (by kernel_rfl) (fun _ _ _ h => h) (by kernel_rfl) (fun W hSW => ?_) hH ?_
  · clear hSW
    go_simp
  simp only [List.setIfInBounds_toArray, List.set_cons_zero, List.set_cons_succ]
  refine Rg.take (i := 9) (d := 23) (v := .bool true) rfl rfl (by kernel_rfl) (by kernel_rfl) (by kernel_rfl) (fun _ _ _ h => h) (by kernel_rfl) (fun W hSW => ?_) hH ?_
  · clear hSW
    go_simp
  simp only [List.setIfInBounds_toArray, List.set_cons_zero, List.set_cons_succ]
  refine wpAnyH_ready (rs := [10]) (by kernel_rfl) (by simp) (AllReadyH.cons rfl (fun K hK => ?_) AllReadyH.nil)
  go_simp
  refine ((hAw _)).mono ?_
  rintro e X5 ⟨rfl, hb⟩
  go_simp
  refine hK.out _ _ (hH.next hb) (fun hH => ?_)
  clear hK K
  clear hb
  refine Rg.take (i := 11) (d := 25) (v := .bool true) rfl rfl (by kernel_rfl) (by kernel_rfl) (by kernel_rfl) (fun _ _ _ h => h) (by kernel_rfl) (fun W hSW => ?_) hH ?_
  · clear hSW
    go_simp
  simp only [List.setIfInBounds_toArray, List.set_cons_zero, List.set_cons_succ]
  refine Rg.take (i := 12) (d := 4) (v := .bool true) rfl rfl (by kernel_rfl) (by kernel_rfl) (by kernel_rfl) (fun _ _ _ h => h) (by kernel_rfl) (fun W hSW => ?_) hH ?_
  · clear hSW
    go_simp
  simp only [List.setIfInBounds_toArray, List.set_cons_zero, List.set_cons_succ]
  refine wpAnyH_done (by kernel_rfl) ?_ _
  go_wp2_with fail
  go_ret
  exact ⟨rfl, HBV.out.trans (Below.mono hH.gr HBV.out.size)⟩
end P20
end Go.Proofs.YtajbchecjbddgaaGreatDoor
