/- Walk: TableGrows, whole. -/
import Derived.Test.YtlpkfklbdofmeaaDoorT7m
import Derived.Test.YtlpkfklbdofmeaaDoorT7rc
namespace Go.Proofs.YtlpkfklbdofmeaaDoor
open Go.RowKit
namespace P7

set_option maxHeartbeats 4000000 in
theorem tableGrows_any {w : World} {v u : Value} {l m : List Row} (hR : Rws w v l) (hRm : Rws w u m) (hpow : Pow w) : Calls Tryd.prog 5 #[v, u] w fun e w' => e = .returned (.bool true) ∧ Below w.heap.size w w' := by
  have hF := few_any hR
  have HP := Lib.hid hpow
  have HR := Lib.hid hR
  have HRm := Lib.hid hRm
  obtain ⟨A, c, rfl, -, -⟩ := rows_open hR.sl
  obtain ⟨B, d, rfl, -, -⟩ := rows_open hRm.sl
  clear hpow hR hRm
  go_enter Tryd.func5, Tryd.ntmps5
  go_wp2_with fail
  refine hF.mono ?_
  rintro e w1 ⟨⟨b, rfl, hb⟩, rfl⟩
  clear hF
  have hF := few_any HRm.out
  cases b
  · have hA := awake_any _ HP.out
    clear hb hF
    go_wp2_with fail
    refine hA.mono ?_
    rintro e w2 ⟨rfl, hb2⟩
    go_wp2_with fail
    go_ret
    exact ⟨rfl, hb2⟩
  · have hs := Lib.hid (hb rfl)
    clear hb
    go_wp2_with fail
    refine hF.mono ?_
    rintro e w1 ⟨⟨b, rfl, hb⟩, rfl⟩
    clear hF
    cases b
    · have hA := awake_any _ HP.out
      clear hb
      go_wp2_with fail
      refine hA.mono ?_
      rintro e w2 ⟨rfl, hb2⟩
      go_wp2_with fail
      go_ret
      exact ⟨rfl, hb2⟩
    · have hsm := Lib.hid (hb rfl)
      clear hb
      have hC := grownAll_any HR.out.sl HRm.out.sl hs.out hsm.out
      obtain ⟨G, hG⟩ := name_of (GrownT l m)
      rw [hG] at hC
      have HG := Lib.hid ((grown_ref l m).symm.trans hG)
      clear hG
      go_wp2_with fail
      refine hC.mono ?_
      rintro e w2 ⟨rfl, hb2⟩
      have hC2 := refGrownLoop (HR.out.next hb2).sl (HRm.out.next hb2).sl hs.out hsm.out
      rw [HG.out] at hC2
      clear hC
      go_wp2_with fail
      refine hC2.mono ?_
      rintro e w3 ⟨rfl, hb3⟩
      have hB3 := hb2.next hb3
      have hbb : (G == G) = true := beq_self_eq_true _
      have hC3 := grownAll_any (HRm.out.next hB3).sl (HR.out.next hB3).sl hsm.out hs.out
      obtain ⟨H, hH⟩ := name_of (GrownT m l)
      rw [hH] at hC3
      have HH := Lib.hid ((grown_ref m l).symm.trans hH)
      clear hC2 hb2 hb3 hH
      go_wp2_with fail
      refine hC3.mono ?_
      rintro e w4 ⟨rfl, hb4⟩
      have hB4 := hB3.next hb4
      have hC4 := refGrownLoop (HRm.out.next hB4).sl (HR.out.next hB4).sl hsm.out hs.out
      rw [HH.out] at hC4
      clear hC3 hb4 hB3 hbb
      go_wp2_with fail
      refine hC4.mono ?_
      rintro e w5 ⟨rfl, hb5⟩
      have hB5 := hB4.next hb5
      have hA := awake_any _ (HP.out.next hB5)
      have hbb : (H == H) = true := beq_self_eq_true _
      clear hC4 hb5 hB4
      go_wp2_with fail
      refine hA.mono ?_
      rintro e w8 ⟨rfl, hb8⟩
      go_wp2_with fail
      go_ret
      exact ⟨rfl, hB5.next hb8⟩
end P7
end Go.Proofs.YtlpkfklbdofmeaaDoor
