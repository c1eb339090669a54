/- Walk: TablePrints, whole. -/
import Derived.Test.YtlpkfklbdofmeaaDoorT7m
namespace Go.Proofs.YtlpkfklbdofmeaaDoor
open Go.RowKit
namespace P7

set_option maxHeartbeats 4000000 in
theorem tablePrints_any {w : World} {v : Value} {l : List Row} (hR : Rws w v l) (hpow : Pow w) : Calls Tryd.prog 4 #[v] w fun e w' => e = .returned (.bool true) ∧ Below w.heap.size w w' := by
  have hF := few_any hR
  have HP := Lib.hid hpow
  have HR := Lib.hid hR
  obtain ⟨A, c, rfl, -, -⟩ := rows_open hR.sl
  clear hpow hR
  go_enter Tryd.func4, Tryd.ntmps4
  go_wp2_with fail
  refine hF.mono ?_
  rintro e w1 ⟨⟨b, rfl, hb⟩, rfl⟩
  clear hF
  cases b
  · have hA := awake_any _ HP.out
    clear hb
    go_wp2_with fail
    refine hA.mono ?_
    rintro e w2 ⟨rfl, hb2⟩
    go_wp2_with fail
    go_ret
    exact ⟨rfl, hb2⟩
  · have hs := hb rfl
    have hC := print_any HR.out hs HP.out
    obtain ⟨s, hS⟩ := name_of (⟨(printT l).toArray⟩ : ByteArray)
    obtain ⟨E, hE⟩ := name_of (chk (l.length + 1) l)
    unfold PrintPost at hC
    rw [hE, hS] at hC
    have HE := Lib.hid hE
    have HS := Lib.hid hs
    have HSS := Lib.hid hS
    clear hE hb hs hS
    go_wp2_with fail
    refine hC.mono ?_
    rintro e w2 ⟨rfl, hb2⟩
    have hC2 := refPrint_any (HR.out.next hb2) HS.out
    unfold PrintPost at hC2
    rw [HE.out, HSS.out] at hC2
    clear hC
    go_wp2_with fail
    refine hC2.mono ?_
    rintro e w3 ⟨rfl, hb3⟩
    have hB3 := hb2.next hb3
    have hA := awake_any _ (HP.out.next hB3)
    have hee := str_beq s
    clear hC2 hb2 hb3
    go_wp2_with fail
    refine hA.mono ?_
    rintro e w8 ⟨rfl, hb8⟩
    go_wp2_with fail
    go_ret
    exact ⟨rfl, hB3.next hb8⟩
end P7
end Go.Proofs.YtlpkfklbdofmeaaDoor
