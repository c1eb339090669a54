/- Opening of arguments: an int, a byte, a row of two ints. -/
import Derived.Test.YtjpnbjlhjlddbaaDoorZ3
namespace Go.Proofs.YtjpnbjlhjlddbaaDoor
open Go.ChangeShapes Go.WideShapes Go.RowKit
section
variable {H : Type} {enc : TypeId × Value → H} {w : World}
theorem open_int {r : Reach} {b0 : Nat} {v : Value} {d : DataW H} {p : List MemPlace} (hv : Value.okWide Tryd.prog w r b0 3 v) (h : DataW.Trod enc Tryd.prog w 0 (fun _ => true) true 3 v d p) :
    ∃ n : Int, v = .int .i64 n ∧ (-9223372036854775808 ≤ n ∧ n ≤ 9223372036854775807) := by
  obtain ⟨n, rfl⟩ := okWide_int Tryd.underlying3 hv
  obtain ⟨fuel, hf⟩ := h
  obtain ⟨z, hz, _, hwf⟩ := DataW.trod_int Tryd.underlying3 hf
  simp only [Value.cells, List.cons.injEq, and_true, Value.int.injEq, true_and] at hz
  subst hz
  refine ⟨n, rfl, ?_⟩
  simp [Lit.wf] at hwf
  have h1 : IntKind.i64.min = -9223372036854775808 := by decide
  have h2 : IntKind.i64.max = 9223372036854775807 := by decide
  omega
theorem open_u8 {r : Reach} {b0 : Nat} {v : Value} {d : DataW H} {p : List MemPlace} (hv : Value.okWide Tryd.prog w r b0 5 v) (h : DataW.Trod enc Tryd.prog w 0 (fun _ => true) true 5 v d p) :
    ∃ n : Int, v = .int .u8 n ∧ (0 ≤ n ∧ n ≤ 255) := by
  obtain ⟨n, rfl⟩ := okWide_int Tryd.underlying5 hv
  obtain ⟨fuel, hf⟩ := h
  obtain ⟨z, hz, hr⟩ := u8_cells hf
  simp only [Value.cells, List.cons.injEq, and_true, Value.int.injEq, true_and] at hz
  subst hz
  exact ⟨n, rfl, hr⟩
end
end Go.Proofs.YtjpnbjlhjlddbaaDoor
