/- Arguments opened: a pair of ints. -/
import Derived.Test.YtjpnbjlhjlddbaaDoorZ4
import Derived.Test.YtjpnbjlhjlddbaaDoorZ5
namespace Go.Proofs.YtjpnbjlhjlddbaaDoor
open Go.ChangeShapes Go.WideShapes Go.ChangeAt Go.RowKit Go.Deep
section
variable {H : Type} {enc : TypeId × Value → H} {w : World}
theorem open_arr2 {r : Reach} {b0 : Nat} {v : Value} {d : DataW H} {p : List MemPlace} (hv : Value.okWide Tryd.prog w r b0 49 v) (h : DataW.Trod enc Tryd.prog w 0 (fun _ => true) true 49 v d p) :
    ∃ b0 b1 : Int, v = .agg #[.int .i64 b0, .int .i64 b1] := by
  obtain ⟨cs, rfl, hsz⟩ := ok_array Tryd.underlying49 hv
  obtain ⟨fuel, hf⟩ := h
  obtain ⟨hl, hR⟩ := arr_cells Tryd.underlying49 (by kernel_rfl) (by kernel_rfl) (fun u => ∃ z : Int, u = .int .i64 z) (fun m cs' y hy => by
    obtain ⟨z, hz, _⟩ := DataW.trod_int Tryd.underlying3 hy
    exact ⟨_, hz, z, rfl⟩) hf
  obtain ⟨l⟩ := cs
  simp only [Value.cells] at hl hR
  match l, hl with
  | [c0, c1], _ =>
    obtain ⟨z0, rfl⟩ := hR c0 (by simp)
    obtain ⟨z1, rfl⟩ := hR c1 (by simp)
    exact ⟨z0, z1, rfl⟩
end
end Go.Proofs.YtjpnbjlhjlddbaaDoor
