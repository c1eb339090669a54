/- Arguments of the audit chapter's laws, opened: a slice of shots. -/
import Derived.Test.YtajbchecjbddgaaDoorZu
import Derived.Test.YtajbchecjbddgaaDoorVl
namespace Go.Proofs.YtajbchecjbddgaaDoor
open Go.ChangeShapes Go.WideShapes Go.ChangeAt Go.RowKit Go.Joins Go.Deep
set_option maxRecDepth 100000

section
variable {H : Type} {enc : TypeId × Value → H} {w : World}
/-- A slice of shots as an argument: each shot's three cells, and what they tell. -/
theorem open_shots {r : Reach} {b0 : Nat} {v : Value} {d : DataW H} {p : List MemPlace} (hv : Value.okWide Tryd.prog w r b0 45 v) (h : DataW.Trod enc Tryd.prog w 0 (fun _ => true) true 45 v d p) :
    ∃ l : List (P20.Sh × Value × Value × Value), Sl w w.heap.size 3 v (l.flatMap P20.shC) ∧ l.length ≤ 9223372036854775807 ∧ ∀ x ∈ l, P20.Shm w x.2.1 x.2.2.1 x.2.2.2 x.1 := by
  obtain ⟨A, n, c, rfl⟩ := okWide_slice Tryd.underlying45 hv
  obtain ⟨fuel, hf⟩ := h
  obtain ⟨v', l, hcs, hs, hl, hr⟩ := open_rows (α := P20.Sh × Value × Value × Value) (size := 3) Tryd.underlying45 (by kernel_rfl) (by omega) P20.shC (fun _ => rfl) (fun x => P20.Shm w x.2.1 x.2.2.1 x.2.2.2 x.1) (fun n cs' y hy => by
    obtain ⟨s, vr, vs, vw, e, hw⟩ := shot_cells Tryd.underlying26 (by kernel_rfl) hy
    exact ⟨(s, vr, vs, vw), e, hw⟩) hf
  simp only [Value.cells, List.cons.injEq, and_true] at hcs
  subst hcs
  exact ⟨l, hs, hl, hr⟩
end
end Go.Proofs.YtajbchecjbddgaaDoor
