/- Walks of package code and of the reference: span, spans. -/
import Derived.Test.YtggdbceommmllaaDoorA02
import Derived.Test.YtggdbceommmllaaDoorM
namespace Go.Proofs.YtggdbceommmllaaDoor
open Go.RowKit
namespace P2

theorem span_any (k : Int) (w : World) : Calls Tryd.prog 51 #[.int .i64 k] w fun e w' => e = .returned (.tuple #[.int .i64 (lo k), .int .i64 (hi k)]) ∧ w = w' := by
  by_cases h1 : k = 1
  · subst h1; go_enter Tryd.func51, Tryd.ntmps51; go_wp2; go_ret2; exact ⟨rfl, rfl⟩
  by_cases h2 : k = 2
  · subst h2; go_enter Tryd.func51, Tryd.ntmps51; go_wp2; go_ret2; exact ⟨rfl, rfl⟩
  by_cases h3 : k = 3
  · subst h3; go_enter Tryd.func51, Tryd.ntmps51; go_wp2; go_ret2; exact ⟨rfl, rfl⟩
  by_cases h4 : k = 4
  · subst h4; go_enter Tryd.func51, Tryd.ntmps51; go_wp2; go_ret2; exact ⟨rfl, rfl⟩
  by_cases h5 : k = 5
  · subst h5; go_enter Tryd.func51, Tryd.ntmps51; go_wp2; go_ret2; exact ⟨rfl, rfl⟩
  go_enter Tryd.func51, Tryd.ntmps51
  go_wp2
  go_ret2
  exact ⟨by simp [lo, hi, h1, h2, h3, h4, h5], rfl⟩

def spn (op : Int) : Value := .agg #[.int .i64 (lo (kind op 0)), .int .i64 (hi (kind op 0)), .int .i64 (lo (kind op 1)), .int .i64 (hi (kind op 1)), .int .i64 (lo (kind op 2)), .int .i64 (hi (kind op 2)), .int .i64 (lo (kind op 3)), .int .i64 (hi (kind op 3))]
set_option maxHeartbeats 8000000 in
theorem spans_any (op : Int) (h0 : 0 ≤ op) (h1 : op ≤ 16) (w : World) : Calls Tryd.prog 32 #[.int .i64 op] w fun e w' => e = .returned (spn op) ∧ Below w.heap.size w w' := by
  have h : op = 0 ∨ op = 1 ∨ op = 2 ∨ op = 3 ∨ op = 4 ∨ op = 5 ∨ op = 6 ∨ op = 7 ∨ op = 8 ∨ op = 9 ∨ op = 10 ∨ op = 11 ∨ op = 12 ∨ op = 13 ∨ op = 14 ∨ op = 15 ∨ op = 16 := by omega
  clear h0 h1
  rcases h with h | h | h | h | h | h | h | h | h | h | h | h | h | h | h | h | h <;> subst h <;>
    (go_enter Tryd.func32, Tryd.ntmps32; go_wp2; go_returns; refine ⟨rfl, ?_⟩; go_grown)

end P2
end Go.Proofs.YtggdbceommmllaaDoor
