/- Walks of package code and of the reference: span, spans, Point. -/
import Derived.Test.YtjpnbjlhjlddbaaDoorA02
import Derived.Test.YtjpnbjlhjlddbaaDoorM
namespace Go.Proofs.YtjpnbjlhjlddbaaDoor
open Go.RowKit
namespace P2

theorem span_any (k : Int) (w : World) : Calls Tryd.prog 33 #[.int .i64 k] w fun e w' => e = .returned (.tuple #[.int .i64 (lo k), .int .i64 (hi k)]) ∧ w = w' := by
  by_cases h1 : k = 1
  · subst h1; go_enter Tryd.func33, Tryd.ntmps33; go_wp2; go_ret2; exact ⟨rfl, rfl⟩
  by_cases h2 : k = 2
  · subst h2; go_enter Tryd.func33, Tryd.ntmps33; go_wp2; go_ret2; exact ⟨rfl, rfl⟩
  by_cases h3 : k = 3
  · subst h3; go_enter Tryd.func33, Tryd.ntmps33; go_wp2; go_ret2; exact ⟨rfl, rfl⟩
  by_cases h4 : k = 4
  · subst h4; go_enter Tryd.func33, Tryd.ntmps33; go_wp2; go_ret2; exact ⟨rfl, rfl⟩
  by_cases h5 : k = 5
  · subst h5; go_enter Tryd.func33, Tryd.ntmps33; go_wp2; go_ret2; exact ⟨rfl, rfl⟩
  go_enter Tryd.func33, Tryd.ntmps33
  go_wp2
  go_ret2
  exact ⟨by simp [lo, hi, h1, h2, h3, h4, h5], rfl⟩

def pt (op : Int) : Bool := op == 6 || op == 7 || op == 8 || op == 9 || op == 10 || op == 11 || op == 12 || op == 14

theorem point_any (op : Int) (w : World) : Calls Tryd.prog 20 #[.int .i64 op] w fun e w' => e = .returned (.bool (pt op)) ∧ w = w' := by
  go_enter Tryd.func20, Tryd.ntmps20
  go_wp2
  all_goals go_ret
  all_goals exact ⟨by simp_all [pt], rfl⟩

theorem refPoint_any (op : Int) (w : World) : Calls Tryd.prog 21 #[.int .i64 op] w fun e w' => e = .returned (.bool (pt op)) ∧ w = w' := by
  by_cases h6 : op = 6
  · subst h6; go_enter Tryd.func21, Tryd.ntmps21; go_wp2; go_ret; exact ⟨rfl, rfl⟩
  by_cases h7 : op = 7
  · subst h7; go_enter Tryd.func21, Tryd.ntmps21; go_wp2; go_ret; exact ⟨rfl, rfl⟩
  by_cases h8 : op = 8
  · subst h8; go_enter Tryd.func21, Tryd.ntmps21; go_wp2; go_ret; exact ⟨rfl, rfl⟩
  by_cases h9 : op = 9
  · subst h9; go_enter Tryd.func21, Tryd.ntmps21; go_wp2; go_ret; exact ⟨rfl, rfl⟩
  by_cases h10 : op = 10
  · subst h10; go_enter Tryd.func21, Tryd.ntmps21; go_wp2; go_ret; exact ⟨rfl, rfl⟩
  by_cases h11 : op = 11
  · subst h11; go_enter Tryd.func21, Tryd.ntmps21; go_wp2; go_ret; exact ⟨rfl, rfl⟩
  by_cases h12 : op = 12
  · subst h12; go_enter Tryd.func21, Tryd.ntmps21; go_wp2; go_ret; exact ⟨rfl, rfl⟩
  go_enter Tryd.func21, Tryd.ntmps21
  go_wp2
  all_goals go_ret
  all_goals exact ⟨by simp_all [pt], rfl⟩

def spn (op : Int) : Value := .agg #[.int .i64 (lo (kind op 0)), .int .i64 (hi (kind op 0)), .int .i64 (lo (kind op 1)), .int .i64 (hi (kind op 1)), .int .i64 (lo (kind op 2)), .int .i64 (hi (kind op 2)), .int .i64 (lo (kind op 3)), .int .i64 (hi (kind op 3))]
set_option maxHeartbeats 8000000 in
theorem spans_any (op : Int) (h0 : 0 ≤ op) (h1 : op ≤ 16) (w : World) : Calls Tryd.prog 28 #[.int .i64 op] w fun e w' => e = .returned (spn op) ∧ Below w.heap.size w w' := by
  have h : op = 0 ∨ op = 1 ∨ op = 2 ∨ op = 3 ∨ op = 4 ∨ op = 5 ∨ op = 6 ∨ op = 7 ∨ op = 8 ∨ op = 9 ∨ op = 10 ∨ op = 11 ∨ op = 12 ∨ op = 13 ∨ op = 14 ∨ op = 15 ∨ op = 16 := by omega
  clear h0 h1
  rcases h with h | h | h | h | h | h | h | h | h | h | h | h | h | h | h | h | h <;> subst h <;>
    (go_enter Tryd.func28, Tryd.ntmps28; go_wp2; go_returns; refine ⟨rfl, ?_⟩; go_grown)

end P2
end Go.Proofs.YtjpnbjlhjlddbaaDoor
