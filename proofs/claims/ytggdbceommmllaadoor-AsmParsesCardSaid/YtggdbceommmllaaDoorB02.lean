/- Walk of package code: operands (the table of kinds). -/
import Derived.Test.YtggdbceommmllaaDoorA02
import Derived.Test.YtggdbceommmllaaDoorK
namespace Go.Proofs.YtggdbceommmllaaDoor
open Go.RowKit
namespace P2

abbrev I (n : Int) : Value := .int .i64 n
def four (op : Int) : Value := .agg #[I (kind op 0), I (kind op 1), I (kind op 2), I (kind op 3)]
def tab : Array Value := ((List.range 17).flatMap fun op => (kindsN op).map I).toArray
def zer : Array Value := (List.replicate 68 (I 0)).toArray

theorem zer_info : (Tryd.prog.info? 113).map (fun i => (i.zero, i.size)) = some (some (.agg zer), 68) := by kernel_rfl
theorem tab_at (op : Int) (h0 : 0 ≤ op) (h1 : op ≤ 16) : ∀ (j : Nat) (v : Value), [I (kind op 0), I (kind op 1), I (kind op 2), I (kind op 3)][j]? = some v → tab[op.toNat * 4 + j]? = some v := by
  have h : op = 0 ∨ op = 1 ∨ op = 2 ∨ op = 3 ∨ op = 4 ∨ op = 5 ∨ op = 6 ∨ op = 7 ∨ op = 8 ∨ op = 9 ∨ op = 10 ∨ op = 11 ∨ op = 12 ∨ op = 13 ∨ op = 14 ∨ op = 15 ∨ op = 16 := by omega
  intro j v hj
  match j, hj with
  | 0, hj | 1, hj | 2, hj | 3, hj => rcases h with h | h | h | h | h | h | h | h | h | h | h | h | h | h | h | h | h <;> subst h <;> exact hj
  | n + 4, hj => simp at hj

set_option maxRecDepth 100000 in
set_option maxHeartbeats 4000000 in
theorem operands_any (op : Int) (h0 : 0 ≤ op) (h1 : op ≤ 16) (w : World) : Calls Tryd.prog 50 #[I op] w fun e w' => e = .returned (four op) ∧ Below w.heap.size w w' := by
  have hz := (zero_of_info zer_info).1
  go_enter Tryd.func50, Tryd.ntmps50
  go_wp2_with (first
    | (refine wpList_build rfl 113 _ rfl (.agg tab) (by kernel_rfl) ?_)
    | (refine wpList_store_new rfl 113 113 _ _ rfl zer tab (w.heap.size + 1) (by simp) rfl rfl (by kernel_rfl) (by kernel_rfl) (by kernel_rfl) ?_)
    | (refine wpList_load_new rfl 73 113 _ rfl tab (w.heap.size + 1) (op.toNat * 4) (by simp) rfl [I (kind op 0), I (kind op 1), I (kind op 2), I (kind op 3)] _ Tryd.underlying73 rfl (by kernel_rfl) (tab_at op h0 h1) ?_))
  all_goals go_returns
  all_goals refine ⟨rfl, ?_⟩
  all_goals go_grown

end P2
end Go.Proofs.YtggdbceommmllaaDoor
