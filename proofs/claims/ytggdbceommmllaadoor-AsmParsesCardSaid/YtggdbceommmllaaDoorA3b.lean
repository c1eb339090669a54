/- Asm: the table of entries. -/
import Derived.Test.YtggdbceommmllaaDoorA3a
import Derived.Test.YtggdbceommmllaaDoorPc
import Derived.Test.YtggdbceommmllaaDoorV
namespace Go.Proofs.YtggdbceommmllaaDoor
open Go.RowKit
namespace P3
open P2 PC

def nameS (op : Nat) : ByteArray := ⟨(nameL op).toArray⟩
def formV (op : Nat) : List Value := (formsN op).map fun f => .int .u8 (f : Nat)
def entV (op : Nat) : List Value := .string (nameS op) :: formV op
def tabE : Array Value := ((List.range 17).flatMap entV).toArray
def zerE : Array Value := ((List.range 17).flatMap fun _ => [Value.string ⟨#[]⟩, .int .u8 0, .int .u8 0, .int .u8 0, .int .u8 0]).toArray
theorem zerE_info : (Tryd.prog.info? 70).map (fun i => (i.zero, i.size)) = some (some (.agg zerE), 85) := by kernel_rfl
set_option maxRecDepth 100000 in
set_option maxHeartbeats 4000000 in
theorem entries_any (w : World) : Calls Tryd.prog 30 #[] w fun e w' => e = .returned (.agg tabE) ∧ Below w.heap.size w w' := by
  have hz := (zero_of_info zerE_info).1
  go_enter Tryd.func30, Tryd.ntmps30
  go_wp2_with (first
    | (refine wpList_build rfl 70 _ rfl (.agg tabE) (by kernel_rfl) ?_)
    | (refine wpList_store_new rfl 70 70 _ _ rfl zerE tabE w.heap.size (by simp) rfl rfl (by kernel_rfl) (by kernel_rfl) (by kernel_rfl) ?_))
  exact bodyPost_ret (results_cell_one rfl _ _ w.heap.size 70 tabE (0, 0) _ rfl (heap_alloc_last w _) Tryd.underlying70 rfl (by kernel_rfl)) rfl ⟨rfl, by go_grown⟩
end P3
end Go.Proofs.YtggdbceommmllaaDoor
