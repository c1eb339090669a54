/- Audit: See. -/
import Derived.Test.YtajbchecjbddgaaDoorVi
import Derived.Test.YtajbchecjbddgaaDoorUt
namespace Go.Proofs.YtajbchecjbddgaaDoor
open Go.RowKit
namespace P20
open P7

/-- What See leaves: the block of the Audit turned, all else that was there as it was. -/
structure SeeP (w : World) (g : Nat) (n x' : Int) (keep : Bool) (lr ls lw : Value) (s : Sh) (w' : World) : Prop where
  blk : ∃ ur us uw, w'.heap[g]? = some (.cells (auC ur us uw (n + 1) x') 83 (0, 0)) ∧ (∃ A m c B k d C j e, ur = .slice A m c ∧ us = .slice B k d ∧ uw = .slice C j e) ∧ (keep = false → OwnS w.heap.size w' ur us uw s)
  old : ∀ k, k ≠ g → k < w.heap.size → w'.heap[k]? = w.heap[k]?
  low : Below g w w'
set_option maxRecDepth 100000 in
set_option maxHeartbeats 16000000 in
/-- See where an error stands already. -/
theorem seeBad_any {w : World} {g : Nat} {A B C : Option Addr} {m c k d j q : Nat} {n x : Int} {vr vs vw : Value} {s : Sh} (h : w.heap[g]? = some (.cells (auC (.slice A m c) (.slice B k d) (.slice C j q) n x) 83 (0, 0))) (hx : x ≠ 0) (hn : 0 ≤ n) (hn2 : n ≤ 1000) :
    Calls Tryd.prog 22 #[.pointer (some ⟨g, 0, none⟩), .agg #[vr, vs, vw]] w fun e w' => e = .returned (.int .i64 x) ∧ SeeP w g n x true (.slice A m c) (.slice B k d) (.slice C j q) s w' := by
  have hg := lt_of_block h
  obtain ⟨V, hV⟩ := name_of (w.alloc (.cells #[vr, vs, vw] 31))
  have hbV : Below w.heap.size w V := by rw [← hV]; exact (Below.refl _ _).alloc (Nat.le_refl _) _
  have hgV := blk_next h hbV
  have q3 : V.cell? ⟨g, 3, none⟩ = some (.int .i64 n) := (cell_of_row _ _ _ _ _ _ hgV).trans rfl
  have q4 : V.cell? ⟨g, 4, none⟩ = some (.int .i64 x) := (cell_of_row _ _ _ _ _ _ hgV).trans rfl
  have z3 : V.frozen? ⟨g, 3, none⟩ = false := by simp [World.frozen?, hgV]
  have f1 : (x != 0) = true := by simpa using hx
  clear hx h
  go_enter Tryd.func22, Tryd.ntmps22
  go_wp2_with fail
  go_ret
  refine ⟨rfl, ⟨⟨.slice A m c, .slice B k d, .slice C j q, ?_, ⟨A, m, c, B, k, d, C, j, q, rfl, rfl, rfl⟩, fun h => by cases h⟩, fun i hi hw => ?_, ?_⟩⟩
  · simp [World.setCell, Array.getElem?_modify, hgV, auC]
  · exact (setCell_away V ⟨g, 3, none⟩ _ hi).trans (hbV.block i hw)
  · exact (Below.mono hbV (Nat.le_of_lt hg)).setCell (p := ⟨g, 3, none⟩) (Nat.le_refl _) _
end P20
end Go.Proofs.YtajbchecjbddgaaDoor
