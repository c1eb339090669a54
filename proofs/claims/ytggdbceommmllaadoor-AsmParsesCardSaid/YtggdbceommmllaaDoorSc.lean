/- A store of one cell into a place that is known: what it leaves; no chapter's own. -/
import Derived.Test.YtggdbceommmllaaDoorPc
import Derived.Deep.MidRow
namespace Go.Proofs.YtggdbceommmllaaDoor
open Go.RowKit
namespace PC
section
variable {P : Program}
theorem run_storeVar_cell (w : World) (b o : Nat) (ty : TypeId) (v : Value) (hc : (w.cell? ⟨b, o, none⟩).isSome = true) (hf : w.frozen? ⟨b, o, none⟩ = false) (hi : (P.info? ty).map (·.size) = some 1)
    (h1 : v.oneCell' = true) : (storeVar ty ⟨b, o, none⟩ v).run P w = .ok () (w.setCell ⟨b, o, none⟩ v) := by
  have := run_storeCells_cells (P := P) b o [v] 0 w (fun j hj => by
    have : j = 0 := by simpa using hj
    subst this
    exact hc) (fun j hj => by
    have : j = 0 := by simpa using hj
    subst this
    exact hf) (fun x hx => by simp at hx; subst hx; exact h1)
  have hcs : v.cells = #[v] := by cases v <;> first | rfl | cases h1
  cases hq : P.info? ty with
  | none => simp [hq] at hi
  | some i =>
    have hs : i.size = 1 := by simpa [hq] using hi
    simp only [Nat.add_zero] at this
    simp [storeVar, sizeOf, typeInfo, hq, hcs, hs, this, World.setCells]
theorem wpList_store_cell {ops : Array Oper} {rest : List Oper} {o : Oper} {a : Act} {w : World} {Q : Exit → Act → World → Prop} (hgd : o.guard = none)
    (ty : TypeId) (x y : Operand) (ho : o.op = .store ty x y) (g j : Nat) (hx : a.eval x = .pointer (some ⟨g, j, none⟩)) (v : Value) (hy : a.eval y = v)
    (cs : Array Value) (t : TypeId) (hg : w.heap[g]? = some (.cells cs t (0, 0))) (hj : j < cs.size) (hi : (P.info? ty).map (·.size) = some 1) (h1 : v.oneCell' = true)
    (h : ∀ w', w'.heap[g]? = some (.cells (cs.setIfInBounds j v) t (0, 0)) → (∀ k, k ≠ g → w'.heap[k]? = w.heap[k]?) → w'.heap.size = w.heap.size → Below g w w' → wpList P ops Q rest (a.put o.dst undef) w') :
    wpList P ops Q (o :: rest) a w :=
  wpList_plain hgd fun _ hK => by
    have hc := cell_of_row w g j cs t (0, 0) hg
    have hb := (Below.refl g w).setCell (p := ⟨g, j, none⟩) (Nat.le_refl _) v
    unfold Oper.wp execOp
    simp only [ho, hx, hy, Instr.storeAt, Instr.sureAddr, Sem.run_bind, Sem.run_pure, Result.andThen_ok, run_storeVar_cell w g j ty v (by rw [hc]; simp [hj]) (by simp [World.frozen?, hg]) hi h1]
    exact hK _ _ (h _ (by simp [World.setCell, Array.getElem?_modify, hg]) (fun k hk => Below.heap_setCell w ⟨g, j, none⟩ v k hk) (by simp [World.setCell]) hb)
end
end PC
end Go.Proofs.YtggdbceommmllaaDoor
