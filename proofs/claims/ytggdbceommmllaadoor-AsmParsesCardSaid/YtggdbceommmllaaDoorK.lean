/- Laws of one operation, met by name in a walk: a value that the kernel reckons; a whole row stored into the newest block; a part of it loaded. -/
import Derived.Test.YtggdbceommmllaaDoorProg
import Derived.Handy
import Derived.WalkLawsBesides
import Derived.WalkSpells
import Derived.Deep.WholeRow
import Derived.Deep.MidRow
namespace Go.Proofs.YtggdbceommmllaaDoor
open Go.RowKit

theorem wpList_build {P : Program} {ops : Array Oper} {rest : List Oper} {o : Oper} {a : Act} {w : World} {Q : Exit → Act → World → Prop} (hgd : o.guard = none)
    (t : TypeId) (parts : Array (Nat × Operand)) (ho : o.op = .build t parts) (v : Value) (hr : (Instr.build t (parts.map fun (i, x) => (i, a.eval x))).run P w = .ok v w)
    (h : wpList P ops Q rest (a.put o.dst v) w) : wpList P ops Q (o :: rest) a w :=
  wpList_plain hgd fun _ hK => by
    unfold Oper.wp execOp
    simp only [ho, Sem.run_bind, hr, Result.andThen_ok, Sem.run_pure]
    exact hK _ _ h

theorem wpList_store_new {P : Program} {ops : Array Oper} {rest : List Oper} {o : Oper} {a : Act} {w : World} {Q : Exit → Act → World → Prop} (hgd : o.guard = none)
    (t t' : TypeId) (x y : Operand) (ho : o.op = .store t x y) (c c' : Array Value) (n : Nat) (hn : n = w.heap.size) (hx : a.eval x = .pointer (some ⟨n, 0, none⟩)) (hy : a.eval y = .agg c')
    (hi : (P.info? t).map (·.size) = some c'.size) (hc : c.size = c'.size) (h1 : c'.all (·.oneCell') = true)
    (h : wpList P ops Q rest (a.put o.dst undef) (w.alloc (.cells c' t'))) : wpList P ops Q (o :: rest) a (w.alloc (.cells c t')) := by
  subst hn
  refine wpList_plain hgd fun _ hK => ?_
  unfold Oper.wp execOp
  have hs : (storeVar t ⟨w.heap.size, 0, none⟩ (.agg c')).run P (w.alloc (.cells c t')) = .ok () (w.alloc (.cells c' t')) := by
    rw [run_storeVar_row _ _ t' t c c' (heap_alloc_last w _) hi hc h1, World.setRow_alloc_new]
  simp only [ho, hx, hy, Instr.storeAt, Instr.sureAddr, Sem.run_bind, Sem.run_pure, Result.andThen_ok, hs]
  exact hK _ _ h

theorem wpList_load_new {P : Program} {ops : Array Oper} {rest : List Oper} {o : Oper} {a : Act} {w : World} {Q : Exit → Act → World → Prop} (hgd : o.guard = none)
    (ty t' : TypeId) (x : Operand) (ho : o.op = .load ty x) (c : Array Value) (n off : Nat) (hn : n = w.heap.size) (hx : a.eval x = .pointer (some ⟨n, off, none⟩)) (cs : List Value) (d : TypeDesc)
    (hu : P.underlying ty = some d) (hd : d.isRow = true) (hi : (P.info? ty).map (·.size) = some cs.length) (hcs : ∀ j v, cs[j]? = some v → c[off + j]? = some v)
    (h : wpList P ops Q rest (a.put o.dst (.agg cs.toArray)) (w.alloc (.cells c t'))) : wpList P ops Q (o :: rest) a (w.alloc (.cells c t')) :=
  wpList_load_mid hgd ty x ho n off hx cs d (fun j v hj => by rw [World.cell?_alloc_at _ _ _ _ hn]; exact hcs j v hj) hu hd hi h

/-- What was the newest block is still there behind a call that turned nothing below. -/
theorem newest_kept {w w1 : World} {o : Obj} {B : Nat} (hb : Below B (w.alloc o) w1) (hB : B = w.heap.size + 1) : w1.heap[w.heap.size]? = some o :=
  (hb.block _ (by omega)).trans (heap_alloc_last w o)
theorem newest_cells {w w1 : World} {cs : Array Value} {t : TypeId} {B : Nat} (hb : Below B (w.alloc (.cells cs t)) w1) (hB : B = w.heap.size + 1) :
    ∀ j, w1.cell? ⟨w.heap.size, j, none⟩ = cs[j]? := fun j => cell_of_row w1 _ j cs t (0, 0) (newest_kept hb hB)
theorem below_size {w w1 : World} {o : Obj} {B : Nat} (hb : Below B (w.alloc o) w1) : w.heap.size < w1.heap.size := by
  have := hb.size
  simp at this
  omega

end Go.Proofs.YtggdbceommmllaaDoor
