/- Audit: what spoil turns, plain. -/
import Derived.Test.YtajbchecjbddgaaDoorVd
namespace Go.Proofs.YtajbchecjbddgaaDoor
open Go.RowKit
namespace P20
open P7

/-- What spoil may have turned: of the blocks from base up to hi what they hold, not their shape; of workers' blocks nothing. -/
structure Spl (base hi : Nat) (W0 W : World) : Prop where
  out : ∀ k : Nat, k < W0.heap.size → (k < base ∨ hi ≤ k) → W.heap[k]? = W0.heap[k]?
  shape : ∀ (k : Nat) (cur : Array Value) (t : TypeId), W0.heap[k]? = some (.cells cur t (0, 0)) → ∃ cur', W.heap[k]? = some (.cells cur' t (0, 0)) ∧ cur'.size = cur.size
  wk : ∀ (k : Nat) (cur : Array Value) (fr : Nat × Nat), W0.heap[k]? = some (.cells cur 56 fr) → W.heap[k]? = some (.cells cur 56 fr)
  low : Below base W0 W
section
variable {base hi : Nat} {W0 W W' : World}
theorem Spl.refl : Spl base hi W W := ⟨fun _ _ _ => rfl, fun _ cur _ h => ⟨cur, h, rfl⟩, fun _ _ _ h => h, Below.refl _ _⟩
theorem Spl.next (h : Spl base hi W0 W) (hb : Below W.heap.size W W') (hl : base ≤ W0.heap.size) : Spl base hi W0 W' where
  out k hk hc := (hb.block k (Nat.lt_of_lt_of_le hk h.low.size)).trans (h.out k hk hc)
  shape k cur t hc := by
    obtain ⟨c', h1, h2⟩ := h.shape k cur t hc
    exact ⟨c', blk_next h1 hb, h2⟩
  wk k cur fr hc := blk_next (h.wk k cur fr hc) hb
  low := h.low.trans (Below.mono hb (Nat.le_trans hl h.low.size))
theorem Spl.store {g j : Nat} {cur : Array Value} {t : TypeId} (h : Spl base hi W0 W) (hg : W.heap[g]? = some (.cells cur t (0, 0))) (ht : t ≠ 56) (h1 : base ≤ g) (h2 : g < hi) (v : Value) : Spl base hi W0 (W.setCell ⟨g, j, none⟩ v) where
  out k hk hc := (setCell_away W ⟨g, j, none⟩ v (by show k ≠ g; omega)).trans (h.out k hk hc)
  shape k cur0 t0 hc := by
    obtain ⟨c', h1', h2'⟩ := h.shape k cur0 t0 hc
    by_cases e : k = g
    · subst e
      rw [hg] at h1'
      injection h1' with h1'
      injection h1' with e1 e2 _
      subst e1 e2
      exact ⟨cur.setIfInBounds j v, by simp [World.setCell, Array.getElem?_modify, hg], by simpa using h2'⟩
    · exact ⟨c', (setCell_away W ⟨g, j, none⟩ v e).trans h1', h2'⟩
  wk k cur0 fr hc := by
    have hw := h.wk k cur0 fr hc
    refine (setCell_away W ⟨g, j, none⟩ v (fun e => ?_)).trans hw
    have e : k = g := e
    subst e
    rw [hw] at hg
    injection hg with hg
    injection hg with _ hg _
    exact ht hg.symm
  low := h.low.setCell (p := ⟨g, j, none⟩) h1 v
/-- A cell of a block that has the shape it had. -/
theorem Spl.cell {g n : Nat} {cur : Array Value} {t : TypeId} (h : Spl base hi W0 W) (hg : W0.heap[g]? = some (.cells cur t (0, 0))) (hn : n ≤ cur.size) : ∃ cur', W.heap[g]? = some (.cells cur' t (0, 0)) ∧ ∀ j, j < n → (∃ u, W.cell? ⟨g, j, none⟩ = some u) ∧ W.frozen? ⟨g, j, none⟩ = false := by
  obtain ⟨c', h1, h2⟩ := h.shape g cur t hg
  refine ⟨c', h1, fun j hj => ⟨?_, by simp [World.frozen?, h1]⟩⟩
  rw [cell_of_row _ _ _ _ _ _ h1]
  exact ⟨c'[j]'(by omega), by simp [show j < c'.size by omega]⟩
end
/-- A shot's three cells. -/
def shC (x : Sh × Value × Value × Value) : List Value := [x.2.1, x.2.2.1, x.2.2.2]
/-- A row of the call's own, seen from a later world. -/
theorem own_there {v w : World} {base e size n : Nat} {x : Value} {xs : List Value} (h : v.ownsRow base e size x n xs) (hk : ∀ k, base ≤ k → k < v.heap.size → w.heap[k]? = v.heap[k]?) :
    ∃ A c, x = .slice A n c ∧ (0 < n → ∃ g off cur, A = some ⟨g, off, none⟩ ∧ off = 0 ∧ base ≤ g ∧ g < v.heap.size ∧ w.heap[g]? = some (.cells cur e (0, 0)) ∧ n * size ≤ cur.size ∧ ∀ j u, xs[j]? = some u → w.cell? ⟨g, j, none⟩ = some u) := by
  obtain ⟨A, c, rfl, -, hA⟩ := own_view h
  refine ⟨A, c, rfl, fun h0 => ?_⟩
  obtain ⟨g, cur, rfl, h1, h2, h3, h4, h5⟩ := hA h0
  have hw := (hk g h1 h2).trans h3
  refine ⟨g, 0, cur, rfl, rfl, h1, h2, hw, h4, fun j u hj => ?_⟩
  rw [← h5 j u hj, cell_of_row _ _ _ _ _ _ hw, cell_of_row _ _ _ _ _ _ h3]
end P20
end Go.Proofs.YtajbchecjbddgaaDoor
