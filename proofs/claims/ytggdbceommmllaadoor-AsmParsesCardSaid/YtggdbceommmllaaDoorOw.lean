/- Rows of the call's own: what is read, and what is stored. No program in sight. -/
import Derived.Test.YtggdbceommmllaaDoorN
namespace Go.Proofs.YtggdbceommmllaaDoor
open Go.RowKit

section
variable {w w' : World} {base size n : Nat} {e : TypeId} {v : Value} {xs : List Value}
theorem own_open (h : w.ownsRow base e size v n xs) (hn : 0 < n) : ∃ g cap, v = .slice (some ⟨g, 0, none⟩) n cap ∧ base ≤ g ∧ g < w.heap.size ∧ n ≤ cap ∧ (∀ j u, xs[j]? = some u → w.cell? ⟨g, j, none⟩ = some u) ∧ ∀ j, w.frozen? ⟨g, j, none⟩ = false := by
  rcases h.2 with ⟨rfl, h0⟩ | ⟨g, cap, cur, rfl, hg, hh, hnc, hc, hs, hx⟩
  · omega
  · refine ⟨g, cap, rfl, hg, lt_of_block hh, hnc, fun j u hj => ?_, fun j => ?_⟩
    · rw [cell_of_row _ _ _ cur e (0, 0) hh]
      subst hx
      rw [List.getElem?_take] at hj
      split at hj
      · simpa using hj
      · cases hj
    · simp [World.frozen?, hh]
theorem own_set {g cap : Nat} (h : w.ownsRow base e size (.slice (some ⟨g, 0, none⟩) n cap) n xs) (j : Nat) (u : Value) : (w.setCell ⟨g, j, none⟩ u).ownsRow base e size (.slice (some ⟨g, 0, none⟩) n cap) n (xs.set j u) := by
  refine ⟨by rw [List.length_set]; exact h.1, ?_⟩
  rcases h.2 with ⟨he, _⟩ | ⟨g', cap', cur, he, hg, hh, hnc, hc, hs, hx⟩
  · cases he
  · injection he with e1 e2 e3
    injection e1 with e1
    injection e1 with e1 e4
    subst e1 e3
    refine .inr ⟨g, cap, cur.setIfInBounds j u, rfl, hg, ?_, hnc, hc, by simpa using hs, ?_⟩
    · simp [World.setCell, Array.getElem?_modify, hh]
    · rw [Array.toList_setIfInBounds, List.take_set, hx]
theorem own_below_set {g : Nat} {B : Nat} {w0 : World} (hb : Below B w0 w) (hB : B ≤ g) (j : Nat) (u : Value) : Below B w0 (w.setCell ⟨g, j, none⟩ u) := hb.setCell (p := ⟨g, j, none⟩) hB u
theorem set_size (a : Addr) (u : Value) : (w.setCell a u).heap.size = w.heap.size := by simp [World.setCell]
end
/-- An empty literal. -/
theorem own_empty (w : World) (e : TypeId) (size base : Nat) (hb : base ≤ w.heap.size) : (w.alloc (.cells #[] e)).ownsRow base e size (.slice (some ⟨w.heap.size, 0, none⟩) 0 0) 0 [] :=
  ⟨by simp, .inr ⟨w.heap.size, 0, #[], rfl, hb, heap_alloc_last w _, Nat.le_refl _, by simp [maxLen], by simp, by simp⟩⟩
/-- A flat list of equal parts, one cell of one part set. -/
theorem flat_set {α : Type} (g : α → List Value) (m : Nat) (hg : ∀ a, (g a).length = m) (u : Value) : ∀ (l : List α) (q j : Nat) (a b : α), j < m → l[q]? = some a → (g a).set j u = g b → (l.flatMap g).set (q * m + j) u = (l.set q b).flatMap g
  | [], q, j, a, b, _, h, _ => by simp at h
  | c :: l, 0, j, a, b, hj, h, hs => by
    simp only [List.getElem?_cons_zero, Option.some.injEq] at h
    subst h
    rw [List.flatMap_cons, List.set_cons_zero, List.flatMap_cons, Nat.zero_mul, Nat.zero_add, List.set_append_left _ _ (by rw [hg]; exact hj), hs]
  | c :: l, q + 1, j, a, b, hj, h, hs => by
    rw [List.getElem?_cons_succ] at h
    rw [List.flatMap_cons, List.set_cons_succ, List.flatMap_cons, List.set_append_right _ _ (by rw [hg, Nat.succ_mul]; omega), hg, show (q + 1) * m + j - m = q * m + j by rw [Nat.succ_mul]; omega, flat_set g m hg u l q j a b hj h hs]
end Go.Proofs.YtggdbceommmllaaDoor
