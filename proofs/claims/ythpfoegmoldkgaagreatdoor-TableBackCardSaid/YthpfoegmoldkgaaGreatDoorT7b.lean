/- Rows of a table in memory. -/
import Derived.Test.YthpfoegmoldkgaaGreatDoorT7a
import Derived.Test.YthpfoegmoldkgaaGreatDoorN
import Derived.OneCell
namespace Go.Proofs.YthpfoegmoldkgaaGreatDoor
open Go.RowKit
namespace P7

theorem name_of {α : Type} (a : α) : ∃ x, a = x := ⟨a, rfl⟩
theorem blk_next {w w' : World} {g : Nat} {o : Obj} (h : w.heap[g]? = some o) (hb : Below w.heap.size w w') : w'.heap[g]? = some o := (hb.block _ (lt_of_block h)).trans h

def rowC (r : Row) : List Value := [.int .i64 r.p, .int .i64 r.i, .int .i64 r.f, .int .i64 r.k, .int .i64 r.v, .int .i64 r.s, .string r.c]
def rowV (r : Row) : Value := .agg #[.int .i64 r.p, .int .i64 r.i, .int .i64 r.f, .int .i64 r.k, .int .i64 r.v, .int .i64 r.s, .string r.c]
def rowsC (l : List Row) : List Value := l.flatMap rowC
theorem rowC_length (r : Row) : (rowC r).length = 7 := rfl
theorem rowsC_length (l : List Row) : (rowsC l).length = l.length * 7 := flat_length rowC 7 rowC_length l
theorem rowsC_one (l : List Row) : ∀ u ∈ rowsC l, u.oneCell' = true := by
  intro u hu
  obtain ⟨r, _, hr⟩ := List.mem_flatMap.1 hu
  simp only [rowC, List.mem_cons, List.not_mem_nil, or_false] at hr
  rcases hr with h | h | h | h | h | h | h <;> subst h <;> rfl
/-- A row's seven cells. -/
def RowAt (w : World) (b o : Nat) (r : Row) : Prop :=
  w.cell? ⟨b, o, none⟩ = some (.int .i64 r.p) ∧ w.cell? ⟨b, o + 1, none⟩ = some (.int .i64 r.i) ∧ w.cell? ⟨b, o + 2, none⟩ = some (.int .i64 r.f) ∧ w.cell? ⟨b, o + 3, none⟩ = some (.int .i64 r.k) ∧
  w.cell? ⟨b, o + 4, none⟩ = some (.int .i64 r.v) ∧ w.cell? ⟨b, o + 5, none⟩ = some (.int .i64 r.s) ∧ w.cell? ⟨b, o + 6, none⟩ = some (.string r.c)
section
variable {w w' : World} {B : Nat} {v : Value} {l : List Row}
theorem RowAt.keep {b o : Nat} {r : Row} (h : RowAt w b o r) (hk : ∀ j, w'.cell? ⟨b, j, none⟩ = w.cell? ⟨b, j, none⟩) : RowAt w' b o r := by
  obtain ⟨h0, h1, h2, h3, h4, h5, h6⟩ := h
  exact ⟨(hk _).trans h0, (hk _).trans h1, (hk _).trans h2, (hk _).trans h3, (hk _).trans h4, (hk _).trans h5, (hk _).trans h6⟩
theorem RowAt.below {b o : Nat} {r : Row} (h : RowAt w b o r) (hb : Below B w w') (hlt : b < B) : RowAt w' b o r := h.keep fun j => hb.cell (p := ⟨b, j, none⟩) hlt
theorem rows_open (h : Sl w B 7 v (rowsC l)) : ∃ A c, v = .slice A l.length c ∧ l.length ≤ c ∧ ∀ k, k < l.length → ∃ b off, A = some ⟨b, off, none⟩ ∧ b < B ∧ RowAt w b (off + k * 7) (at_ l k) := by
  obtain ⟨A, n, c, rfl, hnc, hn, hA⟩ := h
  rw [rowsC_length] at hn
  have hnl : n = l.length := by omega
  subst hnl
  refine ⟨A, c, rfl, hnc, fun k hk => ?_⟩
  obtain ⟨b, off, rfl, hb, hr⟩ := hA (by omega)
  have hg : ∀ j, j < 7 → (rowsC l)[k * 7 + j]? = (rowC (at_ l k))[j]? := fun j hj => by
    rw [rowsC, flat_get rowC 7 rowC_length l k j hj, List.getElem?_eq_getElem hk, at_eq hk]; rfl
  have hc : ∀ j u, j < 7 → (rowC (at_ l k))[j]? = some u → w.cell? ⟨b, off + k * 7 + j, none⟩ = some u := fun j u hj hu => by
    rw [Nat.add_assoc]; exact hr (k * 7 + j) u ((hg j hj).trans hu)
  exact ⟨b, off, rfl, hb, hc 0 _ (by omega) rfl, hc 1 _ (by omega) rfl, hc 2 _ (by omega) rfl, hc 3 _ (by omega) rfl, hc 4 _ (by omega) rfl, hc 5 _ (by omega) rfl, hc 6 _ (by omega) rfl⟩
/-- What is known of a row that came in. -/
structure RowWf (r : Row) : Prop where
  p : -9223372036854775808 ≤ r.p ∧ r.p ≤ 9223372036854775807
  i : -9223372036854775808 ≤ r.i ∧ r.i ≤ 9223372036854775807
  f : -9223372036854775808 ≤ r.f ∧ r.f ≤ 9223372036854775807
  k : -9223372036854775808 ≤ r.k ∧ r.k ≤ 9223372036854775807
  v : -9223372036854775808 ≤ r.v ∧ r.v ≤ 9223372036854775807
  s : -9223372036854775808 ≤ r.s ∧ r.s ≤ 9223372036854775807
  c : r.c.size ≤ 9223372036854775807
/-- A slice of rows in memory. -/
structure Rws (w : World) (v : Value) (l : List Row) : Prop where
  sl : Sl w w.heap.size 7 v (rowsC l)
  len : l.length ≤ 9223372036854775807
  wf : ∀ r ∈ l, RowWf r
theorem Rws.next (h : Rws w v l) (hb : Below w.heap.size w w') : Rws w' v l := ⟨h.sl.next hb, h.len, h.wf⟩
theorem Rws.wfAt (h : Rws w v l) {k : Nat} (hk : k < l.length) : RowWf (at_ l k) := by rw [at_eq hk]; exact h.wf _ (List.getElem_mem hk)
end
end P7
end Go.Proofs.YthpfoegmoldkgaaGreatDoor
