/- Words for memory: a slice value that reads as a list of cells; how such readings are kept. -/
import Derived.Test.YtggdbceommmllaaDoorK
import Derived.Deep.QuietTactic
import Derived.BigQuiet
namespace Go.Proofs.YtggdbceommmllaaDoor
open Go.RowKit

theorem ret_int {k : IntKind} {a b : Int} (h : a = b) : Ending.returned (.int k a) = Ending.returned (.int k b) := by rw [h]
theorem ret_bool {a b : Bool} (h : a = b) : Ending.returned (.bool a) = Ending.returned (.bool b) := by rw [h]
theorem _root_.Go.RowKit.Below.of_alloc {w w1 : World} {o : Obj} (hb : Below (w.alloc o).heap.size (w.alloc o) w1) : Below w.heap.size w w1 :=
  ((Below.refl _ _).alloc (Nat.le_refl _) o).trans (hb.mono (by simp))
/-- One call behind another one: nothing below the first world's size has turned. -/
theorem _root_.Go.RowKit.Below.next {a b c : World} (h : Below a.heap.size a b) (k : Below b.heap.size b c) : Below a.heap.size a c := h.trans (k.mono h.size)

/-- The slice value v reads as the cells xs ('size' cells an element), all below block B. -/
def Sl (w : World) (B size : Nat) (v : Value) (xs : List Value) : Prop :=
  ∃ A n c, v = .slice A n c ∧ n ≤ c ∧ xs.length = n * size ∧ (0 < n → ∃ b off, A = some ⟨b, off, none⟩ ∧ b < B ∧ w.rangeAt b off xs)

section
variable {w w' : World} {B B' size : Nat} {v : Value} {xs : List Value}
theorem range_keep {b off : Nat} (h : w.rangeAt b off xs) (hk : ∀ o, w'.cell? ⟨b, o, none⟩ = w.cell? ⟨b, o, none⟩) : w'.rangeAt b off xs := fun j u hj => (hk _).trans (h j u hj)
theorem Sl.keep (h : Sl w B size v xs) (hk : ∀ b o, b < B → w'.cell? ⟨b, o, none⟩ = w.cell? ⟨b, o, none⟩) : Sl w' B size v xs := by
  obtain ⟨A, n, c, h1, h2, h3, h4⟩ := h
  refine ⟨A, n, c, h1, h2, h3, fun hn => ?_⟩
  obtain ⟨b, off, e, hb, hr⟩ := h4 hn
  exact ⟨b, off, e, hb, range_keep hr fun o => hk b o hb⟩
theorem Sl.more (h : Sl w B size v xs) (hB : B ≤ B') : Sl w B' size v xs := by
  obtain ⟨A, n, c, h1, h2, h3, h4⟩ := h
  refine ⟨A, n, c, h1, h2, h3, fun hn => ?_⟩
  obtain ⟨b, off, e, hb, hr⟩ := h4 hn
  exact ⟨b, off, e, by omega, hr⟩
theorem Sl.below (h : Sl w B size v xs) (hb : Below B w w') : Sl w' B size v xs := h.keep fun b o hlt => hb.cell (p := ⟨b, o, none⟩) hlt
/-- At the heap's size: the reading behind a call. -/
theorem Sl.next (h : Sl w w.heap.size size v xs) (hb : Below w.heap.size w w') : Sl w' w'.heap.size size v xs := (h.below hb).more hb.size
theorem Sl.none_ : Sl w B size (.slice none 0 0) [] := ⟨none, 0, 0, rfl, Nat.le_refl _, by simp, fun h => absurd h (by omega)⟩
/-- A literal that was just laid. -/
theorem Sl.lit (w : World) (cs : Array Value) (t : TypeId) (n : Nat) (hs : cs.size = n * size) (hB : w.heap.size < B) : Sl (w.alloc (.cells cs t)) B size (.slice (some ⟨w.heap.size, 0, none⟩) n n) cs.toList := by
  refine ⟨_, n, n, rfl, Nat.le_refl _, by simpa using hs, fun _ => ⟨_, 0, rfl, hB, fun j u hj => ?_⟩⟩
  rw [cell_of_row _ _ _ cs t (0, 0) (heap_alloc_last w _)]
  simpa using hj
theorem Sl.own {base e n : Nat} (h : w.ownsRow base e size v n xs) : Sl w w.heap.size size v xs := by
  obtain ⟨h1, h2⟩ := h
  rcases h2 with ⟨rfl, rfl⟩ | ⟨g, cap, cur, rfl, hg, hh, hn, hc, hs, hx⟩
  · have : xs = [] := List.eq_nil_of_length_eq_zero (by simpa using h1)
    subst this
    exact Sl.none_
  · refine ⟨_, n, cap, rfl, hn, h1, fun _ => ⟨g, 0, rfl, lt_of_block hh, fun j u hj => ?_⟩⟩
    rw [cell_of_row _ _ _ cur e (0, 0) hh]
    subst hx
    rw [List.getElem?_take] at hj
    split at hj
    · simpa using hj
    · cases hj
theorem range_at {b off : Nat} (h : w.rangeAt b off xs) (j : Nat) (hj : j < xs.length) : w.cell? ⟨b, off + j, none⟩ = some xs[j] := h j _ (List.getElem?_eq_getElem hj)
end

def bv (l : List Int) : List Value := l.map (Value.int .u8)
@[simp] theorem bv_length (l : List Int) : (bv l).length = l.length := by simp [bv]
theorem range_bv {w : World} {b off : Nat} {l : List Int} (h : w.rangeAt b off (bv l)) (j : Nat) (hj : j < l.length) : w.cell? ⟨b, off + j, none⟩ = some (.int .u8 (l.getD j 0)) := by
  refine h j _ ?_
  simp [bv, List.getD_eq_getElem?_getD, List.getElem?_eq_getElem hj]
theorem take_ext {l m : List Int} {k : Nat} (hl : k < l.length) (hm : k < m.length) (h : l.take k = m.take k) (he : l.getD k 0 = m.getD k 0) : l.take (k + 1) = m.take (k + 1) := by
  simp only [List.getD_eq_getElem?_getD, List.getElem?_eq_getElem hl, List.getElem?_eq_getElem hm, Option.getD_some] at he
  rw [List.take_succ_eq_append_getElem hl, List.take_succ_eq_append_getElem hm, h, he]

end Go.Proofs.YtggdbceommmllaaDoor
