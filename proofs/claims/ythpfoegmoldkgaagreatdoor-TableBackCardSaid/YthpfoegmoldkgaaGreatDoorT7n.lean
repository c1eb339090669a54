/- Words for memory: rows of the call's own. -/
import Derived.Test.YthpfoegmoldkgaaGreatDoorT7b
namespace Go.Proofs.YthpfoegmoldkgaaGreatDoor
open Go.RowKit

theorem _root_.Go.Proofs.YthpfoegmoldkgaaGreatDoor.Sl.new (w : World) {size : Nat} {xs : List Value} (cs : Array Value) (t : TypeId) (n k : Nat) (hk : k = w.heap.size) (hs : cs.size = n * size) (hx : xs = cs.toList) :
    Sl (w.alloc (.cells cs t)) (w.alloc (.cells cs t)).heap.size size (.slice (some ⟨k, 0, none⟩) n n) xs := by subst hk; subst hx; exact Sl.lit w cs t n hs (by simp)
namespace P7
theorem own_below {w w' : World} {base e size n : Nat} {v : Value} {xs : List Value} (h : w.ownsRow base e size v n xs) (hb : Below w.heap.size w w') : w'.ownsRow base e size v n xs :=
  h.kept (row := none) ⟨hb.os, hb.tape, hb.output, hb.size, fun k hk _ => hb.block k hk⟩ (by
    rcases h.2 with ⟨rfl, _⟩ | ⟨g, cap, cur, rfl, _⟩
    · exact .inl rfl
    · right; simp [Value.ownBlock])
theorem own_len {w : World} {base e size n m : Nat} {v : Value} {xs ys : List Value} (h : w.ownsRow base e size v n xs) (hn : n = m) (hx : xs = ys) : w.ownsRow base e size v m ys := by subst hn; subst hx; exact h

theorem grown_of_below {w w' : World} (hb : Below w.heap.size w w') : w.grownBy w' none := ⟨hb.os, hb.tape, hb.output, hb.size, fun k hk _ => hb.block k hk⟩
theorem own_slice {w : World} {base e size n : Nat} {v : Value} {xs : List Value} (h : w.ownsRow base e size v n xs) : ∃ A m c, v = .slice A m c := by
  rcases h.2 with ⟨rfl, _⟩ | ⟨g, cap, cur, rfl, _⟩ <;> exact ⟨_, _, _, rfl⟩
theorem own_one {w : World} {base e size n : Nat} {v : Value} {xs : List Value} (h : w.ownsRow base e size v n xs) : v.oneCell' = true := by
  rcases h.2 with ⟨rfl, _⟩ | ⟨g, cap, cur, rfl, _⟩ <;> rfl
theorem own_mono {w : World} {base B e size n : Nat} {v : Value} {xs : List Value} (h : w.ownsRow base e size v n xs) (hb : B ≤ base) : w.ownsRow B e size v n xs :=
  ⟨h.1, h.2.imp id fun ⟨g, cap, cur, a, b, c⟩ => ⟨g, cap, cur, a, Nat.le_trans hb b, c⟩⟩
theorem own_kept {w w' : World} {B e size n : Nat} {x : Value} {xs : List Value} {row : Option Nat} (h : w.ownsRow B e size x n xs) (hg : w.grownBy w' row) (hr : ∀ g, row = some g → ∃ cs t fr, w.heap[g]? = some (.cells cs t fr) ∧ e ≠ t) : w'.ownsRow B e size x n xs := by
  refine h.kept hg ?_
  rcases row with _ | g
  · cases hx : x.ownBlock
    · exact .inl rfl
    · exact .inr (by simp)
  · obtain ⟨cs, t, fr, hh, hne⟩ := hr g rfl
    exact .inr fun e => own_ne h hh hne e.symm

/-- Rows of numbers. -/
def iv (l : List Nat) : List Value := l.map fun k => Value.int .i64 (k : Nat)
@[simp] theorem iv_length (l : List Nat) : (iv l).length = l.length := by simp [iv]
theorem iv_append (l m : List Nat) : iv (l ++ m) = iv l ++ iv m := by simp [iv]
theorem iv_one (l : List Nat) : ∀ u ∈ iv l, u.oneCell' = true := by
  intro u hu
  obtain ⟨x, _, rfl⟩ := List.mem_map.1 hu
  rfl
theorem range_iv {w : World} {b off : Nat} {l : List Nat} (h : w.rangeAt b off (iv l)) (j : Nat) (hj : j < l.length) : w.cell? ⟨b, off + j, none⟩ = some (.int .i64 (l.getD j 0 : Nat)) := by
  refine h j _ ?_
  simp [iv, List.getD_eq_getElem?_getD, List.getElem?_eq_getElem hj]
theorem info_int : (Tryz.prog.info? 3).map (fun i => (i.zero, i.size, i.bytes)) = some (some (.int .i64 0), 1, 8) := by kernel_rfl
end P7
end Go.Proofs.YthpfoegmoldkgaaGreatDoor
