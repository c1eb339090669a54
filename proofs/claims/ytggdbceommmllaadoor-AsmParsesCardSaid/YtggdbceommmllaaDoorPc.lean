/- Common words: rows of the call's own, strings, worlds; no chapter's own. -/
import Derived.Test.YtggdbceommmllaaDoorOw
import Derived.Test.YtggdbceommmllaaDoorRg
import Derived.OneCell
namespace Go.Proofs.YtggdbceommmllaaDoor
open Go.RowKit

theorem _root_.Go.Proofs.YtggdbceommmllaaDoor.Sl.new (w : World) {size : Nat} {xs : List Value} (cs : Array Value) (t : TypeId) (n k : Nat) (hk : k = w.heap.size) (hs : cs.size = n * size) (hx : xs = cs.toList) :
    Sl (w.alloc (.cells cs t)) (w.alloc (.cells cs t)).heap.size size (.slice (some ⟨k, 0, none⟩) n n) xs := by subst hk; subst hx; exact Sl.lit w cs t n hs (by simp)
namespace PC
theorem name_of {α : Type} (a : α) : ∃ x, a = x := ⟨a, rfl⟩
theorem blk_next {w w' : World} {g : Nat} {o : Obj} (h : w.heap[g]? = some o) (hb : Below w.heap.size w w') : w'.heap[g]? = some o := (hb.block _ (lt_of_block h)).trans h
theorem below_drew' {w : World} : Below w.heap.size w w.drew := ⟨rfl, rfl, rfl, Nat.le_refl _, fun _ _ => rfl⟩
theorem below_drewn {w : World} (n : Nat) : Below w.heap.size w (w.drewN n) := below_drewN (Below.refl _ _) n
theorem own_below {w w' : World} {base e size n : Nat} {v : Value} {xs : List Value} (h : w.ownsRow base e size v n xs) (hb : Below w.heap.size w w') : w'.ownsRow base e size v n xs :=
  h.kept (row := none) ⟨hb.os, hb.tape, hb.output, hb.size, fun k hk _ => hb.block k hk⟩ (by
    rcases h.2 with ⟨rfl, _⟩ | ⟨g, cap, cur, rfl, _⟩
    · exact .inl rfl
    · right; simp [Value.ownBlock])
theorem own_len {w : World} {base e size n m : Nat} {v : Value} {xs ys : List Value} (h : w.ownsRow base e size v n xs) (hn : n = m) (hx : xs = ys) : w.ownsRow base e size v m ys := by subst hn; subst hx; exact h

theorem grown_of_below {w w' : World} (hb : Below w.heap.size w w') : w.grownBy w' none := ⟨hb.os, hb.tape, hb.output, hb.size, fun k hk _ => hb.block k hk⟩
theorem own_slice {w : World} {base e size n : Nat} {v : Value} {xs : List Value} (h : w.ownsRow base e size v n xs) : ∃ A m c, v = .slice A m c := by
  rcases h.2 with ⟨rfl, _⟩ | ⟨g, cap, cur, rfl, _⟩ <;> exact ⟨_, _, _, rfl⟩
theorem own_one {w : World} {base e size n : Nat} {v : Value} {xs : List Value} (h : w.ownsRow base e size v n xs) : v.oneCell' = true := by
  rcases h.2 with ⟨rfl, _⟩ | ⟨g, cap, cur, rfl, _⟩ <;> rfl
theorem own_mono {w : World} {base B e size n : Nat} {v : Value} {xs : List Value} (h : w.ownsRow base e size v n xs) (hb : B ≤ base) : w.ownsRow B e size v n xs :=
  ⟨h.1, h.2.imp id fun ⟨g, cap, cur, a, b, c⟩ => ⟨g, cap, cur, a, Nat.le_trans hb b, c⟩⟩
theorem own_kept {w w' : World} {B e size n : Nat} {x : Value} {xs : List Value} {row : Option Nat} (h : w.ownsRow B e size x n xs) (hg : w.grownBy w' row) (hr : ∀ g, row = some g → ∃ cs t fr, w.heap[g]? = some (.cells cs t fr) ∧ e ≠ t) : w'.ownsRow B e size x n xs := by
  refine h.kept hg ?_
  rcases row with _ | g
  · cases hx : x.ownBlock
    · exact .inl rfl
    · exact .inr (by simp)
  · obtain ⟨cs, t, fr, hh, hne⟩ := hr g rfl
    exact .inr fun e => own_ne h hh hne e.symm

/-- Rows of numbers. -/
def iv (l : List Nat) : List Value := l.map fun k => Value.int .i64 (k : Nat)
@[simp] theorem iv_length (l : List Nat) : (iv l).length = l.length := by simp [iv]
theorem iv_append (l m : List Nat) : iv (l ++ m) = iv l ++ iv m := by simp [iv]
theorem iv_one (l : List Nat) : ∀ u ∈ iv l, u.oneCell' = true := by
  intro u hu
  obtain ⟨x, _, rfl⟩ := List.mem_map.1 hu
  rfl
theorem range_iv {w : World} {b off : Nat} {l : List Nat} (h : w.rangeAt b off (iv l)) (j : Nat) (hj : j < l.length) : w.cell? ⟨b, off + j, none⟩ = some (.int .i64 (l.getD j 0 : Nat)) := by
  refine h j _ ?_
  simp [iv, List.getD_eq_getElem?_getD, List.getElem?_eq_getElem hj]
theorem info_int : (Tryd.prog.info? 3).map (fun i => (i.zero, i.size, i.bytes)) = some (some (.int .i64 0), 1, 8) := by kernel_rfl

/-! ### strings -/
theorem str_inj {s t : ByteArray} (h : s.toList = t.toList) : s = t := by
  rw [ByteArray.toList_eq, ByteArray.toList_eq] at h
  have := Array.toList_inj.1 h
  obtain ⟨d⟩ := s
  obtain ⟨d'⟩ := t
  simp only at this
  rw [this]
theorem str_beq (s : ByteArray) : (s.toList == s.toList) = true := beq_iff_eq.2 rfl
theorem str_bne {s t : ByteArray} (h : s ≠ t) : (s.toList == t.toList) = false := by
  rw [beq_eq_false_iff_ne]
  exact fun e => h (str_inj e)
theorem str_dec (s t : ByteArray) : (s.toList == t.toList) = decide (s = t) := by
  by_cases h : s = t
  · rw [h, str_beq, decide_eq_true rfl]
  · rw [str_bne h, decide_eq_false h]
theorem bs_append (l m : List UInt8) : (⟨l.toArray⟩ : ByteArray) ++ ⟨m.toArray⟩ = ⟨(l ++ m).toArray⟩ := by
  apply ByteArray.ext
  simp
theorem bs_list (s : ByteArray) : (⟨s.data.toList.toArray⟩ : ByteArray) = s := rfl
theorem bs_inj {l m : List UInt8} (h : (⟨l.toArray⟩ : ByteArray) = ⟨m.toArray⟩) : l = m := by
  injection h with h
  simpa using h
theorem str_nil {c : ByteArray} (h : c.size = 0) : c.data.toList = [] := List.eq_nil_of_length_eq_zero (by simpa using h)
theorem str_empty' {c : ByteArray} (h : c.size = 0) : c.toList = [] := by rw [ByteArray.toList_eq, str_nil h]
theorem str_empty {c : ByteArray} (h : c.size = 0) : (!c.toList.isEmpty) = false := by rw [str_empty' h]; rfl
theorem str_full' {c : ByteArray} (h : ¬ c.size = 0) : c.toList.isEmpty = false := by
  rw [ByteArray.toList_eq]
  cases hl : c.data.toList with
  | nil => exact absurd (by have : c.data.toList.length = 0 := by rw [hl]; rfl
                            simpa using this) h
  | cons => rfl
theorem str_full {c : ByteArray} (h : ¬ c.size = 0) : (!c.toList.isEmpty) = true := by rw [str_full' h]; rfl
end PC
end Go.Proofs.YtggdbceommmllaaDoor
