/- Script: events, words, numbers, lines: plain, and the walks of word, Word, Number, Line. -/
import Derived.Test.YtkobmoabnnjejaaDoorPb
import Derived.Lib.AppendIntMem
import Derived.Lib.ItoaMem
import Derived.Lib.ItoaLen
import Derived.Lib.ItoaNum
namespace Go.Proofs.YtkobmoabnnjejaaDoor
open Go.RowKit
namespace P21
open PC

/-- What the script chapter asks of the library's variables. -/
structure Lab (w : World) : Prop where
  pow : Lib.TabIs Tryd.prog w "internal/strconv.uint64pow10" .u64 Lib.pow10Tab
  max : ∃ m : Int, w.cell? ⟨1, 0, none⟩ = some (.int .i64 m)
  syn : ∃ ev, w.cell? ⟨2, 0, none⟩ = some ev ∧ (ev = .nilIface ∨ ∃ te pe, ev = .iface te pe)
  rng : ∃ ev, w.cell? ⟨3, 0, none⟩ = some ev ∧ (ev = .nilIface ∨ ∃ te pe, ev = .iface te pe)
theorem Lab.next {w w' : World} (h : Lab w) (hb : Below w.heap.size w w') : Lab w' := by
  obtain ⟨h1, ⟨m, h2⟩, ⟨e, h3, h3'⟩, ⟨e', h4, h4'⟩⟩ := h
  exact ⟨Lib.tabBelow_of_tabIs h1 w' hb, ⟨m, (hb.cell (World.block_lt_of_cell? _ _ h2)).trans h2⟩, ⟨e, (hb.cell (World.block_lt_of_cell? _ _ h3)).trans h3, h3'⟩, ⟨e', (hb.cell (World.block_lt_of_cell? _ _ h4)).trans h4, h4'⟩⟩

/-! ### Plain -/
structure Ev where
  k : Int
  n : Int
theorem Ev.eq_iff (a b : Ev) : a = b ↔ a.k = b.k ∧ a.n = b.n := by
  constructor
  · rintro rfl; exact ⟨rfl, rfl⟩
  · obtain ⟨a1, a2⟩ := a
    obtain ⟨b1, b2⟩ := b
    rintro ⟨h1, h2⟩
    simp only at h1 h2
    subst h1 h2
    rfl
instance : DecidableEq Ev := fun a b => decidable_of_iff _ (Ev.eq_iff a b).symm
def wordL (k : Int) : List UInt8 := if k = 0 then [112, 105, 99, 107] else if k = 1 then [116, 105, 99, 107] else if k = 2 then [100, 114, 97, 119] else if k = 3 then [104, 97, 108, 116] else []
def wordS (k : Int) : ByteArray := ⟨(wordL k).toArray⟩
def lineL (e : Ev) : List UInt8 := wordL e.k ++ 32 :: Lib.itoa e.n
def okK (k : Int) : Prop := 0 ≤ k ∧ k ≤ 3
instance (k : Int) : Decidable (okK k) := inferInstanceAs (Decidable (_ ∧ _))
theorem wordL_none {k : Int} (h : ¬ okK k) : wordL k = [] := by
  unfold okK at h
  unfold wordL
  rw [if_neg (by omega), if_neg (by omega), if_neg (by omega), if_neg (by omega)]
theorem wordL_some {k : Int} (h : okK k) : wordL k ≠ [] := by
  unfold okK at h
  have : k = 0 ∨ k = 1 ∨ k = 2 ∨ k = 3 := by omega
  rcases this with rfl | rfl | rfl | rfl <;> decide
theorem wordL_len (k : Int) : (wordL k).length ≤ 4 := by
  unfold wordL
  split <;> first | decide | (split <;> first | decide | (split <;> first | decide | (split <;> decide)))
structure EvWf (e : Ev) : Prop where
  k : -9223372036854775808 ≤ e.k ∧ e.k ≤ 9223372036854775807
  n : -9223372036854775808 ≤ e.n ∧ e.n ≤ 9223372036854775807
theorem lineL_len {e : Ev} (h : EvWf e) : (lineL e).length ≤ 26 := by
  have h1 := Lib.itoa_length_le e.n h.n.1 h.n.2
  have h2 := wordL_len e.k
  unfold lineL
  rw [List.length_append, List.length_cons]
  omega
def evV (e : Ev) : Value := .agg #[.int .i64 e.k, .int .i64 e.n]

/-! ### word, Word -/
theorem word_any (k : Int) (w : World) : Calls Tryd.prog 27 #[.int .i64 k] w fun e w' => e = .returned (.string (wordS k)) ∧ w' = w := by
  by_cases h0 : k = 0
  · subst h0
    go_enter Tryd.func27, Tryd.ntmps27
    go_wp2_with fail
    go_ret
    exact ⟨rfl, rfl⟩
  by_cases h1 : k = 1
  · subst h1
    go_enter Tryd.func27, Tryd.ntmps27
    go_wp2_with fail
    go_ret
    exact ⟨rfl, rfl⟩
  by_cases h2 : k = 2
  · subst h2
    go_enter Tryd.func27, Tryd.ntmps27
    go_wp2_with fail
    go_ret
    exact ⟨rfl, rfl⟩
  by_cases h3 : k = 3
  · subst h3
    go_enter Tryd.func27, Tryd.ntmps27
    go_wp2_with fail
    go_ret
    exact ⟨rfl, rfl⟩
  have e0 : (k == 0) = false := by simpa using h0
  have e1 : (k == 1) = false := by simpa using h1
  have e2 : (k == 2) = false := by simpa using h2
  have e3 : (k == 3) = false := by simpa using h3
  have HW : Hid (wordS k = ⟨#[]⟩) := Lib.hid (by unfold wordS wordL; rw [if_neg h0, if_neg h1, if_neg h2, if_neg h3])
  clear h0 h1 h2 h3
  rw [HW.out]
  go_enter Tryd.func27, Tryd.ntmps27
  go_wp2_with fail
  go_ret
  exact ⟨rfl, rfl⟩
theorem refWord_any (k : Int) (w : World) : Calls Tryd.prog 11 #[.int .i64 k] w fun e w' => e = .returned (.string (wordS k)) ∧ w' = w := by
  by_cases h0 : k = 0
  · subst h0
    go_enter Tryd.func11, Tryd.ntmps11
    go_wp2_with fail
    go_ret
    exact ⟨rfl, rfl⟩
  by_cases h1 : k = 1
  · subst h1
    go_enter Tryd.func11, Tryd.ntmps11
    go_wp2_with fail
    go_ret
    exact ⟨rfl, rfl⟩
  by_cases h2 : k = 2
  · subst h2
    go_enter Tryd.func11, Tryd.ntmps11
    go_wp2_with fail
    go_ret
    exact ⟨rfl, rfl⟩
  by_cases h3 : k = 3
  · subst h3
    go_enter Tryd.func11, Tryd.ntmps11
    go_wp2_with fail
    go_ret
    exact ⟨rfl, rfl⟩
  have e0 : (k == 0) = false := by simpa using h0
  have e1 : (k == 1) = false := by simpa using h1
  have e2 : (k == 2) = false := by simpa using h2
  have e3 : (k == 3) = false := by simpa using h3
  have HW : Hid (wordS k = ⟨#[]⟩) := Lib.hid (by unfold wordS wordL; rw [if_neg h0, if_neg h1, if_neg h2, if_neg h3])
  clear h0 h1 h2 h3
  rw [HW.out]
  go_enter Tryd.func11, Tryd.ntmps11
  go_wp2_with fail
  go_ret
  exact ⟨rfl, rfl⟩

/-! ### numbers -/
theorem format_any (n : Int) (h0 : -9223372036854775808 ≤ n) (h1 : n ≤ 9223372036854775807) (w : World) (hp : Lab w) :
    Calls Tryd.prog 28 #[.int .i64 n, .int .i64 10] w fun e w' => e = .returned (.string ⟨(Lib.itoa n).toArray⟩) ∧ Below w.heap.size w w' := by
  refine (Tryd.strconv_FormatInt_10 n h0 h1 w hp.pow).mono ?_
  rintro e w' ⟨rfl, k, os, rfl⟩
  exact ⟨rfl, Lib.below_grow _ _ (Nat.le_refl _) _ _⟩
end P21
end Go.Proofs.YtkobmoabnnjejaaDoor
