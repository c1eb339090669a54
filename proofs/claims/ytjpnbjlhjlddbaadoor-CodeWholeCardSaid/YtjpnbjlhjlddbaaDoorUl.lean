/- Plain laws of unpacking: what was read is what is packed; more bytes, fewer bytes. -/
import Derived.Test.YtjpnbjlhjlddbaaDoorUn
import Derived.Test.YtjpnbjlhjlddbaaDoorJ02
import Derived.Test.YtjpnbjlhjlddbaaDoorBk
namespace Go.Proofs.YtjpnbjlhjlddbaaDoor
open Go.RowKit
namespace P2

theorem chunk_len {l : List Int} {a k : Nat} (h : a + k ≤ l.length) : (chunk l a k).length = k := by simp [chunk]; omega
theorem chunk_ext {l x : List Int} {a k : Nat} (h : a + k ≤ l.length) : chunk (l ++ x) a k = chunk l a k := by
  simp only [chunk]
  rw [List.drop_append_of_le_length (by omega), List.take_append_of_le_length (by simp; omega)]
theorem chunk_add (l : List Int) (a j k : Nat) : chunk l a (j + k) = chunk l a j ++ chunk l (a + j) k := by
  simp only [chunk]
  rw [List.take_add, List.drop_drop]
theorem getD_ext {l x : List Int} {a : Nat} (h : a < l.length) : (l ++ x).getD a 0 = l.getD a 0 := by
  simp only [List.getD_eq_getElem?_getD, List.getElem?_append_left h]
theorem chunk_mem {l : List Int} {a k : Nat} {P : Int → Prop} (h : ∀ z ∈ l, P z) : ∀ z ∈ chunk l a k, P z := fun z hz => h z (List.mem_of_mem_drop (List.mem_of_mem_take hz))
theorem decE_chk {y : List Int} (h : y.length = 8) : decE y = chk (decI y) := by rw [decE, if_pos h]

theorem insGo_ok {l : List Int} (hr : ∀ z ∈ l, 0 ≤ z ∧ z ≤ 255) : ∀ (m : Nat) (acc : List Ins) (a : Nat), a ≤ l.length → (insGo l m acc a).2.1 = 0 →
    (insGo l m acc a).2.2 = a + 8 * m ∧ a + 8 * m ≤ l.length ∧ ∃ s, (insGo l m acc a).1 = acc ++ s ∧ s.length = m ∧ (∀ i ∈ s, chk i = 0) ∧ chunk l a (8 * m) = s.flatMap encB
  | 0, acc, a, ha, _ => ⟨rfl, ha, [], by simp [insGo], rfl, by simp, by simp [chunk]⟩
  | m + 1, acc, a, ha, h => by
    rw [insGo] at h ⊢
    by_cases h1 : l.length < a + 8
    · rw [if_pos h1] at h; cases h
    · rw [if_neg h1] at h ⊢
      by_cases h2 : decE (chunk l a 8) = 0
      · rw [if_pos h2] at h ⊢
        obtain ⟨i1, i2, s, i3, i4, i5, i6⟩ := insGo_ok hr m _ (a + 8) (by omega) h
        have hl := chunk_len (l := l) (a := a) (k := 8) (by omega)
        refine ⟨by rw [i1]; omega, by omega, decI (chunk l a 8) :: s, by rw [i3, List.append_assoc]; rfl, by simp [i4], ?_, ?_⟩
        · intro i hi
          rcases List.mem_cons.1 hi with rfl | hi
          · rw [← decE_chk hl]; exact h2
          · exact i5 i hi
        · rw [show 8 * (m + 1) = 8 + 8 * m by omega, chunk_add, i6, List.flatMap_cons]
          rw [enc_dec hl (chunk_mem hr)]
      · rw [if_neg h2] at h; exact absurd h h2
theorem insGo_ext (l x : List Int) : ∀ (m : Nat) (acc : List Ins) (a : Nat), (insGo l m acc a).2.1 ≠ 11 → insGo (l ++ x) m acc a = insGo l m acc a
  | 0, acc, a, _ => rfl
  | m + 1, acc, a, h => by
    rw [insGo] at h ⊢
    rw [insGo]
    by_cases h1 : l.length < a + 8
    · rw [if_pos h1] at h; exact absurd rfl h
    · rw [if_neg h1] at h ⊢
      rw [if_neg (by rw [List.length_append]; omega), chunk_ext (by omega)]
      by_cases h2 : decE (chunk l a 8) = 0
      · rw [if_pos h2] at h ⊢
        rw [if_pos h2]
        exact insGo_ext l x m _ _ h
      · rw [if_neg h2, if_neg h2]
theorem insGo_bound (l : List Int) : ∀ (m : Nat) (acc : List Ins) (a : Nat), a ≤ l.length → (insGo l m acc a).2.2 ≤ l.length
  | 0, acc, a, h => h
  | m + 1, acc, a, h => by
    rw [insGo]
    by_cases h1 : l.length < a + 8
    · rw [if_pos h1]; exact h
    · rw [if_neg h1]
      by_cases h2 : decE (chunk l a 8) = 0
      · rw [if_pos h2]; exact insGo_bound l m _ _ (by omega)
      · rw [if_neg h2]; show a + 8 ≤ l.length; omega
theorem chunk_two' {l : List Int} {a : Nat} (h : a + 2 ≤ l.length) : chunk l a 2 = [l.getD a 0, l.getD (a + 1) 0] := by
  simp only [chunk, List.getD_eq_getElem?_getD, List.getElem?_eq_getElem (by omega : a < l.length), List.getElem?_eq_getElem (by omega : a + 1 < l.length), Option.getD_some]
  rw [List.drop_eq_getElem_cons (by omega), List.drop_eq_getElem_cons (by omega)]
  rfl
theorem getD_range {l : List Int} (hr : ∀ z ∈ l, 0 ≤ z ∧ z ≤ 255) {a : Nat} (h : a < l.length) : 0 ≤ l.getD a 0 ∧ l.getD a 0 ≤ 255 := by
  rw [List.getD_eq_getElem?_getD, List.getElem?_eq_getElem h, Option.getD_some]
  exact hr _ (List.getElem_mem h)
theorem fnGo_ok {l : List Int} (hr : ∀ z ∈ l, 0 ≤ z ∧ z ≤ 255) {a : Nat} (h : (fnGo l a).2.1 = 0) :
    (fnGo l a).2.2 = a + (packB (fnGo l a).1).length ∧ (fnGo l a).2.2 ≤ l.length ∧ packE (fnGo l a).1 = 0 ∧ chunk l a (packB (fnGo l a).1).length = packB (fnGo l a).1 := by
  rw [fnGo] at h ⊢
  by_cases h1 : l.length < a + 2
  · rw [if_pos h1] at h; cases h
  · rw [if_neg h1] at h ⊢
    by_cases h2 : l.getD (a + 1) 0 < 1 ∨ 128 < l.getD (a + 1) 0
    · rw [if_pos h2] at h; cases h
    · rw [if_neg h2] at h ⊢
      obtain ⟨i1, i2, s, i3, i4, i5, i6⟩ := insGo_ok hr (l.getD (a + 1) 0).toNat [] (a + 2) (by omega) h
      have h0 := getD_range hr (show a < l.length by omega)
      have i3' : (insGo l (l.getD (a + 1) 0).toNat [] (a + 2)).1 = s := by rw [i3]; rfl
      show (insGo l _ [] (a + 2)).2.2 = a + (packB (l.getD a 0, (insGo l _ [] (a + 2)).1)).length ∧ (insGo l _ [] (a + 2)).2.2 ≤ l.length ∧ packE (l.getD a 0, (insGo l _ [] (a + 2)).1) = 0 ∧ chunk l a (packB (l.getD a 0, (insGo l _ [] (a + 2)).1)).length = packB (l.getD a 0, (insGo l _ [] (a + 2)).1)
      rw [i3', i1]
      have hpl : (packB (l.getD a 0, s)).length = 2 + 8 * (l.getD (a + 1) 0).toNat := by
        simp only [packB, List.length_cons, encs_length, i4]; omega
      refine ⟨by rw [hpl]; omega, i2, ?_, ?_⟩
      · rw [packE, if_neg (by show ¬ (l.getD a 0 < 0 ∨ 255 < l.getD a 0); omega), if_neg (by show ¬ (s.length < 1 ∨ 128 < s.length); omega)]
        exact firstBad_ok i5
      · rw [hpl, chunk_add, chunk_two' (by omega), i6]
        show [_, _] ++ _ = l.getD a 0 :: (s.length : Int) :: s.flatMap encB
        rw [i4, Int.toNat_of_nonneg (by omega)]
        rfl
theorem fnGo_ext {l : List Int} (x : List Int) {a : Nat} (h : (fnGo l a).2.1 ≠ 11) : fnGo (l ++ x) a = fnGo l a := by
  rw [fnGo] at h ⊢
  rw [fnGo]
  by_cases h1 : l.length < a + 2
  · rw [if_pos h1] at h; exact absurd rfl h
  · rw [if_neg h1] at h ⊢
    rw [if_neg (by rw [List.length_append]; omega), getD_ext (by omega), getD_ext (by omega)]
    by_cases h2 : l.getD (a + 1) 0 < 1 ∨ 128 < l.getD (a + 1) 0
    · rw [if_pos h2, if_pos h2]
    · rw [if_neg h2] at h ⊢
      rw [if_neg h2]
      rw [insGo_ext l x _ _ _ h]
theorem fnGo_bound {l : List Int} {a : Nat} (ha : a ≤ l.length) : (fnGo l a).2.2 ≤ l.length := by
  rw [fnGo]
  by_cases h1 : l.length < a + 2
  · rw [if_pos h1]; exact ha
  · rw [if_neg h1]
    by_cases h2 : l.getD (a + 1) 0 < 1 ∨ 128 < l.getD (a + 1) 0
    · rw [if_pos h2]; show a + 2 ≤ l.length; omega
    · rw [if_neg h2]; exact insGo_bound l _ _ _ (by omega)
theorem fnPlace_le (e : Int) (a : Nat) : fnPlace e a ≤ a := by
  unfold fnPlace
  split
  · omega
  · split <;> omega
theorem unGo_ok {l : List Int} (hr : ∀ z ∈ l, 0 ≤ z ∧ z ≤ 255) : ∀ (m : Nat) (acc : List Fn) (a : Nat), a ≤ l.length → (unGo l m acc a).2.2 = 0 →
    (unGo l m acc a).2.1 = 0 ∧ ∃ s, (unGo l m acc a).1 = acc ++ s ∧ s.length = m ∧ (∀ f ∈ s, packE f = 0) ∧ l.drop a = s.flatMap packB
  | 0, acc, a, ha, h => by
    rw [unGo] at h ⊢
    by_cases h1 : a < l.length
    · rw [if_pos h1] at h; cases h
    · rw [if_neg h1]
      exact ⟨rfl, [], by simp, rfl, by simp, by simp; omega⟩
  | m + 1, acc, a, ha, h => by
    rw [unGo] at h ⊢
    by_cases h1 : (fnGo l a).2.1 = 0
    · rw [if_pos h1] at h ⊢
      obtain ⟨i1, i2, i3, i4⟩ := fnGo_ok hr h1
      obtain ⟨j1, s, j2, j3, j4, j5⟩ := unGo_ok hr m _ _ i2 h
      refine ⟨j1, (fnGo l a).1 :: s, by rw [j2, List.append_assoc]; rfl, by simp [j3], ?_, ?_⟩
      · intro f hf
        rcases List.mem_cons.1 hf with rfl | hf
        · exact i3
        · exact j4 f hf
      · rw [List.flatMap_cons, ← j5, i1, ← i4, chunk]
        rw [← List.drop_drop]
        have := List.take_append_drop (packB (fnGo l a).1).length (l.drop a)
        rw [show (List.take (packB (fnGo l a).1).length (List.drop a l)).length = (packB (fnGo l a).1).length from by rw [show List.take (packB (fnGo l a).1).length (List.drop a l) = chunk l a _ from rfl, i4]]
        exact this.symm
    · rw [if_neg h1] at h; exact absurd h h1
theorem unGo_more {l x : List Int} (hx : x ≠ []) : ∀ (m : Nat) (acc : List Fn) (a : Nat), a ≤ l.length → (unGo l m acc a).2.2 = 0 → unGo (l ++ x) m acc a = ([], l.length, 11)
  | 0, acc, a, ha, h => by
    rw [unGo] at h ⊢
    by_cases h1 : a < l.length
    · rw [if_pos h1] at h; cases h
    · have : 0 < x.length := List.length_pos_iff.2 hx
      rw [if_pos (by rw [List.length_append]; omega), show a = l.length by omega]
  | m + 1, acc, a, ha, h => by
    rw [unGo] at h ⊢
    by_cases h1 : (fnGo l a).2.1 = 0
    · rw [if_pos h1] at h
      rw [fnGo_ext x (by rw [h1]; decide), if_pos h1]
      exact unGo_more hx m _ _ (fnGo_bound ha) h
    · rw [if_neg h1] at h; exact absurd h h1
theorem unGo_ext {l : List Int} (x : List Int) : ∀ (m : Nat) (acc : List Fn) (a : Nat), (unGo l m acc a).2.2 ≠ 0 → (unGo l m acc a).2.2 ≠ 11 → unGo (l ++ x) m acc a = unGo l m acc a
  | 0, acc, a, h, h' => by
    rw [unGo] at h h'
    by_cases h1 : a < l.length
    · rw [if_pos h1] at h'; exact absurd rfl h'
    · rw [if_neg h1] at h; exact absurd rfl h
  | m + 1, acc, a, h, h' => by
    rw [unGo] at h h' ⊢
    rw [unGo]
    by_cases h1 : (fnGo l a).2.1 = 0
    · rw [if_pos h1] at h h' ⊢
      rw [fnGo_ext x (by rw [h1]; decide), if_pos h1]
      exact unGo_ext x m _ _ h h'
    · rw [if_neg h1] at h'
      rw [fnGo_ext x h', if_neg h1, if_neg h1]
theorem unGo_bound {l : List Int} : ∀ (m : Nat) (acc : List Fn) (a : Nat), a ≤ l.length → (unGo l m acc a).2.1 ≤ l.length
  | 0, acc, a, ha => by
    rw [unGo]
    split
    · exact ha
    · exact Nat.zero_le _
  | m + 1, acc, a, ha => by
    rw [unGo]
    split
    · exact unGo_bound m _ _ (fnGo_bound ha)
    · exact Nat.le_trans (fnPlace_le _ _) (fnGo_bound ha)

/-- What was unpacked is packed to the same bytes. -/
theorem un_ok {l : List Int} (hr : ∀ z ∈ l, 0 ≤ z ∧ z ≤ 255) (h : (un l).2.2 = 0) : (un l).2.1 = 0 ∧ progE (un l).1 = 0 ∧ progB (un l).1 = l := by
  rw [un] at h ⊢
  by_cases h1 : l.length < 1
  · rw [if_pos h1] at h; cases h
  · rw [if_neg h1] at h ⊢
    by_cases h2 : l.getD 0 0 < 1 ∨ 32 < l.getD 0 0
    · rw [if_pos h2] at h; cases h
    · rw [if_neg h2] at h ⊢
      obtain ⟨j1, s, j2, j3, j4, j5⟩ := unGo_ok hr _ _ _ (by omega) h
      rw [show (unGo l (l.getD 0 0).toNat [] 1).1 = s from by rw [j2]; rfl]
      refine ⟨j1, ?_, ?_⟩
      · rw [progE, if_neg (by omega)]
        exact firstE_ok j4
      · rw [progB, ← j5, j3, Int.toNat_of_nonneg (by omega)]
        match l, h1 with
        | z :: l', _ => simp
theorem un_bound (l : List Int) : (un l).2.1 ≤ l.length := by
  rw [un]
  split
  · exact Nat.zero_le _
  · split
    · exact Nat.zero_le _
    · exact unGo_bound _ _ _ (by omega)
/-- With bytes behind. -/
theorem un_more {l x : List Int} (h : (un l).2.2 = 0) (hx : x ≠ []) : un (l ++ x) = ([], l.length, 11) := by
  rw [un] at h ⊢
  by_cases h1 : l.length < 1
  · rw [if_pos h1] at h; cases h
  · rw [if_neg h1] at h
    rw [if_neg (by rw [List.length_append]; omega), getD_ext (by omega)]
    by_cases h2 : l.getD 0 0 < 1 ∨ 32 < l.getD 0 0
    · rw [if_pos h2] at h; cases h
    · rw [if_neg h2] at h ⊢
      exact unGo_more hx _ _ _ (by omega) h
theorem un_ext {l : List Int} (x : List Int) (h : (un l).2.2 ≠ 0) (h' : (un l).2.2 ≠ 11) : un (l ++ x) = un l := by
  rw [un] at h h' ⊢
  rw [un]
  by_cases h1 : l.length < 1
  · rw [if_pos h1] at h'; exact absurd rfl h'
  · rw [if_neg h1] at h h' ⊢
    rw [if_neg (by rw [List.length_append]; omega), getD_ext (by omega)]
    by_cases h2 : l.getD 0 0 < 1 ∨ 32 < l.getD 0 0
    · rw [if_pos h2, if_pos h2]
    · rw [if_neg h2] at h h' ⊢
      rw [if_neg h2]
      exact unGo_ext x _ _ _ h h'
/-- No beginning of a program's bytes is a program. -/
theorem un_cut {l : List Int} (h : (un l).2.2 = 0) {n : Nat} (hn : n < l.length) : (un (l.take n)).2.2 = 11 ∧ (un (l.take n)).2.1 ≤ n := by
  have hb := un_bound (l.take n)
  have hd : l.drop n ≠ [] := by
    intro e
    have := List.drop_eq_nil_iff.1 e
    omega
  have he : l.take n ++ l.drop n = l := List.take_append_drop n l
  refine ⟨?_, Nat.le_trans hb (by simp; omega)⟩
  by_cases h0 : (un (l.take n)).2.2 = 0
  · have := un_more h0 hd
    rw [he] at this
    rw [this] at h
    cases h
  · by_cases h11 : (un (l.take n)).2.2 = 11
    · exact h11
    · have := un_ext (l.drop n) h0 h11
      rw [he] at this
      rw [this] at h
      exact absurd h h0
end P2
end Go.Proofs.YtjpnbjlhjlddbaaDoor
