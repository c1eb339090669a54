/- Script: a text read byte by byte, plain: where its lines end, and what stands in them. -/
import Derived.Test.YtkobmoabnnjejaaDoorS11
namespace Go.Proofs.YtkobmoabnnjejaaDoor
open Go.RowKit
namespace P21
open PC NumL

theorem cutB_miss (c : UInt8) : ∀ a : List UInt8, c ∉ a → cutB c a = (a, [], false)
  | [], _ => rfl
  | x :: a, h => by
    have h1 : x ≠ c := fun e => h (by rw [e]; exact List.mem_cons_self)
    have h2 := cutB_miss c a (fun e => h (List.mem_cons_of_mem _ e))
    rw [cutB, if_neg h1, h2]
theorem part_no {L : List UInt8} {c : UInt8} {a e : Nat} (hno : ∀ j, a ≤ j → j < e → L[j]? ≠ some c) : c ∉ (L.take e).drop a := by
  intro h
  obtain ⟨j, hj, hjc⟩ := List.getElem_of_mem h
  have h2 : ((L.take e).drop a)[j]? = some c := by rw [List.getElem?_eq_getElem hj, hjc]
  rw [List.getElem?_drop, List.getElem?_take] at h2
  split at h2
  · exact hno (a + j) (by omega) (by omega) h2
  · cases h2
/-- A text cut at the first of a byte, found by looking. -/
theorem cutB_at {c : UInt8} {L : List UInt8} {a e : Nat} (hae : a ≤ e) (heL : e ≤ L.length) (hno : ∀ j, a ≤ j → j < e → L[j]? ≠ some c) (hhit : e < L.length → L[e]? = some c) :
    cutB c (L.drop a) = ((L.take e).drop a, L.drop (e + 1), decide (e < L.length)) := by
  have hp := part_no hno
  by_cases h : e < L.length
  · have e1 : L.drop a = (L.take e).drop a ++ c :: L.drop (e + 1) := by
      have hc := hhit h
      rw [List.getElem?_eq_getElem h] at hc
      have h2 : L.drop e = c :: L.drop (e + 1) := by rw [List.drop_eq_getElem_cons h, Option.some.inj hc]
      rw [← h2]
      have h3 : L.drop a = (L.take e ++ L.drop e).drop a := by rw [List.take_append_drop]
      rw [h3, List.drop_append, List.length_take, show a - min e L.length = 0 by omega, List.drop_zero]
    rw [e1, cutB_hit c _ _ hp, decide_eq_true h]
  · have he : e = L.length := by omega
    subst he
    rw [List.take_length] at hp ⊢
    rw [cutB_miss c _ hp, decide_eq_false h, show L.drop (L.length + 1) = [] from List.drop_eq_nil_of_le (by omega)]
theorem cutB_in {c : UInt8} {L : List UInt8} {a b e : Nat} (hab : a ≤ b) (hbe : b ≤ e) (heL : e ≤ L.length) (hno : ∀ j, a ≤ j → j < b → L[j]? ≠ some c) (hhit : b < e → L[b]? = some c) :
    cutB c ((L.take e).drop a) = ((L.take b).drop a, (L.take e).drop (b + 1), decide (b < e)) := by
  have hl : (L.take e).length = e := by rw [List.length_take]; omega
  have hg : ∀ j, j < e → (L.take e)[j]? = L[j]? := fun j hj => by rw [List.getElem?_take, if_pos hj]
  have := cutB_at (c := c) (L := L.take e) hab (by omega) (fun j h1 h2 => by rw [hg j (by omega)]; exact hno j h1 h2) (fun h => by rw [hg b (by omega)]; exact hhit (by omega))
  rw [this, hl, List.take_take, Nat.min_eq_left hbe]
theorem ev_at {L : List UInt8} {a b e : Nat} (hab : a ≤ b) (hbe : b ≤ e) (heL : e ≤ L.length) (hno2 : ∀ j, a ≤ j → j < b → L[j]? ≠ some 32) (hhit2 : b < e → L[b]? = some 32) : evT ((L.take e).drop a) (decide (e < L.length)) = match kindT ((L.take b).drop a) with
    | none => .inl 14
    | some k => match numT ((L.take e).drop (b + 1)) with
      | none => .inl 11
      | some n => if b < e ∧ e < L.length then .inr ⟨k, n⟩ else .inl 11 := by
  unfold evT
  rw [cutB_in hab hbe heL hno2 hhit2]
  cases kindT ((L.take b).drop a) with
  | none => rfl
  | some k =>
    dsimp only
    cases numT ((L.take e).drop (b + 1)) with
    | none => rfl
    | some n => simp only [decide_eq_true_eq]
section
variable {L : List UInt8} {a b e f line : Nat} {acc : List Ev} (haL : a < L.length) (hab : a ≤ b) (hbe : b ≤ e) (heL : e ≤ L.length)
  (hno : ∀ j, a ≤ j → j < e → L[j]? ≠ some 10) (hhit : e < L.length → L[e]? = some 10) (hno2 : ∀ j, a ≤ j → j < b → L[j]? ≠ some 32) (hhit2 : b < e → L[b]? = some 32)
include haL hab hbe heL hno hhit
theorem parse_at : parseT (f + 1) line (L.drop a) acc = match evT ((L.take e).drop a) (decide (e < L.length)) with
    | .inl c => .inl (line, c)
    | .inr x => parseT f (line + 1) (L.drop (e + 1)) (acc ++ [x]) := by
  have hne : L.drop a ≠ [] := fun h => by
    have := congrArg List.length h
    rw [List.length_drop] at this
    simp at this; omega
  rw [parseT, if_neg hne, cutB_at (by omega) heL hno hhit]
  rfl
include hno2 hhit2
theorem parse_name (hk : kindT ((L.take b).drop a) = none) : parseT (f + 1) line (L.drop a) acc = .inl (line, 14) := by
  rw [parse_at haL hab hbe heL hno hhit, ev_at hab hbe heL hno2 hhit2, hk]
theorem parse_form {k : Int} (hk : kindT ((L.take b).drop a) = some k) (h : b = e ∨ e = L.length) : parseT (f + 1) line (L.drop a) acc = .inl (line, 11) := by
  rw [parse_at haL hab hbe heL hno hhit, ev_at hab hbe heL hno2 hhit2, hk]
  dsimp only
  cases numT ((L.take e).drop (b + 1)) with
  | none => rfl
  | some n => dsimp only; rw [if_neg (by omega)]
theorem parse_num {k : Int} (hk : kindT ((L.take b).drop a) = some k) (h : numT ((L.take e).drop (b + 1)) = none) : parseT (f + 1) line (L.drop a) acc = .inl (line, 11) := by
  rw [parse_at haL hab hbe heL hno hhit, ev_at hab hbe heL hno2 hhit2, hk, h]
theorem parse_good_at {k n : Int} (hk : kindT ((L.take b).drop a) = some k) (h : numT ((L.take e).drop (b + 1)) = some n) (h1 : b < e) (h2 : e < L.length) : parseT (f + 1) line (L.drop a) acc = parseT f (line + 1) (L.drop (e + 1)) (acc ++ [⟨k, n⟩]) := by
  rw [parse_at haL hab hbe heL hno hhit, ev_at hab hbe heL hno2 hhit2, hk, h]
  dsimp only
  rw [if_pos ⟨h1, h2⟩]
end
theorem bs_part (s : ByteArray) (a b : Nat) : (s.extract a b).data.toList = (s.data.toList.take b).drop a := by
  rw [ByteArray.data_extract, Array.toList_extract, List.extract_eq_take_drop, List.drop_take]
theorem bs_at {s : ByteArray} {k : Nat} (h : k < s.size) : s.data.toList[k]? = some s[k] := by
  rw [List.getElem?_eq_getElem (by simpa using h)]; rfl
theorem wordS_eq (k : Int) (s : ByteArray) : (wordS k = s) ↔ wordL k = s.data.toList := by
  constructor
  · intro h; rw [← h]; rfl
  · intro h; unfold wordS; rw [h]
end P21
end Go.Proofs.YtkobmoabnnjejaaDoor
