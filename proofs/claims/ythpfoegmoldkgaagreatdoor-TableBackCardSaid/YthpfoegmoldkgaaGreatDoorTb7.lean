/- Table: the lines of a text, folded, plain. No program in sight. -/
import Derived.Test.YthpfoegmoldkgaaGreatDoorTb2
import Derived.Lib.Strings
namespace Go.Proofs.YthpfoegmoldkgaaGreatDoor
open Go.RowKit
namespace P7
open CutL NumL

/-- The lines of a text, with their line feeds. -/
def linesF : Nat → List UInt8 → List (List UInt8)
  | 0, _ => []
  | f + 1, s => if s = [] then [] else if (cutB 10 s).2.2 = true then ((cutB 10 s).1 ++ [10]) :: linesF f (cutB 10 s).2.1 else [s]
/-- A line more. -/
def stepL (a : Option (List Row)) (x : List UInt8) : Option (List Row) := match a with
  | none => none
  | some l => if Lib.hasSuffix x [10] = true then (match rowT (Lib.trimSuffix x [10]) with
    | none => none
    | some r => if right (l.length + 1) (l ++ [r]) l.length = 0 then some (l ++ [r]) else none) else none
theorem suf_yes (a : List UInt8) : Lib.hasSuffix (a ++ [10]) [10] = true := by
  unfold Lib.hasSuffix
  rw [List.isSuffixOf_iff_suffix]
  exact List.suffix_append a [10]
theorem suf_cut (a : List UInt8) : Lib.trimSuffix (a ++ [10]) [10] = a := by
  unfold Lib.trimSuffix
  rw [if_pos (suf_yes a)]
  simp
theorem suf_no {s : List UInt8} (h : (10 : UInt8) ∉ s) : Lib.hasSuffix s [10] = false := by
  cases hh : Lib.hasSuffix s [10] with
  | false => rfl
  | true =>
    unfold Lib.hasSuffix at hh
    rw [List.isSuffixOf_iff_suffix] at hh
    obtain ⟨t, ht⟩ := hh
    exact absurd (by rw [← ht]; simp) h
theorem fold_none : ∀ xs : List (List UInt8), xs.foldl stepL none = none
  | [] => rfl
  | x :: r => by rw [List.foldl_cons]; exact fold_none r
theorem parseR_fold : ∀ (f : Nat) (s : List UInt8) (l : List Row), s.length < f → parseR f s l = (linesF f s).foldl stepL (some l)
  | f + 1, s, l, hs => by
    rw [parseR, linesF]
    by_cases h0 : s = []
    · rw [if_pos h0, if_pos h0]; rfl
    · rw [if_neg h0, if_neg h0]
      cases hc : (cutB 10 s).2.2 with
      | false =>
        have hn := (cutB_none 10 s hc).2
        simp only [if_true, Bool.false_eq_true, if_false, List.foldl_cons, List.foldl_nil, stepL]
        rw [suf_no hn]
        rfl
      | true =>
        have hlen := (cutB_len 10 s).2.2 h0
        simp only [Bool.true_eq_false, if_false, if_true, List.foldl_cons]
        have hst : stepL (some l) ((cutB 10 s).1 ++ [10]) = (match rowT (cutB 10 s).1 with
          | none => none
          | some r => if right (l.length + 1) (l ++ [r]) l.length = 0 then some (l ++ [r]) else none) := by
          simp only [stepL]
          rw [suf_yes, suf_cut]
          rfl
        rw [hst]
        cases hr : rowT (cutB 10 s).1 with
        | none => exact (fold_none _).symm
        | some r =>
          simp only
          by_cases hk : right (l.length + 1) (l ++ [r]) l.length = 0
          · rw [if_pos hk, if_pos hk]
            exact parseR_fold f _ _ (by omega)
          · rw [if_neg hk, if_neg hk]
            exact (fold_none _).symm
/-- A beginning that is none makes the whole none. -/
theorem fold_stop {xs ys : List (List UInt8)} (h : xs <+: ys) (h0 : xs.foldl stepL (some []) = none) : ys.foldl stepL (some []) = none := by
  obtain ⟨t, rfl⟩ := h
  rw [List.foldl_append, h0]
  exact fold_none t
theorem fold_len : ∀ (xs : List (List UInt8)) (l m : List Row), xs.foldl stepL (some l) = some m → m.length = l.length + xs.length
  | [], l, m, h => by
    injection h with h
    rw [← h]; rfl
  | x :: r, l, m, h => by
    rw [List.foldl_cons] at h
    cases hs : stepL (some l) x with
    | none => rw [hs, fold_none] at h; cases h
    | some l' =>
      rw [hs] at h
      have h2 := fold_len r l' m h
      have h3 : l'.length = l.length + 1 := by
        simp only [stepL] at hs
        split at hs
        · split at hs
          · cases hs
          · split at hs
            · injection hs with hs
              rw [← hs]; simp
            · cases hs
        · cases hs
      rw [h2, h3, List.length_cons]; omega
end P7
end Go.Proofs.YthpfoegmoldkgaaGreatDoor
