/- Table: the numbered lines of a text, plain; a round of the iterator. No program in sight. -/
import Derived.Test.YthpfoegmoldkgaaGreatDoorTb8
namespace Go.Proofs.YthpfoegmoldkgaaGreatDoor
open Go.RowKit
namespace P7
open CutL NumL

/-- The lines of a text with their numbers. -/
def seqL : Nat → Nat → List UInt8 → List (Nat × List UInt8)
  | 0, _, _ => []
  | f + 1, k, s => if s = [] then [] else if (cutB 10 s).2.2 = true then (k, (cutB 10 s).1 ++ [10]) :: seqL f (k + 1) (cutB 10 s).2.1 else [(k, s)]
theorem seqL_lines : ∀ (f k : Nat) (s : List UInt8), (seqL f k s).map (·.2) = linesF f s
  | 0, k, s => rfl
  | f + 1, k, s => by
    rw [seqL, linesF]
    split
    · rfl
    · split
      · rw [List.map_cons, seqL_lines f (k + 1)]
      · rfl
/-- Where the first line ends: behind its line feed, or at the text's end. -/
def cutAt (s : List UInt8) : Nat := if (cutB 10 s).2.2 = true then (cutB 10 s).1.length + 1 else s.length
theorem cutAt_pos {s : List UInt8} (h : s ≠ []) : 0 < cutAt s := by
  unfold cutAt
  split
  · omega
  · exact List.length_pos_iff.2 h
theorem cutAt_le (s : List UInt8) : cutAt s ≤ s.length := by
  unfold cutAt
  split
  · rename_i hc
    have := congrArg List.length (cutB_join 10 s hc).1
    rw [List.length_append, List.length_cons] at this
    omega
  · exact Nat.le_refl _
theorem seqL_step {f k : Nat} {s : List UInt8} (h : s ≠ []) : seqL (f + 1) k s = (k, s.take (cutAt s)) :: (if (cutB 10 s).2.2 = true then seqL f (k + 1) (s.drop (cutAt s)) else []) := by
  rw [seqL, if_neg h]
  unfold cutAt
  by_cases hc : (cutB 10 s).2.2 = true
  · rw [if_pos hc, if_pos hc, if_pos hc]
    have hj := (cutB_join 10 s hc).1
    have key : ∀ a b : List UInt8, a ++ 10 :: b = s → s.take (a.length + 1) = a ++ [10] ∧ s.drop (a.length + 1) = b := by
      intro a b e
      subst e
      constructor
      · rw [List.take_append, List.take_of_length_le (by omega), show a.length + 1 - a.length = 1 by omega]
        rfl
      · rw [List.drop_append, List.drop_of_length_le (by omega), show a.length + 1 - a.length = 1 by omega]
        rfl
    obtain ⟨h1, h2⟩ := key _ _ hj
    rw [h1, h2]
  · rw [if_neg hc, if_neg hc, if_neg hc, List.take_length]
/-- strings.Index of a line feed, against it. -/
theorem index_cutAt (s : List UInt8) : Lib.indexByte s 10 + 1 = if (cutB 10 s).2.2 = true then (cutAt s : Int) else 0 := by
  rw [← Lib.index_one]
  rcases first_of 10 s with h | ⟨a, b, rfl, ha⟩
  · rw [index_miss h, cutB_miss 10 s h]
    rfl
  · rw [index_hit ha]
    unfold cutAt
    rw [cutB_hit 10 a b ha]
    simp
theorem seqL_nil (f k : Nat) : seqL f k [] = [] := by
  cases f with
  | zero => rfl
  | succ f => rw [seqL, if_pos rfl]
/-- One round: the line that is handed on, and the text that is left. -/
theorem seqL_round {f k : Nat} {s : List UInt8} (h : s ≠ []) : seqL (f + 1) k s = (k, s.take (cutAt s)) :: seqL f (k + 1) (s.drop (cutAt s)) := by
  rw [seqL_step h]
  by_cases hc : (cutB 10 s).2.2 = true
  · rw [if_pos hc]
  · rw [if_neg hc, show s.drop (cutAt s) = [] from by unfold cutAt; rw [if_neg hc, List.drop_length], seqL_nil]
end P7
end Go.Proofs.YthpfoegmoldkgaaGreatDoor
