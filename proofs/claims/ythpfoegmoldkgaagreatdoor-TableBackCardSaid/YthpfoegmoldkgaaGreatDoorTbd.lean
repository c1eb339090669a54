/- Table: what Parse's loop has after so many lines, plain. No program in sight. -/
import Derived.Test.YthpfoegmoldkgaaGreatDoorTba
import Derived.Test.YthpfoegmoldkgaaGreatDoorTb8
namespace Go.Proofs.YthpfoegmoldkgaaGreatDoor
open Go.RowKit
namespace P7
open CutL NumL

theorem seqL_num : ∀ (f k : Nat) (s : List UInt8) (pre : List (Nat × List UInt8)) (x : Nat × List UInt8), pre ++ [x] <+: seqL f k s → x.1 = k + pre.length
  | 0, k, s, pre, x, h => by
    have := h.length_le
    simp [seqL] at this
  | f + 1, k, s, pre, x, h => by
    by_cases h0 : s = []
    · rw [h0, seqL_nil] at h
      have := h.length_le
      simp at this
    · rw [seqL_round h0] at h
      cases pre with
      | nil =>
        obtain ⟨t, ht⟩ := h
        simp only [List.nil_append, List.singleton_append, List.cons.injEq] at ht
        rw [ht.1]
        simp
      | cons y pre =>
        obtain ⟨t, ht⟩ := h
        simp only [List.cons_append, List.append_assoc, List.cons.injEq] at ht
        have := seqL_num f (k + 1) _ pre x ⟨t, by rw [List.append_assoc]; exact ht.2⟩
        rw [this, List.length_cons]
        omega
theorem seqL_bd : ∀ (f k : Nat) (s : List UInt8), (seqL f k s).length ≤ s.length ∧ ∀ x ∈ seqL f k s, x.2.length ≤ s.length
  | 0, k, s => ⟨Nat.zero_le _, fun x hx => by cases hx⟩
  | f + 1, k, s => by
    by_cases h0 : s = []
    · rw [h0, seqL_nil]
      exact ⟨Nat.zero_le _, fun x hx => by cases hx⟩
    · rw [seqL_round h0]
      obtain ⟨h1, h2⟩ := seqL_bd f (k + 1) (s.drop (cutAt s))
      have hp := cutAt_pos h0
      have hle := cutAt_le s
      rw [List.length_drop] at h1 h2
      refine ⟨by rw [List.length_cons]; omega, fun x hx => ?_⟩
      rcases List.mem_cons.1 hx with rfl | hx
      · exact List.length_take_le' _ _
      · have := h2 x hx
        omega
/-- The rows of the lines so far; none: one of them was wrong. -/
def foldP (pre : List (Nat × List UInt8)) : Option (List Row) := (pre.map (·.2)).foldl stepL (some [])
theorem foldP_nil : foldP [] = some [] := rfl
theorem foldP_snoc (pre : List (Nat × List UInt8)) (x : Nat × List UInt8) : foldP (pre ++ [x]) = stepL (foldP pre) x.2 := by
  unfold foldP
  rw [List.map_append, List.foldl_append]
  rfl
theorem foldP_stop {pre xs : List (Nat × List UInt8)} (h : pre <+: xs) (h0 : foldP pre = none) : foldP xs = none := by
  obtain ⟨t, rfl⟩ := h
  unfold foldP at h0 ⊢
  rw [List.map_append, List.foldl_append, h0]
  exact fold_none _
theorem foldP_len {pre : List (Nat × List UInt8)} {m : List Row} (h : foldP pre = some m) : m.length = pre.length := by
  have := fold_len _ _ _ h
  rw [this]
  simp
theorem parseM_fold {s : List UInt8} (h : s ≠ []) : parseM s = foldP (seqL (s.length + 1) 1 s) := by
  unfold parseM foldP
  rw [if_neg h, parseR_fold _ _ _ (by omega), seqL_lines]
theorem trim_le (x y : List UInt8) : (Lib.trimSuffix x y).length ≤ x.length := by
  unfold Lib.trimSuffix
  split
  · exact List.length_take_le' _ _
  · exact Nat.le_refl _
theorem foldP_wf (N : Nat) (hN : N ≤ 1000000) : ∀ (n : Nat) (pre : List (Nat × List UInt8)) (m : List Row), pre.length = n → (∀ x ∈ pre, x.2.length ≤ N) → foldP pre = some m → ∀ r ∈ m, RowWf r ∧ r.c.size ≤ N + 1
  | 0, pre, m, hl, hx, h, r, hr => by
    have : pre = [] := List.eq_nil_of_length_eq_zero hl
    rw [this, foldP_nil] at h
    injection h with h
    rw [← h] at hr
    cases hr
  | n + 1, pre, m, hl, hx, h, r, hr => by
    rcases List.eq_nil_or_concat pre with rfl | ⟨p, x, rfl⟩
    · simp at hl
    · rw [List.concat_eq_append] at hl hx h
      rw [foldP_snoc] at h
      cases hp : foldP p with
      | none => rw [hp] at h; cases h
      | some l =>
        rw [hp] at h
        simp only [stepL] at h
        have ih := foldP_wf N hN n p l (by simpa using hl) (fun y hy => hx y (by simp [hy])) hp
        have hxl := hx x (by simp)
        split at h
        · cases hrt : rowT (Lib.trimSuffix x.2 [10]) with
          | none => rw [hrt] at h; cases h
          | some q =>
            rw [hrt] at h
            simp only at h
            split at h
            · injection h with h
              rw [← h] at hr
              rcases List.mem_append.1 hr with hr | hr
              · exact ih r hr
              · rw [List.mem_singleton] at hr
                subst hr
                have ht := trim_le x.2 [10]
                obtain ⟨a, b⟩ := rowT_wf hrt (by omega)
                exact ⟨a, by omega⟩
            · cases h
        · cases h
/-- One line more, by what it is. -/
theorem step_form {l : List Row} {x : List UInt8} (h : Lib.hasSuffix x [10] = false) : stepL (some l) x = none := by
  simp only [stepL]
  rw [h]
  rfl
theorem step_row {l : List Row} {x : List UInt8} (h : Lib.hasSuffix x [10] = true) (hr : rowT (Lib.trimSuffix x [10]) = none) : stepL (some l) x = none := by
  simp only [stepL]
  rw [h, hr]
  rfl
theorem step_wrong {l : List Row} {x : List UInt8} {r : Row} (h : Lib.hasSuffix x [10] = true) (hr : rowT (Lib.trimSuffix x [10]) = some r) (hw : right (l.length + 1) (l ++ [r]) l.length ≠ 0) : stepL (some l) x = none := by
  simp only [stepL]
  rw [h, hr]
  simp only [if_true]
  rw [if_neg hw]
theorem step_on {l : List Row} {x : List UInt8} {r : Row} (h : Lib.hasSuffix x [10] = true) (hr : rowT (Lib.trimSuffix x [10]) = some r) (hw : right (l.length + 1) (l ++ [r]) l.length = 0) : stepL (some l) x = some (l ++ [r]) := by
  simp only [stepL]
  rw [h, hr]
  simp only [if_true]
  rw [if_pos hw]
end P7
end Go.Proofs.YthpfoegmoldkgaaGreatDoor
