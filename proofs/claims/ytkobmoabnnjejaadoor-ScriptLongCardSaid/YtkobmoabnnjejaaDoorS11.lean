/- Script: what is printed is parsed as it was, and what is parsed is printed as it was; plain. -/
import Derived.Test.YtkobmoabnnjejaaDoorS4a
namespace Go.Proofs.YtkobmoabnnjejaaDoor
open Go.RowKit
namespace P21
open PC NumL

theorem cutB_hit (c : UInt8) : ∀ (a b : List UInt8), c ∉ a → cutB c (a ++ c :: b) = (a, b, true)
  | [], b, _ => by simp [cutB]
  | x :: a, b, h => by
    have h1 : x ≠ c := fun e => h (by rw [e]; exact List.mem_cons_self)
    have h2 := cutB_hit c a b (fun e => h (List.mem_cons_of_mem _ e))
    rw [List.cons_append, cutB, if_neg h1, h2]
theorem cutB_join (c : UInt8) : ∀ l : List UInt8, (cutB c l).2.2 = true → (cutB c l).1 ++ c :: (cutB c l).2.1 = l ∧ c ∉ (cutB c l).1
  | [], h => by cases h
  | b :: l, h => by
    rw [cutB] at h ⊢
    by_cases hb : b = c
    · subst hb
      rw [if_pos rfl]
      exact ⟨rfl, by simp⟩
    · rw [if_neg hb] at h ⊢
      obtain ⟨h1, h2⟩ := cutB_join c l h
      refine ⟨by rw [List.cons_append, h1], ?_⟩
      rw [List.mem_cons]
      rintro (e | e)
      · exact hb e.symm
      · exact h2 e
theorem itoa_bytes (n : Int) : ∀ c ∈ Lib.itoa n, c = 45 ∨ isDig c = true := by
  intro c hc
  rcases itoa_parts n with ⟨a, _, e⟩ | ⟨a, _, _, e⟩
  · rw [e] at hc
    exact .inr (List.all_eq_true.1 (dec_val a).2.1 c hc)
  · rw [e, List.mem_cons] at hc
    rcases hc with h | h
    · exact .inl h
    · exact .inr (List.all_eq_true.1 (dec_val a).2.1 c h)
theorem itoa_no (n : Int) {c : UInt8} (h : c ≠ 45) (hd : isDig c = false) : c ∉ Lib.itoa n := by
  intro hc
  rcases itoa_bytes n c hc with e | e
  · exact h e
  · rw [hd] at e; cases e
theorem wordL_no32 (k : Int) : (32 : UInt8) ∉ wordL k := by
  unfold wordL
  split
  · decide
  · split
    · decide
    · split
      · decide
      · split <;> decide
theorem wordL_no10 (k : Int) : (10 : UInt8) ∉ wordL k := by
  unfold wordL
  split
  · decide
  · split
    · decide
    · split
      · decide
      · split <;> decide
theorem lineL_no10 (e : Ev) : (10 : UInt8) ∉ lineL e := by
  unfold lineL
  rw [List.mem_append, List.mem_cons]
  rintro (h | h | h)
  · exact wordL_no10 _ h
  · cases h
  · exact itoa_no _ (by decide) (by decide) h
theorem evT_line {e : Ev} (hk : okK e.k) (hw : EvWf e) : evT (lineL e) true = .inr e := by
  unfold evT lineL
  rw [cutB_hit 32 _ _ (wordL_no32 _)]
  dsimp only
  rw [kindT_some hk rfl]
  dsimp only
  rw [numT_itoa hw.n.1 hw.n.2]
  simp
theorem evT_ok {t : List UInt8} {wh : Bool} {e : Ev} (h : evT t wh = .inr e) : t = lineL e ∧ okK e.k ∧ EvWf e ∧ wh = true := by
  unfold evT at h
  split at h
  · cases h
  · rename_i k hk
    split at h
    · cases h
    · rename_i n hn
      split at h
      · rename_i hc
        obtain ⟨h1, h2⟩ := hc
        injection h with h
        subst h
        obtain ⟨k1, k2⟩ := kindT_ok hk
        obtain ⟨n1, n2, n3⟩ := numT_iff.1 hn
        refine ⟨?_, k1, ⟨?_, n2, n3⟩, h2⟩
        · unfold lineL
          dsimp only
          rw [k2, n1, (cutB_join 32 t h1).1]
        · unfold okK at k1
          dsimp only
          omega
      · cases h
theorem evT_bad {t : List UInt8} {wh : Bool} {c : Int} (h : evT t wh = .inl c) : c = 14 ∨ c = 11 := by
  unfold evT at h
  split at h
  · injection h with h; exact .inl h.symm
  · split at h
    · injection h with h; exact .inr h.symm
    · split at h
      · cases h
      · injection h with h; exact .inr h.symm
theorem textL_cons (e : Ev) (l : List Ev) : textL (e :: l) = lineL e ++ 10 :: textL l := by
  unfold textL
  rw [List.flatMap_cons, List.append_assoc]
  rfl
theorem parse_text : ∀ (l : List Ev) (f line : Nat) (acc : List Ev), (∀ e ∈ l, okK e.k ∧ EvWf e) → (textL l).length < f → parseT f line (textL l) acc = .inr (acc ++ l) := by
  intro l
  induction l with
  | nil =>
    intro f line acc _ hf
    cases f with
    | zero => omega
    | succ f => rw [parseT, if_pos (show textL [] = [] from rfl), List.append_nil]
  | cons e l ih =>
    intro f line acc h hf
    cases f with
    | zero => omega
    | succ f =>
      obtain ⟨h1, h2⟩ := h e List.mem_cons_self
      rw [textL_cons] at hf ⊢
      rw [parseT, if_neg (by simp), cutB_hit 10 _ _ (lineL_no10 e)]
      dsimp only
      rw [evT_line h1 h2]
      dsimp only
      rw [ih f (line + 1) (acc ++ [e]) (fun x hx => h x (List.mem_cons_of_mem _ hx)) (by rw [List.length_append, List.length_cons] at hf; omega), List.append_assoc]
      rfl
theorem parse_ok : ∀ (f line : Nat) (s : List UInt8) (acc m : List Ev), s.length < f → parseT f line s acc = .inr m → ∃ l, m = acc ++ l ∧ s = textL l ∧ ∀ e ∈ l, okK e.k ∧ EvWf e := by
  intro f
  induction f with
  | zero => intro _ s _ _ h; omega
  | succ f ih =>
    intro line s acc m hf h
    rw [parseT] at h
    by_cases hs : s = []
    · rw [if_pos hs] at h
      injection h with h
      exact ⟨[], by rw [List.append_nil, h], by rw [hs]; rfl, fun e he => by cases he⟩
    · rw [if_neg hs] at h
      cases he : evT (cutB 10 s).1 (cutB 10 s).2.2 with
      | inl c => rw [he] at h; cases h
      | inr e =>
        rw [he] at h
        dsimp only at h
        obtain ⟨h1, h2, h3, h4⟩ := evT_ok he
        have hl := (cutB_len 10 s).2.2 hs
        obtain ⟨l, rfl, h5, h6⟩ := ih _ _ _ _ (by omega) h
        refine ⟨e :: l, by rw [List.append_assoc]; rfl, ?_, ?_⟩
        · rw [textL_cons, ← h1, ← h5, (cutB_join 10 s h4).1]
        · intro x hx
          rcases List.mem_cons.1 hx with rfl | hx
          · exact ⟨h2, h3⟩
          · exact h6 x hx
theorem parse_err : ∀ (f line : Nat) (s : List UInt8) (acc : List Ev) (n : Nat) (c : Int), parseT f line s acc = .inl (n, c) → line ≤ n ∧ n ≤ line + s.length ∧ (c = 14 ∨ c = 11) := by
  intro f
  induction f with
  | zero => intro _ s _ _ _ h; cases h
  | succ f ih =>
    intro line s acc n c h
    rw [parseT] at h
    by_cases hs : s = []
    · rw [if_pos hs] at h; cases h
    · rw [if_neg hs] at h
      cases he : evT (cutB 10 s).1 (cutB 10 s).2.2 with
      | inl d =>
        rw [he] at h
        injection h with h
        injection h with h1 h2
        subst h1 h2
        exact ⟨Nat.le_refl _, by omega, evT_bad he⟩
      | inr e =>
        rw [he] at h
        have hl := (cutB_len 10 s).2.2 hs
        obtain ⟨h1, h2, h3⟩ := ih _ _ _ _ _ h
        exact ⟨by omega, by omega, h3⟩
end P21
end Go.Proofs.YtkobmoabnnjejaaDoor
