/- Texts cut, split and joined at a byte, plain. No program in sight. -/
import Derived.Lib.IndexMore
import Derived.Lib.IndexLaws
import Derived.Lib.Split
import Derived.Lib.SplitLaws
import Derived.Lib.Join
namespace Go.Proofs.YtggdbceommmllaaDoor
open Go
namespace CutL

/-- What stands ahead of a byte, and behind it; whether it is there. -/
def cutB (c : UInt8) : List UInt8 → List UInt8 × List UInt8 × Bool
  | [] => ([], [], false)
  | b :: l => if b = c then ([], l, true) else (b :: (cutB c l).1, (cutB c l).2.1, (cutB c l).2.2)
theorem cutB_len (c : UInt8) : ∀ l : List UInt8, (cutB c l).1.length ≤ l.length ∧ (cutB c l).2.1.length ≤ l.length ∧ (l ≠ [] → (cutB c l).2.1.length < l.length)
  | [] => ⟨Nat.le_refl _, Nat.le_refl _, fun h => absurd rfl h⟩
  | b :: l => by
    obtain ⟨h1, h2, h3⟩ := cutB_len c l
    rw [cutB]
    by_cases hb : b = c
    · rw [if_pos hb]
      simp
    · rw [if_neg hb]
      simp only [List.length_cons]
      exact ⟨by omega, by omega, fun _ => by omega⟩
theorem ib_hit (b : UInt8) (l : List UInt8) : Lib.indexByte (b :: l) b = 0 := by simp [Lib.indexByte]
theorem ib_none {b c : UInt8} {l : List UInt8} (hb : b ≠ c) (h : Lib.indexByte l c = -1) : Lib.indexByte (b :: l) c = -1 := by simp [Lib.indexByte, hb, h]
theorem ib_some {b c : UInt8} {l : List UInt8} (hb : b ≠ c) (h : Lib.indexByte l c ≠ -1) : Lib.indexByte (b :: l) c = Lib.indexByte l c + 1 := by simp [Lib.indexByte, hb, h]
theorem cut_cutB (c : UInt8) : ∀ l : List UInt8, Lib.cut l [c] = cutB c l := by
  intro l
  induction l with
  | nil => unfold Lib.cut; rw [Lib.index_one]; rfl
  | cons b l ih =>
    rw [cutB, ← ih]
    unfold Lib.cut
    rw [Lib.index_one, Lib.index_one]
    by_cases hb : b = c
    · subst hb
      rw [if_pos rfl, ib_hit]
      rfl
    · rw [if_neg hb]
      have hge := Lib.indexByte_ge l c
      by_cases h1 : Lib.indexByte l c = -1
      · rw [ib_none hb h1, h1]
        rfl
      · rw [ib_some hb h1]
        obtain ⟨m, hm⟩ := Int.eq_ofNat_of_zero_le (show 0 ≤ Lib.indexByte l c by omega)
        rw [hm, if_pos (by omega), if_pos (by omega), show ((m : Int) + 1).toNat = m + 1 by omega, Int.toNat_natCast, show m + 1 + [c].length = (m + [c].length) + 1 by simp, List.drop_succ_cons, List.take_succ_cons]
theorem cutB_hit (c : UInt8) : ∀ (a b : List UInt8), c ∉ a → cutB c (a ++ c :: b) = (a, b, true)
  | [], b, _ => by simp [cutB]
  | x :: a, b, h => by
    have h1 : x ≠ c := fun e => h (by rw [e]; exact List.mem_cons_self)
    have h2 := cutB_hit c a b (fun e => h (List.mem_cons_of_mem _ e))
    rw [List.cons_append, cutB, if_neg h1, h2]
theorem cutB_miss (c : UInt8) : ∀ a : List UInt8, c ∉ a → cutB c a = (a, [], false)
  | [], _ => rfl
  | x :: a, h => by
    have h1 : x ≠ c := fun e => h (by rw [e]; exact List.mem_cons_self)
    have h2 := cutB_miss c a (fun e => h (List.mem_cons_of_mem _ e))
    rw [cutB, if_neg h1, h2]
theorem cutB_join (c : UInt8) : ∀ l : List UInt8, (cutB c l).2.2 = true → (cutB c l).1 ++ c :: (cutB c l).2.1 = l ∧ c ∉ (cutB c l).1
  | [], h => by cases h
  | b :: l, h => by
    rw [cutB] at h ⊢
    by_cases hb : b = c
    · subst hb
      rw [if_pos rfl]
      exact ⟨rfl, by simp⟩
    · rw [if_neg hb] at h ⊢
      obtain ⟨h1, h2⟩ := cutB_join c l h
      refine ⟨by rw [List.cons_append, h1], ?_⟩
      rw [List.mem_cons]
      rintro (e | e)
      · exact hb e.symm
      · exact h2 e
theorem cutB_none (c : UInt8) : ∀ l : List UInt8, (cutB c l).2.2 = false → cutB c l = (l, [], false) ∧ c ∉ l
  | [], _ => ⟨rfl, by simp⟩
  | b :: l, h => by
    rw [cutB] at h ⊢
    by_cases hb : b = c
    · rw [if_pos hb] at h; cases h
    · rw [if_neg hb] at h ⊢
      obtain ⟨h1, h2⟩ := cutB_none c l h
      refine ⟨by rw [h1], ?_⟩
      rw [List.mem_cons]
      rintro (e | e)
      · exact hb e.symm
      · exact h2 e
/-- A text is without a byte, or it stands somewhere first. -/
theorem first_of (c : UInt8) (l : List UInt8) : c ∉ l ∨ ∃ a b, l = a ++ c :: b ∧ c ∉ a := by
  cases h : (cutB c l).2.2 with
  | false => exact .inl (cutB_none c l h).2
  | true => exact .inr ⟨_, _, (cutB_join c l h).1.symm, (cutB_join c l h).2⟩

/-! ### split -/
def splitC (c : UInt8) : List UInt8 → List (List UInt8)
  | [] => [[]]
  | b :: l => if b = c then [] :: splitC c l else (match splitC c l with
    | [] => [[b]]
    | x :: r => (b :: x) :: r)
theorem splitC_ne (c : UInt8) : ∀ l, splitC c l ≠ []
  | [] => by simp [splitC]
  | b :: l => by
    rw [splitC]
    split
    · simp
    · split <;> simp
theorem splitC_miss (c : UInt8) : ∀ l : List UInt8, c ∉ l → splitC c l = [l]
  | [], _ => rfl
  | x :: a, h => by
    have h1 : x ≠ c := fun e => h (by rw [e]; exact List.mem_cons_self)
    rw [splitC, if_neg h1, splitC_miss c a (fun e => h (List.mem_cons_of_mem _ e))]
theorem splitC_hit (c : UInt8) : ∀ a b : List UInt8, c ∉ a → splitC c (a ++ c :: b) = a :: splitC c b
  | [], b, _ => by rw [List.nil_append, splitC, if_pos rfl]
  | x :: a, b, h => by
    have h1 : x ≠ c := fun e => h (by rw [e]; exact List.mem_cons_self)
    rw [List.cons_append, splitC, if_neg h1, splitC_hit c a b (fun e => h (List.mem_cons_of_mem _ e))]
theorem splitC_len (c : UInt8) : ∀ l, (splitC c l).length = l.count c + 1
  | [] => rfl
  | b :: l => by
    have ih := splitC_len c l
    rw [splitC, List.count_cons]
    by_cases hb : b = c
    · rw [if_pos hb, List.length_cons, ih, if_pos (by simpa using hb)]
    · rw [if_neg hb, if_neg (by simpa using hb)]
      cases hs : splitC c l with
      | nil => exact absurd hs (splitC_ne c l)
      | cons x r => rw [hs] at ih; simpa using ih
theorem splitC_no (c : UInt8) : ∀ l, ∀ w ∈ splitC c l, c ∉ w
  | [], w, h => by
    simp only [splitC, List.mem_cons, List.not_mem_nil, or_false] at h
    rw [h]; simp
  | b :: l, w, h => by
    have ih := splitC_no c l
    rw [splitC] at h
    by_cases hb : b = c
    · rw [if_pos hb] at h
      rcases List.mem_cons.1 h with h | h
      · rw [h]; simp
      · exact ih w h
    · rw [if_neg hb] at h
      cases hs : splitC c l with
      | nil => exact absurd hs (splitC_ne c l)
      | cons x r =>
        rw [hs] at h ih
        rcases List.mem_cons.1 h with h | h
        · rw [h, List.mem_cons]
          rintro (e | e)
          · exact hb e.symm
          · exact ih x List.mem_cons_self e
        · exact ih w (List.mem_cons_of_mem _ h)
theorem index_miss {c : UInt8} {l : List UInt8} (h : c ∉ l) : Lib.index l [c] = -1 := by
  rw [Lib.index_one]
  induction l with
  | nil => rfl
  | cons b l ih => exact ib_none (fun e => h (by rw [e]; exact List.mem_cons_self)) (ih fun e => h (List.mem_cons_of_mem _ e))
theorem index_hit {c : UInt8} {a b : List UInt8} (h : c ∉ a) : Lib.index (a ++ c :: b) [c] = a.length := by
  rw [Lib.index_one]
  induction a with
  | nil => exact ib_hit c b
  | cons x a ih =>
    have ih := ih fun e => h (List.mem_cons_of_mem _ e)
    rw [List.cons_append, ib_some (fun e => h (by rw [e]; exact List.mem_cons_self)) (by rw [ih]; omega), ih, List.length_cons]
    omega
/-- The library's Split at one byte. -/
theorem split_splitC (c : UInt8) : ∀ (n : Nat) (l : List UInt8), l.length = n → Lib.splitK [c] 0 (Lib.count l [c]) l = splitC c l ∧ Lib.count l [c] + 1 = (splitC c l).length := by
  intro n
  induction n using Nat.strongRecOn with
  | ind n ih =>
    intro l hl
    rcases first_of c l with h | ⟨a, b, rfl, h⟩
    · rw [Lib.count_miss (index_miss h), splitC_miss c l h]
      exact ⟨rfl, rfl⟩
    · have hb : b.length < n := by rw [← hl, List.length_append, List.length_cons]; omega
      have hi := index_hit (b := b) h
      have hd : (a ++ c :: b).drop (a.length + [c].length) = b := by
        rw [List.drop_append, List.drop_eq_nil_of_le (by simp)]
        simp
      obtain ⟨i1, i2⟩ := ih b.length hb b rfl
      rw [Lib.count_hit (by simp) hi, hd, splitC_hit c a b h, Nat.add_comm 1, Lib.splitK, hi]
      have hne : ¬ (((a.length : Nat) : Int) == -1) = true := by rw [beq_iff_eq]; omega
      rw [if_neg hne, Int.toNat_natCast, hd, i1, Nat.add_zero, List.take_left']
      · exact ⟨rfl, by rw [List.length_cons, ← i2]⟩
      · rfl
theorem splitB_eq (s : ByteArray) (c : UInt8) : (Lib.splitB ⟨#[c]⟩ 0 (Lib.countB s ⟨#[c]⟩) s).map (·.data.toList) = splitC c s.data.toList ∧ Lib.countB s ⟨#[c]⟩ + 1 = (splitC c s.data.toList).length := by
  obtain ⟨h1, h2⟩ := split_splitC c _ s.data.toList rfl
  rw [Lib.splitB_data]
  exact ⟨h1, h2⟩

/-! ### join -/
def joinC (c : UInt8) : List (List UInt8) → List UInt8
  | [] => []
  | [x] => x
  | x :: y :: r => x ++ c :: joinC c (y :: r)
theorem join_joinC (c : UInt8) : ∀ ws, Lib.join ws [c] = joinC c ws
  | [] => rfl
  | [x] => Lib.join_one x [c]
  | x :: y :: r => by
    rw [joinC, ← join_joinC c (y :: r), Lib.join_cons, Lib.join_cons, Lib.joinTail, List.map_cons, List.flatten_cons]
    simp [Lib.joinTail]
theorem split_join (c : UInt8) : ∀ ws : List (List UInt8), ws ≠ [] → (∀ w ∈ ws, c ∉ w) → splitC c (joinC c ws) = ws
  | [], h, _ => absurd rfl h
  | [x], _, h => splitC_miss c x (h x List.mem_cons_self)
  | x :: y :: r, _, h => by
    rw [joinC, splitC_hit c x _ (h x List.mem_cons_self), split_join c (y :: r) (by simp) (fun w hw => h w (List.mem_cons_of_mem _ hw))]
theorem join_split (c : UInt8) : ∀ l, joinC c (splitC c l) = l
  | [] => rfl
  | b :: l => by
    have ih := join_split c l
    rw [splitC]
    cases hs : splitC c l with
    | nil => exact absurd hs (splitC_ne c l)
    | cons x r =>
      rw [hs] at ih
      by_cases hb : b = c
      · rw [if_pos hb, joinC, ih, hb]; rfl
      · rw [if_neg hb]
        show joinC c ((b :: x) :: r) = b :: l
        rw [← ih]
        cases r with
        | nil => rfl
        | cons y r => rfl
theorem joinC_snoc (c : UInt8) : ∀ (ws : List (List UInt8)) (x : List UInt8), ws ≠ [] → joinC c (ws ++ [x]) = joinC c ws ++ c :: x
  | [], _, h => absurd rfl h
  | [y], x, _ => rfl
  | y :: z :: r, x, _ => by
    show y ++ c :: joinC c ((z :: r) ++ [x]) = (y ++ c :: joinC c (z :: r)) ++ c :: x
    rw [joinC_snoc c (z :: r) x (by simp), List.append_assoc]
    rfl
end CutL
end Go.Proofs.YtggdbceommmllaaDoor
