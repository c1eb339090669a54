/- Numerals, plain: what decimal digits are worth; which texts are a number's own. No program in sight. -/
import Derived.Lib.ParseIntB
import Derived.Lib.AppendIntMem
import Derived.Lib.ItoaMem
import Derived.Lib.ItoaNum
import Derived.Lib.ItoaLen
namespace Go.Proofs.YtggdbceommmllaaDoor
open Go
namespace NumL

def isDig (c : UInt8) : Bool := decide (48 ≤ c.toNat ∧ c.toNat ≤ 57)
def valF (acc : Nat) (l : List UInt8) : Nat := l.foldl (fun a c => a * 10 + (c.toNat - 48)) acc
theorem valF_nil (acc : Nat) : valF acc [] = acc := rfl
theorem valF_cons (acc : Nat) (c : UInt8) (l : List UInt8) : valF acc (c :: l) = valF (acc * 10 + (c.toNat - 48)) l := by simp only [valF, List.foldl_cons]
theorem valF_append (l m : List UInt8) (acc : Nat) : valF acc (l ++ m) = valF (valF acc l) m := by simp only [valF, List.foldl_append]
theorem valF_snoc (l : List UInt8) (c : UInt8) (acc : Nat) : valF acc (l ++ [c]) = valF acc l * 10 + (c.toNat - 48) := by rw [valF_append]; rfl
theorem valF_ge : ∀ (l : List UInt8) (acc : Nat), acc ≤ valF acc l := by
  intro l
  induction l with
  | nil => intro acc; exact Nat.le_refl _
  | cons c l ih =>
    intro acc
    rw [valF_cons]
    exact Nat.le_trans (by omega) (ih _)
theorem valF_prefix {p l : List UInt8} (h : p <+: l) (acc : Nat) : valF acc p ≤ valF acc l := by
  obtain ⟨t, rfl⟩ := h
  rw [valF_append]
  exact valF_ge _ _
theorem digit_of {c : UInt8} (h : isDig c = true) : UInt8.ofNat (48 + (c.toNat - 48)) = c := by
  unfold isDig at h
  have h := of_decide_eq_true h
  rw [show 48 + (c.toNat - 48) = c.toNat by omega]
  simp
theorem digit_val {d : Nat} (h : d < 10) : (UInt8.ofNat (48 + d)).toNat = 48 + d := by
  rw [UInt8.toNat_ofNat']
  omega
theorem digit_is {d : Nat} (h : d < 10) : isDig (UInt8.ofNat (48 + d)) = true := by
  unfold isDig
  rw [digit_val h]
  exact decide_eq_true (by omega)
theorem dec_one {a : Nat} (h : a < 10) : Lib.decDigits a = [UInt8.ofNat (48 + a)] := Lib.decDigits_one h
theorem dec_more {a : Nat} (h : 10 ≤ a) : Lib.decDigits a = Lib.decDigits (a / 10) ++ [UInt8.ofNat (48 + a % 10)] := by rw [Lib.decDigits, dif_neg (by omega)]
/-- What the digits of a number are worth, and that they are digits, the first of them no 0 (but of 0 itself). -/
theorem dec_val : ∀ a : Nat, valF 0 (Lib.decDigits a) = a ∧ (Lib.decDigits a).all isDig = true ∧ Lib.decDigits a ≠ [] ∧ ((Lib.decDigits a).head? = some 48 → a = 0) := by
  intro a
  induction a using Nat.strongRecOn with
  | ind a ih =>
    by_cases h : a < 10
    · rw [dec_one h]
      refine ⟨?_, ?_, by simp, ?_⟩
      · rw [valF_cons, valF_nil, digit_val h]; omega
      · rw [List.all_cons, digit_is h]; rfl
      · intro e
        simp only [List.head?_cons, Option.some.injEq] at e
        have := congrArg UInt8.toNat e
        rw [digit_val h] at this
        have h48 : (48 : UInt8).toNat = 48 := rfl
        omega
    · obtain ⟨h1, h2, h3, h4⟩ := ih (a / 10) (by omega)
      rw [dec_more (by omega)]
      refine ⟨?_, ?_, by simp, ?_⟩
      · rw [valF_snoc, h1, digit_val (by omega)]; omega
      · rw [List.all_append, h2, List.all_cons, digit_is (by omega)]; rfl
      · intro e
        have e2 : (Lib.decDigits (a / 10)).head? = some 48 := by
          cases hd : Lib.decDigits (a / 10) with
          | nil => exact absurd hd h3
          | cons x y => rw [hd] at e; simpa using e
        have := h4 e2
        omega
theorem dec_len10 {a : Nat} (h : 10 ≤ a) : 2 ≤ (Lib.decDigits a).length := by
  rw [dec_more h, List.length_append]
  have := (dec_val (a / 10)).2.2.1
  have : (Lib.decDigits (a / 10)).length ≠ 0 := fun e => this (List.eq_nil_of_length_eq_zero e)
  simp only [List.length_cons, List.length_nil]
  omega
theorem head_pos {c : UInt8} {l : List UInt8} (hd : isDig c = true) (h : c ≠ 48) : 1 ≤ valF 0 (c :: l) := by
  rw [valF_cons]
  refine Nat.le_trans ?_ (valF_ge _ _)
  have hd := of_decide_eq_true hd
  have : c.toNat ≠ 48 := fun e => h (by
    have : c = UInt8.ofNat c.toNat := by simp
    rw [this, e]; rfl)
  omega
/-- Digits without a 0 ahead are those of what they are worth. -/
theorem dec_of : ∀ (n : Nat) (l : List UInt8), l.length = n → l ≠ [] → l.all isDig = true → (l.head? = some 48 → l.length = 1) → Lib.decDigits (valF 0 l) = l := by
  intro n
  induction n with
  | zero => intro l hl h; exact absurd (List.eq_nil_of_length_eq_zero hl) h
  | succ n ih =>
    intro l hl hne hall hz
    obtain ⟨m, c, rfl⟩ : ∃ m c, l = m ++ [c] := ⟨l.dropLast, l.getLast hne, (List.dropLast_concat_getLast hne).symm⟩
    rw [List.all_append, Bool.and_eq_true, List.all_cons, List.all_nil, Bool.and_true] at hall
    have hc := of_decide_eq_true hall.2
    rw [valF_snoc]
    cases m with
    | nil =>
      rw [valF_nil, dec_one (by omega), Nat.zero_mul, Nat.zero_add, digit_of hall.2]
      rfl
    | cons b m =>
      have hb : b ≠ 48 := fun e => by
        have := hz (by rw [e]; rfl)
        simp at this
      have hbd : isDig b = true := by
        have := hall.1
        rw [List.all_cons, Bool.and_eq_true] at this
        exact this.1
      have hp := head_pos (l := m) hbd hb
      have h1 := ih (b :: m) (by simpa using hl) (by simp) hall.1 (fun e => absurd (Option.some.inj (by simpa using e)) hb)
      rw [dec_more (by omega), show (valF 0 (b :: m) * 10 + (c.toNat - 48)) / 10 = valF 0 (b :: m) by omega, h1, show (valF 0 (b :: m) * 10 + (c.toNat - 48)) % 10 = c.toNat - 48 by omega, digit_of hall.2]

/-! ### ParseInt -/
theorem parseM_ok : ∀ (l : List UInt8) (acc : Nat), l.all isDig = true → valF acc l ≤ 18446744073709551615 → Lib.parseUintM (2 ^ 64 - 1) acc l = .ok (valF acc l)
  | [], acc, _, _ => rfl
  | c :: l, acc, ha, hv => by
    rw [List.all_cons, Bool.and_eq_true] at ha
    have hc := of_decide_eq_true ha.1
    rw [valF_cons] at hv ⊢
    have hge := valF_ge l (acc * 10 + (c.toNat - 48))
    rw [Lib.parseUintM, if_pos hc, if_neg (by omega), if_neg (by have : (2 : Nat) ^ 64 - 1 = 18446744073709551615 := by decide
                                                                 omega)]
    exact parseM_ok l _ ha.2 hv
theorem parseU_ok {l : List UInt8} (h0 : l ≠ []) (ha : l.all isDig = true) (hv : valF 0 l ≤ 18446744073709551615) : Lib.parseUintB 64 l = .ok (valF 0 l) := by
  rw [Lib.parseUintB, if_neg h0]
  exact parseM_ok l 0 ha hv
/-- The number whose own text it is. -/
def numT (l : List UInt8) : Option Int := match Lib.parseIntB 64 l with
  | .ok n => if Lib.itoa n = l then some n else none
  | _ => none
theorem parse_range {l : List UInt8} {n : Int} (h : Lib.parseIntB 64 l = .ok n) : -9223372036854775808 ≤ n ∧ n ≤ 9223372036854775807 := by
  unfold Lib.parseIntB at h
  cases l with
  | nil => cases h
  | cons c r =>
    simp only at h
    split at h
    · cases h
    · cases h
    · rename_i u hu
      have e1 : (2 : Nat) ^ (64 - 1) = 9223372036854775808 := by decide
      split at h
      · cases h
      · rename_i g1
        split at h
        · cases h
        · rename_i g2
          injection h with h
          rw [e1] at g1 g2
          by_cases hn : c.toNat = 45
          · rw [if_pos hn] at h
            have : ¬ 9223372036854775808 < u := fun e => g2 ⟨hn, e⟩
            omega
          · rw [if_neg hn] at h
            have : ¬ 9223372036854775808 ≤ u := fun e => g1 ⟨hn, e⟩
            omega
theorem parse_itoa {n : Int} (h0 : -9223372036854775808 ≤ n) (h1 : n ≤ 9223372036854775807) : Lib.parseIntB 64 (Lib.itoa n) = .ok n := by
  have e1 : (2 : Nat) ^ (64 - 1) = 9223372036854775808 := by decide
  rcases Int.lt_or_le n 0 with h | h
  · obtain ⟨a, rfl⟩ : ∃ a : Nat, n = -(a : Int) := ⟨(-n).toNat, by omega⟩
    obtain ⟨v1, v2, v3, -⟩ := dec_val a
    rw [Lib.itoa_neg a (by omega)]
    unfold Lib.parseIntB
    simp only
    rw [if_pos (.inr rfl), parseU_ok v3 v2 (by rw [v1]; omega), v1]
    simp only
    rw [if_neg (fun e => e.1 rfl), if_neg (fun e => by have := e.2; omega), if_pos (show (45 : UInt8).toNat = 45 from rfl)]
  · obtain ⟨a, rfl⟩ := Int.eq_ofNat_of_zero_le h
    obtain ⟨v1, v2, v3, -⟩ := dec_val a
    rw [Lib.itoa_nonneg]
    cases hd : Lib.decDigits a with
    | nil => exact absurd hd v3
    | cons c r =>
      have hc : 48 ≤ c.toNat ∧ c.toNat ≤ 57 := by
        rw [hd, List.all_cons, Bool.and_eq_true] at v2
        exact of_decide_eq_true v2.1
      rw [hd] at v1 v2 v3
      unfold Lib.parseIntB
      simp only
      rw [if_neg (by omega), parseU_ok v3 v2 (by rw [v1]; omega), v1]
      simp only
      rw [if_neg (fun e => by have := e.2; omega), if_neg (fun e => by omega), if_neg (by omega)]
theorem numT_iff {l : List UInt8} {n : Int} : numT l = some n ↔ Lib.itoa n = l ∧ -9223372036854775808 ≤ n ∧ n ≤ 9223372036854775807 := by
  constructor
  · intro h
    unfold numT at h
    split at h
    · rename_i m hm
      split at h
      · rename_i hi
        cases h
        exact ⟨hi, parse_range hm⟩
      · cases h
    · cases h
  · rintro ⟨rfl, h0, h1⟩
    unfold numT
    rw [parse_itoa h0 h1]
    simp
theorem numT_itoa {n : Int} (h0 : -9223372036854775808 ≤ n) (h1 : n ≤ 9223372036854775807) : numT (Lib.itoa n) = some n := numT_iff.2 ⟨rfl, h0, h1⟩
theorem numT_none {l : List UInt8} (h : ∀ n : Int, Lib.itoa n = l → -9223372036854775808 ≤ n → n ≤ 9223372036854775807 → False) : numT l = none := by
  cases hn : numT l with
  | none => rfl
  | some n =>
    obtain ⟨h1, h2, h3⟩ := numT_iff.1 hn
    exact (h n h1 h2 h3).elim
/-- A number's text: its sign, and digits. -/
theorem itoa_parts (n : Int) : (∃ a : Nat, n = a ∧ Lib.itoa n = Lib.decDigits a) ∨ (∃ a : Nat, 0 < a ∧ n = -(a : Int) ∧ Lib.itoa n = 45 :: Lib.decDigits a) := by
  rcases Int.lt_or_le n 0 with h | h
  · obtain ⟨a, rfl⟩ : ∃ a : Nat, n = -(a : Int) := ⟨(-n).toNat, by omega⟩
    exact .inr ⟨a, by omega, rfl, Lib.itoa_neg a (by omega)⟩
  · obtain ⟨a, rfl⟩ := Int.eq_ofNat_of_zero_le h
    exact .inl ⟨a, rfl, Lib.itoa_nonneg a⟩
theorem dec_no45 (a : Nat) : (Lib.decDigits a).head? ≠ some 45 := by
  intro h
  obtain ⟨-, v2, v3, -⟩ := dec_val a
  cases hd : Lib.decDigits a with
  | nil => exact v3 hd
  | cons c r =>
    rw [hd] at h v2
    rw [List.all_cons, Bool.and_eq_true] at v2
    have hc := of_decide_eq_true v2.1
    simp only [List.head?_cons, Option.some.injEq] at h
    subst h
    have : (45 : UInt8).toNat = 45 := rfl
    omega
/-- Behind a minus. -/
theorem numT_neg {d : List UInt8} {n : Int} : numT (45 :: d) = some n ↔ ∃ a : Nat, 0 < a ∧ a ≤ 9223372036854775808 ∧ n = -(a : Int) ∧ d = Lib.decDigits a := by
  rw [numT_iff]
  constructor
  · rintro ⟨h, h0, h1⟩
    rcases itoa_parts n with ⟨a, rfl, e⟩ | ⟨a, ha, rfl, e⟩
    · exact absurd (by rw [← e, h]; rfl) (dec_no45 a)
    · rw [e] at h
      injection h with _ h
      exact ⟨a, ha, by omega, rfl, h.symm⟩
  · rintro ⟨a, ha, hb, rfl, rfl⟩
    exact ⟨Lib.itoa_neg a (by omega), by omega, by omega⟩
theorem numT_pos {d : List UInt8} (h45 : d.head? ≠ some 45) {n : Int} : numT d = some n ↔ ∃ a : Nat, a ≤ 9223372036854775807 ∧ n = (a : Int) ∧ d = Lib.decDigits a := by
  rw [numT_iff]
  constructor
  · rintro ⟨h, h0, h1⟩
    rcases itoa_parts n with ⟨a, rfl, e⟩ | ⟨a, ha, rfl, e⟩
    · exact ⟨a, by omega, rfl, by rw [← e, h]⟩
    · exact absurd (by rw [← h, e]; rfl) h45
  · rintro ⟨a, ha, rfl, rfl⟩
    exact ⟨Lib.itoa_nonneg a, by omega, by omega⟩
end NumL
end Go.Proofs.YtggdbceommmllaaDoor
