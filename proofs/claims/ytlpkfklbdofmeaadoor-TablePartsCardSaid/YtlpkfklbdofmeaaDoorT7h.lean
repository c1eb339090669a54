/- Walks: how numbers and words are written: or, kinds, Itoa, FormatInt of package table; number, Kind, or of the reference. -/
import Derived.Test.YtlpkfklbdofmeaaDoorT7g
import Derived.Test.YtlpkfklbdofmeaaDoorB8
import Derived.Lib.AppendIntMem
import Derived.Lib.ItoaMem
import Derived.Lib.ItoaLen
import Derived.Lib.ItoaNum
namespace Go.Proofs.YtlpkfklbdofmeaaDoor
open Go.RowKit
namespace P7

/-- The library's table of powers of ten is as its initialiser lays it. -/
def Pow (w : World) : Prop := Lib.TabIs Tryd.prog w "internal/strconv.uint64pow10" .u64 Lib.pow10Tab
theorem Pow.next {w w' : World} (h : Pow w) (hb : Below w.heap.size w w') : Pow w' := Lib.tabBelow_of_tabIs h w' hb

theorem itoa_any (n : Int) (h0 : -9223372036854775808 ≤ n) (h1 : n ≤ 9223372036854775807) (w : World) (hp : Pow w) :
    Calls Tryd.prog 28 #[.int .i64 n] w fun e w' => e = .returned (.string ⟨(Lib.itoa n).toArray⟩) ∧ Below w.heap.size w w' := by
  refine (Tryd.strconv_Itoa n h0 h1 w hp).mono ?_
  rintro e w' ⟨rfl, k, os, rfl⟩
  exact ⟨rfl, Lib.below_grow _ _ (Nat.le_refl _) _ _⟩
theorem format_any (n : Int) (h0 : -9223372036854775808 ≤ n) (h1 : n ≤ 9223372036854775807) (w : World) (hp : Pow w) :
    Calls Tryd.prog 30 #[.int .i64 n, .int .i64 10] w fun e w' => e = .returned (.string ⟨(Lib.itoa n).toArray⟩) ∧ Below w.heap.size w w' := by
  refine (Tryd.strconv_FormatInt_10 n h0 h1 w hp).mono ?_
  rintro e w' ⟨rfl, k, os, rfl⟩
  exact ⟨rfl, Lib.below_grow _ _ (Nat.le_refl _) _ _⟩

theorem str_inj {s t : ByteArray} (h : s.toList = t.toList) : s = t := by
  rw [ByteArray.toList_eq, ByteArray.toList_eq] at h
  have := Array.toList_inj.1 h
  obtain ⟨d⟩ := s
  obtain ⟨d'⟩ := t
  simp only at this
  rw [this]
theorem str_beq (s : ByteArray) : (s.toList == s.toList) = true := beq_iff_eq.2 rfl
theorem str_bne {s t : ByteArray} (h : s ≠ t) : (s.toList == t.toList) = false := by
  rw [beq_eq_false_iff_ne]
  exact fun e => h (str_inj e)
theorem or_same (s other : ByteArray) (w : World) : Calls Tryd.prog 27 #[.string s, .string s, .string other] w fun e w' => e = .returned (.string other) ∧ w' = w := by
  have h := str_beq s
  go_enter Tryd.func27, Tryd.ntmps27
  go_wp2_with fail
  go_ret
  exact ⟨rfl, rfl⟩
theorem or_else (s is other : ByteArray) (hne : s ≠ is) (w : World) : Calls Tryd.prog 27 #[.string s, .string is, .string other] w fun e w' => e = .returned (.string s) ∧ w' = w := by
  have h := str_bne hne
  clear hne
  go_enter Tryd.func27, Tryd.ntmps27
  go_wp2_with fail
  go_ret
  exact ⟨rfl, rfl⟩
theorem refOr_empty (s : ByteArray) (hs : s.size = 0) (w : World) : Calls Tryd.prog 37 #[.string s] w fun e w' => e = .returned (.string ⟨#[45]⟩) ∧ w' = w := by
  have h1 := str_empty' hs
  have h2 := str_empty hs
  clear hs
  go_enter Tryd.func37, Tryd.ntmps37
  go_wp2_with fail
  go_ret
  exact ⟨rfl, rfl⟩
theorem refOr_full (s : ByteArray) (hs : ¬ s.size = 0) (w : World) : Calls Tryd.prog 37 #[.string s] w fun e w' => e = .returned (.string s) ∧ w' = w := by
  have h1 := str_full' hs
  have h2 := str_full hs
  clear hs
  go_enter Tryd.func37, Tryd.ntmps37
  go_wp2_with fail
  go_ret
  exact ⟨rfl, rfl⟩

/-- The words of kinds. -/
def kindsL : List ByteArray := [⟨#[112, 101, 110, 100, 105, 110, 103]⟩, ⟨#[114, 117, 110, 110, 105, 110, 103]⟩, ⟨#[118, 97, 108, 117, 101]⟩, ⟨#[112, 97, 110, 105, 99, 107, 101, 100]⟩, ⟨#[99, 97, 110, 99, 101, 108, 108, 101, 100]⟩]
def kindW (k : Int) : ByteArray := kindsL.getD k.toNat ⟨#[]⟩
theorem refKind_any (k : Int) (h0 : 0 ≤ k) (h1 : k ≤ 4) (w : World) : Calls Tryd.prog 36 #[.int .i64 k] w fun e w' => e = .returned (.string (kindW k)) ∧ Below w.heap.size w w' := by
  have h : k = 0 ∨ k = 1 ∨ k = 2 ∨ k = 3 ∨ k = 4 := by omega
  rcases h with rfl | rfl | rfl | rfl | rfl
  all_goals
    go_enter Tryd.func36, Tryd.ntmps36
    go_wp2_with fail
    go_ret
    exact ⟨rfl, by go_grown⟩
theorem kinds_any (w : World) : Calls Tryd.prog 29 #[] w fun e w' => e = .returned (.slice (some ⟨w.heap.size, 0, none⟩) 5 5) ∧ w' = w.alloc (.cells (kindsL.map Value.string).toArray 9) := by
  go_enter Tryd.func29, Tryd.ntmps29
  go_wp2_with fail
  go_ret
  exact ⟨rfl, rfl⟩

/-! ### number -/
theorem numeral_one (n : Nat) (h : n < 10) (w : World) : Calls Tryd.prog 53 #[.int .i64 n] w fun e w' => e = .returned (.string ⟨#[UInt8.ofNat (48 + n)]⟩) ∧ w' = w := by
  have h : n = 0 ∨ n = 1 ∨ n = 2 ∨ n = 3 ∨ n = 4 ∨ n = 5 ∨ n = 6 ∨ n = 7 ∨ n = 8 ∨ n = 9 := by omega
  rcases h with rfl | rfl | rfl | rfl | rfl | rfl | rfl | rfl | rfl | rfl
  all_goals
    go_enter Tryd.func53, Tryd.ntmps53
    go_wp2_with fail
    go_ret
    exact ⟨rfl, rfl⟩

/-- The digits that are still to come. -/
def pre (a : Nat) : List UInt8 := if a = 0 then [] else Lib.decDigits a
theorem pre_step (a : Nat) (h : a ≠ 0) : pre a = pre (a / 10) ++ [UInt8.ofNat (48 + a % 10)] := by
  rw [pre, if_neg h, Lib.decDigits]
  by_cases h10 : a < 10
  · rw [dif_pos h10, pre, if_pos (by omega)]
    have : a % 10 = a := by omega
    rw [this]; rfl
  · rw [dif_neg h10, pre, if_neg (by omega)]
theorem itoa_pos (a : Nat) (h : a ≠ 0) : Lib.itoa (a : Int) = pre a := by rw [Lib.itoa_nonneg, pre, if_neg h]
theorem itoa_below (a : Nat) (h : a ≠ 0) : Lib.itoa (-(a : Int)) = 45 :: pre a := by rw [Lib.itoa_neg a (by omega), pre, if_neg h]

theorem bs_append (l m : List UInt8) : (⟨l.toArray⟩ : ByteArray) ++ ⟨m.toArray⟩ = ⟨(l ++ m).toArray⟩ := by
  apply ByteArray.ext
  simp
theorem app_one (x y : UInt8) (o : List UInt8) (h : x = y) : (⟨#[x]⟩ : ByteArray) ++ ⟨o.toArray⟩ = ⟨(y :: o).toArray⟩ := by
  subst h
  exact bs_append [x] o
theorem pre_len (a : Nat) (h : a ≤ 9223372036854775808) : (pre a).length ≤ 21 := by
  by_cases h0 : a = 0
  · rw [pre, if_pos h0]; simp
  · have := Lib.itoa_length_le (-(a : Int)) (by omega) (by omega)
    rw [itoa_below a h0, List.length_cons] at this
    omega
def NumR (a : Nat) (neg : Bool) (x out : Value) : Prop := ∃ (b : Nat) (o : List UInt8), b ≤ a ∧ x = .int .i64 (if neg then -(b : Int) else b) ∧ out = .string ⟨o.toArray⟩ ∧ pre a = pre b ++ o

set_option maxHeartbeats 1000000 in
theorem number_pos (a : Nat) (h0 : a ≠ 0) (h1 : a ≤ 9223372036854775807) (w : World) : Calls Tryd.prog 35 #[.int .i64 a] w fun e w' => e = .returned (.string ⟨(pre a).toArray⟩) ∧ w' = w := by
  have e0 : ((a : Int) == 0) = false := by simpa using h0
  have H0 := Lib.hid h0
  clear h0
  go_enter Tryd.func35, Tryd.ntmps35
  go_wp2_with fail
  go_loop [0, 3] (fun x out => NumR a false x out) (fun x _ => (intOf x).toNat)
  case atStart => exact ⟨a, [], Nat.le_refl _, rfl, rfl, by simp⟩
  case round =>
    obtain ⟨b, o, hb, rfl, rfl, hp⟩ := hrel
    have HP := Lib.hid hp
    have ho : o.length ≤ 21 := by
      have h1 := pre_len a (by omega)
      rw [hp, List.length_append] at h1
      omega
    clear hp
    by_cases hb0 : b = 0
    · subst hb0
      simp only [Bool.false_eq_true, if_false]
      go_wp2_with fail
      go_ret
      exact ⟨by rw [HP.out]; rfl, rfl⟩
    · have f1 : ((b : Int) != 0) = true := by simpa using hb0
      have HB0 := Lib.hid hb0
      have hN := numeral_one (b % 10) (Nat.mod_lt _ (by omega)) w
      rw [show ((b % 10 : Nat) : Int) = (b : Int) % 10 by omega] at hN
      clear hb0
      simp only [Bool.false_eq_true, if_false]
      go_wp2_with fail
      refine hN.mono ?_
      rintro e w' ⟨rfl, rfl⟩
      go_wp2_with fail
      go_round
      case rel =>
        refine ⟨b / 10, UInt8.ofNat (48 + b % 10) :: o, by omega, by simp, ?_, ?_⟩
        · exact congrArg Value.string (app_one _ _ _ (by simp))
        · rw [HP.out, pre_step b HB0.out]; simp
      case measure => have := HB0.out; simp [intOf]; omega
set_option maxHeartbeats 1000000 in
theorem number_neg (a : Nat) (h0 : a ≠ 0) (h1 : a ≤ 9223372036854775808) (w : World) : Calls Tryd.prog 35 #[.int .i64 (-(a : Int))] w fun e w' => e = .returned (.string ⟨(45 :: pre a).toArray⟩) ∧ w' = w := by
  have e0 : (-(a : Int) == 0) = false := by simpa using h0
  have hneg : -(a : Int) < 0 := by omega
  have H0 := Lib.hid h0
  clear h0
  go_enter Tryd.func35, Tryd.ntmps35
  go_wp2_with fail
  go_loop [0, 3] (fun x out => NumR a true x out) (fun x _ => (-(intOf x)).toNat)
  case atStart => exact ⟨a, [], Nat.le_refl _, rfl, rfl, by simp⟩
  case round =>
    obtain ⟨b, o, hb, rfl, rfl, hp⟩ := hrel
    have HP := Lib.hid hp
    have ho : o.length ≤ 21 := by
      have h1 := pre_len a (by omega)
      rw [hp, List.length_append] at h1
      omega
    clear hp
    by_cases hb0 : b = 0
    · subst hb0
      have hz : -((0 : Nat) : Int) = 0 := rfl
      simp only [if_true]
      go_wp2_with fail
      go_ret
      exact ⟨by rw [HP.out]; rfl, rfl⟩
    · have f1 : (-(b : Int) != 0) = true := by simpa using hb0
      have g1 : (-(b : Int)).tmod 10 = -((b : Int) % 10) := by rw [Int.neg_tmod, Int.tmod_eq_emod_of_nonneg (by omega)]
      have g2 : (-(b : Int)).tdiv 10 = -((b : Int) / 10) := by rw [Int.neg_tdiv, Int.tdiv_eq_ediv_of_nonneg (by omega)]
      have HB0 := Lib.hid hb0
      clear hb0
      simp only [if_true]
      by_cases hz : b % 10 = 0
      · have hlt : decide (-((b : Int) % 10) < 0) = false := by simp; omega
        have hlt' : 0 ≤ -((b : Int) % 10) := by omega
        have hN := numeral_one 0 (by omega) w
        rw [show ((0 : Nat) : Int) = -((b : Int) % 10) by omega] at hN
        have HZ := Lib.hid hz
        clear hz
        go_wp2_with fail
        refine hN.mono ?_
        rintro e w' ⟨rfl, rfl⟩
        go_wp2_with fail
        go_round
        case rel =>
          refine ⟨b / 10, UInt8.ofNat (48 + b % 10) :: o, by omega, by simp, ?_, ?_⟩
          · exact congrArg Value.string (app_one _ _ _ (by rw [HZ.out]; rfl))
          · rw [HP.out, pre_step b HB0.out]; simp
        case measure => have := HB0.out; simp [intOf]; omega
      · have hlt : -((b : Int) % 10) < 0 := by omega
        have hN := numeral_one (b % 10) (Nat.mod_lt _ (by omega)) w
        rw [show ((b % 10 : Nat) : Int) = (b : Int) % 10 by omega] at hN
        clear hz
        go_wp2_with fail
        refine hN.mono ?_
        rintro e w' ⟨rfl, rfl⟩
        go_wp2_with fail
        go_round
        case rel =>
          refine ⟨b / 10, UInt8.ofNat (48 + b % 10) :: o, by omega, by simp, ?_, ?_⟩
          · exact congrArg Value.string (app_one _ _ _ (by simp))
          · rw [HP.out, pre_step b HB0.out]; simp
        case measure => have := HB0.out; simp [intOf]; omega
theorem number_any (n : Int) (h0 : -9223372036854775808 ≤ n) (h1 : n ≤ 9223372036854775807) (w : World) : Calls Tryd.prog 35 #[.int .i64 n] w fun e w' => e = .returned (.string ⟨(Lib.itoa n).toArray⟩) ∧ w' = w := by
  by_cases hp : 0 < n
  · obtain ⟨a, rfl⟩ : ∃ a : Nat, n = a := ⟨n.toNat, by omega⟩
    rw [itoa_pos a (by omega)]
    exact number_pos a (by omega) (by omega) w
  · by_cases hn : n < 0
    · obtain ⟨a, rfl⟩ : ∃ a : Nat, n = -(a : Int) := ⟨(-n).toNat, by omega⟩
      rw [itoa_below a (by omega)]
      exact number_neg a (by omega) (by omega) w
    · obtain rfl : n = 0 := by omega
      clear h0 h1 hp hn
      go_enter Tryd.func35, Tryd.ntmps35
      go_wp2_with fail
      go_ret
      refine ⟨?_, rfl⟩
      rw [show Lib.itoa 0 = [48] from by rw [Lib.itoa, if_neg (by decide)]; exact Lib.decDigits_one (by decide)]
      rfl
end P7
end Go.Proofs.YtlpkfklbdofmeaaDoor
