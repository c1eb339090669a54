/- Walks: how numbers and words are written: or, kinds, Itoa, FormatInt of package table; number, Kind, or of the reference. -/
import Derived.Test.YthpfoegmoldkgaaGreatDoorT7g
import Derived.Test.YthpfoegmoldkgaaGreatDoorB8
import Derived.Lib.AppendIntMem
import Derived.Lib.ItoaMem
import Derived.Lib.ItoaLen
import Derived.Lib.ItoaNum
namespace Go.Proofs.YthpfoegmoldkgaaGreatDoor
open Go.RowKit
namespace P7

/-- The library's table of powers of ten is as its initialiser lays it. -/
def Pow (w : World) : Prop := Lib.TabIs Tryz.prog w "internal/strconv.uint64pow10" .u64 Lib.pow10Tab
theorem Pow.next {w w' : World} (h : Pow w) (hb : Below w.heap.size w w') : Pow w' := Lib.tabBelow_of_tabIs h w' hb

theorem itoa_any (n : Int) (h0 : -9223372036854775808 ≤ n) (h1 : n ≤ 9223372036854775807) (w : World) (hp : Pow w) :
    Calls Tryz.prog 12 #[.int .i64 n] w fun e w' => e = .returned (.string ⟨(Lib.itoa n).toArray⟩) ∧ Below w.heap.size w w' := by
  refine (Tryz.strconv_Itoa n h0 h1 w hp).mono ?_
  rintro e w' ⟨rfl, k, os, rfl⟩
  exact ⟨rfl, Lib.below_grow _ _ (Nat.le_refl _) _ _⟩
theorem format_any (n : Int) (h0 : -9223372036854775808 ≤ n) (h1 : n ≤ 9223372036854775807) (w : World) (hp : Pow w) :
    Calls Tryz.prog 14 #[.int .i64 n, .int .i64 10] w fun e w' => e = .returned (.string ⟨(Lib.itoa n).toArray⟩) ∧ Below w.heap.size w w' := by
  refine (Tryz.strconv_FormatInt_10 n h0 h1 w hp).mono ?_
  rintro e w' ⟨rfl, k, os, rfl⟩
  exact ⟨rfl, Lib.below_grow _ _ (Nat.le_refl _) _ _⟩

theorem str_inj {s t : ByteArray} (h : s.toList = t.toList) : s = t := by
  rw [ByteArray.toList_eq, ByteArray.toList_eq] at h
  have := Array.toList_inj.1 h
  obtain ⟨d⟩ := s
  obtain ⟨d'⟩ := t
  simp only at this
  rw [this]
theorem str_beq (s : ByteArray) : (s.toList == s.toList) = true := beq_iff_eq.2 rfl
theorem str_bne {s t : ByteArray} (h : s ≠ t) : (s.toList == t.toList) = false := by
  rw [beq_eq_false_iff_ne]
  exact fun e => h (str_inj e)
theorem or_same (s other : ByteArray) (w : World) : Calls Tryz.prog 11 #[.string s, .string s, .string other] w fun e w' => e = .returned (.string other) ∧ w' = w := by
  have h := str_beq s
  go_enter Tryz.func11, Tryz.ntmps11
  go_wp2_with fail
  go_ret
  exact ⟨rfl, rfl⟩
theorem or_else (s is other : ByteArray) (hne : s ≠ is) (w : World) : Calls Tryz.prog 11 #[.string s, .string is, .string other] w fun e w' => e = .returned (.string s) ∧ w' = w := by
  have h := str_bne hne
  clear hne
  go_enter Tryz.func11, Tryz.ntmps11
  go_wp2_with fail
  go_ret
  exact ⟨rfl, rfl⟩
/-- The words of kinds. -/
def kindsL : List ByteArray := [⟨#[112, 101, 110, 100, 105, 110, 103]⟩, ⟨#[114, 117, 110, 110, 105, 110, 103]⟩, ⟨#[118, 97, 108, 117, 101]⟩, ⟨#[112, 97, 110, 105, 99, 107, 101, 100]⟩, ⟨#[99, 97, 110, 99, 101, 108, 108, 101, 100]⟩]
def kindW (k : Int) : ByteArray := kindsL.getD k.toNat ⟨#[]⟩
theorem kinds_any (w : World) : Calls Tryz.prog 13 #[] w fun e w' => e = .returned (.slice (some ⟨w.heap.size, 0, none⟩) 5 5) ∧ w' = w.alloc (.cells (kindsL.map Value.string).toArray 9) := by
  go_enter Tryz.func13, Tryz.ntmps13
  go_wp2_with fail
  go_ret
  exact ⟨rfl, rfl⟩

/-! ### number -/
/-- The digits that are still to come. -/
def pre (a : Nat) : List UInt8 := if a = 0 then [] else Lib.decDigits a
theorem pre_step (a : Nat) (h : a ≠ 0) : pre a = pre (a / 10) ++ [UInt8.ofNat (48 + a % 10)] := by
  rw [pre, if_neg h, Lib.decDigits]
  by_cases h10 : a < 10
  · rw [dif_pos h10, pre, if_pos (by omega)]
    have : a % 10 = a := by omega
    rw [this]; rfl
  · rw [dif_neg h10, pre, if_neg (by omega)]
theorem itoa_pos (a : Nat) (h : a ≠ 0) : Lib.itoa (a : Int) = pre a := by rw [Lib.itoa_nonneg, pre, if_neg h]
theorem itoa_below (a : Nat) (h : a ≠ 0) : Lib.itoa (-(a : Int)) = 45 :: pre a := by rw [Lib.itoa_neg a (by omega), pre, if_neg h]

theorem bs_append (l m : List UInt8) : (⟨l.toArray⟩ : ByteArray) ++ ⟨m.toArray⟩ = ⟨(l ++ m).toArray⟩ := by
  apply ByteArray.ext
  simp
theorem app_one (x y : UInt8) (o : List UInt8) (h : x = y) : (⟨#[x]⟩ : ByteArray) ++ ⟨o.toArray⟩ = ⟨(y :: o).toArray⟩ := by
  subst h
  exact bs_append [x] o
theorem pre_len (a : Nat) (h : a ≤ 9223372036854775808) : (pre a).length ≤ 21 := by
  by_cases h0 : a = 0
  · rw [pre, if_pos h0]; simp
  · have := Lib.itoa_length_le (-(a : Int)) (by omega) (by omega)
    rw [itoa_below a h0, List.length_cons] at this
    omega
def NumR (a : Nat) (neg : Bool) (x out : Value) : Prop := ∃ (b : Nat) (o : List UInt8), b ≤ a ∧ x = .int .i64 (if neg then -(b : Int) else b) ∧ out = .string ⟨o.toArray⟩ ∧ pre a = pre b ++ o

end P7
end Go.Proofs.YthpfoegmoldkgaaGreatDoor
