/- Asm: the reference's Names, forms, Numeral, number, Line. -/
import Derived.Test.YtggdbceommmllaaDoorA3f
namespace Go.Proofs.YtggdbceommmllaaDoor
open Go.RowKit
namespace P3
open P2 PC NumL CutL

def namesC : Array Value := ((List.range 17).map fun op => Value.string (nameS op)).toArray
set_option maxRecDepth 10000 in
theorem refNames_any (w : World) : Calls Tryd.prog 33 #[] w fun e w' => e = .returned (.slice (some ⟨w.heap.size, 0, none⟩) 17 17) ∧ w' = w.alloc (.cells namesC 9) := by
  go_enter Tryd.func33, Tryd.ntmps33
  go_wp2_with fail
  go_ret
  exact ⟨rfl, rfl⟩
theorem names_at (op : Nat) (h : op ≤ 16) : namesC[op]? = some (.string (nameS op)) := by
  rcases op_cases h with rfl | rfl | rfl | rfl | rfl | rfl | rfl | rfl | rfl | rfl | rfl | rfl | rfl | rfl | rfl | rfl | rfl <;> rfl
def fsL (op : Nat) : List UInt8 := (formsN op).map fun f => if f = 0 then 32 else UInt8.ofNat f
def fsS (op : Nat) : ByteArray := ⟨(fsL op).toArray⟩
set_option maxRecDepth 10000 in
set_option maxHeartbeats 4000000 in
theorem refForms_any (op : Nat) (h : op ≤ 16) (w : World) : Calls Tryd.prog 34 #[.int .i64 op] w fun e w' => e = .returned (.string (fsS op)) ∧ w' = w := by
  rcases op_cases h with rfl | rfl | rfl | rfl | rfl | rfl | rfl | rfl | rfl | rfl | rfl | rfl | rfl | rfl | rfl | rfl | rfl <;>
    (go_enter Tryd.func34, Tryd.ntmps34; go_wp2_with fail; go_ret; exact ⟨rfl, rfl⟩)
theorem dig_cut {a : Nat} (h : a < 10) : (⟨#[48, 49, 50, 51, 52, 53, 54, 55, 56, 57]⟩ : ByteArray).extract a (a + 1) = ⟨#[UInt8.ofNat (48 + a)]⟩ := by
  have hh : a = 0 ∨ a = 1 ∨ a = 2 ∨ a = 3 ∨ a = 4 ∨ a = 5 ∨ a = 6 ∨ a = 7 ∨ a = 8 ∨ a = 9 := by omega
  rcases hh with rfl | rfl | rfl | rfl | rfl | rfl | rfl | rfl | rfl | rfl <;> decide +kernel
theorem dec_len (a : Nat) (h : a ≤ 9223372036854775807) : (Lib.decDigits a).length ≤ 21 := by
  have := Lib.itoa_length_le (a : Int) (by omega) (by omega)
  rwa [Lib.itoa_nonneg] at this
set_option maxRecDepth 10000 in
set_option maxHeartbeats 2000000 in
theorem refNumeral_any : ∀ (a : Nat), a ≤ 9223372036854775807 → ∀ w : World, Calls Tryd.prog 36 #[.int .i64 a] w fun e w' => e = .returned (.string ⟨(Lib.decDigits a).toArray⟩) ∧ ∃ q, w' = w.drewN q := by
  intro a
  induction a using Nat.strongRecOn with
  | ind a ih =>
    intro ha w
    by_cases h9 : a < 10
    · have hd := dig_cut h9
      have hone := Lib.decDigits_one (i := a) (by omega)
      obtain ⟨y, hy⟩ := name_of (⟨#[UInt8.ofNat (48 + a)]⟩ : ByteArray)
      rw [hy] at hd
      have HY : Hid (y = ⟨(Lib.decDigits a).toArray⟩) := Lib.hid (by rw [hone, ← hy])
      clear ih hone hy
      go_enter Tryd.func36, Tryd.ntmps36
      go_wp2_with fail
      go_ret
      exact ⟨ret_bs HY.out, 0, rfl⟩
    · have hd := dig_cut (a := a % 10) (by omega)
      have HD := Lib.hid (NumL.dec_more (a := a) (by omega))
      have hl := dec_len (a / 10) (by omega)
      have IH := fun W => ih (a / 10) (by omega) (by omega) W
      have e1 : (a : Int) / 10 = ((a / 10 : Nat) : Int) := by omega
      have e2 : (a : Int).tdiv 10 = ((a / 10 : Nat) : Int) := by rw [Int.tdiv_eq_ediv_of_nonneg (by omega)]; omega
      have e3 : (a : Int) % 10 = ((a % 10 : Nat) : Int) := by omega
      have e4 : (a : Int).tmod 10 = ((a % 10 : Nat) : Int) := by rw [Int.tmod_eq_emod_of_nonneg (by omega)]; omega
      have hm10 : a % 10 < 10 := by omega
      have hq10 : a / 10 ≤ 922337203685477580 := by omega
      obtain ⟨q, hq⟩ := name_of (a / 10)
      obtain ⟨m, hm⟩ := name_of (a % 10)
      rw [hq] at IH e1 e2 HD hl hq10
      rw [hm] at e3 e4 HD hd hm10
      obtain ⟨x, hx, hxs⟩ := let_ (Lib.decDigits q) 21 hl
      obtain ⟨y, hy, hys⟩ := let_ [UInt8.ofNat (48 + m)] 1 (by simp)
      rw [show (⟨#[UInt8.ofNat (48 + m)]⟩ : ByteArray) = y from hy] at hd
      obtain ⟨z, hz⟩ := name_of (x ++ y)
      have HZ : Hid (z = ⟨(Lib.decDigits a).toArray⟩) := Lib.hid (by rw [HD.out, ← hz, ← hx, ← hy, bs_append])
      have n1 : ¬ (9223372036854775807 < x.size + y.size) := by omega
      rw [hx] at IH
      clear ih hq hm hx hy hl
      go_enter Tryd.func36, Tryd.ntmps36
      go_wp2_with fail
      go_quiet ((go_at_call 36; exact Calls.quiet_of (IH _)))
      go_wp2_with fail
      go_ret
      exact ⟨ret_bs HZ.out, _, rfl⟩
set_option maxHeartbeats 2000000 in
theorem refNumber_any (n : Int) (h0 : -9223372036854775807 ≤ n) (h1 : n ≤ 9223372036854775807) (w : World) : Calls Tryd.prog 35 #[.int .i64 n] w fun e w' => e = .returned (.string ⟨(Lib.itoa n).toArray⟩) ∧ ∃ q, w' = w.drewN q := by
  by_cases hn : n < 0
  · obtain ⟨a, rfl⟩ : ∃ a : Nat, n = -(a : Int) := ⟨(-n).toNat, by omega⟩
    have f1 : decide (-(a : Int) < 0) = true := by simpa using hn
    have hpos : 0 < a := by omega
    have hN := refNumeral_any a (by omega) w
    have hl := dec_len a (by omega)
    obtain ⟨x, hx, hxs⟩ := let_ (Lib.decDigits a) 21 hl
    rw [hx] at hN
    obtain ⟨z, hz⟩ := name_of ((⟨#[45]⟩ : ByteArray) ++ x)
    have HZ : Hid (z = ⟨(Lib.itoa (-(a : Int))).toArray⟩) := Lib.hid (by
      rw [Lib.itoa_neg a (by omega), ← hz, ← hx, show (⟨#[45]⟩ : ByteArray) = ⟨[(45 : UInt8)].toArray⟩ from rfl, bs_append]
      rfl)
    have n1 : ¬ (9223372036854775807 < 1 + x.size) := by omega
    clear hx hl hn
    go_enter Tryd.func35, Tryd.ntmps35
    go_wp2_with fail
    refine hN.mono ?_
    rintro e w1 ⟨rfl, hw1⟩
    go_wp2_with fail
    go_ret
    exact ⟨ret_bs HZ.out, hw1⟩
  · obtain ⟨a, rfl⟩ := Int.eq_ofNat_of_zero_le (show 0 ≤ n by omega)
    have f1 : decide ((a : Int) < 0) = false := by simp
    have hN := refNumeral_any a (by omega) w
    rw [Lib.itoa_nonneg]
    obtain ⟨x, hx⟩ := name_of (⟨(Lib.decDigits a).toArray⟩ : ByteArray)
    rw [hx] at hN ⊢
    clear hx hn
    go_enter Tryd.func35, Tryd.ntmps35
    go_wp2_with fail
    refine hN.mono ?_
    rintro e w1 ⟨rfl, hw1⟩
    go_wp2_with fail
    go_ret
    exact ⟨rfl, hw1⟩
end P3
end Go.Proofs.YtggdbceommmllaaDoor
