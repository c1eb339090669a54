/- Script: the reference's Number; Line. -/
import Derived.Test.YtkobmoabnnjejaaDoorS1
namespace Go.Proofs.YtkobmoabnnjejaaDoor
open Go.RowKit
namespace P21
open PC

theorem dec_step {a : Nat} (h : 10 ≤ a) : Lib.decDigits a = Lib.decDigits (a / 10) ++ [UInt8.ofNat (48 + a % 10)] := by
  rw [Lib.decDigits, dif_neg (by omega)]
theorem dec_len (a : Nat) (h : a ≤ 9223372036854775807) : (Lib.decDigits a).length ≤ 21 := by
  have := Lib.itoa_length_le (a : Int) (by omega) (by omega)
  rwa [Lib.itoa_nonneg] at this

theorem conv_one (w : World) (d : Int) : (convert 43 9 (.slice (some ⟨w.heap.size, 0, none⟩) 1 1)).run Tryd.prog (w.alloc (.cells #[.int .u8 d] 5)) = .ok (.string ⟨#[UInt8.ofNat d.toNat]⟩) (w.alloc (.cells #[.int .u8 d] 5)) := by
  have h := run_convert_bytes_arg (P := Tryd.prog) (w.alloc (.cells #[.int .u8 d] 5)) 43 5 Tryd.underlying43 Tryd.underlying5 w.heap.size 0 1 1 [d] rfl (fun i hi => by
    have : i = 0 := by omega
    subst this
    rw [World.cell?_alloc_at _ _ _ _ rfl]
    rfl) 9 Tryd.underlying9
  rw [h]
  rfl
theorem ret_bs {a b : ByteArray} (h : a = b) : Ending.returned (.string a) = .returned (.string b) := by rw [h]
theorem ret_si {a b : ByteArray} {n : Int} (h : a = b) : Ending.returned (.tuple #[.string a, .int .i64 n]) = .returned (.tuple #[.string b, .int .i64 n]) := by rw [h]
theorem digit_toNat (a : Nat) : (48 + (a : Int) % 10).toNat = 48 + a % 10 := by omega
theorem itoa_small (b : Nat) (h : b < 10) : Lib.itoa (b : Int) = [UInt8.ofNat (48 + b)] := by rw [Lib.itoa_nonneg, Lib.decDigits_one h]

set_option maxRecDepth 10000 in
set_option maxHeartbeats 2000000 in
theorem refNumber_nat : ∀ (a : Nat), a ≤ 9223372036854775807 → ∀ w : World, Calls Tryd.prog 12 #[.int .i64 a] w fun e w' => e = .returned (.string ⟨(Lib.decDigits a).toArray⟩) ∧ Below w.heap.size w w' := by
  intro a
  induction a using Nat.strongRecOn with
  | ind a ih =>
    intro ha w
    have d0 : decide ((a : Int) < 0) = false := by simp
    have hcv := conv_one w (48 + (a : Int) % 10)
    rw [digit_toNat] at hcv
    have hB : Below w.heap.size w (w.alloc (.cells #[.int .u8 (48 + (a : Int) % 10)] 5)) := by go_grown
    by_cases h9 : 9 < a
    · have HD := Lib.hid (dec_step (a := a) (by omega))
      have hl := dec_len (a / 10) (by omega)
      have IH := Lib.hid (ih (a / 10) (by omega) (by omega))
      clear ih
      obtain ⟨q, hq⟩ := name_of (a / 10)
      obtain ⟨r, hr⟩ := name_of (UInt8.ofNat (48 + a % 10))
      have e1 : ((a : Int)).tdiv 10 = (q : Int) := by rw [Int.tdiv_eq_ediv_of_nonneg (by omega)]; omega
      have e2 : (a : Int) / 10 = (q : Int) := by omega
      rw [hr] at HD hcv
      rw [hq] at IH hl HD
      have HQ := Lib.hid hq
      clear hq hr
      go_enter Tryd.func12, Tryd.ntmps12
      go_wp2_with fail
      refine (IH.out _).mono ?_
      rintro e w1 ⟨rfl, hb1⟩
      go_wp2_with fail
      go_ret
      refine ⟨ret_bs ?_, hB.next hb1⟩
      rw [HD.out, ← bs_append]
    · have HD := Lib.hid (Lib.decDigits_one (i := a) (by omega))
      clear ih
      have e1 : a % 10 = a := by omega
      rw [e1] at hcv
      obtain ⟨r, hr⟩ := name_of (UInt8.ofNat (48 + a))
      rw [hr] at hcv HD
      clear e1 hr
      go_enter Tryd.func12, Tryd.ntmps12
      go_wp2_with fail
      go_ret
      exact ⟨ret_bs (by rw [HD.out]), hB⟩

set_option maxRecDepth 10000 in
set_option maxHeartbeats 2000000 in
theorem refNumber_neg : ∀ (a : Nat), 0 < a → a ≤ 9223372036854775808 → ∀ w : World, Calls Tryd.prog 12 #[.int .i64 (-(a : Int))] w fun e w' => e = .returned (.string ⟨(45 :: Lib.decDigits a).toArray⟩) ∧ Below w.heap.size w w' := by
  intro a
  induction a using Nat.strongRecOn with
  | ind a ih =>
    intro h0 ha w
    have d0 : decide (-(a : Int) < 0) = true := by simp; omega
    by_cases h9 : a < 10
    · have d1 : decide (-10 < -(a : Int)) = true := by simp; omega
      have hN := refNumber_nat a (by omega) w
      have hl := dec_len a (by omega)
      clear ih
      go_enter Tryd.func12, Tryd.ntmps12
      go_wp2_with fail
      refine hN.mono ?_
      rintro e w1 ⟨rfl, hb1⟩
      go_wp2_with fail
      go_ret
      exact ⟨ret_bs (bs_append [45] _), hb1⟩
    · have d1 : decide (-10 < -(a : Int)) = false := by simp; omega
      have HD := Lib.hid (dec_step (a := a) (by omega))
      have hl := dec_len (a / 10) (by omega)
      have IH := Lib.hid (ih (a / 10) (by omega) (by omega) (by omega))
      have IN := Lib.hid (refNumber_nat (a % 10) (by omega))
      have hone := Lib.decDigits_one (i := a % 10) (by omega)
      rw [hone] at IN
      clear ih hone
      obtain ⟨q, hq⟩ := name_of (a / 10)
      obtain ⟨r, hr⟩ := name_of (UInt8.ofNat (48 + a % 10))
      obtain ⟨m, hm⟩ := name_of (a % 10)
      have e1 : (-(a : Int)).tmod 10 = -(m : Int) := by rw [Int.neg_tmod, Int.tmod_eq_emod_of_nonneg (by omega)]; omega
      have e2 : (-(a : Int)).tdiv 10 = -(q : Int) := by rw [Int.neg_tdiv, Int.tdiv_eq_ediv_of_nonneg (by omega)]; omega
      rw [hr] at HD IN
      rw [hq] at IH hl HD
      rw [hm] at IN
      have hm10 : m < 10 := by omega
      have hq1 : q ≤ 922337203685477580 := by omega
      clear hq hr hm
      go_enter Tryd.func12, Tryd.ntmps12
      go_wp2_with fail
      refine (IH.out _).mono ?_
      rintro e w1 ⟨rfl, hb1⟩
      go_wp2_with fail
      refine (IN.out _).mono ?_
      rintro e w2 ⟨rfl, hb2⟩
      go_wp2_with fail
      go_ret
      refine ⟨ret_bs ?_, hb1.next hb2⟩
      rw [HD.out]
      exact bs_append (45 :: Lib.decDigits q) [r]
theorem refNumber_any (n : Int) (h0 : -9223372036854775808 ≤ n) (h1 : n ≤ 9223372036854775807) (w : World) : Calls Tryd.prog 12 #[.int .i64 n] w fun e w' => e = .returned (.string ⟨(Lib.itoa n).toArray⟩) ∧ Below w.heap.size w w' := by
  rcases Int.lt_or_le n 0 with h | h
  · obtain ⟨a, rfl⟩ : ∃ a : Nat, n = -(a : Int) := ⟨(-n).toNat, by omega⟩
    rw [Lib.itoa_neg a (by omega)]
    exact refNumber_neg a (by omega) (by omega) w
  · obtain ⟨a, rfl⟩ := Int.eq_ofNat_of_zero_le h
    rw [Lib.itoa_nonneg]
    exact refNumber_nat a (by omega) w

/-! ### Line -/
theorem line_bad (e : Ev) (h : ¬ okK e.k) (w : World) : Calls Tryd.prog 10 #[evV e] w fun e w' => e = .returned (.tuple #[.string ⟨#[]⟩, .int .i64 1]) ∧ Below w.heap.size w w' := by
  obtain ⟨k, n⟩ := e
  have hW := word_any k (w.alloc (.cells #[.int .i64 k, .int .i64 n] 24))
  rw [show wordS k = ⟨#[]⟩ from by unfold wordS; rw [wordL_none h]] at hW
  have hB : Below w.heap.size w (w.alloc (.cells #[.int .i64 k, .int .i64 n] 24)) := by go_grown
  unfold evV
  clear h
  go_enter Tryd.func10, Tryd.ntmps10
  go_wp2_with fail
  refine hW.mono ?_
  rintro e w1 ⟨rfl, rfl⟩
  go_wp2_with fail
  go_ret2
  exact ⟨rfl, hB⟩
theorem line_ok (e : Ev) (h : okK e.k) (hwf : EvWf e) (w : World) (hp : Lab w) : Calls Tryd.prog 10 #[evV e] w fun e' w' => e' = .returned (.tuple #[.string ⟨(lineL e).toArray⟩, .int .i64 0]) ∧ Below w.heap.size w w' := by
  obtain ⟨k, n⟩ := e
  have hW := word_any k (w.alloc (.cells #[.int .i64 k, .int .i64 n] 24))
  have hB : Below w.heap.size w (w.alloc (.cells #[.int .i64 k, .int .i64 n] 24)) := by go_grown
  have hF := format_any n hwf.n.1 hwf.n.2 _ (hp.next hB)
  have hne := wordL_some h
  have hl := wordL_len k
  have hl2 := Lib.itoa_length_le n hwf.n.1 hwf.n.2
  unfold evV lineL
  dsimp only at hne ⊢
  obtain ⟨x, hx⟩ := name_of (wordL k)
  unfold wordS at hW
  rw [hx] at hne hl hW ⊢
  obtain ⟨y, hy⟩ := name_of (Lib.itoa n)
  rw [hy] at hF hl2 ⊢
  have e0 : ((⟨x.toArray⟩ : ByteArray).toList == (⟨#[]⟩ : ByteArray).toList) = false := str_bne (fun h => hne (bs_inj (m := []) h))
  have e1 : x.isEmpty = false := by cases x with
    | nil => exact absurd rfl hne
    | cons => rfl
  have HX := Lib.hid hx
  clear hx hy h hwf hp hne
  go_enter Tryd.func10, Tryd.ntmps10
  go_wp2_with fail
  refine hW.mono ?_
  rintro e w1 ⟨rfl, rfl⟩
  go_wp2_with fail
  refine hF.mono ?_
  rintro e w2 ⟨rfl, hb2⟩
  go_wp2_with fail
  go_ret2
  refine ⟨ret_si ?_, hB.next hb2⟩
  rw [show (⟨#[32]⟩ : ByteArray) = ⟨[(32 : UInt8)].toArray⟩ from rfl, bs_append, bs_append, List.append_assoc]
  rfl
end P21
end Go.Proofs.YtkobmoabnnjejaaDoor
