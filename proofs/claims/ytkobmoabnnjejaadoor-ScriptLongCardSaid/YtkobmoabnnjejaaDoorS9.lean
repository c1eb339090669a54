/- Script: awake. -/
import Derived.Test.YtkobmoabnnjejaaDoorS8
import Derived.Test.YtkobmoabnnjejaaDoorS6
import Derived.Test.YtkobmoabnnjejaaDoorS2
namespace Go.Proofs.YtkobmoabnnjejaaDoor
open Go.RowKit
namespace P21
open PC NumL

theorem ex_print : printR [⟨0, 3⟩, ⟨3, -1⟩] = (⟨#[112, 105, 99, 107, 32, 51, 10, 104, 97, 108, 116, 32, 45, 49, 10]⟩, 0) := by decide +kernel
theorem ex_a : parseR [112, 105, 99, 107, 32, 51, 10, 112, 105, 99, 107, 32, 48, 51, 10] = .inl (2, 11) := by kernel_rfl
theorem ex_b : parseR [112, 111, 99, 107, 32, 48, 51, 10] = .inl (1, 14) := by kernel_rfl
theorem ex_c : parseR [116, 105, 99, 107, 10] = .inl (1, 11) := by kernel_rfl
theorem ex_d : parseR [112, 105, 99, 107, 32, 51, 10, 104, 97, 108, 116, 32, 45, 49, 10] = .inr [⟨0, 3⟩, ⟨3, -1⟩] := by kernel_rfl
theorem ex_w : windowT [⟨0, 0⟩, ⟨0, 1⟩, ⟨0, 1⟩, ⟨0, 0⟩] 2 = 3 := by decide +kernel
theorem par_a (w : World) (hp : Lab w) : Calls Tryd.prog 16 #[.string ⟨#[112, 105, 99, 107, 32, 51, 10, 112, 105, 99, 107, 32, 48, 51, 10]⟩] w fun e w' => e = .returned (.tuple #[.slice none 0 0, .int .i64 2, .int .i64 11]) ∧ Below w.heap.size w w' :=
  (parse_any _ (by decide) w hp).mono fun e w' h => by
    have h' : ParsePost [112, 105, 99, 107, 32, 51, 10, 112, 105, 99, 107, 32, 48, 51, 10] w e w' := h
    unfold ParsePost at h'
    rw [ex_a] at h'
    exact h'
theorem par_b (w : World) (hp : Lab w) : Calls Tryd.prog 16 #[.string ⟨#[112, 111, 99, 107, 32, 48, 51, 10]⟩] w fun e w' => e = .returned (.tuple #[.slice none 0 0, .int .i64 1, .int .i64 14]) ∧ Below w.heap.size w w' :=
  (parse_any _ (by decide) w hp).mono fun e w' h => by
    have h' : ParsePost [112, 111, 99, 107, 32, 48, 51, 10] w e w' := h
    unfold ParsePost at h'
    rw [ex_b] at h'
    exact h'
theorem par_c (w : World) (hp : Lab w) : Calls Tryd.prog 16 #[.string ⟨#[116, 105, 99, 107, 10]⟩] w fun e w' => e = .returned (.tuple #[.slice none 0 0, .int .i64 1, .int .i64 11]) ∧ Below w.heap.size w w' :=
  (parse_any _ (by decide) w hp).mono fun e w' h => by
    have h' : ParsePost [116, 105, 99, 107, 10] w e w' := h
    unfold ParsePost at h'
    rw [ex_c] at h'
    exact h'
theorem par_d (w : World) (hp : Lab w) : Calls Tryd.prog 16 #[.string ⟨#[112, 105, 99, 107, 32, 51, 10, 104, 97, 108, 116, 32, 45, 49, 10]⟩] w fun e w' => (∃ a c, e = .returned (.tuple #[.slice a 2 c, .int .i64 0, .int .i64 0])) ∧ Below w.heap.size w w' :=
  (parse_any _ (by decide) w hp).mono fun e w' h => by
    have h' : ParsePost [112, 105, 99, 107, 32, 51, 10, 104, 97, 108, 116, 32, 45, 49, 10] w e w' := h
    unfold ParsePost at h'
    rw [ex_d] at h'
    obtain ⟨⟨v, he, hv⟩, hb⟩ := h'
    obtain ⟨A, c, rfl, -⟩ := evs_open hv
    exact ⟨⟨_, _, he⟩, hb⟩
abbrev exE : List Ev := [⟨0, 3⟩, ⟨3, -1⟩]
abbrev exP : List Ev := [⟨0, 0⟩, ⟨0, 1⟩, ⟨0, 1⟩, ⟨0, 0⟩]
theorem exE_wf : ∀ r ∈ exE, EvWf r := by
  intro r hr
  simp only [List.mem_cons, List.not_mem_nil, or_false] at hr
  rcases hr with rfl | rfl <;> exact ⟨by decide, by decide⟩
theorem exP_wf : ∀ r ∈ exP, EvWf r := by
  intro r hr
  simp only [List.mem_cons, List.not_mem_nil, or_false] at hr
  rcases hr with rfl | rfl | rfl | rfl <;> exact ⟨by decide, by decide⟩
set_option maxRecDepth 10000 in
set_option maxHeartbeats 4000000 in
theorem awake_any (w : World) (hp : Lab w) : Calls Tryd.prog 13 #[] w fun e w' => e = .returned (.bool true) ∧ Below w.heap.size w w' := by
  have HP := Lib.hid hp
  clear hp
  go_enter Tryd.func13, Tryd.ntmps13
  go_wp2_with fail
  have hS0 : Evs _ _ exE := ⟨Sl.new w #[.int .i64 0, .int .i64 3, .int .i64 3, .int .i64 (-1)] 24 2 w.heap.size rfl rfl rfl, exE_wf⟩
  have hB0 : Below w.heap.size w (w.alloc (.cells #[.int .i64 0, .int .i64 3, .int .i64 3, .int .i64 (-1)] 24)) := by go_grown
  have hP := print_any hS0 (by decide) (HP.out.next hB0)
  rw [ex_print] at hP
  refine hP.mono ?_
  rintro e w1 ⟨rfl, hb1⟩
  have hB1 := hB0.next hb1
  clear hP hS0 hB0 hb1
  have hA := par_a w1 (HP.out.next hB1)
  go_wp2_with fail
  refine hA.mono ?_
  rintro e w2 ⟨rfl, hb2⟩
  have hB2 := hB1.next hb2
  clear hA hB1 hb2
  have hA := par_b w2 (HP.out.next hB2)
  go_wp2_with fail
  refine hA.mono ?_
  rintro e w3 ⟨rfl, hb3⟩
  have hB3 := hB2.next hb3
  clear hA hB2 hb3
  have hA := par_c w3 (HP.out.next hB3)
  have hst := str_beq ⟨#[112, 105, 99, 107, 32, 51, 10, 104, 97, 108, 116, 32, 45, 49, 10]⟩
  go_wp2_with fail
  refine hA.mono ?_
  rintro e w4 ⟨rfl, hb4⟩
  have hB4 := hB3.next hb4
  clear hA hB3 hb4
  have hA := par_d w4 (HP.out.next hB4)
  go_wp2_with fail
  refine hA.mono ?_
  rintro e w5 ⟨⟨a, c, rfl⟩, hb5⟩
  have hB5 := hB4.next hb5
  clear hA hB4 hb5 HP
  have hS5 : Evs _ _ exP := ⟨Sl.new w5 #[.int .i64 0, .int .i64 0, .int .i64 0, .int .i64 1, .int .i64 0, .int .i64 1, .int .i64 0, .int .i64 0] 24 4 w5.heap.size rfl rfl rfl, exP_wf⟩
  have hB6 : Below w5.heap.size w5 (w5.alloc (.cells #[.int .i64 0, .int .i64 0, .int .i64 0, .int .i64 1, .int .i64 0, .int .i64 1, .int .i64 0, .int .i64 0] 24)) := by go_grown
  have hW := window_some hS5 (by decide) 2 (by decide) (by decide)
  rw [show (((2 : Nat) : Int)) = 2 from rfl, ex_w] at hW
  go_wp2_with fail
  refine hW.mono ?_
  rintro e w6 ⟨rfl, hb6⟩
  go_wp2_with fail
  go_ret
  exact ⟨rfl, (hB5.next hB6).next hb6⟩
end P21
end Go.Proofs.YtkobmoabnnjejaaDoor
