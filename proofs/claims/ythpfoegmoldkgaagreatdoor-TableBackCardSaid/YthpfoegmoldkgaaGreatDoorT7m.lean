/- Walk: the chapter's example (awake of the table chapter). -/
import Derived.Test.YthpfoegmoldkgaaGreatDoorT7l
import Derived.Test.YthpfoegmoldkgaaGreatDoorT7j
namespace Go.Proofs.YthpfoegmoldkgaaGreatDoor
open Go.RowKit
namespace P7

/-- A part of a slice. -/
theorem Sl_part {w : World} {B size b off n c : Nat} {xs : List Value} (h : Sl w B size (.slice (some ⟨b, off, none⟩) n c) xs) (k m c' : Nat) (hkm : k + m ≤ n) (hm : m ≤ c') :
    Sl w B size (.slice (some ⟨b, off + k * size, none⟩) m c') ((xs.drop (k * size)).take (m * size)) := by
  obtain ⟨A, n', c'', he, hnc, hn, hA⟩ := h
  injection he with e1 e2 e3
  subst e1 e2 e3
  have h1 : k * size + m * size ≤ n * size := by rw [← Nat.add_mul]; exact Nat.mul_le_mul_right _ hkm
  refine ⟨_, _, _, rfl, hm, by rw [List.length_take, List.length_drop, hn]; omega, fun hpos => ?_⟩
  obtain ⟨b', off', e, hb, hr⟩ := hA (by omega)
  injection e with e
  injection e with e1 e2
  subst e1 e2
  refine ⟨_, _, rfl, hb, fun i v hv => ?_⟩
  have hi : i < m * size := by
    have := (List.getElem?_eq_some_iff.1 hv).1
    rw [List.length_take] at this
    omega
  rw [List.getElem?_take, if_pos hi, List.getElem?_drop] at hv
  have := hr _ v hv
  rwa [← Nat.add_assoc] at this
theorem rowsC_drop (l : List Row) (k : Nat) : (rowsC l).drop (k * 7) = rowsC (l.drop k) := by
  induction k generalizing l with
  | zero => simp
  | succ k ih =>
    cases l with
    | nil => simp [rowsC]
    | cons r l =>
      rw [show (k + 1) * 7 = (rowC r).length + k * 7 by rw [rowC_length]; omega, show rowsC (r :: l) = rowC r ++ rowsC l from rfl, List.drop_append, List.drop_of_length_le (by omega), List.nil_append]
      rw [Nat.add_sub_cancel_left, ih, List.drop_succ_cons]
theorem rowsC_take (l : List Row) (k : Nat) : (rowsC l).take (k * 7) = rowsC (l.take k) := by
  induction k generalizing l with
  | zero => simp [rowsC]
  | succ k ih =>
    cases l with
    | nil => simp [rowsC]
    | cons r l =>
      rw [show (k + 1) * 7 = (rowC r).length + k * 7 by rw [rowC_length]; omega, show rowsC (r :: l) = rowC r ++ rowsC l from rfl, List.take_length_add_append, ih, List.take_succ_cons]
      rfl
theorem rows_part {w : World} {B b off n c : Nat} {l : List Row} (h : Sl w B 7 (.slice (some ⟨b, off, none⟩) n c) (rowsC l)) (k m c' : Nat) (hkm : k + m ≤ n) (hm : m ≤ c') :
    Sl w B 7 (.slice (some ⟨b, off + k * 7, none⟩) m c') (rowsC ((l.drop k).take m)) := by
  have := Sl_part h k m c' hkm hm
  rwa [rowsC_drop, rowsC_take] at this

abbrev ex0 : Row := ⟨-1, 0, 0, 2, 5, 3, ⟨#[]⟩⟩
abbrev ex1 : Row := ⟨0, 1, 1, 4, 0, 0, ⟨#[]⟩⟩
abbrev exL : List Row := [ex0, ex1]
theorem ex_ok : chk (exL.length + 1) exL = 0 := by decide +kernel
theorem ex_tail : chk ([ex1].length + 1) [ex1] = 11 := by decide +kernel
theorem ex_print : printT exL = [45, 32, 48, 32, 48, 32, 118, 97, 108, 117, 101, 32, 53, 32, 51, 32, 45, 10, 48, 32, 49, 32, 49, 32, 99, 97, 110, 99, 101, 108, 108, 101, 100, 32, 48, 32, 48, 32, 45, 10] := by decide +kernel
theorem ex_text : (⟨(printT exL).toArray⟩ : ByteArray) = ⟨#[45, 32, 48, 32, 48, 32, 118, 97, 108, 117, 101, 32, 53, 32, 51, 32, 45, 10, 48, 32, 49, 32, 49, 32, 99, 97, 110, 99, 101, 108, 108, 101, 100, 32, 48, 32, 48, 32, 45, 10]⟩ := by rw [ex_print]
theorem ex_grown : GrownT exL exL = true := by decide +kernel
theorem ex_small : Small exL := ⟨by decide, fun k hk => by
  have : k = 0 ∨ k = 1 := by simp at hk; omega
  rcases this with rfl | rfl <;> decide⟩
theorem ex_small1 : Small [ex1] := ⟨by decide, fun k hk => by
  have : k = 0 := by simp at hk; omega
  subst this; decide⟩
theorem ex_wf : ∀ r ∈ exL, RowWf r := by
  intro r hr
  simp only [List.mem_cons, List.not_mem_nil, or_false] at hr
  rcases hr with rfl | rfl <;> exact ⟨by decide, by decide, by decide, by decide, by decide, by decide, by decide⟩

set_option maxHeartbeats 2000000 in
theorem awake_any (w : World) (hpow : Pow w) : Calls Tryz.prog 5 #[] w fun e w' => e = .returned (.bool true) ∧ Below w.heap.size w w' := by
  have HP := Lib.hid hpow
  clear hpow
  go_enter Tryz.func5, Tryz.ntmps5
  go_wp2_with fail
  have hS0 : Rws _ _ exL := ⟨Sl.new w #[.int .i64 (-1), .int .i64 0, .int .i64 0, .int .i64 2, .int .i64 5, .int .i64 3, .string ⟨#[]⟩, .int .i64 0, .int .i64 1, .int .i64 1, .int .i64 4, .int .i64 0, .int .i64 0, .string ⟨#[]⟩] 34 2 w.heap.size rfl rfl rfl, by decide, ex_wf⟩
  have hB0 : Below w.heap.size w (w.alloc (.cells #[.int .i64 (-1), .int .i64 0, .int .i64 0, .int .i64 2, .int .i64 5, .int .i64 3, .string ⟨#[]⟩, .int .i64 0, .int .i64 1, .int .i64 1, .int .i64 4, .int .i64 0, .int .i64 0, .string ⟨#[]⟩] 34)) := by go_grown
  have hP := print_any hS0 ex_small (HP.out.next hB0)
  unfold PrintPost at hP
  rw [ex_text, ex_ok] at hP
  refine hP.mono ?_
  rintro e w1 ⟨rfl, hb1⟩
  have hS1 := (hS0.next hb1).sl
  have hB1 := hB0.next hb1
  have hC := checkT_any hS1 ex_small
  rw [ex_ok] at hC
  have hst := str_beq ⟨#[45, 32, 48, 32, 48, 32, 118, 97, 108, 117, 101, 32, 53, 32, 51, 32, 45, 10, 48, 32, 49, 32, 49, 32, 99, 97, 110, 99, 101, 108, 108, 101, 100, 32, 48, 32, 48, 32, 45, 10]⟩
  clear hP hS0 hB0 hb1 HP
  go_wp2_with fail
  refine hC.mono ?_
  rintro e w2 ⟨rfl, hb2⟩
  have hS2 := hS1.next hb2
  have hB2 := hB1.next hb2
  have hT := checkT_any (l := [ex1]) (v := .slice (some ⟨w.heap.size, 7, none⟩) 1 1) (rows_part hS2 1 1 1 (by omega) (by omega)) ex_small1
  rw [ex_tail] at hT
  clear hC hS1 hB1 hb2
  go_wp2_with fail
  refine hT.mono ?_
  rintro e w3 ⟨rfl, hb3⟩
  have hS3 := hS2.next hb3
  have hB3 := hB2.next hb3
  have hG := grownAll_any hS3 hS3 ex_small ex_small
  rw [ex_grown] at hG
  clear hT hS2 hB2 hb3
  go_wp2_with fail
  refine hG.mono ?_
  rintro e w4 ⟨rfl, hb4⟩
  go_wp2_with fail
  go_ret
  exact ⟨rfl, hB3.next hb4⟩
end P7
end Go.Proofs.YthpfoegmoldkgaaGreatDoor
