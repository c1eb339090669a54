/- Audit: the reference's numbers, times. -/
import Derived.Test.YtajbchecjbddgaaGreatDoorU4
namespace Go.Proofs.YtajbchecjbddgaaGreatDoor
open Go.RowKit
namespace P20
open P7

theorem numL_all {x : List Int} {n : Nat} : numL x n ↔ ∀ j, j < x.length → 0 ≤ x.getD j 0 ∧ x.getD j 0 < n := by
  unfold numL
  constructor
  · intro h j hj
    rw [List.getD_eq_getElem?_getD, List.getElem?_eq_getElem hj]
    exact h _ (List.getElem_mem hj)
  · intro h y hy
    obtain ⟨j, hj, e⟩ := List.getElem_of_mem hy
    have := h j hj
    rw [List.getD_eq_getElem?_getD, List.getElem?_eq_getElem hj] at this
    rw [← e]
    exact this
theorem count_take_succ (x : List Int) (v : Int) (j : Nat) (hj : j < x.length) : (x.take (j + 1)).count v = (x.take j).count v + if x.getD j 0 = v then 1 else 0 := by
  rw [List.take_succ_eq_append_getElem hj, List.count_append, List.getD_eq_getElem?_getD, List.getElem?_eq_getElem hj]
  simp [List.count_cons]
section
variable {w : World} {B : Nat} {v : Value} {x : List Int}
set_option maxRecDepth 10000 in
set_option maxHeartbeats 4000000 in
theorem refNumbers_any (h : Sl w B 1 v (iv x)) (hlen : x.length ≤ 1000) (N : Nat) (b : Bool) (hb : b = true ↔ numL x N) :
    Calls Tryz.prog 41 #[v, .int .i64 N] w fun e w' => e = .returned (.bool b) ∧ w = w' := by
  obtain ⟨A, c, rfl, hnc, hA⟩ := ints_open h
  obtain ⟨n, hn⟩ := name_of x.length
  have HN := Lib.hid hn
  have HA := Lib.hid hA
  have HB := Lib.hid (hb.trans numL_all)
  rw [hn] at hnc hlen ⊢
  clear hA h hn hb
  go_enter Tryz.func41, Tryz.ntmps41
  go_wp2_with fail
  go_loop [5] (fun i => ∃ j : Nat, j ≤ n ∧ i = .int .i64 j ∧ Hid (∀ m, m < j → 0 ≤ x.getD m 0 ∧ x.getD m 0 < N)) (fun i => n - (intOf i).toNat)
  case atStart => exact ⟨0, Nat.zero_le _, rfl, Lib.hid (fun m hm => by omega)⟩
  case round =>
    obtain ⟨j, hj, rfl, hno⟩ := hrel
    by_cases hlt : j < n
    · obtain ⟨b', off, rfl, hb', c0⟩ := HA.out j (by rw [HN.out]; exact hlt)
      obtain ⟨y, hy⟩ := name_of (x.getD j 0)
      rw [hy] at c0
      have HY := Lib.hid hy
      clear hy
      by_cases h1 : y < 0
      · have e1 : decide (y < 0) = true := decide_eq_true h1
        have HR : Hid (b = false) := Lib.hid (by
          cases b with
          | false => rfl
          | true => have := (HB.out.1 rfl j (by rw [HN.out]; exact hlt)).1; rw [HY.out] at this; omega)
        clear h1
        go_wp2_with fail
        go_ret
        exact ⟨ret_bool HR.out.symm, rfl⟩
      · have e1 : decide (y < 0) = false := decide_eq_false h1
        by_cases h2 : (N : Int) ≤ y
        · have e2 : decide ((N : Int) ≤ y) = true := decide_eq_true h2
          have HR : Hid (b = false) := Lib.hid (by
            cases b with
            | false => rfl
            | true => have := (HB.out.1 rfl j (by rw [HN.out]; exact hlt)).2; rw [HY.out] at this; omega)
          clear h1 h2
          go_wp2_with fail
          go_ret
          exact ⟨ret_bool HR.out.symm, rfl⟩
        · have e2 : decide ((N : Int) ≤ y) = false := decide_eq_false h2
          have HR : Hid (∀ m, m < j + 1 → 0 ≤ x.getD m 0 ∧ x.getD m 0 < N) := Lib.hid fun m hm => by
            by_cases e : m = j
            · rw [e, HY.out]; omega
            · exact hno.out m (by omega)
          clear h1 h2
          go_wp2_with fail
          exact ⟨⟨j + 1, by omega, by go_num, HR⟩, by simp [intOf]; omega⟩
    · obtain rfl : j = n := by omega
      have HR : Hid (b = true) := Lib.hid (HB.out.2 (by rw [HN.out]; exact hno.out))
      go_wp2_with fail
      go_ret
      exact ⟨ret_bool HR.out.symm, rfl⟩
set_option maxRecDepth 10000 in
set_option maxHeartbeats 4000000 in
theorem refTimes_any (h : Sl w B 1 v (iv x)) (hlen : x.length ≤ 1000) (y : Int) :
    Calls Tryz.prog 70 #[v, .int .i64 y] w fun e w' => e = .returned (.int .i64 (x.count y : Nat)) ∧ w = w' := by
  obtain ⟨A, c, rfl, hnc, hA⟩ := ints_open h
  obtain ⟨n, hn⟩ := name_of x.length
  have HN := Lib.hid hn
  have HA := Lib.hid hA
  rw [hn] at hnc hlen ⊢
  clear hA h hn
  go_enter Tryz.func70, Tryz.ntmps70
  go_wp2_with fail
  go_loop [5, 6] (fun t i => ∃ j c : Nat, j ≤ n ∧ i = .int .i64 j ∧ t = .int .i64 c ∧ Hid ((x.take j).count y = c) ∧ c ≤ j) (fun _ i => n - (intOf i).toNat)
  case atStart => exact ⟨0, 0, Nat.zero_le _, rfl, rfl, Lib.hid (by simp), Nat.le_refl _⟩
  case round =>
    obtain ⟨j, q, hj, rfl, rfl, HC, hqj⟩ := hrel
    by_cases hlt : j < n
    · obtain ⟨b', off, rfl, hb', c0⟩ := HA.out j (by rw [HN.out]; exact hlt)
      have HS := Lib.hid (count_take_succ x y j (by rw [HN.out]; exact hlt))
      obtain ⟨z, hz⟩ := name_of (x.getD j 0)
      rw [hz] at c0 HS
      clear hz
      by_cases h1 : z = y
      · have e1 : (z == y) = true := by simpa using h1
        have HR : Hid ((x.take (j + 1)).count y = q + 1) := Lib.hid (by rw [HS.out, if_pos h1, HC.out])
        clear h1
        go_wp2_with fail
        exact ⟨⟨j + 1, q + 1, by omega, by go_num, by go_num, HR, by omega⟩, by simp [intOf]; omega⟩
      · have e1 : (z == y) = false := by simpa using h1
        have HR : Hid ((x.take (j + 1)).count y = q) := Lib.hid (by rw [HS.out, if_neg h1, HC.out, Nat.add_zero])
        clear h1
        go_wp2_with fail
        exact ⟨⟨j + 1, q, by omega, by go_num, rfl, HR, by omega⟩, by simp [intOf]; omega⟩
    · obtain rfl : j = n := by omega
      have HR : Hid (x.count y = q) := Lib.hid (by rw [← HC.out, List.take_of_length_le (by rw [HN.out]; exact Nat.le_refl _)])
      go_wp2_with fail
      go_ret
      exact ⟨ret_int (by rw [HR.out]), rfl⟩
end
end P20
end Go.Proofs.YtajbchecjbddgaaGreatDoor
