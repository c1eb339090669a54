/- Walks: Few, Within (both), binary. -/
import Derived.Test.YthpfoegmoldkgaaGreatDoorT7b
namespace Go.Proofs.YthpfoegmoldkgaaGreatDoor
open Go.RowKit
namespace P7

def Small (l : List Row) : Prop := l.length ≤ 60 ∧ ∀ k, k < l.length → (at_ l k).c.size ≤ 100
/-- Greater rows. -/
def SmallB (l : List Row) : Prop := l.length ≤ 30000 ∧ ∀ k, k < l.length → (at_ l k).c.size ≤ 30000
theorem Small.big {l : List Row} (h : Small l) : SmallB l := ⟨Nat.le_trans h.1 (by decide), fun k hk => Nat.le_trans (h.2 k hk) (by decide)⟩
def FewPost (l : List Row) (w : World) (e : Ending) (w' : World) : Prop := (∃ b : Bool, e = .returned (.bool b) ∧ (b = true → Small l)) ∧ w' = w

set_option maxHeartbeats 1000000 in
theorem few_any {w : World} {v : Value} {l : List Row} (h : Rws w v l) : Calls Tryz.prog 4 #[v] w (FewPost l w) := by
  obtain ⟨A, c, rfl, hc, hr⟩ := rows_open h.sl
  have hlen := h.len
  obtain ⟨n, hn⟩ := name_of l.length
  have HN := Lib.hid hn
  have HR := Lib.hid hr
  have HWF := Lib.hid (fun k hk => (h.wfAt (k := k) hk).c)
  rw [hn] at hc hlen ⊢
  clear hn hr h
  go_enter Tryz.func4, Tryz.ntmps4
  go_wp2_with fail
  go_loop [3] (fun i => ∃ k : Nat, k ≤ n ∧ i = .int .i64 k ∧ k ≤ 61 ∧ ∀ j, j < k → (at_ l j).c.size ≤ 100) (fun i => n - (intOf i).toNat)
  case atStart => exact ⟨0, Nat.zero_le _, rfl, by omega, fun j hj => by omega⟩
  case round =>
    obtain ⟨k, hk, rfl, hk61, hall⟩ := hrel
    have HALL := Lib.hid hall
    clear hall
    by_cases hlt : k < n
    · by_cases h61 : k < 61
      · obtain ⟨b, off, rfl, hb, h0, h1, h2, h3, h4, h5, h6⟩ := HR.out k (by have := HN.out; omega)
        obtain ⟨s, hs⟩ := name_of (at_ l k).c
        have hcs := HWF.out k (by have := HN.out; omega)
        rw [hs] at h6 hcs
        have HS := Lib.hid hs
        clear h0 h1 h2 h3 h4 h5 hs
        by_cases h100 : 100 < s.size
        · go_wp2_with fail
          go_ret
          exact ⟨⟨_, rfl, by simp⟩, rfl⟩
        · go_wp2_with fail
          go_round
          case rel =>
            refine ⟨k + 1, hlt, by go_num, by omega, fun j hj => ?_⟩
            by_cases e : j = k
            · subst e; rw [HS.out]; omega
            · exact HALL.out j (by omega)
          case measure => simp [intOf]; omega
      · go_wp2_with fail
        go_ret
        exact ⟨⟨_, rfl, fun hb => by have := of_decide_eq_true hb; omega⟩, rfl⟩
    · have : k = n := by omega
      subst this
      go_wp2_with fail
      go_ret
      refine ⟨⟨_, rfl, fun hb => ?_⟩, rfl⟩
      have := of_decide_eq_true hb
      exact ⟨by have := HN.out; omega, fun j hj => HALL.out j (by have := HN.out; omega)⟩

theorem wi_out {l : List Row} {of i : Int} (h : ¬ (0 ≤ i ∧ i < l.length)) : ∀ n, wi l of n i = false
  | 0 => rfl
  | n + 1 => by rw [wi, if_neg h]

set_option maxHeartbeats 1000000 in
theorem within_any {w : World} {B : Nat} {v : Value} {l : List Row} (h : Sl w B 7 v (rowsC l)) (hlen : l.length ≤ 40000) (i of : Int) :
    Calls Tryz.prog 53 #[v, .int .i64 i, .int .i64 of] w fun e w' => e = .returned (.bool (wi l of l.length i)) ∧ w' = w := by
  obtain ⟨A, c, rfl, hc, hr⟩ := rows_open h
  obtain ⟨n, hn⟩ := name_of l.length
  have HN := Lib.hid hn
  have HR := Lib.hid hr
  rw [hn] at hc hlen ⊢
  clear hn hr h
  go_enter Tryz.func53, Tryz.ntmps53
  go_wp2_with fail
  go_loop [1, 9] (fun x m => ∃ (k : Nat) (j : Int), k ≤ n ∧ x = .int .i64 j ∧ m = .int .i64 k ∧ wi l of n i = wi l of (n - k) j) (fun _ m => n - (intOf m).toNat)
  case atStart => exact ⟨0, i, by omega, rfl, rfl, rfl⟩
  case round =>
    obtain ⟨k, j, hk, rfl, rfl, hw⟩ := hrel
    have HW := Lib.hid hw
    clear hw
    by_cases hkn : k < n
    · obtain ⟨q, hq⟩ : ∃ q, n - k = q + 1 := ⟨n - k - 1, by omega⟩
      have HQ := Lib.hid hq
      clear hq
      by_cases hj0 : 0 ≤ j
      · obtain ⟨m, rfl⟩ := Int.eq_ofNat_of_zero_le hj0
        by_cases hmn : m < n
        · obtain ⟨b, off, rfl, hb, h0, -⟩ := HR.out m (by have := HN.out; omega)
          obtain ⟨p, hp⟩ := name_of (at_ l m).p
          rw [hp] at h0
          have HP := Lib.hid hp
          clear hp
          have hstep : wi l of (q + 1) m = if (m : Int) = of then true else wi l of q p := by
            rw [wi, if_pos ⟨by omega, by have := HN.out; omega⟩, Int.toNat_natCast, HP.out]
          have HST := Lib.hid hstep
          clear hstep
          by_cases hof : (m : Int) = of
          · have hof' : ((m : Int) == of) = true := by simpa using hof
            have HOF := Lib.hid hof
            clear hof
            go_wp2_with fail
            go_ret
            exact ⟨ret_bool (by rw [HW.out, HQ.out, HST.out, if_pos HOF.out]), rfl⟩
          · have hof' : ((m : Int) == of) = false := by simpa using hof
            have HOF := Lib.hid hof
            clear hof
            go_wp2_with fail
            go_round
            case rel =>
              refine ⟨k + 1, p, by omega, rfl, by go_num, ?_⟩
              rw [HW.out, HQ.out, HST.out, if_neg HOF.out]
              have := HQ.out
              rw [show n - (k + 1) = q by omega]
            case measure => simp [intOf]; omega
        · go_wp2_with fail
          go_ret
          exact ⟨ret_bool (by rw [HW.out]; exact (wi_out (by have := HN.out; omega) _).symm), rfl⟩
      · go_wp2_with fail
        go_ret
        exact ⟨ret_bool (by rw [HW.out]; exact (wi_out (by omega) _).symm), rfl⟩
    · have : k = n := by omega
      subst this
      go_wp2_with fail
      go_ret
      exact ⟨ret_bool (by rw [HW.out, Nat.sub_self]; rfl), rfl⟩
end P7
end Go.Proofs.YthpfoegmoldkgaaGreatDoor
