/- Asm: the reference's Value. -/
import Derived.Test.YtggdbceommmllaaDoorA3h
namespace Go.Proofs.YtggdbceommmllaaDoor
open Go.RowKit
namespace P3
open P2 PC NumL CutL

theorem valF_take12 {l : List UInt8} (h : l.all isDig = true) : valF 0 (l.take 12) < 1000000000000 :=
  valF_12 (by rw [List.all_eq_true] at h ⊢; exact fun x hx => h x (List.mem_of_mem_take hx)) (by rw [List.length_take]; omega)
theorem valF_take_succ {s : ByteArray} {k : Nat} (h : k < s.size) : valF 0 ((s.data.toList.take (k + 1)).take 12) = if k < 12 then valF 0 ((s.data.toList.take k).take 12) * 10 + (s[k].toNat - 48) else valF 0 ((s.data.toList.take k).take 12) := by
  by_cases hk : k < 12
  · rw [if_pos hk, List.take_take, List.take_take, show min 12 (k + 1) = k + 1 by omega, show min 12 k = k by omega, bs_take h, valF_snoc]
  · rw [if_neg hk, List.take_take, List.take_take, show min 12 (k + 1) = 12 by omega, show min 12 k = 12 by omega]
set_option maxRecDepth 10000 in
set_option maxHeartbeats 4000000 in
theorem refValue_any (s : ByteArray) (hs : s.size ≤ 200000) (w : World) : Calls Tryd.prog 54 #[.string s] w (NumPost (numA s.data.toList) w) := by
  rcases Nat.eq_zero_or_pos s.size with h0 | h0
  · have HR : Hid (numA s.data.toList = none) := Lib.hid (by rw [str_nil h0]; exact num_empty)
    have z0 : ((s.size : Int) == 0) = true := by rw [beq_iff_eq]; omega
    clear h0 hs
    go_enter Tryd.func54, Tryd.ntmps54
    go_wp2_with fail
    go_ret2
    exact np_none HR.out rfl (Below.refl _ _)
  · have z0 : ((s.size : Int) == 0) = false := by rw [beq_eq_false_iff_ne]; omega
    have HNN : Hid (s.data.toList ≠ []) := Lib.hid (fun e => by have := bs_len s; rw [e] at this; simp at this; omega)
    have HHD := Lib.hid (bs_head h0)
    by_cases hz : s[0].toNat = 48 ∧ 1 < s.size
    · obtain ⟨hz1, hz2⟩ := hz
      have HR : Hid (numA s.data.toList = none) := Lib.hid (num_zero (by rw [HHD.out, ← UInt8.ofNat_toNat (x := s[0]), hz1]; rfl) (by rw [bs_len]; exact hz2))
      have e1 : ((s[0].toNat : Int) == 48) = true := by rw [beq_iff_eq]; omega
      have e2 : decide (1 < (s.size : Int)) = true := by simp; omega
      clear hz1
      go_enter Tryd.func54, Tryd.ntmps54
      go_wp2_with fail
      go_ret2
      exact np_none HR.out rfl (Below.refl _ _)
    · have HZ : Hid (¬ (s.data.toList.head? = some 48 ∧ 1 < s.data.toList.length)) := Lib.hid (by
        rw [HHD.out, bs_len]
        rintro ⟨a, b⟩
        exact hz ⟨by rw [Option.some.inj a]; rfl, b⟩)
      have HBD : Hid (∀ (k : Nat) (hk : k < s.size), isDig s[k] = false → numA s.data.toList = none) := Lib.hid (fun k hk hb => num_bad (k := k) (by rw [bs_len]; exact hk) hb)
      by_cases h48 : s[0].toNat = 48
      · have e1 : ((s[0].toNat : Int) == 48) = true := by rw [beq_iff_eq]; omega
        have e2 : decide (1 < (s.size : Int)) = false := by simp; omega
        have e3 : decide (1 < s.size) = false := by simp; omega
        clear hz
        go_enter Tryd.func54, Tryd.ntmps54
        go_wp2_with fail
        go_loop [4, 5] (fun n x => ∃ k : Nat, k ≤ s.size ∧ x = .int .i64 k ∧ (s.data.toList.take k).all isDig = true ∧ n = .int .i64 (valF 0 ((s.data.toList.take k).take 12))) (fun _ x => s.size - (intOf x).toNat)
        case atStart => exact ⟨0, Nat.zero_le _, rfl, rfl, rfl⟩
        case round =>
          obtain ⟨k, hk, rfl, hall, rfl⟩ := hrel
          have HALL := Lib.hid hall
          have hval := valF_take12 hall
          clear hall
          by_cases hlt : k < s.size
          · have HT := Lib.hid (bs_take hlt)
            have HV := Lib.hid (valF_take_succ (s := s) hlt)
            obtain ⟨acc, hacc⟩ := name_of (valF 0 ((s.data.toList.take k).take 12))
            rw [hacc] at HV hval ⊢
            obtain ⟨c, hc⟩ := name_of s[k]
            have hc256 : c.toNat < 256 := c.toNat_lt
            have HC := Lib.hid hc
            obtain ⟨cn, hcn⟩ := name_of c.toNat
            have HCN := Lib.hid hcn
            rw [hcn] at hc256
            clear hacc
            by_cases g48 : cn < 48
            · have HB : Hid (isDig s[k] = false) := Lib.hid (by rw [hc]; unfold isDig; rw [hcn]; exact decide_eq_false (by omega))
              have f1 : decide ((cn : Int) < 48) = true := by simp; omega
              clear HV
              go_wp2_with fail
              go_ret2
              exact np_none (HBD.out _ hlt HB.out) rfl (Below.refl _ _)
            · have f1 : decide ((cn : Int) < 48) = false := by simp; omega
              by_cases g57 : 57 < cn
              · have HB : Hid (isDig s[k] = false) := Lib.hid (by rw [hc]; unfold isDig; rw [hcn]; exact decide_eq_false (by omega))
                have f2 : decide (57 < (cn : Int)) = true := by simp; omega
                clear HV
                go_wp2_with fail
                go_ret2
                exact np_none (HBD.out _ hlt HB.out) rfl (Below.refl _ _)
              · have f2 : decide (57 < (cn : Int)) = false := by simp; omega
                have HD : Hid (isDig c = true) := Lib.hid (by unfold isDig; rw [hcn]; exact decide_eq_true (by omega))
                by_cases h12 : k < 12
                · have f3 : decide ((k : Int) < 12) = true := by simp; omega
                  have HV2 : Hid (valF 0 ((s.data.toList.take (k + 1)).take 12) = acc * 10 + (cn - 48)) := Lib.hid (by rw [HV.out, if_pos h12, HC.out, HCN.out])
                  clear HV
                  go_wp2_with fail
                  go_round
                  case rel => exact ⟨k + 1, by omega, by go_num, by rw [HT.out, List.all_append, HALL.out, HC.out, List.all_cons, HD.out]; rfl, by rw [HV2.out]; go_num⟩
                  case measure => simp [intOf]; omega
                · have f3 : decide ((k : Int) < 12) = false := by simp; omega
                  have HV2 : Hid (valF 0 ((s.data.toList.take (k + 1)).take 12) = acc) := Lib.hid (by rw [HV.out, if_neg h12])
                  clear HV
                  go_wp2_with fail
                  go_round
                  case rel => exact ⟨k + 1, by omega, by go_num, by rw [HT.out, List.all_append, HALL.out, HC.out, List.all_cons, HD.out]; rfl, by rw [HV2.out]⟩
                  case measure => simp [intOf]; omega
          · obtain rfl : k = s.size := by omega
            have HFU : Hid (s.data.toList.take s.size = s.data.toList) := Lib.hid (List.take_of_length_le (by rw [bs_len]; exact Nat.le_refl _))
            have HA : Hid (s.data.toList.all isDig = true) := Lib.hid (by have := HALL.out; rwa [HFU.out] at this)
            have HG := Lib.hid (num_good HNN.out HZ.out HA.out)
            by_cases h12 : 12 < s.size
            · have HR : Hid (numA s.data.toList = some 1099511627776) := Lib.hid (by rw [HG.out, if_pos (by rw [bs_len]; exact h12)])
              have f3 : decide (12 < (s.size : Int)) = true := by simp; omega
              obtain ⟨acc, hacc⟩ := name_of (valF 0 ((s.data.toList.take s.size).take 12))
              rw [hacc]
              go_wp2_with fail
              go_ret2
              exact np_some HR.out rfl (Below.refl _ _)
            · have HR : Hid (numA s.data.toList = some (valF 0 ((s.data.toList.take s.size).take 12) : Int)) := Lib.hid (by rw [HG.out, if_neg (by rw [bs_len]; exact h12), HFU.out, List.take_of_length_le (by rw [bs_len]; omega)])
              have f3 : decide (12 < (s.size : Int)) = false := by simp; omega
              obtain ⟨acc, hacc⟩ := name_of (valF 0 ((s.data.toList.take s.size).take 12))
              rw [hacc] at HR ⊢
              clear hacc hval
              go_wp2_with fail
              go_ret2
              exact np_some HR.out rfl (Below.refl _ _)
      · have e1 : ((s[0].toNat : Int) == 48) = false := by rw [beq_eq_false_iff_ne]; omega
        clear hz h48
        go_enter Tryd.func54, Tryd.ntmps54
        go_wp2_with fail
        go_loop [4, 5] (fun n x => ∃ k : Nat, k ≤ s.size ∧ x = .int .i64 k ∧ (s.data.toList.take k).all isDig = true ∧ n = .int .i64 (valF 0 ((s.data.toList.take k).take 12))) (fun _ x => s.size - (intOf x).toNat)
        case atStart => exact ⟨0, Nat.zero_le _, rfl, rfl, rfl⟩
        case round =>
          obtain ⟨k, hk, rfl, hall, rfl⟩ := hrel
          have HALL := Lib.hid hall
          have hval := valF_take12 hall
          clear hall
          by_cases hlt : k < s.size
          · have HT := Lib.hid (bs_take hlt)
            have HV := Lib.hid (valF_take_succ (s := s) hlt)
            obtain ⟨acc, hacc⟩ := name_of (valF 0 ((s.data.toList.take k).take 12))
            rw [hacc] at HV hval ⊢
            obtain ⟨c, hc⟩ := name_of s[k]
            have hc256 : c.toNat < 256 := c.toNat_lt
            have HC := Lib.hid hc
            obtain ⟨cn, hcn⟩ := name_of c.toNat
            have HCN := Lib.hid hcn
            rw [hcn] at hc256
            clear hacc
            by_cases g48 : cn < 48
            · have HB : Hid (isDig s[k] = false) := Lib.hid (by rw [hc]; unfold isDig; rw [hcn]; exact decide_eq_false (by omega))
              have f1 : decide ((cn : Int) < 48) = true := by simp; omega
              clear HV
              go_wp2_with fail
              go_ret2
              exact np_none (HBD.out _ hlt HB.out) rfl (Below.refl _ _)
            · have f1 : decide ((cn : Int) < 48) = false := by simp; omega
              by_cases g57 : 57 < cn
              · have HB : Hid (isDig s[k] = false) := Lib.hid (by rw [hc]; unfold isDig; rw [hcn]; exact decide_eq_false (by omega))
                have f2 : decide (57 < (cn : Int)) = true := by simp; omega
                clear HV
                go_wp2_with fail
                go_ret2
                exact np_none (HBD.out _ hlt HB.out) rfl (Below.refl _ _)
              · have f2 : decide (57 < (cn : Int)) = false := by simp; omega
                have HD : Hid (isDig c = true) := Lib.hid (by unfold isDig; rw [hcn]; exact decide_eq_true (by omega))
                by_cases h12 : k < 12
                · have f3 : decide ((k : Int) < 12) = true := by simp; omega
                  have HV2 : Hid (valF 0 ((s.data.toList.take (k + 1)).take 12) = acc * 10 + (cn - 48)) := Lib.hid (by rw [HV.out, if_pos h12, HC.out, HCN.out])
                  clear HV
                  go_wp2_with fail
                  go_round
                  case rel => exact ⟨k + 1, by omega, by go_num, by rw [HT.out, List.all_append, HALL.out, HC.out, List.all_cons, HD.out]; rfl, by rw [HV2.out]; go_num⟩
                  case measure => simp [intOf]; omega
                · have f3 : decide ((k : Int) < 12) = false := by simp; omega
                  have HV2 : Hid (valF 0 ((s.data.toList.take (k + 1)).take 12) = acc) := Lib.hid (by rw [HV.out, if_neg h12])
                  clear HV
                  go_wp2_with fail
                  go_round
                  case rel => exact ⟨k + 1, by omega, by go_num, by rw [HT.out, List.all_append, HALL.out, HC.out, List.all_cons, HD.out]; rfl, by rw [HV2.out]⟩
                  case measure => simp [intOf]; omega
          · obtain rfl : k = s.size := by omega
            have HFU : Hid (s.data.toList.take s.size = s.data.toList) := Lib.hid (List.take_of_length_le (by rw [bs_len]; exact Nat.le_refl _))
            have HA : Hid (s.data.toList.all isDig = true) := Lib.hid (by have := HALL.out; rwa [HFU.out] at this)
            have HG := Lib.hid (num_good HNN.out HZ.out HA.out)
            by_cases h12 : 12 < s.size
            · have HR : Hid (numA s.data.toList = some 1099511627776) := Lib.hid (by rw [HG.out, if_pos (by rw [bs_len]; exact h12)])
              have f3 : decide (12 < (s.size : Int)) = true := by simp; omega
              obtain ⟨acc, hacc⟩ := name_of (valF 0 ((s.data.toList.take s.size).take 12))
              rw [hacc]
              go_wp2_with fail
              go_ret2
              exact np_some HR.out rfl (Below.refl _ _)
            · have HR : Hid (numA s.data.toList = some (valF 0 ((s.data.toList.take s.size).take 12) : Int)) := Lib.hid (by rw [HG.out, if_neg (by rw [bs_len]; exact h12), HFU.out, List.take_of_length_le (by rw [bs_len]; omega)])
              have f3 : decide (12 < (s.size : Int)) = false := by simp; omega
              obtain ⟨acc, hacc⟩ := name_of (valF 0 ((s.data.toList.take s.size).take 12))
              rw [hacc] at HR ⊢
              clear hacc hval
              go_wp2_with fail
              go_ret2
              exact np_some HR.out rfl (Below.refl _ _)
end P3
end Go.Proofs.YtggdbceommmllaaDoor
