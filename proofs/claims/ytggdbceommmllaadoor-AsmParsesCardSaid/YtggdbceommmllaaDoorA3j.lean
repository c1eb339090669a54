/- Asm: the reference's operand. -/
import Derived.Test.YtggdbceommmllaaDoorA3i
namespace Go.Proofs.YtggdbceommmllaaDoor
open Go.RowKit
namespace P3
open P2 PC NumL CutL

set_option maxRecDepth 10000 in
set_option maxHeartbeats 2000000 in
theorem refOperand_let (f : Nat) (hf : f < 256) (hn : f ≠ 110) (s : ByteArray) (hs : s.size ≤ 200000) (w : World) : Calls Tryd.prog 40 #[.string s, .int .u8 f] w (NumPost (readF f s.data.toList) w) := by
  have HRF := Lib.hid (readF_let hn s.data.toList)
  have x0 : ((f : Int) != 110) = true := by simp; omega
  have x1 : ((f : Int) == 110) = false := by rw [beq_eq_false_iff_ne]; omega
  rcases Nat.eq_zero_or_pos s.size with h0 | h0
  · have z0 : ((s.size : Int) == 0) = true := by rw [beq_iff_eq]; omega
    have HR : Hid (readF f s.data.toList = none) := Lib.hid (by rw [HRF.out, head_nil h0, if_neg (by simp)])
    clear h0 hn
    go_enter Tryd.func40, Tryd.ntmps40
    go_wp2_with fail
    go_ret2
    exact np_none HR.out rfl (Below.refl _ _)
  · have z0 : ((s.size : Int) == 0) = false := by rw [beq_eq_false_iff_ne]; omega
    by_cases hc : s[0].toNat = f
    · have e0 : ((s[0].toNat : Int) == (f : Int)) = true := by rw [beq_iff_eq]; omega
      have e1 : ((s[0].toNat : Int) != (f : Int)) = false := by rw [bne, e0]; rfl
      have HR : Hid (readF f s.data.toList = numA s.data.toList.tail) := Lib.hid (by rw [HRF.out, bs_head h0, if_pos (by rw [u8_of hc])])
      have hN := refValue_any (s.extract 1 s.size) (size_tail hs) w
      rw [bs_tail] at hN
      obtain ⟨d, hd⟩ := name_of (s.extract 1 s.size)
      rw [hd] at hN
      clear hc hn
      cases hr : numA s.data.toList.tail with
      | none =>
        have hN2 := np_of_none hN hr
        have HR2 : Hid (readF f s.data.toList = none) := Lib.hid (HR.out.trans hr)
        clear hN hr
        go_enter Tryd.func40, Tryd.ntmps40
        go_wp2_with fail
        refine hN2.mono ?_
        rintro e w1 ⟨rfl, hb1⟩
        go_wp2_with fail
        go_ret2
        exact np_none HR2.out rfl hb1
      | some v =>
        have hN2 := np_of_some hN hr
        have HR2 : Hid (readF f s.data.toList = some v) := Lib.hid (HR.out.trans hr)
        clear hN hr
        go_enter Tryd.func40, Tryd.ntmps40
        go_wp2_with fail
        refine hN2.mono ?_
        rintro e w1 ⟨rfl, hb1⟩
        go_wp2_with fail
        go_ret2
        exact np_some HR2.out rfl hb1
    · have e0 : ((s[0].toNat : Int) == (f : Int)) = false := by rw [beq_eq_false_iff_ne]; omega
      have e1 : ((s[0].toNat : Int) != (f : Int)) = true := by rw [bne, e0]; rfl
      have HR : Hid (readF f s.data.toList = none) := Lib.hid (by rw [HRF.out, bs_head h0, if_neg (fun e => u8_ne hf hc (Option.some.inj e))])
      clear hc hn
      go_enter Tryd.func40, Tryd.ntmps40
      go_wp2_with fail
      go_ret2
      exact np_none HR.out rfl (Below.refl _ _)
set_option maxRecDepth 10000 in
set_option maxHeartbeats 2000000 in
theorem refOperand_num (s : ByteArray) (hs : s.size ≤ 200000) (w : World) : Calls Tryd.prog 40 #[.string s, .int .u8 110] w (NumPost (readF 110 s.data.toList) w) := by
  have HRF := Lib.hid (readF_num s.data.toList)
  by_cases h45 : s.data.toList.head? = some 45
  · have h0 : 0 < s.size := by
      rcases Nat.eq_zero_or_pos s.size with h0 | h0
      · rw [head_nil h0] at h45; cases h45
      · exact h0
    have hc : s[0].toNat = 45 := by
      have := bs_head h0
      rw [h45] at this
      rw [← Option.some.inj this]; rfl
    have z0 : decide (0 < (s.size : Int)) = true := by simp; omega
    have z1 : decide (0 < s.size) = true := by simp; omega
    have e0 : ((s[0].toNat : Int) == 45) = true := by rw [beq_iff_eq]; omega
    have hN := fun W => refValue_any (s.extract 1 s.size) (size_tail hs) W
    rw [bs_tail] at hN
    obtain ⟨d, hd⟩ := name_of (s.extract 1 s.size)
    rw [hd] at hN
    clear hc
    cases hr : numA s.data.toList.tail with
    | none =>
      have hN2 := fun W => np_of_none (hN W) hr
      have HR2 : Hid (readF 110 s.data.toList = none) := Lib.hid (by rw [HRF.out, if_pos h45, hr])
      clear hN hr h45
      go_enter Tryd.func40, Tryd.ntmps40
      go_wp2_with fail
      refine (hN2 _).mono ?_
      rintro e w2 ⟨rfl, hb2⟩
      go_wp2_with fail
      go_ret2
      exact np_none HR2.out rfl hb2
    | some v =>
      have hN2 := fun W => np_of_some (hN W) hr
      obtain ⟨v0, v1⟩ := numA_range hr
      by_cases hv : v = 0
      · subst hv
        have HR2 : Hid (readF 110 s.data.toList = none) := Lib.hid (by rw [HRF.out, if_pos h45, hr]; rfl)
        clear hN hr h45
        go_enter Tryd.func40, Tryd.ntmps40
        go_wp2_with fail
        refine (hN2 _).mono ?_
        rintro e w2 ⟨rfl, hb2⟩
        go_wp2_with fail
        go_ret2
        exact np_none HR2.out rfl hb2
      · have HR2 : Hid (readF 110 s.data.toList = some (-v)) := Lib.hid (by rw [HRF.out, if_pos h45, hr]; show (if v = 0 then none else some (-v)) = _; rw [if_neg hv])
        have z2 : decide (0 < v) = true := by simp; omega
        have z3 : 0 < v := by omega
        clear hN hr h45 hv
        go_enter Tryd.func40, Tryd.ntmps40
        go_wp2_with fail
        refine (hN2 _).mono ?_
        rintro e w2 ⟨rfl, hb2⟩
        go_wp2_with fail
        go_ret2
        exact np_some HR2.out rfl hb2
  · have hN := fun W => refValue_any s hs W
    rcases Nat.eq_zero_or_pos s.size with h0 | h0
    · have z0 : decide (0 < (s.size : Int)) = false := by rw [decide_eq_false_iff_not]; omega
      have z1 : decide (0 < s.size) = false := by rw [decide_eq_false_iff_not]; omega
      cases hr : numA s.data.toList with
      | none =>
        have hN2 := fun W => np_of_none (hN W) hr
        have HR2 : Hid (readF 110 s.data.toList = none) := Lib.hid (by rw [HRF.out, if_neg h45, hr])
        clear hN hr h45
        go_enter Tryd.func40, Tryd.ntmps40
        go_wp2_with fail
        refine (hN2 _).mono ?_
        rintro e w2 ⟨rfl, hb2⟩
        go_wp2_with fail
        go_ret2
        exact np_none HR2.out rfl hb2
      | some v => rw [str_nil h0, num_empty] at hr; cases hr
    · have z0 : decide (0 < (s.size : Int)) = true := by simp; omega
      have z1 : decide (0 < s.size) = true := by simp; omega
      have hc : s[0].toNat ≠ 45 := fun e => h45 (by rw [bs_head h0, u8_of e]; rfl)
      have e0 : ((s[0].toNat : Int) == 45) = false := by rw [beq_eq_false_iff_ne]; omega
      clear hc
      cases hr : numA s.data.toList with
      | none =>
        have hN2 := fun W => np_of_none (hN W) hr
        have HR2 : Hid (readF 110 s.data.toList = none) := Lib.hid (by rw [HRF.out, if_neg h45, hr])
        clear hN hr h45
        go_enter Tryd.func40, Tryd.ntmps40
        go_wp2_with fail
        refine (hN2 _).mono ?_
        rintro e w2 ⟨rfl, hb2⟩
        go_wp2_with fail
        go_ret2
        exact np_none HR2.out rfl hb2
      | some v =>
        have hN2 := fun W => np_of_some (hN W) hr
        have HR2 : Hid (readF 110 s.data.toList = some v) := Lib.hid (by rw [HRF.out, if_neg h45, hr])
        clear hN hr h45
        go_enter Tryd.func40, Tryd.ntmps40
        go_wp2_with fail
        refine (hN2 _).mono ?_
        rintro e w2 ⟨rfl, hb2⟩
        go_wp2_with fail
        go_ret2
        exact np_some HR2.out rfl hb2
theorem refOperand_any (f : Nat) (hf : f < 256) (s : ByteArray) (hs : s.size ≤ 200000) (w : World) : Calls Tryd.prog 40 #[.string s, .int .u8 f] w (NumPost (readF f s.data.toList) w) := by
  by_cases hn : f = 110
  · subst hn
    exact refOperand_num s hs w
  · exact refOperand_let f hf hn s hs w
end P3
end Go.Proofs.YtggdbceommmllaaDoor
