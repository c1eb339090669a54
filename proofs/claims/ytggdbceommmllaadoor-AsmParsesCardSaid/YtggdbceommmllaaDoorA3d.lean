/- Asm: numerals and operands read. -/
import Derived.Test.YtggdbceommmllaaDoorA3c
import Derived.IntWalk
import Derived.Lib.SmallJoins
import Derived.Laws.EntriesVeiled
import Derived.Deep.QuietTactic
import Derived.BigQuiet
namespace Go.Proofs.YtggdbceommmllaaDoor
open Go.RowKit
namespace P3
open P2 PC NumL CutL

/-! ### Plain -/
theorem num_empty : numA [] = none := by simp [numA]
theorem num_zero {l : List UInt8} (h : l.head? = some 48) (h1 : 1 < l.length) : numA l = none := by unfold numA; rw [if_pos (.inr (.inl ⟨h, h1⟩))]
theorem num_bad {l : List UInt8} {k : Nat} (hk : k < l.length) (h : isDig l[k] = false) : numA l = none := by
  have ha : l.all isDig = false := by
    cases ha : l.all isDig with
    | false => rfl
    | true =>
      rw [List.all_eq_true] at ha
      rw [ha _ (List.getElem_mem hk)] at h
      cases h
  unfold numA
  rw [if_pos (.inr (.inr ha))]
theorem num_good {l : List UInt8} (h0 : l ≠ []) (hz : ¬ (l.head? = some 48 ∧ 1 < l.length)) (ha : l.all isDig = true) : numA l = if 12 < l.length then some 1099511627776 else some (valF 0 l : Int) := by
  unfold numA
  rw [if_neg ?_]
  rintro (h | h | h)
  · exact h0 h
  · exact hz h
  · rw [ha] at h; cases h
theorem valF_lt : ∀ (l : List UInt8) (acc : Nat), l.all isDig = true → valF acc l < (acc + 1) * 10 ^ l.length
  | [], acc, _ => by simp [valF_nil]
  | c :: l, acc, h => by
    rw [List.all_cons, Bool.and_eq_true] at h
    have hc := of_decide_eq_true h.1
    rw [valF_cons, List.length_cons, Nat.pow_succ]
    refine Nat.lt_of_lt_of_le (valF_lt l _ h.2) ?_
    rw [Nat.mul_comm (10 ^ l.length) 10, ← Nat.mul_assoc]
    exact Nat.mul_le_mul_right _ (by omega)
theorem valF_12 {l : List UInt8} (ha : l.all isDig = true) (h : l.length ≤ 12) : valF 0 l < 1000000000000 := by
  refine Nat.lt_of_lt_of_le (valF_lt l 0 ha) ?_
  rw [Nat.zero_add, Nat.one_mul]
  exact Nat.le_trans (Nat.pow_le_pow_right (by omega) h) (by decide)
theorem decFrom_valF : ∀ (l : List UInt8) (acc : Nat), l.all isDig = true → Lib.decFrom acc l = some (valF acc l)
  | [], acc, _ => rfl
  | c :: l, acc, h => by
    rw [List.all_cons, Bool.and_eq_true] at h
    have hc := of_decide_eq_true h.1
    have hd : Lib.digitVal c = some (c.toNat - 48) := by
      unfold Lib.digitVal
      rw [if_pos hc]
    rw [Lib.decFrom, hd, valF_cons]
    exact decFrom_valF l _ h.2
theorem atoi_valF {l : List UInt8} (h0 : l ≠ []) (ha : l.all isDig = true) : Lib.atoi l = some (valF 0 l : Int) := by
  cases l with
  | nil => exact absurd rfl h0
  | cons c r =>
    have hc := ha
    rw [List.all_cons, Bool.and_eq_true] at hc
    have hd := of_decide_eq_true hc.1
    have h45 : (c == 45) = false := by rw [beq_eq_false_iff_ne]; rintro rfl; exact absurd hd.1 (by decide)
    have h43 : (c == 43) = false := by rw [beq_eq_false_iff_ne]; rintro rfl; exact absurd hd.1 (by decide)
    rw [Lib.atoi, h45, h43]
    simp [Lib.decNat, decFrom_valF _ 0 ha]
def NumPost (r : Option Int) (w : World) (e : Ending) (w' : World) : Prop := (match r with
  | some v => e = .returned (.tuple #[.int .i64 v, .bool true])
  | none => e = .returned (.tuple #[.int .i64 0, .bool false])) ∧ Below w.heap.size w w'
theorem np_none {r : Option Int} {w w' : World} {e : Ending} (h : r = none) (he : e = .returned (.tuple #[.int .i64 0, .bool false])) (hb : Below w.heap.size w w') : NumPost r w e w' := by
  unfold NumPost; rw [h]; exact ⟨he, hb⟩
theorem np_some {r : Option Int} {v : Int} {w w' : World} {e : Ending} (h : r = some v) (he : e = .returned (.tuple #[.int .i64 v, .bool true])) (hb : Below w.heap.size w w') : NumPost r w e w' := by
  unfold NumPost; rw [h]; exact ⟨he, hb⟩
theorem bs_len (s : ByteArray) : s.data.toList.length = s.size := by simp
theorem bs_take {s : ByteArray} {k : Nat} (h : k < s.size) : s.data.toList.take (k + 1) = s.data.toList.take k ++ [s[k]] := by
  rw [List.take_succ_eq_append_getElem (by simpa using h)]; rfl
theorem bs_head {s : ByteArray} (h : 0 < s.size) : s.data.toList.head? = some s[0] := by
  cases hl : s.data.toList with
  | nil => have : s.data.toList.length = s.size := bs_len s
           rw [hl] at this; simp at this; omega
  | cons c r =>
    have : s.data.toList[0]'(by rw [hl]; simp) = s[0] := rfl
    rw [← this]
    simp [hl]
theorem bs_tail (s : ByteArray) : (s.extract 1 s.size).data.toList = s.data.toList.tail := by
  rw [ByteArray.data_extract, Array.toList_extract, List.extract_eq_take_drop, List.take_of_length_le (by simp), List.drop_one]
set_option maxRecDepth 10000 in
set_option maxHeartbeats 4000000 in
theorem numeral_any (s : ByteArray) (hs : s.size ≤ 200000) (w : World) : Calls Tryd.prog 56 #[.string s] w (NumPost (numA s.data.toList) w) := by
  rcases Nat.eq_zero_or_pos s.size with h0 | h0
  · have HR : Hid (numA s.data.toList = none) := Lib.hid (by rw [str_nil h0]; exact num_empty)
    have e0 := str_empty' h0
    have hbe : (s.toList == (⟨#[]⟩ : ByteArray).toList) = true := by rw [e0, str_empty' (c := ⟨#[]⟩) rfl]; rfl
    have hie : s.toList.isEmpty = true := by rw [e0]; rfl
    clear h0 hs e0
    go_enter Tryd.func56, Tryd.ntmps56
    go_wp2_with fail
    go_ret2
    exact np_none HR.out rfl (Below.refl _ _)
  · have hne : (s.toList == (⟨#[]⟩ : ByteArray).toList) = false := str_bne (fun h => by rw [h] at h0; exact absurd h0 (by decide))
    have hne2 := str_full' (c := s) (by omega)
    have HNN : Hid (s.data.toList ≠ []) := Lib.hid (fun e => by have := bs_len s; rw [e] at this; simp at this; omega)
    have HHD := Lib.hid (bs_head h0)
    by_cases hz : s[0].toNat = 48 ∧ 1 < s.size
    · obtain ⟨hz1, hz2⟩ := hz
      have HR : Hid (numA s.data.toList = none) := Lib.hid (num_zero (by rw [HHD.out, ← UInt8.ofNat_toNat (x := s[0]), hz1]; rfl) (by rw [bs_len]; exact hz2))
      have e1 : ((s[0].toNat : Int) == 48) = true := by rw [beq_iff_eq]; omega
      have e2 : decide (1 < (s.size : Int)) = true := by simp; omega
      clear hz1
      go_enter Tryd.func56, Tryd.ntmps56
      go_wp2_with fail
      go_ret2
      exact np_none HR.out rfl (Below.refl _ _)
    · have HZ : Hid (¬ (s.data.toList.head? = some 48 ∧ 1 < s.data.toList.length)) := Lib.hid (by
        rw [HHD.out, bs_len]
        rintro ⟨a, b⟩
        exact hz ⟨by rw [Option.some.inj a]; rfl, b⟩)
      have HBD : Hid (∀ (k : Nat) (hk : k < s.size), isDig s[k] = false → numA s.data.toList = none) := Lib.hid (fun k hk hb => num_bad (k := k) (by rw [bs_len]; exact hk) hb)
      by_cases h48 : s[0].toNat = 48
      · have e1 : ((s[0].toNat : Int) == 48) = true := by rw [beq_iff_eq]; omega
        have e2 : decide (1 < (s.size : Int)) = false := by simp; omega
        have e3 : decide (1 < s.size) = false := by simp; omega
        clear hz
        go_enter Tryd.func56, Tryd.ntmps56
        go_wp2_with fail
        go_loop [21] (fun x => ∃ k : Nat, k ≤ s.size ∧ x = .int .i64 k ∧ (s.data.toList.take k).all isDig = true) (fun x => s.size - (intOf x).toNat)
        case atStart => exact ⟨0, Nat.zero_le _, rfl, rfl⟩
        case round =>
          obtain ⟨k, hk, rfl, hall⟩ := hrel
          have HALL := Lib.hid hall
          clear hall
          by_cases hlt : k < s.size
          · have HT := Lib.hid (bs_take hlt)
            obtain ⟨c, hc⟩ := name_of s[k]
            have hc256 : c.toNat < 256 := c.toNat_lt
            have HC := Lib.hid hc
            obtain ⟨cn, hcn⟩ := name_of c.toNat
            have HCN := Lib.hid hcn
            rw [hcn] at hc256
            by_cases g48 : cn < 48
            · have HB : Hid (isDig s[k] = false) := Lib.hid (by rw [hc]; unfold isDig; rw [hcn]; exact decide_eq_false (by omega))
              have f1 : decide ((cn : Int) < 48) = true := by simp; omega
              go_wp2_with fail
              go_ret2
              exact np_none (HBD.out _ hlt HB.out) rfl (Below.refl _ _)
            · have f1 : decide ((cn : Int) < 48) = false := by simp; omega
              by_cases g57 : 57 < cn
              · have HB : Hid (isDig s[k] = false) := Lib.hid (by rw [hc]; unfold isDig; rw [hcn]; exact decide_eq_false (by omega))
                have f2 : decide (57 < (cn : Int)) = true := by simp; omega
                go_wp2_with fail
                go_ret2
                exact np_none (HBD.out _ hlt HB.out) rfl (Below.refl _ _)
              · have f2 : decide (57 < (cn : Int)) = false := by simp; omega
                have HD : Hid (isDig c = true) := Lib.hid (by unfold isDig; rw [hcn]; exact decide_eq_true (by omega))
                go_wp2_with fail
                go_round
                case rel => exact ⟨k + 1, by omega, by go_num, by rw [HT.out, List.all_append, HALL.out, HC.out, List.all_cons, HD.out]; rfl⟩
                case measure => simp [intOf]; omega
          · obtain rfl : k = s.size := by omega
            have HA : Hid (s.data.toList.all isDig = true) := Lib.hid (by have := HALL.out; rwa [List.take_of_length_le (by rw [bs_len]; exact Nat.le_refl _)] at this)
            have HG := Lib.hid (num_good HNN.out HZ.out HA.out)
            by_cases h12 : 12 < s.size
            · have HR : Hid (numA s.data.toList = some 1099511627776) := Lib.hid (by rw [HG.out, if_pos (by rw [bs_len]; exact h12)])
              have f3 : decide (12 < (s.size : Int)) = true := by simp; omega
              go_wp2_with fail
              go_ret2
              exact np_some HR.out rfl (Below.refl _ _)
            · have HR : Hid (numA s.data.toList = some (valF 0 s.data.toList : Int)) := Lib.hid (by rw [HG.out, if_neg (by rw [bs_len]; exact h12)])
              have f3 : decide (12 < (s.size : Int)) = false := by simp; omega
              have hAt := Tryd.strconv_Atoi s _ (by omega) (atoi_valF HNN.out HA.out) w
              obtain ⟨n, hn⟩ := name_of (valF 0 s.data.toList)
              rw [hn] at hAt HR
              clear hn h12
              go_wp2_with fail
              refine hAt.mono ?_
              rintro e w1 ⟨rfl, t, rfl⟩
              go_wp2_with fail
              go_quiet (fail)
              go_wp2_with fail
              go_ret2
              exact np_some HR.out rfl ((Go.Joins.below_bytesWorld _ w _ t (Nat.le_refl _)).next (below_drewn _))
      · have e1 : ((s[0].toNat : Int) == 48) = false := by rw [beq_eq_false_iff_ne]; omega
        clear hz h48
        go_enter Tryd.func56, Tryd.ntmps56
        go_wp2_with fail
        go_loop [21] (fun x => ∃ k : Nat, k ≤ s.size ∧ x = .int .i64 k ∧ (s.data.toList.take k).all isDig = true) (fun x => s.size - (intOf x).toNat)
        case atStart => exact ⟨0, Nat.zero_le _, rfl, rfl⟩
        case round =>
          obtain ⟨k, hk, rfl, hall⟩ := hrel
          have HALL := Lib.hid hall
          clear hall
          by_cases hlt : k < s.size
          · have HT := Lib.hid (bs_take hlt)
            obtain ⟨c, hc⟩ := name_of s[k]
            have hc256 : c.toNat < 256 := c.toNat_lt
            have HC := Lib.hid hc
            obtain ⟨cn, hcn⟩ := name_of c.toNat
            have HCN := Lib.hid hcn
            rw [hcn] at hc256
            by_cases g48 : cn < 48
            · have HB : Hid (isDig s[k] = false) := Lib.hid (by rw [hc]; unfold isDig; rw [hcn]; exact decide_eq_false (by omega))
              have f1 : decide ((cn : Int) < 48) = true := by simp; omega
              go_wp2_with fail
              go_ret2
              exact np_none (HBD.out _ hlt HB.out) rfl (Below.refl _ _)
            · have f1 : decide ((cn : Int) < 48) = false := by simp; omega
              by_cases g57 : 57 < cn
              · have HB : Hid (isDig s[k] = false) := Lib.hid (by rw [hc]; unfold isDig; rw [hcn]; exact decide_eq_false (by omega))
                have f2 : decide (57 < (cn : Int)) = true := by simp; omega
                go_wp2_with fail
                go_ret2
                exact np_none (HBD.out _ hlt HB.out) rfl (Below.refl _ _)
              · have f2 : decide (57 < (cn : Int)) = false := by simp; omega
                have HD : Hid (isDig c = true) := Lib.hid (by unfold isDig; rw [hcn]; exact decide_eq_true (by omega))
                go_wp2_with fail
                go_round
                case rel => exact ⟨k + 1, by omega, by go_num, by rw [HT.out, List.all_append, HALL.out, HC.out, List.all_cons, HD.out]; rfl⟩
                case measure => simp [intOf]; omega
          · obtain rfl : k = s.size := by omega
            have HA : Hid (s.data.toList.all isDig = true) := Lib.hid (by have := HALL.out; rwa [List.take_of_length_le (by rw [bs_len]; exact Nat.le_refl _)] at this)
            have HG := Lib.hid (num_good HNN.out HZ.out HA.out)
            by_cases h12 : 12 < s.size
            · have HR : Hid (numA s.data.toList = some 1099511627776) := Lib.hid (by rw [HG.out, if_pos (by rw [bs_len]; exact h12)])
              have f3 : decide (12 < (s.size : Int)) = true := by simp; omega
              go_wp2_with fail
              go_ret2
              exact np_some HR.out rfl (Below.refl _ _)
            · have HR : Hid (numA s.data.toList = some (valF 0 s.data.toList : Int)) := Lib.hid (by rw [HG.out, if_neg (by rw [bs_len]; exact h12)])
              have f3 : decide (12 < (s.size : Int)) = false := by simp; omega
              have hAt := Tryd.strconv_Atoi s _ (by omega) (atoi_valF HNN.out HA.out) w
              obtain ⟨n, hn⟩ := name_of (valF 0 s.data.toList)
              rw [hn] at hAt HR
              clear hn h12
              go_wp2_with fail
              refine hAt.mono ?_
              rintro e w1 ⟨rfl, t, rfl⟩
              go_wp2_with fail
              go_quiet (fail)
              go_wp2_with fail
              go_ret2
              exact np_some HR.out rfl ((Go.Joins.below_bytesWorld _ w _ t (Nat.le_refl _)).next (below_drewn _))
end P3
end Go.Proofs.YtggdbceommmllaaDoor
