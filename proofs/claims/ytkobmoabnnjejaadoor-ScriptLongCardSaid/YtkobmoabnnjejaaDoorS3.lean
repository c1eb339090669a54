/- Script: the reference's Read. -/
import Derived.Test.YtkobmoabnnjejaaDoorS1c
import Derived.Test.YtkobmoabnnjejaaDoorNm
import Derived.IntWalk
namespace Go.Proofs.YtkobmoabnnjejaaDoor
open Go.RowKit
namespace P21
open PC NumL

def ReadPost (l : List UInt8) (w : World) (e : Ending) (w' : World) : Prop := (match numT l with
  | some n => e = .returned (.tuple #[.int .i64 n, .bool true])
  | none => e = .returned (.tuple #[.int .i64 0, .bool false])) ∧ w' = w
theorem read_none {l : List UInt8} {w : World} (h : numT l = none) {e : Ending} (he : e = .returned (.tuple #[.int .i64 0, .bool false])) : ReadPost l w e w := by
  unfold ReadPost; rw [h]; exact ⟨he, rfl⟩
theorem read_some {l : List UInt8} {w : World} {n : Int} (h : numT l = some n) {e : Ending} (he : e = .returned (.tuple #[.int .i64 n, .bool true])) : ReadPost l w e w := by
  unfold ReadPost; rw [h]; exact ⟨he, rfl⟩
theorem num_empty : numT [] = none := numT_none fun n h _ _ => by
  rcases itoa_parts n with ⟨a, _, e⟩ | ⟨a, _, _, e⟩
  · rw [e] at h; exact (dec_val a).2.2.1 h
  · rw [e] at h; cases h
theorem neg_empty : numT [45] = none := numT_none fun n h _ _ => by
  obtain ⟨a, ha, _, _, hd⟩ := numT_neg.1 (numT_iff.2 ⟨h, by assumption, by assumption⟩)
  exact (dec_val a).2.2.1 hd.symm
theorem dig_bad {d : List UInt8} {k : Nat} (hk : k < d.length) (h : isDig d[k] = false) (a : Nat) : d ≠ Lib.decDigits a := by
  intro e
  have := (dec_val a).2.1
  rw [← e, List.all_eq_true] at this
  rw [this _ (List.getElem_mem hk)] at h
  cases h
theorem neg_bad {d : List UInt8} (h : ∀ a, 0 < a → a ≤ 9223372036854775808 → d ≠ Lib.decDigits a) : numT (45 :: d) = none := by
  cases hn : numT (45 :: d) with
  | none => rfl
  | some n =>
    obtain ⟨a, h1, h2, _, h3⟩ := numT_neg.1 hn
    exact absurd h3 (h a h1 h2)
theorem pos_bad {d : List UInt8} (h45 : d.head? ≠ some 45) (h : ∀ a, a ≤ 9223372036854775807 → d ≠ Lib.decDigits a) : numT d = none := by
  cases hn : numT d with
  | none => rfl
  | some n =>
    obtain ⟨a, h1, _, h3⟩ := (numT_pos h45).1 hn
    exact absurd h3 (h a h1)
theorem neg_good {d : List UInt8} (h0 : d ≠ []) (ha : d.all isDig = true) (hz : d.head? ≠ some 48) (hv : valF 0 d ≤ 9223372036854775808) : numT (45 :: d) = some (-(valF 0 d : Int)) := by
  have hd := dec_of _ d rfl h0 ha (fun e => absurd e hz)
  refine numT_neg.2 ⟨valF 0 d, ?_, hv, rfl, hd.symm⟩
  cases d with
  | nil => exact absurd rfl h0
  | cons c r =>
    rw [List.all_cons, Bool.and_eq_true] at ha
    exact head_pos ha.1 (fun e => hz (by rw [e]; rfl))
theorem pos_good {d : List UInt8} (h0 : d ≠ []) (ha : d.all isDig = true) (hz : d.head? = some 48 → d.length = 1) (hv : valF 0 d ≤ 9223372036854775807) : numT d = some (valF 0 d : Int) := by
  have hd := dec_of _ d rfl h0 ha hz
  refine (numT_pos ?_).2 ⟨valF 0 d, hv, rfl, hd.symm⟩
  rw [← hd]
  exact dec_no45 _
/-- Where a beginning of the digits is worth too much, they are no number. -/
theorem dec_prefix {d p : List UInt8} (hp : p <+: d) {a : Nat} (h : d = Lib.decDigits a) : valF 0 p ≤ a := by
  have := valF_prefix hp 0
  rw [h, (dec_val a).1] at this
  exact this
theorem dec_head {d : List UInt8} {a : Nat} (h : d = Lib.decDigits a) (h48 : d.head? = some 48) : a = 0 ∧ d.length = 1 := by
  have := (dec_val a).2.2.2 (by rw [← h]; exact h48)
  subst this
  rw [h, dec_one (by omega)]
  exact ⟨rfl, rfl⟩
theorem bs_get {s : ByteArray} {k : Nat} (h : k < s.size) : s.data.toList[k]'(by simpa using h) = s[k] := rfl
theorem bs_take {s : ByteArray} {k : Nat} (h : k < s.size) : s.data.toList.take (k + 1) = s.data.toList.take k ++ [s[k]] := by
  rw [List.take_succ_eq_append_getElem (by simpa using h)]; rfl
theorem bs_cons {s : ByteArray} (h : 0 < s.size) : s.data.toList = s[0] :: (s.extract 1 s.size).data.toList := by
  rw [ByteArray.data_extract, Array.toList_extract]
  cases hl : s.data.toList with
  | nil => have : s.data.toList.length = s.size := by simp
           rw [hl] at this; simp at this; omega
  | cons c r =>
    have h1 : s[0] = c := by
      have : s.data.toList[0]'(by rw [hl]; simp) = s[0] := rfl
      rw [← this]
      simp [hl]
    have h2 : s.size = r.length + 1 := by
      have : s.data.toList.length = s.size := by simp
      rw [hl] at this; simpa using this.symm
    rw [h1, h2]
    simp [List.extract_eq_take_drop]
theorem bs_head {s : ByteArray} (h : 0 < s.size) : s.data.toList.head? = some s[0] := by rw [bs_cons h]; rfl
theorem bs_len (s : ByteArray) : s.data.toList.length = s.size := by simp
def RdR (d : ByteArray) (i x : Value) : Prop := ∃ k v : Nat, k ≤ d.size ∧ i = .int .i64 k ∧ x = .int .i64 (-(v : Int)) ∧ v ≤ 9223372036854775808 ∧ v = valF 0 (d.data.toList.take k) ∧ (d.data.toList.take k).all isDig = true

set_option maxRecDepth 10000 in
set_option maxHeartbeats 4000000 in
theorem refRead_any (s : ByteArray) (hs : s.size ≤ 1000000) (w : World) : Calls Tryd.prog 36 #[.string s] w (ReadPost s.data.toList w) := by
  rcases Nat.eq_zero_or_pos s.size with h0 | h0
  · have HL : Hid (numT s.data.toList = none) := Lib.hid (by rw [str_nil h0]; exact num_empty)
    go_enter Tryd.func36, Tryd.ntmps36
    go_wp2_with fail
    go_ret2
    exact read_none HL.out rfl
  · by_cases h45 : s[0] = 45
    · have e0 : ((s[0].toNat : Int) == 45) = true := by rw [h45]; rfl
      obtain ⟨d, hd⟩ := name_of (s.extract 1 s.size)
      have HS : Hid (s.data.toList = 45 :: d.data.toList) := Lib.hid (by rw [bs_cons h0, h45, hd])
      have hds : d.size + 1 = s.size := by
        have := congrArg List.length HS.out
        rw [List.length_cons, bs_len, bs_len] at this
        omega
      have hds2 : d.size ≤ 1000000 := by omega
      have HDS := Lib.hid hds
      clear hds h45
      rcases Nat.eq_zero_or_pos d.size with g0 | g0
      · have HL : Hid (numT s.data.toList = none) := Lib.hid (by rw [HS.out, str_nil g0]; exact neg_empty)
        have hz0 : ((d.size : Int) == 0) = true := by rw [beq_iff_eq]; omega
        clear g0
        go_enter Tryd.func36, Tryd.ntmps36
        go_wp2_with fail
        go_ret2
        exact read_none HL.out rfl
      · have hz0 : ((d.size : Int) == 0) = false := by rw [beq_eq_false_iff_ne]; omega
        have HHD := Lib.hid (bs_head g0)
        by_cases hz : d[0].toNat = 48
        · have e1 : ((d[0].toNat : Int) == 48) = true := by rw [beq_iff_eq]; omega
          have HL : Hid (numT s.data.toList = none) := Lib.hid (by
            rw [HS.out]
            refine neg_bad fun a ha _ e => ?_
            have := (dec_head e (by rw [HHD.out, ← UInt8.ofNat_toNat (x := d[0]), hz]; rfl)).1
            omega)
          clear hz
          by_cases h1 : 1 < d.size
          · go_enter Tryd.func36, Tryd.ntmps36
            go_wp2_with fail
            go_ret2
            exact read_none HL.out rfl
          · go_enter Tryd.func36, Tryd.ntmps36
            go_wp2_with fail
            go_ret2
            exact read_none HL.out rfl
        · have e1 : ((d[0].toNat : Int) == 48) = false := by rw [beq_eq_false_iff_ne]; omega
          have HZ : Hid (d.data.toList.head? ≠ some 48) := Lib.hid (by
            rw [HHD.out]
            intro e
            exact hz (by rw [Option.some.inj e]; rfl))
          have HB1 : Hid (∀ (k : Nat) (hk : k < d.size), isDig d[k] = false → numT s.data.toList = none) := Lib.hid (fun k hk hb => by
            rw [HS.out]
            exact neg_bad fun a _ _ => dig_bad (k := k) (by rw [bs_len]; exact hk) hb a)
          have HB2 : Hid (∀ k : Nat, 9223372036854775808 < valF 0 (d.data.toList.take k) → numT s.data.toList = none) := Lib.hid (fun k hv => by
            rw [HS.out]
            exact neg_bad fun a _ ha e => by have := dec_prefix (List.take_prefix k _) e; omega)
          clear hz
          go_enter Tryd.func36, Tryd.ntmps36
          go_wp2_with fail
          go_loop [6, 7] (fun x i => RdR d i x) (fun _ i => d.size - (intOf i).toNat)
          case atStart => exact ⟨0, 0, Nat.zero_le _, rfl, rfl, by omega, rfl, rfl⟩
          case round =>
            obtain ⟨k, v, hk, rfl, rfl, hv, hvv, hall⟩ := hrel
            have HVV := Lib.hid hvv
            have HALL := Lib.hid hall
            clear hvv hall
            by_cases hlt : k < d.size
            · have HT := Lib.hid (bs_take hlt)
              have HB := Lib.hid (bs_get hlt)
              obtain ⟨c, hc⟩ := name_of d[k]
              have hc256 : c.toNat < 256 := c.toNat_lt
              have HC := Lib.hid hc
              obtain ⟨cn, hcn⟩ := name_of c.toNat
              have HCN := Lib.hid hcn
              rw [hcn] at hc256
              by_cases h48 : cn < 48
              · have HBAD : Hid (isDig d[k] = false) := Lib.hid (by rw [hc]; unfold isDig; rw [hcn]; exact decide_eq_false (by omega))
                have f1 : decide ((cn : Int) < 48) = true := by simp; omega
                go_wp2_with fail
                go_ret2
                exact read_none (HB1.out _ hlt HBAD.out) rfl
              · by_cases h57 : 57 < cn
                · have HBAD : Hid (isDig d[k] = false) := Lib.hid (by rw [hc]; unfold isDig; rw [hcn]; exact decide_eq_false (by omega))
                  go_wp2_with fail
                  go_ret2
                  exact read_none (HB1.out _ hlt HBAD.out) rfl
                · obtain ⟨cd, rfl⟩ : ∃ cd, cn = 48 + cd := ⟨cn - 48, by omega⟩
                  have hcd : cd ≤ 9 := by omega
                  have HDIG : Hid (isDig c = true) := Lib.hid (by unfold isDig; rw [hcn]; exact decide_eq_true (by omega))
                  have hs48 : (48 + (cd : Int)) - 48 = (cd : Int) := by omega
                  obtain ⟨q, hq⟩ := name_of ((9223372036854775808 - cd) / 10)
                  have hqd : (-9223372036854775808 + (cd : Int)).tdiv 10 = -(q : Int) := by
                    rw [show (-9223372036854775808 + (cd : Int)) = -((9223372036854775808 - cd : Nat) : Int) by omega, Int.neg_tdiv, Int.tdiv_eq_ediv_of_nonneg (by omega)]
                    omega
                  have HQ := Lib.hid hq
                  have hqb : q ≤ 922337203685477580 := by omega
                  have f3 : decide (9 < (cd : Int)) = false := by simp; omega
                  have f4 : decide ((cd : Int) < 0) = false := by simp
                  clear hq
                  by_cases hqv : q < v
                  · have f5 : decide (-(v : Int) < -(q : Int)) = true := by simp; omega
                    have HBIG : Hid (9223372036854775808 < valF 0 (d.data.toList.take (k + 1))) := Lib.hid (by
                      rw [HT.out, hc, valF_snoc, ← HVV.out, hcn]
                      have := HQ.out
                      omega)
                    go_wp2_with fail
                    go_ret2
                    exact read_none (HB2.out _ HBIG.out) rfl
                  · have h10 : 10 * v + cd ≤ 9223372036854775808 := by have := HQ.out; omega
                    have f5 : decide (-(v : Int) < -(q : Int)) = false := by simp; omega
                    have HNV : Hid (10 * v + cd = valF 0 (d.data.toList.take (k + 1))) := Lib.hid (by
                      rw [HT.out, hc, valF_snoc, ← HVV.out, hcn]
                      omega)
                    have HNA : Hid ((d.data.toList.take (k + 1)).all isDig = true) := Lib.hid (by
                      rw [HT.out, List.all_append, HALL.out, hc, List.all_cons, HDIG.out]; rfl)
                    go_wp2_with fail
                    exact ⟨⟨k + 1, 10 * v + cd, hlt, by go_num, by go_num, h10, HNV.out, HNA.out⟩, by simp [intOf]; omega⟩
            · have hkd : k = d.size := by omega
              have HTK : Hid (d.data.toList.take k = d.data.toList) := Lib.hid (by rw [List.take_of_length_le (by rw [bs_len]; omega)])
              have HFV : Hid (v = valF 0 d.data.toList) := Lib.hid (by rw [HVV.out, HTK.out])
              have HFA : Hid (d.data.toList.all isDig = true) := Lib.hid (by have := HALL.out; rwa [HTK.out] at this)
              have HN : Hid (numT s.data.toList = some (-(v : Int))) := Lib.hid (by
                have h1 := neg_good (d := d.data.toList) (fun e => by have := bs_len d; rw [e] at this; simp at this; omega) HFA.out HZ.out (by have := HFV.out; omega)
                rw [HS.out, h1, ← HFV.out])
              go_wp2_with fail
              go_ret2
              exact read_some HN.out rfl
    · have e0 : ((s[0].toNat : Int) == 45) = false := by
        rw [beq_eq_false_iff_ne]
        intro e
        refine h45 ?_
        have : s[0].toNat = 45 := by omega
        rw [← UInt8.ofNat_toNat (x := s[0]), this]; rfl
      have HHD := Lib.hid (bs_head h0)
      have HH : Hid (s.data.toList.head? ≠ some 45) := Lib.hid (by
        rw [HHD.out]
        intro e
        exact h45 (Option.some.inj e))
      have HB1 : Hid (∀ (k : Nat) (hk : k < s.size), isDig s[k] = false → numT s.data.toList = none) := Lib.hid (fun k hk hb => pos_bad HH.out fun a _ => dig_bad (k := k) (by rw [bs_len]; exact hk) hb a)
      have HB2 : Hid (∀ k : Nat, 9223372036854775808 < valF 0 (s.data.toList.take k) → numT s.data.toList = none) := Lib.hid (fun k hv => pos_bad HH.out fun a ha e => by have := dec_prefix (List.take_prefix k _) e; omega)
      obtain ⟨d, hd⟩ : ∃ d, d = s := ⟨s, rfl⟩
      subst hd
      clear h45
      have hz0 : ((d.size : Int) == 0) = false := by rw [beq_eq_false_iff_ne]; omega
      by_cases hz : d[0].toNat = 48
      · have e1 : ((d[0].toNat : Int) == 48) = true := by rw [beq_iff_eq]; omega
        by_cases h1 : 1 < d.size
        · have HL : Hid (numT d.data.toList = none) := Lib.hid (pos_bad HH.out fun a ha e => by
            have := (dec_head e (by rw [HHD.out, ← UInt8.ofNat_toNat (x := d[0]), hz]; rfl)).2
            rw [bs_len] at this
            omega)
          clear hz
          go_enter Tryd.func36, Tryd.ntmps36
          go_wp2_with fail
          go_ret2
          exact read_none HL.out rfl
        · have HZ : Hid (d.data.toList.head? = some 48 → d.data.toList.length = 1) := Lib.hid (fun _ => by rw [bs_len]; omega)
          have g1 : decide (1 < d.size) = false := by simpa using h1
          clear hz
          go_enter Tryd.func36, Tryd.ntmps36
          go_wp2_with fail
          go_loop [6, 7] (fun x i => RdR d i x) (fun _ i => d.size - (intOf i).toNat)
          case atStart => exact ⟨0, 0, Nat.zero_le _, rfl, rfl, by omega, rfl, rfl⟩
          case round =>
            obtain ⟨k, v, hk, rfl, rfl, hv, hvv, hall⟩ := hrel
            have HVV := Lib.hid hvv
            have HALL := Lib.hid hall
            clear hvv hall
            by_cases hlt : k < d.size
            · have HT := Lib.hid (bs_take hlt)
              have HB := Lib.hid (bs_get hlt)
              obtain ⟨c, hc⟩ := name_of d[k]
              have hc256 : c.toNat < 256 := c.toNat_lt
              have HC := Lib.hid hc
              obtain ⟨cn, hcn⟩ := name_of c.toNat
              have HCN := Lib.hid hcn
              rw [hcn] at hc256
              by_cases h48 : cn < 48
              · have HBAD : Hid (isDig d[k] = false) := Lib.hid (by rw [hc]; unfold isDig; rw [hcn]; exact decide_eq_false (by omega))
                have f1 : decide ((cn : Int) < 48) = true := by simp; omega
                go_wp2_with fail
                go_ret2
                exact read_none (HB1.out _ hlt HBAD.out) rfl
              · by_cases h57 : 57 < cn
                · have HBAD : Hid (isDig d[k] = false) := Lib.hid (by rw [hc]; unfold isDig; rw [hcn]; exact decide_eq_false (by omega))
                  go_wp2_with fail
                  go_ret2
                  exact read_none (HB1.out _ hlt HBAD.out) rfl
                · obtain ⟨cd, rfl⟩ : ∃ cd, cn = 48 + cd := ⟨cn - 48, by omega⟩
                  have hcd : cd ≤ 9 := by omega
                  have HDIG : Hid (isDig c = true) := Lib.hid (by unfold isDig; rw [hcn]; exact decide_eq_true (by omega))
                  have hs48 : (48 + (cd : Int)) - 48 = (cd : Int) := by omega
                  obtain ⟨q, hq⟩ := name_of ((9223372036854775808 - cd) / 10)
                  have hqd : (-9223372036854775808 + (cd : Int)).tdiv 10 = -(q : Int) := by
                    rw [show (-9223372036854775808 + (cd : Int)) = -((9223372036854775808 - cd : Nat) : Int) by omega, Int.neg_tdiv, Int.tdiv_eq_ediv_of_nonneg (by omega)]
                    omega
                  have HQ := Lib.hid hq
                  have hqb : q ≤ 922337203685477580 := by omega
                  have f3 : decide (9 < (cd : Int)) = false := by simp; omega
                  have f4 : decide ((cd : Int) < 0) = false := by simp
                  clear hq
                  by_cases hqv : q < v
                  · have f5 : decide (-(v : Int) < -(q : Int)) = true := by simp; omega
                    have HBIG : Hid (9223372036854775808 < valF 0 (d.data.toList.take (k + 1))) := Lib.hid (by
                      rw [HT.out, hc, valF_snoc, ← HVV.out, hcn]
                      have := HQ.out
                      omega)
                    go_wp2_with fail
                    go_ret2
                    exact read_none (HB2.out _ HBIG.out) rfl
                  · have h10 : 10 * v + cd ≤ 9223372036854775808 := by have := HQ.out; omega
                    have f5 : decide (-(v : Int) < -(q : Int)) = false := by simp; omega
                    have HNV : Hid (10 * v + cd = valF 0 (d.data.toList.take (k + 1))) := Lib.hid (by
                      rw [HT.out, hc, valF_snoc, ← HVV.out, hcn]
                      omega)
                    have HNA : Hid ((d.data.toList.take (k + 1)).all isDig = true) := Lib.hid (by
                      rw [HT.out, List.all_append, HALL.out, hc, List.all_cons, HDIG.out]; rfl)
                    go_wp2_with fail
                    exact ⟨⟨k + 1, 10 * v + cd, hlt, by go_num, by go_num, h10, HNV.out, HNA.out⟩, by simp [intOf]; omega⟩
            · have hkd : k = d.size := by omega
              have HTK : Hid (d.data.toList.take k = d.data.toList) := Lib.hid (by rw [List.take_of_length_le (by rw [bs_len]; omega)])
              have HFV : Hid (v = valF 0 d.data.toList) := Lib.hid (by rw [HVV.out, HTK.out])
              have HFA : Hid (d.data.toList.all isDig = true) := Lib.hid (by have := HALL.out; rwa [HTK.out] at this)
              by_cases hmax : v = 9223372036854775808
              · have HN : Hid (numT d.data.toList = none) := Lib.hid (pos_bad HH.out fun a ha e => by
                  have := dec_prefix (List.prefix_refl _) e
                  have := HFV.out
                  omega)
                have f6 : (-(v : Int) == -9223372036854775808) = true := by rw [beq_iff_eq]; omega
                clear hmax
                go_wp2_with fail
                go_ret2
                exact read_none HN.out rfl
              · have HN : Hid (numT d.data.toList = some (v : Int)) := Lib.hid (by
                  have h1 := pos_good (d := d.data.toList) (fun e => by have := bs_len d; rw [e] at this; simp at this; omega) HFA.out HZ.out (by have := HFV.out; omega)
                  rw [h1, ← HFV.out])
                have f6 : (-(v : Int) == -9223372036854775808) = false := by rw [beq_eq_false_iff_ne]; omega
                have hv2 : v ≤ 9223372036854775807 := by omega
                clear hmax
                go_wp2_with fail
                go_ret2
                exact read_some HN.out (by first | rfl | (congr 2; simp))
      · have e1 : ((d[0].toNat : Int) == 48) = false := by rw [beq_eq_false_iff_ne]; omega
        have HZ : Hid (d.data.toList.head? = some 48 → d.data.toList.length = 1) := Lib.hid (fun e => by
          rw [HHD.out] at e
          exact absurd (by rw [Option.some.inj e]; rfl) hz)
        clear hz
        go_enter Tryd.func36, Tryd.ntmps36
        go_wp2_with fail
        go_loop [6, 7] (fun x i => RdR d i x) (fun _ i => d.size - (intOf i).toNat)
        case atStart => exact ⟨0, 0, Nat.zero_le _, rfl, rfl, by omega, rfl, rfl⟩
        case round =>
          obtain ⟨k, v, hk, rfl, rfl, hv, hvv, hall⟩ := hrel
          have HVV := Lib.hid hvv
          have HALL := Lib.hid hall
          clear hvv hall
          by_cases hlt : k < d.size
          · have HT := Lib.hid (bs_take hlt)
            have HB := Lib.hid (bs_get hlt)
            obtain ⟨c, hc⟩ := name_of d[k]
            have hc256 : c.toNat < 256 := c.toNat_lt
            have HC := Lib.hid hc
            obtain ⟨cn, hcn⟩ := name_of c.toNat
            have HCN := Lib.hid hcn
            rw [hcn] at hc256
            by_cases h48 : cn < 48
            · have HBAD : Hid (isDig d[k] = false) := Lib.hid (by rw [hc]; unfold isDig; rw [hcn]; exact decide_eq_false (by omega))
              have f1 : decide ((cn : Int) < 48) = true := by simp; omega
              go_wp2_with fail
              go_ret2
              exact read_none (HB1.out _ hlt HBAD.out) rfl
            · by_cases h57 : 57 < cn
              · have HBAD : Hid (isDig d[k] = false) := Lib.hid (by rw [hc]; unfold isDig; rw [hcn]; exact decide_eq_false (by omega))
                go_wp2_with fail
                go_ret2
                exact read_none (HB1.out _ hlt HBAD.out) rfl
              · obtain ⟨cd, rfl⟩ : ∃ cd, cn = 48 + cd := ⟨cn - 48, by omega⟩
                have hcd : cd ≤ 9 := by omega
                have HDIG : Hid (isDig c = true) := Lib.hid (by unfold isDig; rw [hcn]; exact decide_eq_true (by omega))
                have hs48 : (48 + (cd : Int)) - 48 = (cd : Int) := by omega
                obtain ⟨q, hq⟩ := name_of ((9223372036854775808 - cd) / 10)
                have hqd : (-9223372036854775808 + (cd : Int)).tdiv 10 = -(q : Int) := by
                  rw [show (-9223372036854775808 + (cd : Int)) = -((9223372036854775808 - cd : Nat) : Int) by omega, Int.neg_tdiv, Int.tdiv_eq_ediv_of_nonneg (by omega)]
                  omega
                have HQ := Lib.hid hq
                have hqb : q ≤ 922337203685477580 := by omega
                have f3 : decide (9 < (cd : Int)) = false := by simp; omega
                have f4 : decide ((cd : Int) < 0) = false := by simp
                clear hq
                by_cases hqv : q < v
                · have f5 : decide (-(v : Int) < -(q : Int)) = true := by simp; omega
                  have HBIG : Hid (9223372036854775808 < valF 0 (d.data.toList.take (k + 1))) := Lib.hid (by
                    rw [HT.out, hc, valF_snoc, ← HVV.out, hcn]
                    have := HQ.out
                    omega)
                  go_wp2_with fail
                  go_ret2
                  exact read_none (HB2.out _ HBIG.out) rfl
                · have h10 : 10 * v + cd ≤ 9223372036854775808 := by have := HQ.out; omega
                  have f5 : decide (-(v : Int) < -(q : Int)) = false := by simp; omega
                  have HNV : Hid (10 * v + cd = valF 0 (d.data.toList.take (k + 1))) := Lib.hid (by
                    rw [HT.out, hc, valF_snoc, ← HVV.out, hcn]
                    omega)
                  have HNA : Hid ((d.data.toList.take (k + 1)).all isDig = true) := Lib.hid (by
                    rw [HT.out, List.all_append, HALL.out, hc, List.all_cons, HDIG.out]; rfl)
                  go_wp2_with fail
                  exact ⟨⟨k + 1, 10 * v + cd, hlt, by go_num, by go_num, h10, HNV.out, HNA.out⟩, by simp [intOf]; omega⟩
          · have hkd : k = d.size := by omega
            have HTK : Hid (d.data.toList.take k = d.data.toList) := Lib.hid (by rw [List.take_of_length_le (by rw [bs_len]; omega)])
            have HFV : Hid (v = valF 0 d.data.toList) := Lib.hid (by rw [HVV.out, HTK.out])
            have HFA : Hid (d.data.toList.all isDig = true) := Lib.hid (by have := HALL.out; rwa [HTK.out] at this)
            by_cases hmax : v = 9223372036854775808
            · have HN : Hid (numT d.data.toList = none) := Lib.hid (pos_bad HH.out fun a ha e => by
                have := dec_prefix (List.prefix_refl _) e
                have := HFV.out
                omega)
              have f6 : (-(v : Int) == -9223372036854775808) = true := by rw [beq_iff_eq]; omega
              clear hmax
              go_wp2_with fail
              go_ret2
              exact read_none HN.out rfl
            · have HN : Hid (numT d.data.toList = some (v : Int)) := Lib.hid (by
                have h1 := pos_good (d := d.data.toList) (fun e => by have := bs_len d; rw [e] at this; simp at this; omega) HFA.out HZ.out (by have := HFV.out; omega)
                rw [h1, ← HFV.out])
              have f6 : (-(v : Int) == -9223372036854775808) = false := by rw [beq_eq_false_iff_ne]; omega
              have hv2 : v ≤ 9223372036854775807 := by omega
              clear hmax
              go_wp2_with fail
              go_ret2
              exact read_some HN.out (by first | rfl | (congr 2; simp))
end P21
end Go.Proofs.YtkobmoabnnjejaaDoor
