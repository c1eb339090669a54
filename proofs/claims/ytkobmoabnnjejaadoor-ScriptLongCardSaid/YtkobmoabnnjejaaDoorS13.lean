/- Script: the reference's Parse. -/
import Derived.Test.YtkobmoabnnjejaaDoorS13a
import Derived.Test.YtkobmoabnnjejaaDoorS6
namespace Go.Proofs.YtkobmoabnnjejaaDoor
open Go.RowKit
namespace P21
open PC NumL

def RfR (w : World) (L : List UInt8) (out line at_ : Value) (wr : World) : Prop :=
  ∃ (a k f : Nat) (acc : List Ev), a ≤ L.length ∧ line = .int .i64 k ∧ at_ = .int .i64 a ∧ acc.length + 1 = k ∧ k ≤ a + 1 ∧ L.length - a < f ∧ parseT (L.length + 1) 1 L [] = parseT f k (L.drop a) acc ∧ wr.ownsRow w.heap.size 24 2 out acc.length (evsC acc) ∧ Below w.heap.size w wr
/-- The kind that was found among the first so many words. -/
def KdR (t : List UInt8) (kind : Value) (j : Nat) : Prop := (kind = .int .i64 (-1) ∧ ∀ i : Nat, i < j → wordL i ≠ t) ∨ ∃ k0 : Nat, k0 < j ∧ kind = .int .i64 k0 ∧ wordL k0 = t
theorem kd_hit {t : List UInt8} {j : Nat} (h : wordL (j : Int) = t) : KdR t (.int .i64 j) (j + 1) := .inr ⟨j, by omega, rfl, h⟩
theorem kd_miss {t : List UInt8} {kind : Value} {j : Nat} (h : wordL (j : Int) ≠ t) (hk : KdR t kind j) : KdR t kind (j + 1) := by
  rcases hk with ⟨rfl, h2⟩ | ⟨k0, h1, h2, h3⟩
  · refine .inl ⟨rfl, fun i hi => ?_⟩
    by_cases e : i = j
    · subst e; exact h
    · exact h2 i (by omega)
  · exact .inr ⟨k0, by omega, h2, h3⟩
set_option maxRecDepth 10000 in
set_option maxHeartbeats 8000000 in
theorem refParse_any (s : ByteArray) (w : World) : Calls Tryd.prog 17 #[.string s] w (ParsePost s.data.toList w) := by
  by_cases hbig : 131072 < s.size
  · have hR : Hid (parseR s.data.toList = .inl (0, 12)) := Lib.hid (by unfold parseR; rw [if_pos (by rw [bs_len]; exact hbig)])
    have f1 : decide (131072 < (s.size : Int)) = true := by simp; omega
    go_enter Tryd.func17, Tryd.ntmps17
    go_wp2_with fail
    refine bodyPost_ret (v := .tuple #[.slice none 0 0, .int .i64 0, .int .i64 12]) (by simp [results, Tryd.results17]) rfl ?_
    exact parse_bad hR.out (Below.refl _ _) rfl
  · have f1 : decide (131072 < (s.size : Int)) = false := by simp; omega
    have hR : Hid (parseR s.data.toList = parseT (s.data.toList.length + 1) 1 s.data.toList []) := Lib.hid (by unfold parseR; rw [if_neg (by rw [bs_len]; exact hbig)])
    have hsz : s.size ≤ 131072 := by omega
    clear hbig
    go_enter Tryd.func17, Tryd.ntmps17
    go_wp2_with fail
    go_loopw [5, 6, 7] (fun out line at_ wr => RfR w s.data.toList out line at_ wr) (fun _ _ at_ _ => s.size - (intOf at_).toNat)
    case atStart => exact ⟨0, 1, _, [], Nat.zero_le _, rfl, rfl, rfl, Nat.le_refl _, by omega, rfl, own_empty w _ 2 _ (Nat.le_refl _), (Below.refl _ _).alloc (Nat.le_refl _) _⟩
    case round =>
      obtain ⟨a, k, f, acc, ha, rfl, rfl, hacc, hka, hf, hp, hown, hB⟩ := hrel
      rename World => WO
      rw [bs_len] at ha hf
      by_cases hlt : a < s.size
      · obtain ⟨f, rfl⟩ : ∃ f', f = f' + 1 := ⟨f - 1, by omega⟩
        have HP := Lib.hid hp
        have HACC := Lib.hid hacc
        have hacl : acc.length ≤ 131072 := by omega
        clear hp hacc
        go_wp2_with fail
        go_loop [8] (fun x => ∃ e : Nat, a ≤ e ∧ e ≤ s.size ∧ x = .int .i64 e ∧ ∀ j, a ≤ j → j < e → s.data.toList[j]? ≠ some 10) (fun x => s.size - (intOf x).toNat)
        case atStart => exact ⟨a, Nat.le_refl _, ha, rfl, fun j h1 h2 => by omega⟩
        case round =>
          obtain ⟨e, hae, hes, rfl, hno⟩ := hrel
          have HNO := Lib.hid hno
          clear hno
          by_cases he : e < s.size ∧ s.data.toList[e]? ≠ some 10
          · obtain ⟨he1, he2⟩ := he
            have HE2 := Lib.hid he2
            have hne : ((s[e].toNat : Int) == 10) = false := by
              rw [beq_eq_false_iff_ne]
              intro h
              exact he2 (by rw [bs_at he1, ← UInt8.ofNat_toNat (x := s[e]), show s[e].toNat = 10 by omega]; rfl)
            clear he2
            go_wp2_with fail
            go_round
            case rel => exact ⟨e + 1, by omega, by omega, by go_num, fun j h1 h2 => by
              by_cases h : j = e
              · subst h; exact HE2.out
              · exact HNO.out j h1 (by omega)⟩
            case measure => simp [intOf]; omega
          · have HHIT : Hid (e < s.data.toList.length → s.data.toList[e]? = some 10) := Lib.hid (fun h => by
              rw [bs_len] at h
              by_cases hc : s.data.toList[e]? = some 10
              · exact hc
              · exact absurd ⟨h, hc⟩ he)
            have HE : Hid (e < s.size → s.data.toList[e]? = some 10) := Lib.hid (fun h => HHIT.out (by rw [bs_len]; exact h))
            clear he
            by_cases he3 : e < s.size
            · have hne : ((s[e].toNat : Int) == 10) = true := by
                have h := HE.out he3
                rw [bs_at he3] at h
                rw [Option.some.inj h]
                rfl
              have hse : ((e : Int) == s.size) = false := by rw [beq_eq_false_iff_ne]; omega
              have HF : Hid (e < s.data.toList.length) := Lib.hid (by rw [bs_len]; exact he3)
              go_wp2_with fail
              go_loop [9] (fun x => ∃ b : Nat, a ≤ b ∧ b ≤ e ∧ x = .int .i64 b ∧ ∀ j, a ≤ j → j < b → s.data.toList[j]? ≠ some 32) (fun x => s.size - (intOf x).toNat)
              case atStart => exact ⟨a, Nat.le_refl _, hae, rfl, fun j h1 h2 => by omega⟩
              case round =>
                obtain ⟨b, hab, hbe, rfl, hno2⟩ := hrel
                have HNO2 := Lib.hid hno2
                clear hno2
                by_cases hb : b < e ∧ s.data.toList[b]? ≠ some 32
                · obtain ⟨hb1, hb2⟩ := hb
                  have HB2 := Lib.hid hb2
                  have hbs : b < s.size := by omega
                  have hnb : ((s[b].toNat : Int) == 32) = false := by
                    rw [beq_eq_false_iff_ne]
                    intro h
                    exact hb2 (by rw [bs_at hbs, ← UInt8.ofNat_toNat (x := s[b]), show s[b].toNat = 32 by omega]; rfl)
                  clear hb2
                  go_wp2_with fail
                  go_round
                  case rel => exact ⟨b + 1, by omega, by omega, by go_num, fun j h1 h2 => by
                    by_cases h : j = b
                    · subst h; exact HB2.out
                    · exact HNO2.out j h1 (by omega)⟩
                  case measure => simp [intOf]; omega
                · have HHIT2 : Hid (b < e → s.data.toList[b]? = some 32) := Lib.hid (fun h => by
                    by_cases hc : s.data.toList[b]? = some 32
                    · exact hc
                    · exact absurd ⟨h, hc⟩ hb)
                  clear hb
                  by_cases hb3 : b < e
                  · have hbs : b < s.size := by omega
                    have hnb : ((s[b].toNat : Int) == 32) = true := by
                      have h := HHIT2.out hb3
                      rw [bs_at hbs] at h
                      rw [Option.some.inj h]
                      rfl
                    have hbq : ((b : Int) == e) = false := by rw [beq_eq_false_iff_ne]; omega
                    obtain ⟨t, ht⟩ := name_of (s.extract a b)
                    have HT : Hid (t.data.toList = (s.data.toList.take b).drop a) := Lib.hid (by rw [← ht, bs_part])
                    go_wp2_with fail
                    go_loopw [10, 11] (fun kd x W => ∃ j q : Nat, j ≤ 4 ∧ x = .int .i64 j ∧ KdR t.data.toList kd j ∧ W = WO.drewN q) (fun _ x _ => 4 - (intOf x).toNat)
                    case atStart => exact ⟨0, 0, by omega, rfl, .inl ⟨rfl, fun i hi => by omega⟩, rfl⟩
                    case round =>
                      obtain ⟨j, q, hj, rfl, hkd, hWq⟩ := hrel
                      have HWQ := Lib.hid hWq
                      clear hWq
                      have HKD := Lib.hid hkd
                      by_cases hj4 : j < 4
                      · have hW := fun W => refWord_any (j : Int) W
                        clear hkd
                        by_cases hwt : wordL (j : Int) = t.data.toList
                        · have HWT := Lib.hid hwt
                          have hbe2 : ((wordS (j : Int)).toList == t.toList) = true := by rw [(wordS_eq _ _).2 hwt]; exact str_beq _
                          obtain ⟨x, hx⟩ := name_of (wordS (j : Int))
                          rw [hx] at hW hbe2
                          clear hwt hx
                          go_wp2_with fail
                          go_quiet ((go_at_call 11; exact Calls.quiet_of_same (hW _)))
                          go_wp2_with fail
                          exact ⟨⟨j + 1, _, by omega, by go_num, kd_hit HWT.out, by rw [HWQ.out]; exact World.drewN_drewN _ _ _⟩, by simp [intOf]; omega⟩
                        · have HWT := Lib.hid hwt
                          have hbe2 : ((wordS (j : Int)).toList == t.toList) = false := str_bne (fun h => hwt ((wordS_eq _ _).1 h))
                          obtain ⟨x, hx⟩ := name_of (wordS (j : Int))
                          rw [hx] at hW hbe2
                          clear hwt hx
                          go_wp2_with fail
                          go_quiet ((go_at_call 11; exact Calls.quiet_of_same (hW _)))
                          go_wp2_with fail
                          exact ⟨⟨j + 1, _, by omega, by go_num, kd_miss HWT.out HKD.out, by rw [HWQ.out]; exact World.drewN_drewN _ _ _⟩, by simp [intOf]; omega⟩
                      · obtain rfl : j = 4 := by omega
                        have hBW : Below WO.heap.size WO wr := by rw [HWQ.out]; exact below_drewn q
                        have hBq : Below w.heap.size w wr := hB.next hBW
                        rcases hkd with ⟨rfl, hnk⟩ | ⟨k0, hk0, rfl, hwk⟩
                        · have HR : Hid (parseR s.data.toList = .inl (k, 14)) := Lib.hid (by
                            rw [hR.out, HP.out]
                            exact parse_name (by rw [bs_len]; exact hlt) hab hbe (by rw [bs_len]; exact hes) HNO.out HHIT.out HNO2.out HHIT2.out (by rw [← HT.out]; exact kindT_none fun i hi => hnk i hi))
                          clear hnk
                          go_wp2_with fail
                          refine bodyPost_ret (v := .tuple #[.slice none 0 0, .int .i64 k, .int .i64 14]) (by simp [results, Tryd.results17]) rfl ?_
                          exact parse_bad HR.out hBq rfl
                        · have HK : Hid (kindT ((s.data.toList.take b).drop a) = some (k0 : Int)) := Lib.hid (by rw [← HT.out]; exact kindT_some ⟨by omega, by omega⟩ hwk)
                          clear hwk
                          obtain ⟨u, hu⟩ := name_of (s.extract (b + 1) e)
                          have HU : Hid (u.data.toList = (s.data.toList.take e).drop (b + 1)) := Lib.hid (by rw [← hu, bs_part])
                          have hus : u.size ≤ 1000000 := by
                            have h := congrArg List.length HU.out
                            rw [bs_len, List.length_drop, List.length_take, bs_len] at h
                            omega
                          have hRd := fun W => refRead_any u hus W
                          cases hnum : numT u.data.toList with
                          | none =>
                            have HR : Hid (parseR s.data.toList = .inl (k, 11)) := Lib.hid (by
                              rw [hR.out, HP.out]
                              exact parse_num (by rw [bs_len]; exact hlt) hab hbe (by rw [bs_len]; exact hes) HNO.out HHIT.out HNO2.out HHIT2.out HK.out (by rw [← HU.out]; exact hnum))
                            have hRd2 : ∀ W0, Calls Tryd.prog 36 #[.string u] W0 fun e' w' => e' = .returned (.tuple #[.int .i64 0, .bool false]) ∧ w' = W0 := fun W0 => (hRd W0).mono fun e' w' h => by unfold ReadPost at h; rw [hnum] at h; exact h
                            clear hRd hnum
                            go_wp2_with fail
                            refine (hRd2 _).mono ?_
                            rintro e' w1 ⟨rfl, rfl⟩
                            go_wp2_with fail
                            refine bodyPost_ret (v := .tuple #[.slice none 0 0, .int .i64 k, .int .i64 11]) (by simp [results, Tryd.results17]) rfl ?_
                            exact parse_bad HR.out hBq rfl
                          | some n =>
                            have HNX : Hid (parseT (s.data.toList.length + 1) 1 s.data.toList [] = parseT f (k + 1) (s.data.toList.drop (e + 1)) (acc ++ [⟨(k0 : Int), n⟩])) := Lib.hid (by
                              rw [HP.out]
                              exact parse_good_at (by rw [bs_len]; exact hlt) hab hbe (by rw [bs_len]; exact hes) HNO.out HHIT.out HNO2.out HHIT2.out HK.out (by rw [← HU.out]; exact hnum) hb3 HF.out)
                            have hRd2 : ∀ W0, Calls Tryd.prog 36 #[.string u] W0 fun e' w' => e' = .returned (.tuple #[.int .i64 n, .bool true]) ∧ w' = W0 := fun W0 => (hRd W0).mono fun e' w' h => by unfold ReadPost at h; rw [hnum] at h; exact h
                            clear hRd hnum
                            go_wp2_with fail
                            refine (hRd2 _).mono ?_
                            rintro e' w1 ⟨rfl, rfl⟩
                            have hown1 := own_below hown hBW
                            have hB2 := hBq.alloc hBq.size (.cells #[.int .i64 k0, .int .i64 n] 24)
                            have hown2 := hown1.alloc (.cells #[.int .i64 k0, .int .i64 n] 24)
                            have hs2 : Sl (w1.alloc (.cells #[.int .i64 k0, .int .i64 n] 24)) (w1.alloc (.cells #[.int .i64 k0, .int .i64 n] 24)).heap.size 2 (.slice (some ⟨w1.heap.size, 0, none⟩) 1 1) (evC ⟨(k0 : Int), n⟩) := Sl.new w1 _ _ 1 _ rfl rfl rfl
                            clear hown1 hown hB hBq hBW
                            go_wp2_with (at_builtin; refine wpList_append_sl rfl (.tmp 86) (.tmp 90) 22 rfl w.heap.size 24 (.agg #[.int .i64 0, .int .i64 0]) 2 16 Tryd.underlying22 info_ev rfl (by omega) _ _ _ rfl hown2 _ 1 _ _ rfl hs2 rfl (evC_one _) (by omega) (by omega) hB2.size ?_; intro v6 w6 hown6 hg6 hat6; have hB6 := below_append hB2 hown2 hg6 (Nat.le_refl _); obtain ⟨A6, m6, c6, rfl⟩ := own_slice hown6; clear hown2 hs2 hg6 hat6 hB2)
                            refine ⟨⟨e + 1, k + 1, f, acc ++ [⟨(k0 : Int), n⟩], by rw [bs_len]; omega, by go_num, by go_num, ?_, by omega, by rw [bs_len]; omega, HNX.out, ?_, hB6⟩, by simp [intOf]; omega⟩
                            · rw [List.length_append, List.length_cons, List.length_nil]; have := HACC.out; omega
                            · rw [evsC_append]
                              exact own_len hown6 (by simp) rfl
                  · have hbq : ((b : Int) == e) = true := by rw [beq_iff_eq]; omega
                    have HBQ : Hid (b = e) := Lib.hid (by omega)
                    obtain ⟨t, ht⟩ := name_of (s.extract a b)
                    have HT : Hid (t.data.toList = (s.data.toList.take b).drop a) := Lib.hid (by rw [← ht, bs_part])
                    go_wp2_with fail
                    go_loopw [10, 11] (fun kd x W => ∃ j q : Nat, j ≤ 4 ∧ x = .int .i64 j ∧ KdR t.data.toList kd j ∧ W = WO.drewN q) (fun _ x _ => 4 - (intOf x).toNat)
                    case atStart => exact ⟨0, 0, by omega, rfl, .inl ⟨rfl, fun i hi => by omega⟩, rfl⟩
                    case round =>
                      obtain ⟨j, q, hj, rfl, hkd, hWq⟩ := hrel
                      have HWQ := Lib.hid hWq
                      clear hWq
                      have HKD := Lib.hid hkd
                      by_cases hj4 : j < 4
                      · have hW := fun W => refWord_any (j : Int) W
                        clear hkd
                        by_cases hwt : wordL (j : Int) = t.data.toList
                        · have HWT := Lib.hid hwt
                          have hbe2 : ((wordS (j : Int)).toList == t.toList) = true := by rw [(wordS_eq _ _).2 hwt]; exact str_beq _
                          obtain ⟨x, hx⟩ := name_of (wordS (j : Int))
                          rw [hx] at hW hbe2
                          clear hwt hx
                          go_wp2_with fail
                          go_quiet ((go_at_call 11; exact Calls.quiet_of_same (hW _)))
                          go_wp2_with fail
                          exact ⟨⟨j + 1, _, by omega, by go_num, kd_hit HWT.out, by rw [HWQ.out]; exact World.drewN_drewN _ _ _⟩, by simp [intOf]; omega⟩
                        · have HWT := Lib.hid hwt
                          have hbe2 : ((wordS (j : Int)).toList == t.toList) = false := str_bne (fun h => hwt ((wordS_eq _ _).1 h))
                          obtain ⟨x, hx⟩ := name_of (wordS (j : Int))
                          rw [hx] at hW hbe2
                          clear hwt hx
                          go_wp2_with fail
                          go_quiet ((go_at_call 11; exact Calls.quiet_of_same (hW _)))
                          go_wp2_with fail
                          exact ⟨⟨j + 1, _, by omega, by go_num, kd_miss HWT.out HKD.out, by rw [HWQ.out]; exact World.drewN_drewN _ _ _⟩, by simp [intOf]; omega⟩
                      · obtain rfl : j = 4 := by omega
                        have hBW : Below WO.heap.size WO wr := by rw [HWQ.out]; exact below_drewn q
                        have hBq : Below w.heap.size w wr := hB.next hBW
                        rcases hkd with ⟨rfl, hnk⟩ | ⟨k0, hk0, rfl, hwk⟩
                        · have HR : Hid (parseR s.data.toList = .inl (k, 14)) := Lib.hid (by
                            rw [hR.out, HP.out]
                            exact parse_name (by rw [bs_len]; exact hlt) hab hbe (by rw [bs_len]; exact hes) HNO.out HHIT.out HNO2.out HHIT2.out (by rw [← HT.out]; exact kindT_none fun i hi => hnk i hi))
                          clear hnk
                          go_wp2_with fail
                          refine bodyPost_ret (v := .tuple #[.slice none 0 0, .int .i64 k, .int .i64 14]) (by simp [results, Tryd.results17]) rfl ?_
                          exact parse_bad HR.out hBq rfl
                        · have HK : Hid (kindT ((s.data.toList.take b).drop a) = some (k0 : Int)) := Lib.hid (by rw [← HT.out]; exact kindT_some ⟨by omega, by omega⟩ hwk)
                          clear hwk
                          have HR : Hid (parseR s.data.toList = .inl (k, 11)) := Lib.hid (by
                            rw [hR.out, HP.out]
                            exact parse_form (by rw [bs_len]; exact hlt) hab hbe (by rw [bs_len]; exact hes) HNO.out HHIT.out HNO2.out HHIT2.out HK.out (.inl HBQ.out))
                          go_wp2_with fail
                          refine bodyPost_ret (v := .tuple #[.slice none 0 0, .int .i64 k, .int .i64 11]) (by simp [results, Tryd.results17]) rfl ?_
                          exact parse_bad HR.out hBq rfl
            · have hse : ((e : Int) == s.size) = true := by rw [beq_iff_eq]; omega
              have HF : Hid (e = s.data.toList.length) := Lib.hid (by rw [bs_len]; omega)
              go_wp2_with fail
              go_loop [9] (fun x => ∃ b : Nat, a ≤ b ∧ b ≤ e ∧ x = .int .i64 b ∧ ∀ j, a ≤ j → j < b → s.data.toList[j]? ≠ some 32) (fun x => s.size - (intOf x).toNat)
              case atStart => exact ⟨a, Nat.le_refl _, hae, rfl, fun j h1 h2 => by omega⟩
              case round =>
                obtain ⟨b, hab, hbe, rfl, hno2⟩ := hrel
                have HNO2 := Lib.hid hno2
                clear hno2
                by_cases hb : b < e ∧ s.data.toList[b]? ≠ some 32
                · obtain ⟨hb1, hb2⟩ := hb
                  have HB2 := Lib.hid hb2
                  have hbs : b < s.size := by omega
                  have hnb : ((s[b].toNat : Int) == 32) = false := by
                    rw [beq_eq_false_iff_ne]
                    intro h
                    exact hb2 (by rw [bs_at hbs, ← UInt8.ofNat_toNat (x := s[b]), show s[b].toNat = 32 by omega]; rfl)
                  clear hb2
                  go_wp2_with fail
                  go_round
                  case rel => exact ⟨b + 1, by omega, by omega, by go_num, fun j h1 h2 => by
                    by_cases h : j = b
                    · subst h; exact HB2.out
                    · exact HNO2.out j h1 (by omega)⟩
                  case measure => simp [intOf]; omega
                · have HHIT2 : Hid (b < e → s.data.toList[b]? = some 32) := Lib.hid (fun h => by
                    by_cases hc : s.data.toList[b]? = some 32
                    · exact hc
                    · exact absurd ⟨h, hc⟩ hb)
                  clear hb
                  by_cases hb3 : b < e
                  · have hbs : b < s.size := by omega
                    have hnb : ((s[b].toNat : Int) == 32) = true := by
                      have h := HHIT2.out hb3
                      rw [bs_at hbs] at h
                      rw [Option.some.inj h]
                      rfl
                    have hbq : ((b : Int) == e) = false := by rw [beq_eq_false_iff_ne]; omega
                    obtain ⟨t, ht⟩ := name_of (s.extract a b)
                    have HT : Hid (t.data.toList = (s.data.toList.take b).drop a) := Lib.hid (by rw [← ht, bs_part])
                    go_wp2_with fail
                    go_loopw [10, 11] (fun kd x W => ∃ j q : Nat, j ≤ 4 ∧ x = .int .i64 j ∧ KdR t.data.toList kd j ∧ W = WO.drewN q) (fun _ x _ => 4 - (intOf x).toNat)
                    case atStart => exact ⟨0, 0, by omega, rfl, .inl ⟨rfl, fun i hi => by omega⟩, rfl⟩
                    case round =>
                      obtain ⟨j, q, hj, rfl, hkd, hWq⟩ := hrel
                      have HWQ := Lib.hid hWq
                      clear hWq
                      have HKD := Lib.hid hkd
                      by_cases hj4 : j < 4
                      · have hW := fun W => refWord_any (j : Int) W
                        clear hkd
                        by_cases hwt : wordL (j : Int) = t.data.toList
                        · have HWT := Lib.hid hwt
                          have hbe2 : ((wordS (j : Int)).toList == t.toList) = true := by rw [(wordS_eq _ _).2 hwt]; exact str_beq _
                          obtain ⟨x, hx⟩ := name_of (wordS (j : Int))
                          rw [hx] at hW hbe2
                          clear hwt hx
                          go_wp2_with fail
                          go_quiet ((go_at_call 11; exact Calls.quiet_of_same (hW _)))
                          go_wp2_with fail
                          exact ⟨⟨j + 1, _, by omega, by go_num, kd_hit HWT.out, by rw [HWQ.out]; exact World.drewN_drewN _ _ _⟩, by simp [intOf]; omega⟩
                        · have HWT := Lib.hid hwt
                          have hbe2 : ((wordS (j : Int)).toList == t.toList) = false := str_bne (fun h => hwt ((wordS_eq _ _).1 h))
                          obtain ⟨x, hx⟩ := name_of (wordS (j : Int))
                          rw [hx] at hW hbe2
                          clear hwt hx
                          go_wp2_with fail
                          go_quiet ((go_at_call 11; exact Calls.quiet_of_same (hW _)))
                          go_wp2_with fail
                          exact ⟨⟨j + 1, _, by omega, by go_num, kd_miss HWT.out HKD.out, by rw [HWQ.out]; exact World.drewN_drewN _ _ _⟩, by simp [intOf]; omega⟩
                      · obtain rfl : j = 4 := by omega
                        have hBW : Below WO.heap.size WO wr := by rw [HWQ.out]; exact below_drewn q
                        have hBq : Below w.heap.size w wr := hB.next hBW
                        rcases hkd with ⟨rfl, hnk⟩ | ⟨k0, hk0, rfl, hwk⟩
                        · have HR : Hid (parseR s.data.toList = .inl (k, 14)) := Lib.hid (by
                            rw [hR.out, HP.out]
                            exact parse_name (by rw [bs_len]; exact hlt) hab hbe (by rw [bs_len]; exact hes) HNO.out HHIT.out HNO2.out HHIT2.out (by rw [← HT.out]; exact kindT_none fun i hi => hnk i hi))
                          clear hnk
                          go_wp2_with fail
                          refine bodyPost_ret (v := .tuple #[.slice none 0 0, .int .i64 k, .int .i64 14]) (by simp [results, Tryd.results17]) rfl ?_
                          exact parse_bad HR.out hBq rfl
                        · have HK : Hid (kindT ((s.data.toList.take b).drop a) = some (k0 : Int)) := Lib.hid (by rw [← HT.out]; exact kindT_some ⟨by omega, by omega⟩ hwk)
                          clear hwk
                          have HR : Hid (parseR s.data.toList = .inl (k, 11)) := Lib.hid (by
                            rw [hR.out, HP.out]
                            exact parse_form (by rw [bs_len]; exact hlt) hab hbe (by rw [bs_len]; exact hes) HNO.out HHIT.out HNO2.out HHIT2.out HK.out (.inr HF.out))
                          go_wp2_with fail
                          refine bodyPost_ret (v := .tuple #[.slice none 0 0, .int .i64 k, .int .i64 11]) (by simp [results, Tryd.results17]) rfl ?_
                          exact parse_bad HR.out hBq rfl
                  · have hbq : ((b : Int) == e) = true := by rw [beq_iff_eq]; omega
                    have HBQ : Hid (b = e) := Lib.hid (by omega)
                    obtain ⟨t, ht⟩ := name_of (s.extract a b)
                    have HT : Hid (t.data.toList = (s.data.toList.take b).drop a) := Lib.hid (by rw [← ht, bs_part])
                    go_wp2_with fail
                    go_loopw [10, 11] (fun kd x W => ∃ j q : Nat, j ≤ 4 ∧ x = .int .i64 j ∧ KdR t.data.toList kd j ∧ W = WO.drewN q) (fun _ x _ => 4 - (intOf x).toNat)
                    case atStart => exact ⟨0, 0, by omega, rfl, .inl ⟨rfl, fun i hi => by omega⟩, rfl⟩
                    case round =>
                      obtain ⟨j, q, hj, rfl, hkd, hWq⟩ := hrel
                      have HWQ := Lib.hid hWq
                      clear hWq
                      have HKD := Lib.hid hkd
                      by_cases hj4 : j < 4
                      · have hW := fun W => refWord_any (j : Int) W
                        clear hkd
                        by_cases hwt : wordL (j : Int) = t.data.toList
                        · have HWT := Lib.hid hwt
                          have hbe2 : ((wordS (j : Int)).toList == t.toList) = true := by rw [(wordS_eq _ _).2 hwt]; exact str_beq _
                          obtain ⟨x, hx⟩ := name_of (wordS (j : Int))
                          rw [hx] at hW hbe2
                          clear hwt hx
                          go_wp2_with fail
                          go_quiet ((go_at_call 11; exact Calls.quiet_of_same (hW _)))
                          go_wp2_with fail
                          exact ⟨⟨j + 1, _, by omega, by go_num, kd_hit HWT.out, by rw [HWQ.out]; exact World.drewN_drewN _ _ _⟩, by simp [intOf]; omega⟩
                        · have HWT := Lib.hid hwt
                          have hbe2 : ((wordS (j : Int)).toList == t.toList) = false := str_bne (fun h => hwt ((wordS_eq _ _).1 h))
                          obtain ⟨x, hx⟩ := name_of (wordS (j : Int))
                          rw [hx] at hW hbe2
                          clear hwt hx
                          go_wp2_with fail
                          go_quiet ((go_at_call 11; exact Calls.quiet_of_same (hW _)))
                          go_wp2_with fail
                          exact ⟨⟨j + 1, _, by omega, by go_num, kd_miss HWT.out HKD.out, by rw [HWQ.out]; exact World.drewN_drewN _ _ _⟩, by simp [intOf]; omega⟩
                      · obtain rfl : j = 4 := by omega
                        have hBW : Below WO.heap.size WO wr := by rw [HWQ.out]; exact below_drewn q
                        have hBq : Below w.heap.size w wr := hB.next hBW
                        rcases hkd with ⟨rfl, hnk⟩ | ⟨k0, hk0, rfl, hwk⟩
                        · have HR : Hid (parseR s.data.toList = .inl (k, 14)) := Lib.hid (by
                            rw [hR.out, HP.out]
                            exact parse_name (by rw [bs_len]; exact hlt) hab hbe (by rw [bs_len]; exact hes) HNO.out HHIT.out HNO2.out HHIT2.out (by rw [← HT.out]; exact kindT_none fun i hi => hnk i hi))
                          clear hnk
                          go_wp2_with fail
                          refine bodyPost_ret (v := .tuple #[.slice none 0 0, .int .i64 k, .int .i64 14]) (by simp [results, Tryd.results17]) rfl ?_
                          exact parse_bad HR.out hBq rfl
                        · have HK : Hid (kindT ((s.data.toList.take b).drop a) = some (k0 : Int)) := Lib.hid (by rw [← HT.out]; exact kindT_some ⟨by omega, by omega⟩ hwk)
                          clear hwk
                          have HR : Hid (parseR s.data.toList = .inl (k, 11)) := Lib.hid (by
                            rw [hR.out, HP.out]
                            exact parse_form (by rw [bs_len]; exact hlt) hab hbe (by rw [bs_len]; exact hes) HNO.out HHIT.out HNO2.out HHIT2.out HK.out (.inl HBQ.out))
                          go_wp2_with fail
                          refine bodyPost_ret (v := .tuple #[.slice none 0 0, .int .i64 k, .int .i64 11]) (by simp [results, Tryd.results17]) rfl ?_
                          exact parse_bad HR.out hBq rfl
      · have HP := Lib.hid hp
        have haz : a = s.size := by omega
        have HR : Hid (parseR s.data.toList = .inr acc) := Lib.hid (by
          obtain ⟨f, rfl⟩ : ∃ f', f = f' + 1 := ⟨f - 1, by omega⟩
          rw [hR.out, HP.out, parseT, if_pos (List.drop_eq_nil_of_le (by rw [bs_len]; omega))])
        have hlt2 : decide ((a : Int) < s.size) = false := by simp; omega
        obtain ⟨A6, m6, c6, rfl⟩ := own_slice hown
        clear haz hp
        go_wp2_with fail
        refine bodyPost_ret (v := .tuple #[.slice A6 m6 c6, .int .i64 0, .int .i64 0]) (by simp [results, Tryd.results17]) rfl ?_
        exact parse_good HR.out hB (Sl.own hown) rfl
end P21
end Go.Proofs.YtkobmoabnnjejaaDoor
