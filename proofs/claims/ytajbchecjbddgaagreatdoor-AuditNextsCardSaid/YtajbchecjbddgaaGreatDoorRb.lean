/- Walks: the reference's became and Grown. -/
import Derived.Test.YtajbchecjbddgaaGreatDoorRa
namespace Go.Proofs.YtajbchecjbddgaaGreatDoor
open Go.RowKit
namespace P7

theorem str_inj {s t : ByteArray} (h : s.toList = t.toList) : s = t := by
  rw [ByteArray.toList_eq, ByteArray.toList_eq] at h
  have := Array.toList_inj.1 h
  obtain ⟨d⟩ := s
  obtain ⟨d'⟩ := t
  simp only at this
  rw [this]
theorem pre_eq (s c : ByteArray) : ((s.extract 0 c.size).toList == c.toList) = Lib.hasPrefix s.data.toList c.data.toList := by
  rw [Bool.eq_iff_iff, beq_iff_eq, Lib.hasPrefix, List.isPrefixOf_iff_prefix, List.prefix_iff_eq_take, ByteArray.toList_eq, ByteArray.toList_eq, ByteArray.data_extract, Array.toList_extract]
  simp only [Nat.sub_zero, List.drop_zero, List.extract_eq_take_drop, Array.length_toList]
  exact ⟨fun h => h.symm, fun h => h.symm⟩

set_option maxRecDepth 10000 in
set_option maxHeartbeats 4000000 in
theorem refBecame_any (r s : Row) (first : Bool) (w : World) : Calls Tryz.prog 46 #[rowV r, rowV s, .bool first] w fun e w' => e = .returned (.bool (refBec r s first)) ∧ Below w.heap.size w w' := by
  obtain ⟨rp, ri, rf, rk, rv, rs, rc⟩ := r
  obtain ⟨sp, si, sf, sk, sv, ss, sc⟩ := s
  show Calls _ _ #[.agg #[.int .i64 rp, .int .i64 ri, .int .i64 rf, .int .i64 rk, .int .i64 rv, .int .i64 rs, .string rc], .agg #[.int .i64 sp, .int .i64 si, .int .i64 sf, .int .i64 sk, .int .i64 sv, .int .i64 ss, .string sc], .bool first] _ _
  have hB0 : Below w.heap.size w ((w.alloc (.cells #[.int .i64 rp, .int .i64 ri, .int .i64 rf, .int .i64 rk, .int .i64 rv, .int .i64 rs, .string rc] 69)).alloc (.cells #[.int .i64 sp, .int .i64 si, .int .i64 sf, .int .i64 sk, .int .i64 sv, .int .i64 ss, .string sc] 69)) := by go_grown
  have hC := refCame_any ⟨rp, ri, rf, rk, rv, rs, rc⟩ ((w.alloc (.cells #[.int .i64 rp, .int .i64 ri, .int .i64 rf, .int .i64 rk, .int .i64 rv, .int .i64 rs, .string rc] 69)).alloc (.cells #[.int .i64 sp, .int .i64 si, .int .i64 sf, .int .i64 sk, .int .i64 sv, .int .i64 ss, .string sc] 69))
  have k0 := Lib.hid (heap_alloc2_old w (.cells #[.int .i64 rp, .int .i64 ri, .int .i64 rf, .int .i64 rk, .int .i64 rv, .int .i64 rs, .string rc] 69) (.cells #[.int .i64 sp, .int .i64 si, .int .i64 sf, .int .i64 sk, .int .i64 sv, .int .i64 ss, .string sc] 69))
  have k1 := Lib.hid (heap_alloc2_new w (.cells #[.int .i64 rp, .int .i64 ri, .int .i64 rf, .int .i64 rk, .int .i64 rv, .int .i64 rs, .string rc] 69) (.cells #[.int .i64 sp, .int .i64 si, .int .i64 sf, .int .i64 sk, .int .i64 sv, .int .i64 ss, .string sc] 69))
  have HB := Lib.hid hB0
  have hgo : ∀ v : Bool, (if (first = false ∧ ri ≠ si) ∨ rf ≠ sf then false else if came ⟨rp, ri, rf, rk, rv, rs, rc⟩ = true then decide (rk = sk ∧ rv = sv ∧ rs = ss ∧ rc = sc) else if rk = 1 then decide (sk ≠ 0 ∧ rs ≤ ss) && Lib.hasPrefix sc.data.toList rc.data.toList else true) = v → refBec ⟨rp, ri, rf, rk, rv, rs, rc⟩ ⟨sp, si, sf, sk, sv, ss, sc⟩ first = v := fun v h => h
  have HV := Lib.hid hgo
  obtain ⟨e1, he1⟩ : ∃ e1, (ri != si) = e1 := ⟨_, rfl⟩
  obtain ⟨e2, he2⟩ : ∃ e2, (rf != sf) = e2 := ⟨_, rfl⟩
  have HBAD : Hid ((!first && e1) || e2 = true → refBec ⟨rp, ri, rf, rk, rv, rs, rc⟩ ⟨sp, si, sf, sk, sv, ss, sc⟩ first = false) := Lib.hid (fun h => HV.out _ (if_pos (by
    subst he1 he2
    cases first <;> simp_all)))
  have HGOOD : Hid (((!first && e1) || e2) = false → ∀ v : Bool, (if came ⟨rp, ri, rf, rk, rv, rs, rc⟩ = true then decide (rk = sk ∧ rv = sv ∧ rs = ss ∧ rc = sc) else if rk = 1 then decide (sk ≠ 0 ∧ rs ≤ ss) && Lib.hasPrefix sc.data.toList rc.data.toList else true) = v → refBec ⟨rp, ri, rf, rk, rv, rs, rc⟩ ⟨sp, si, sf, sk, sv, ss, sc⟩ first = v) := Lib.hid (fun h v hv => HV.out _ ((if_neg (by
    subst he1 he2
    cases first <;> simp_all)).trans hv))
  clear hB0 hgo HV
  have hbad : ((!first && e1) || e2) = true → Calls Tryz.prog 46 #[.agg #[.int .i64 rp, .int .i64 ri, .int .i64 rf, .int .i64 rk, .int .i64 rv, .int .i64 rs, .string rc], .agg #[.int .i64 sp, .int .i64 si, .int .i64 sf, .int .i64 sk, .int .i64 sv, .int .i64 ss, .string sc], .bool first] w fun e w' => e = .returned (.bool (refBec ⟨rp, ri, rf, rk, rv, rs, rc⟩ ⟨sp, si, sf, sk, sv, ss, sc⟩ first)) ∧ Below w.heap.size w w' := by
    intro h
    rw [HBAD.out (by simpa using h)]
    clear hC HGOOD HBAD
    cases first <;> cases e1 <;> cases e2 <;> first | (exact absurd h (by decide)) | (clear h; go_enter Tryz.func46, Tryz.ntmps46; go_wp2_with fail; go_ret; exact ⟨rfl, HB.out⟩)
  have hgood : ((!first && e1) || e2) = false → Calls Tryz.prog 46 #[.agg #[.int .i64 rp, .int .i64 ri, .int .i64 rf, .int .i64 rk, .int .i64 rv, .int .i64 rs, .string rc], .agg #[.int .i64 sp, .int .i64 si, .int .i64 sf, .int .i64 sk, .int .i64 sv, .int .i64 ss, .string sc], .bool first] w fun e w' => e = .returned (.bool (refBec ⟨rp, ri, rf, rk, rv, rs, rc⟩ ⟨sp, si, sf, sk, sv, ss, sc⟩ first)) ∧ Below w.heap.size w w' := by
    intro h
    have HG := Lib.hid (HGOOD.out h)
    clear hbad HGOOD HBAD
    have he2' : e2 = false := by cases e2 <;> simp_all
    subst he2'
    by_cases hk : 2 ≤ rk
    · have hc : came ⟨rp, ri, rf, rk, rv, rs, rc⟩ = true := decide_eq_true hk
      have HV := Lib.hid (HG.out _ (if_pos hc))
      rw [hc] at hC
      clear hc HG
      obtain ⟨b1, hb1⟩ : ∃ b1, (rk == sk) = b1 := ⟨_, rfl⟩
      obtain ⟨b2, hb2⟩ : ∃ b2, (rv == sv) = b2 := ⟨_, rfl⟩
      obtain ⟨b3, hb3⟩ : ∃ b3, (rs == ss) = b3 := ⟨_, rfl⟩
      obtain ⟨b4, hb4⟩ : ∃ b4, (rc.toList == sc.toList) = b4 := ⟨_, rfl⟩
      have HD : Hid (decide (rk = sk ∧ rv = sv ∧ rs = ss ∧ rc = sc) = (b1 && (b2 && (b3 && b4)))) := Lib.hid (by
        subst hb1 hb2 hb3 hb4
        rw [Bool.eq_iff_iff]
        simp only [decide_eq_true_eq, Bool.and_eq_true, beq_iff_eq]
        exact ⟨fun h => ⟨h.1, h.2.1, h.2.2.1, by rw [h.2.2.2]⟩, fun h => ⟨h.1, h.2.1, h.2.2.1, str_inj h.2.2.2⟩⟩)
      have HVD := Lib.hid (HV.out.trans HD.out)
      clear HD HV
      cases first <;> cases e1 <;> first | (exact absurd h (by decide)) | (clear h; go_enter Tryz.func46, Tryz.ntmps46; go_wp2_with fail; refine hC.mono ?_; rintro e w3 ⟨rfl, hb3'⟩; have c0 := fun j => cell_of_row w3 w.heap.size j _ _ _ (blk_next k0.out hb3'); have c1 := fun j => cell_of_row w3 (w.heap.size + 1) j _ _ _ (blk_next k1.out hb3'); have hB3 := HB.out.next hb3'; clear hC hb3'; cases b1 <;> cases b2 <;> cases b3 <;> cases b4 <;> (go_wp2_with fail; go_ret; exact ⟨ret_bool (by rw [HVD.out]; rfl), hB3⟩))
    · have hc : came ⟨rp, ri, rf, rk, rv, rs, rc⟩ = false := decide_eq_false hk
      have HG1 := Lib.hid (fun v hv => HG.out v ((if_neg (by rw [hc]; decide)).trans hv))
      rw [hc] at hC
      clear hc HG
      by_cases hk1 : rk = 1
      · have f1 : (rk == 1) = true := by simpa using hk1
        have HV := Lib.hid (HG1.out _ (if_pos hk1))
        clear hk1 HG1
        obtain ⟨b1, hb1⟩ : ∃ b1, (sk != 0) = b1 := ⟨_, rfl⟩
        obtain ⟨b2, hb2⟩ : ∃ b2, decide (rs ≤ ss) = b2 := ⟨_, rfl⟩
        have hx0 : decide (sk ≠ 0 ∧ rs ≤ ss) = (b1 && b2) := by
          subst hb1 hb2
          rw [Bool.eq_iff_iff]; simp
        have hVX : ∀ v : Bool, (b1 && b2 && Lib.hasPrefix sc.data.toList rc.data.toList) = v → refBec ⟨rp, ri, rf, rk, rv, rs, rc⟩ ⟨sp, si, sf, sk, sv, ss, sc⟩ first = v := fun v hv => by
          rw [HV.out, hx0]; exact hv
        have HX : Hid (b1 = false → refBec ⟨rp, ri, rf, rk, rv, rs, rc⟩ ⟨sp, si, sf, sk, sv, ss, sc⟩ first = false) := Lib.hid (fun e => hVX _ (by rw [e]; rfl))
        have HY : Hid (b2 = false → refBec ⟨rp, ri, rf, rk, rv, rs, rc⟩ ⟨sp, si, sf, sk, sv, ss, sc⟩ first = false) := Lib.hid (fun e => hVX _ (by rw [e]; simp))
        have HZ : Hid (¬ rc.size ≤ sc.size → refBec ⟨rp, ri, rf, rk, rv, rs, rc⟩ ⟨sp, si, sf, sk, sv, ss, sc⟩ first = false) := Lib.hid (fun e => hVX _ (by
          rw [show Lib.hasPrefix sc.data.toList rc.data.toList = false from ?_, Bool.and_false]
          rw [Bool.eq_false_iff]
          intro h
          have := (List.isPrefixOf_iff_prefix.1 h).length_le
          simp only [Array.length_toList] at this
          exact e this))
        have HW := Lib.hid hVX
        clear hVX hx0 HV
        cases first <;> cases e1 <;> first
          | (exact absurd h (by decide))
          | (clear h
             go_enter Tryz.func46, Tryz.ntmps46
             go_wp2_with fail
             refine hC.mono ?_
             rintro e w3 ⟨rfl, hb3'⟩
             have c0 := fun j => cell_of_row w3 w.heap.size j _ _ _ (blk_next k0.out hb3')
             have c1 := fun j => cell_of_row w3 (w.heap.size + 1) j _ _ _ (blk_next k1.out hb3')
             have hB3 := HB.out.next hb3'
             clear hC hb3'
             cases b1
             · have HR := Lib.hid (HX.out rfl)
               clear HX HY HZ
               go_wp2_with fail
               go_quiet (fail)
               go_wp2_with fail
               go_ret
               exact ⟨ret_bool HR.out.symm, hB3.next (below_drewN (Below.refl _ _) _)⟩
             · cases b2
               · have HR := Lib.hid (HY.out rfl)
                 clear HX HY HZ
                 go_wp2_with fail
                 go_quiet (fail)
                 go_wp2_with fail
                 go_ret
                 exact ⟨ret_bool HR.out.symm, hB3.next (below_drewN (Below.refl _ _) _)⟩
               · by_cases hle : rc.size ≤ sc.size
                 · have hle1 : decide ((rc.size : Int) ≤ (sc.size : Int)) = true := by simpa using hle
                   go_wp2_with fail
                   go_quiet (fail)
                   go_wp2_with fail
                   go_ret
                   exact ⟨ret_bool ((pre_eq sc rc).trans (HW.out _ rfl).symm), hB3.next (below_drewN (Below.refl _ _) _)⟩
                 · have HR := Lib.hid (HZ.out hle)
                   have hle1 : sc.size < rc.size := by omega
                   have hle2 : ((sc.size : Nat) : Int) < (rc.size : Int) := by omega
                   clear HX HY HZ
                   go_wp2_with fail
                   go_quiet (fail)
                   go_wp2_with fail
                   go_ret
                   exact ⟨ret_bool HR.out.symm, hB3.next (below_drewN (Below.refl _ _) _)⟩)
      · have f1 : (rk == 1) = false := by simpa using hk1
        have HV := Lib.hid (HG1.out _ (if_neg hk1))
        clear hk1 HG1
        cases first <;> cases e1 <;> first | (exact absurd h (by decide)) | (clear h; go_enter Tryz.func46, Tryz.ntmps46; go_wp2_with fail; refine hC.mono ?_; rintro e w3 ⟨rfl, hb3'⟩; have hB3 := HB.out.next hb3'; have c0 := fun j => cell_of_row w3 w.heap.size j _ _ _ (blk_next k0.out hb3'); clear hC hb3'; go_wp2_with fail; go_ret; exact ⟨ret_bool HV.out.symm, hB3⟩)
  cases hh : ((!first && e1) || e2)
  · exact hgood hh
  · exact hbad hh
end P7
end Go.Proofs.YtajbchecjbddgaaGreatDoor
