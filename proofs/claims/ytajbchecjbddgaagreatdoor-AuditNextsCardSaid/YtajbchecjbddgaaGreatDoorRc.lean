/- Walk: the reference's Grown. -/
import Derived.Test.YtajbchecjbddgaaGreatDoorRb
import Derived.Test.YtajbchecjbddgaaGreatDoorH1
namespace Go.Proofs.YtajbchecjbddgaaGreatDoor
open Go.RowKit
namespace P7

theorem wayL_len (l : List Row) : ∀ f i, (wayL l f i).length ≤ f := by
  intro f
  induction f with
  | zero => intro i; exact Nat.le_refl _
  | succ f ih =>
    intro i
    rw [wayL]
    split
    · simpa using ih _
    · simp
def OkR (w : World) (l m : List Row) (n : Nat) (i : Value) (wr : World) : Prop := ∃ j : Nat, j ≤ n ∧ i = .int .i64 j ∧ (∀ q, q < j → okAt l m q = true) ∧ Below w.heap.size w wr

set_option maxRecDepth 10000 in
set_option maxHeartbeats 8000000 in
theorem refGrownLoop {w : World} {vl vm : Value} {l m : List Row} (hL : Sl w w.heap.size 7 vl (rowsC l)) (hM : Sl w w.heap.size 7 vm (rowsC m)) (hl : Small l) (hm : Small m) :
    Calls Tryz.prog 22 #[vl, vm] w fun e w' => e = .returned (.bool (refGrownT l m)) ∧ Below w.heap.size w w' := by
  have hC := refCheck_any hL hl
  have HL := Lib.hid hL
  have HM := Lib.hid hM
  obtain ⟨Al, cl, rfl, hcl, hol⟩ := rows_open hL
  obtain ⟨Am, cm, rfl, hcm, hom⟩ := rows_open hM
  have HOL := Lib.hid (fun q hq => hol q hq)
  have HOM := Lib.hid (fun q hq => hom q hq)
  obtain ⟨E, hE⟩ := name_of (chk (l.length + 1) l)
  obtain ⟨F, hF⟩ := name_of (chk (m.length + 1) m)
  rw [hE] at hC
  have HE := Lib.hid hE
  have HF := Lib.hid hF
  have HS := Lib.hid hl
  have HSM := Lib.hid hm
  have HG : Hid (∀ v : Bool, (decide (E = 0) && decide (F = 0) && (List.range l.length).all fun i => okAt l m i) = v → refGrownT l m = v) := Lib.hid (fun v h => by rw [refGrownT, hE, hF]; exact h)
  obtain ⟨nl, hnl⟩ := name_of l.length
  obtain ⟨nm, hnm⟩ := name_of m.length
  have HNL := Lib.hid hnl
  have HNM := Lib.hid hnm
  rw [hnl] at hcl HL hC ⊢
  rw [hnm] at hcm HM ⊢
  have hl60 : nl ≤ 60 := by rw [← hnl]; exact hl.1
  have hm60 : nm ≤ 60 := by rw [← hnm]; exact hm.1
  clear hE hF hL hM hol hom hl hm hnl hnm
  by_cases hE0 : E = 0
  · have e0 : (E != 0) = false := by simpa using hE0
    have HE0 := Lib.hid hE0
    clear hE0
    go_enter Tryz.func22, Tryz.ntmps22
    go_wp2_with fail
    refine hC.mono ?_
    rintro e w1 ⟨rfl, hb1⟩
    have hC2 := refCheck_any (HM.out.next hb1) HSM.out
    rw [HF.out] at hC2
    clear hC
    by_cases hF0 : F = 0
    · have f0 : (F != 0) = false := by simpa using hF0
      have hTl : Tab l := HE.out.trans HE0.out
      have hTm : Tab m := HF.out.trans hF0
      have HTL := Lib.hid hTl
      have HTM := Lib.hid hTm
      have HGG : Hid (∀ v : Bool, ((List.range l.length).all fun i => okAt l m i) = v → refGrownT l m = v) := Lib.hid (fun v hv => HG.out v (by rw [decide_eq_true HE0.out, decide_eq_true hF0, Bool.true_and, Bool.true_and]; exact hv))
      clear hF0 hTl hTm HG
      go_wp2_with fail
      refine hC2.mono ?_
      rintro e w2 ⟨rfl, hb2⟩
      have hB2 := hb1.next hb2
      clear hC2 hb1 hb2
      go_wp2_with fail
      go_loopw [5] (fun i wr => OkR w l m nl i wr) (fun i _ => nl - (intOf i).toNat)
      case atStart => exact ⟨0, Nat.zero_le _, rfl, fun q hq => by omega, hB2⟩
      case round =>
        clear hB2
        obtain ⟨j, hj, rfl, hall, hB⟩ := hrel
        have HALL := Lib.hid hall
        clear hall
        by_cases hlt : j < nl
        · have hW := way_any HTL.out (HL.out.next hB) (by rw [HNL.out]; exact hl60) j (by rw [HNL.out]; exact hlt)
          have hwl := wayL_len l (j + 1) j
          obtain ⟨ws, hws⟩ := name_of (wayL l (j + 1) j)
          rw [hws] at hW hwl
          have HWS := Lib.hid hws
          clear hws
          go_wp2_with fail
          refine hW.mono ?_
          rintro e w3 ⟨⟨A3, c3, rfl, hs3⟩, hb3⟩
          have hB3 := hB.next hb3
          have hFi := find_any (HM.out.next hB3) (by rw [HNM.out]; exact hm60) hs3 (by omega)
          have HFF : Hid (FF l m j = findL m ws) := Lib.hid (by rw [FF, HWS.out])
          cases hff : findL m ws with
          | none =>
            rw [hff, show optI none = -1 from rfl] at hFi
            have HN := Lib.hid (HFF.out.trans hff)
            clear hW hs3 hb3 hB hff hwl
            go_wp2_with fail
            refine hFi.mono ?_
            rintro e w4 ⟨rfl, hb4⟩
            have hB4 := hB3.next hb4
            clear hFi hB3 hb4
            -- none
            have hB4d : Below w.heap.size w w4.drew := hB4.next below_drew'
            have HO : Hid (okAt l m j = false) := Lib.hid (by rw [okAt, HN.out])
            go_wp2_with fail
            refine wp_region_held_drew (S := (fun W => Below w4.heap.size w4 W)) (by kernel_rfl) below_drew' (fun hH => ?_)
            refine Rg.take (i := 0) (d := 26) (v := .int .i64 (-1)) rfl rfl (by kernel_rfl) (by kernel_rfl) (by kernel_rfl) (fun _ _ _ h => h) (by kernel_rfl) (fun W hSW => ?_) hH ?_
            · clear hSW
              go_simp
            simp only [List.setIfInBounds_toArray, List.set_cons_zero, List.set_cons_succ]
            refine Rg.take (i := 1) (d := 27) (v := .bool true) rfl rfl (by kernel_rfl) (by kernel_rfl) (by kernel_rfl) (fun _ _ _ h => h) (by kernel_rfl) (fun W hSW => ?_) hH ?_
            · clear hSW
              go_simp
            simp only [List.setIfInBounds_toArray, List.set_cons_zero, List.set_cons_succ]
            refine Rg.take (i := 2) (d := 28) (v := .bool true) rfl rfl (by kernel_rfl) (by kernel_rfl) (by kernel_rfl) (fun _ _ _ h => h) (by kernel_rfl) (fun W hSW => ?_) hH ?_
            · clear hSW
              go_simp
            simp only [List.setIfInBounds_toArray, List.set_cons_zero, List.set_cons_succ]
            refine Rg.skips_of (fuel' := 19) [3, 4, 5, 6, 7, 8, 9, 10, 11, 12, 13, 14] [29, 30, 31, 32, 33, 34, 35, 36, 37, 38, 39, 40] (by kernel_rfl) (fun _ _ _ _ _ h => h) hH rfl (by kernel_rfl) ?_
            simp only [Rg.puts, List.setIfInBounds_toArray, List.set_cons_zero, List.set_cons_succ]
            refine Rg.take (i := 15) (d := 41) (v := .bool true) rfl rfl (by kernel_rfl) (by kernel_rfl) (by kernel_rfl) (fun _ _ _ h => h) (by kernel_rfl) (fun W hSW => ?_) hH ?_
            · clear hSW
              go_simp
            simp only [List.setIfInBounds_toArray, List.set_cons_zero, List.set_cons_succ]
            refine Rg.take (i := 16) (d := 42) (v := .bool true) rfl rfl (by kernel_rfl) (by kernel_rfl) (by kernel_rfl) (fun _ _ _ h => h) (by kernel_rfl) (fun W hSW => ?_) hH ?_
            · clear hSW
              go_simp
            simp only [List.setIfInBounds_toArray, List.set_cons_zero, List.set_cons_succ]
            refine Rg.skips_of (fuel' := 1) [17, 18, 19, 20, 21, 22, 23, 24, 25, 26, 27, 28, 29, 30, 31, 32] [43, 44, 45, 46, 47, 48, 49, 50, 51, 52, 53, 54, 55, 56, 57, 58] (by kernel_rfl) (fun _ _ _ _ _ h => h) hH rfl (by kernel_rfl) ?_
            simp only [Rg.puts, List.setIfInBounds_toArray, List.set_cons_zero, List.set_cons_succ]
            refine Rg.take (i := 33) (d := 59) (v := .bool true) rfl rfl (by kernel_rfl) (by kernel_rfl) (by kernel_rfl) (fun _ _ _ h => h) (by kernel_rfl) (fun W hSW => ?_) hH ?_
            · clear hSW
              go_simp
            simp only [List.setIfInBounds_toArray, List.set_cons_zero, List.set_cons_succ]
            refine wpAnyH_done (by kernel_rfl) ?_ _
            go_wp2_with fail
            go_ret
            refine ⟨ret_bool ?_, hB4d⟩
            symm
            refine HGG.out _ ?_
            rw [List.all_eq_false]
            exact ⟨j, List.mem_range.2 (by rw [HNL.out]; exact hlt), by rw [HO.out]; simp⟩
          | some k =>
            rw [hff, show optI (some k) = (k : Int) from rfl] at hFi
            have hok := HFF.out.trans hff
            have hkm : k < nm := by have := FF_lt HTL.out HTM.out (by rw [HNL.out]; exact hlt) hok; rw [HNM.out] at this; exact this
            obtain ⟨g, go, rfl, hg, r0, r1, r2, r3, r4, r5, r6⟩ := HOL.out j (by rw [HNL.out]; exact hlt)
            obtain ⟨h, ho, rfl, hh, s0, s1, s2, s3, s4, s5, s6⟩ := HOM.out k (by rw [HNM.out]; exact hkm)
            obtain ⟨⟨rp, ri, rf, rk, rv, rs, rc⟩, hr⟩ := name_of (at_ l j)
            obtain ⟨⟨sp, si, sf, sk, sv, ss, sc⟩, hsr⟩ := name_of (at_ m k)
            obtain ⟨fst, hfst⟩ := name_of (decide (j = 0))
            have hfj : ((j : Int) == 0) = fst := by
              rw [← hfst, Bool.eq_iff_iff]
              simp
            obtain ⟨t, ht⟩ := name_of (refBec (at_ l j) (at_ m k) fst)
            obtain ⟨cm0, hcm0⟩ := name_of (came (at_ l j))
            have hKA := kidsTo_len l (j : Int) l.length
            have hKB := kidsTo_len m (k : Int) m.length
            obtain ⟨a, haa⟩ := name_of (kids l (j : Int)).length
            obtain ⟨b, hbb⟩ := name_of (kids m (k : Int)).length
            have HO : Hid (okAt l m j = (t && !(cm0 && decide (a ≠ b)))) := Lib.hid (by
              rw [okAt, hok]
              show (refBec (at_ l j) (at_ m k) (decide (j = 0)) && !(came (at_ l j) && decide ((kids l (j : Int)).length ≠ (kids m (k : Int)).length))) = _
              rw [hfst, ht, hcm0, haa, hbb])
            have hBc : ∀ W, Calls Tryz.prog 46 #[.agg #[.int .i64 rp, .int .i64 ri, .int .i64 rf, .int .i64 rk, .int .i64 rv, .int .i64 rs, .string rc], .agg #[.int .i64 sp, .int .i64 si, .int .i64 sf, .int .i64 sk, .int .i64 sv, .int .i64 ss, .string sc], .bool fst] W fun e w' => e = .returned (.bool t) ∧ Below W.heap.size W w' := fun W => by
              rw [← ht, hr, hsr]
              exact refBecame_any ⟨rp, ri, rf, rk, rv, rs, rc⟩ ⟨sp, si, sf, sk, sv, ss, sc⟩ fst W
            have hCc : ∀ W, Calls Tryz.prog 47 #[.agg #[.int .i64 rp, .int .i64 ri, .int .i64 rf, .int .i64 rk, .int .i64 rv, .int .i64 rs, .string rc]] W fun e w' => e = .returned (.bool cm0) ∧ Below W.heap.size W w' := fun W => by
              rw [← hcm0, hr]
              exact refCame_any ⟨rp, ri, rf, rk, rv, rs, rc⟩ W
            have hKl : ∀ W, Below w.heap.size w W → Calls Tryz.prog 48 #[.slice (some ⟨g, go, none⟩) nl cl, .int .i64 j] W fun e w' => (∃ A1 c1, e = .returned (.slice A1 a c1)) ∧ Below W.heap.size W w' := fun W hW => by
              refine (refKids_any (HL.out.next hW) (by rw [HNL.out]; omega) (j : Int)).mono ?_
              rintro e w' ⟨⟨A1, c1, he, -⟩, hb⟩
              rw [haa] at he
              exact ⟨⟨A1, c1, he⟩, hb⟩
            have hKm : ∀ W, Below w.heap.size w W → Calls Tryz.prog 48 #[.slice (some ⟨h, ho, none⟩) nm cm, .int .i64 k] W fun e w' => (∃ A1 c1, e = .returned (.slice A1 b c1)) ∧ Below W.heap.size W w' := fun W hW => by
              refine (refKids_any (HM.out.next hW) (by rw [HNM.out]; omega) (k : Int)).mono ?_
              rintro e w' ⟨⟨A1, c1, he, -⟩, hb⟩
              rw [hbb] at he
              exact ⟨⟨A1, c1, he⟩, hb⟩
            have ha60 : a ≤ 60 := by
              have h1 := HNL.out
              unfold kids at haa
              omega
            have hb60 : b ≤ 60 := by
              have h1 := HNM.out
              unfold kids at hbb
              omega
            rw [hr] at r0 r1 r2 r3 r4 r5 r6
            rw [hsr] at s0 s1 s2 s3 s4 s5 s6
            dsimp only at r0 r1 r2 r3 r4 r5 r6 s0 s1 s2 s3 s4 s5 s6
            have HKL := Lib.hid hKl
            have HKM := Lib.hid hKm
            clear hW hs3 hb3 hB hff hwl hok hr hsr hfst ht hcm0 hKA hKB haa hbb hKl hKm
            go_wp2_with fail
            refine hFi.mono ?_
            rintro e w4 ⟨rfl, hb4⟩
            have hB4 := hB3.next hb4
            have q := fun x => hB4.cell (p := ⟨g, x, none⟩) hg
            have q' := fun x => hB4.cell (p := ⟨h, x, none⟩) hh
            have hg2 : g < w4.heap.size := Nat.lt_of_lt_of_le hg hB4.size
            have hh2 : h < w4.heap.size := Nat.lt_of_lt_of_le hh hB4.size
            have hS : TwoS w4 g (go + j * 7) h (ho + k * 7) rp ri rf rk rv rs rc sp si sf sk sv ss sc w4 := ⟨Below.refl _ _, (q _).trans r0, (q _).trans r1, (q _).trans r2, (q _).trans r3, (q _).trans r4, (q _).trans r5, (q _).trans r6, (q' _).trans s0, (q' _).trans s1, (q' _).trans s2, (q' _).trans s3, (q' _).trans s4, (q' _).trans s5, (q' _).trans s6⟩
            have hSd := hS.next below_drew' hg2 hh2
            have hB4d : Below w.heap.size w w4.drew := hB4.next below_drew'
            clear r0 r1 r2 r3 r4 r5 r6 s0 s1 s2 s3 s4 s5 s6 q q' hS hFi hB3 hb4 hB4
            cases t
            · have HR := Lib.hid (HO.out.trans (Bool.false_and _))
              go_wp2_with fail
              refine wp_region_held_drew (S := (fun W => TwoS w4 g (go + j * 7) h (ho + k * 7) rp ri rf rk rv rs rc sp si sf sk sv ss sc W)) (by kernel_rfl) hSd (fun hH => ?_)
              refine Rg.take (i := 0) (d := 26) (v := .int .i64 k) rfl rfl (by kernel_rfl) (by kernel_rfl) (by kernel_rfl) (fun _ _ _ h => h) (by kernel_rfl) (fun W hSW => ?_) hH ?_
              · clear hSW
                go_simp
              simp only [List.setIfInBounds_toArray, List.set_cons_zero, List.set_cons_succ]
              refine Rg.take (i := 1) (d := 27) (v := .bool false) rfl rfl (by kernel_rfl) (by kernel_rfl) (by kernel_rfl) (fun _ _ _ h => h) (by kernel_rfl) (fun W hSW => ?_) hH ?_
              · clear hSW
                go_simp
              simp only [List.setIfInBounds_toArray, List.set_cons_zero, List.set_cons_succ]
              refine Rg.take (i := 2) (d := 28) (v := .bool false) rfl rfl (by kernel_rfl) (by kernel_rfl) (by kernel_rfl) (fun _ _ _ h => h) (by kernel_rfl) (fun W hSW => ?_) hH ?_
              · clear hSW
                go_simp
              simp only [List.setIfInBounds_toArray, List.set_cons_zero, List.set_cons_succ]
              refine Rg.take (i := 3) (d := 29) (v := .slice (some ⟨g, go, none⟩) nl cl) rfl rfl (by kernel_rfl) (by kernel_rfl) (by kernel_rfl) (fun _ _ _ h => h) (by kernel_rfl) (fun W hSW => ?_) hH ?_
              · clear hSW
                go_simp
              simp only [List.setIfInBounds_toArray, List.set_cons_zero, List.set_cons_succ]
              refine Rg.take (i := 4) (d := 30) (v := .int .i64 j) rfl rfl (by kernel_rfl) (by kernel_rfl) (by kernel_rfl) (fun _ _ _ h => h) (by kernel_rfl) (fun W hSW => ?_) hH ?_
              · clear hSW
                go_simp
              simp only [List.setIfInBounds_toArray, List.set_cons_zero, List.set_cons_succ]
              refine Rg.take (i := 5) (d := 31) (v := .pointer (some ⟨g, go + j * 7, none⟩)) rfl rfl (by kernel_rfl) (by kernel_rfl) (by kernel_rfl) (fun _ _ _ h => h) (by kernel_rfl) (fun W hSW => ?_) hH ?_
              · clear hSW
                go_simp
              simp only [List.setIfInBounds_toArray, List.set_cons_zero, List.set_cons_succ]
              refine Rg.take (i := 6) (d := 32) (v := .agg #[.int .i64 rp, .int .i64 ri, .int .i64 rf, .int .i64 rk, .int .i64 rv, .int .i64 rs, .string rc]) rfl rfl (by kernel_rfl) (by kernel_rfl) (by kernel_rfl) (fun _ _ _ h => h) (by kernel_rfl) (fun W hSW => ?_) hH ?_
              · obtain ⟨-, r0, r1, r2, r3, r4, r5, r6, s0, s1, s2, s3, s4, s5, s6⟩ := hSW
                go_simp
              simp only [List.setIfInBounds_toArray, List.set_cons_zero, List.set_cons_succ]
              refine Rg.take (i := 7) (d := 33) (v := .slice (some ⟨h, ho, none⟩) nm cm) rfl rfl (by kernel_rfl) (by kernel_rfl) (by kernel_rfl) (fun _ _ _ h => h) (by kernel_rfl) (fun W hSW => ?_) hH ?_
              · clear hSW
                go_simp
              simp only [List.setIfInBounds_toArray, List.set_cons_zero, List.set_cons_succ]
              refine Rg.take (i := 8) (d := 34) (v := .int .i64 k) rfl rfl (by kernel_rfl) (by kernel_rfl) (by kernel_rfl) (fun _ _ _ h => h) (by kernel_rfl) (fun W hSW => ?_) hH ?_
              · clear hSW
                go_simp
              simp only [List.setIfInBounds_toArray, List.set_cons_zero, List.set_cons_succ]
              refine Rg.take (i := 9) (d := 35) (v := .pointer (some ⟨h, ho + k * 7, none⟩)) rfl rfl (by kernel_rfl) (by kernel_rfl) (by kernel_rfl) (fun _ _ _ h => h) (by kernel_rfl) (fun W hSW => ?_) hH ?_
              · clear hSW
                go_simp
              simp only [List.setIfInBounds_toArray, List.set_cons_zero, List.set_cons_succ]
              refine Rg.take (i := 10) (d := 36) (v := .agg #[.int .i64 sp, .int .i64 si, .int .i64 sf, .int .i64 sk, .int .i64 sv, .int .i64 ss, .string sc]) rfl rfl (by kernel_rfl) (by kernel_rfl) (by kernel_rfl) (fun _ _ _ h => h) (by kernel_rfl) (fun W hSW => ?_) hH ?_
              · obtain ⟨-, r0, r1, r2, r3, r4, r5, r6, s0, s1, s2, s3, s4, s5, s6⟩ := hSW
                go_simp
              simp only [List.setIfInBounds_toArray, List.set_cons_zero, List.set_cons_succ]
              refine Rg.take (i := 11) (d := 37) (v := .int .i64 j) rfl rfl (by kernel_rfl) (by kernel_rfl) (by kernel_rfl) (fun _ _ _ h => h) (by kernel_rfl) (fun W hSW => ?_) hH ?_
              · clear hSW
                go_simp
              simp only [List.setIfInBounds_toArray, List.set_cons_zero, List.set_cons_succ]
              refine Rg.take (i := 12) (d := 38) (v := .bool fst) rfl rfl (by kernel_rfl) (by kernel_rfl) (by kernel_rfl) (fun _ _ _ h => h) (by kernel_rfl) (fun W hSW => ?_) hH ?_
              · clear hSW
                go_simp
              simp only [List.setIfInBounds_toArray, List.set_cons_zero, List.set_cons_succ]
              refine wpAnyH_ready (rs := [13]) (by kernel_rfl) (by simp) (AllReadyH.cons rfl (fun K hK => ?_) AllReadyH.nil)
              go_simp
              refine (hBc _).mono ?_
              rintro e w5 ⟨rfl, hb5⟩
              have hB5 := hB4d.next hb5
              go_simp
              refine hK.out _ _ (hH.next hb5 hg2 hh2) (fun hH => ?_)
              clear hK K
              refine Rg.take (i := 14) (d := 40) (v := .bool true) rfl rfl (by kernel_rfl) (by kernel_rfl) (by kernel_rfl) (fun _ _ _ h => h) (by kernel_rfl) (fun W hSW => ?_) hH ?_
              · clear hSW
                go_simp
              simp only [List.setIfInBounds_toArray, List.set_cons_zero, List.set_cons_succ]
              refine Rg.take (i := 15) (d := 41) (v := .bool true) rfl rfl (by kernel_rfl) (by kernel_rfl) (by kernel_rfl) (fun _ _ _ h => h) (by kernel_rfl) (fun W hSW => ?_) hH ?_
              · clear hSW
                go_simp
              simp only [List.setIfInBounds_toArray, List.set_cons_zero, List.set_cons_succ]
              refine Rg.take (i := 16) (d := 42) (v := .bool true) rfl rfl (by kernel_rfl) (by kernel_rfl) (by kernel_rfl) (fun _ _ _ h => h) (by kernel_rfl) (fun W hSW => ?_) hH ?_
              · clear hSW
                go_simp
              simp only [List.setIfInBounds_toArray, List.set_cons_zero, List.set_cons_succ]
              refine Rg.skips_of (fuel' := 1) [17, 18, 19, 20, 21, 22, 23, 24, 25, 26, 27, 28, 29, 30, 31, 32] [43, 44, 45, 46, 47, 48, 49, 50, 51, 52, 53, 54, 55, 56, 57, 58] (by kernel_rfl) (fun _ _ _ _ _ h => h) hH rfl (by kernel_rfl) ?_
              simp only [Rg.puts, List.setIfInBounds_toArray, List.set_cons_zero, List.set_cons_succ]
              refine Rg.take (i := 33) (d := 59) (v := .bool true) rfl rfl (by kernel_rfl) (by kernel_rfl) (by kernel_rfl) (fun _ _ _ h => h) (by kernel_rfl) (fun W hSW => ?_) hH ?_
              · clear hSW
                go_simp
              simp only [List.setIfInBounds_toArray, List.set_cons_zero, List.set_cons_succ]
              refine wpAnyH_done (by kernel_rfl) ?_ _
              go_wp2_with fail
              go_ret
              refine ⟨ret_bool ?_, hB5⟩
              symm
              refine HGG.out _ ?_
              rw [List.all_eq_false]
              exact ⟨j, List.mem_range.2 (by rw [HNL.out]; exact hlt), by rw [HR.out]; simp⟩
            · cases cm0
              · have HR := Lib.hid (HO.out.trans (by rfl : (true && !(false && decide (a ≠ b))) = true))
                go_wp2_with fail
                refine wp_region_held_drew (S := (fun W => TwoS w4 g (go + j * 7) h (ho + k * 7) rp ri rf rk rv rs rc sp si sf sk sv ss sc W)) (by kernel_rfl) hSd (fun hH => ?_)
                refine Rg.take (i := 0) (d := 26) (v := .int .i64 k) rfl rfl (by kernel_rfl) (by kernel_rfl) (by kernel_rfl) (fun _ _ _ h => h) (by kernel_rfl) (fun W hSW => ?_) hH ?_
                · clear hSW
                  go_simp
                simp only [List.setIfInBounds_toArray, List.set_cons_zero, List.set_cons_succ]
                refine Rg.take (i := 1) (d := 27) (v := .bool false) rfl rfl (by kernel_rfl) (by kernel_rfl) (by kernel_rfl) (fun _ _ _ h => h) (by kernel_rfl) (fun W hSW => ?_) hH ?_
                · clear hSW
                  go_simp
                simp only [List.setIfInBounds_toArray, List.set_cons_zero, List.set_cons_succ]
                refine Rg.take (i := 2) (d := 28) (v := .bool false) rfl rfl (by kernel_rfl) (by kernel_rfl) (by kernel_rfl) (fun _ _ _ h => h) (by kernel_rfl) (fun W hSW => ?_) hH ?_
                · clear hSW
                  go_simp
                simp only [List.setIfInBounds_toArray, List.set_cons_zero, List.set_cons_succ]
                refine Rg.take (i := 3) (d := 29) (v := .slice (some ⟨g, go, none⟩) nl cl) rfl rfl (by kernel_rfl) (by kernel_rfl) (by kernel_rfl) (fun _ _ _ h => h) (by kernel_rfl) (fun W hSW => ?_) hH ?_
                · clear hSW
                  go_simp
                simp only [List.setIfInBounds_toArray, List.set_cons_zero, List.set_cons_succ]
                refine Rg.take (i := 4) (d := 30) (v := .int .i64 j) rfl rfl (by kernel_rfl) (by kernel_rfl) (by kernel_rfl) (fun _ _ _ h => h) (by kernel_rfl) (fun W hSW => ?_) hH ?_
                · clear hSW
                  go_simp
                simp only [List.setIfInBounds_toArray, List.set_cons_zero, List.set_cons_succ]
                refine Rg.take (i := 5) (d := 31) (v := .pointer (some ⟨g, go + j * 7, none⟩)) rfl rfl (by kernel_rfl) (by kernel_rfl) (by kernel_rfl) (fun _ _ _ h => h) (by kernel_rfl) (fun W hSW => ?_) hH ?_
                · clear hSW
                  go_simp
                simp only [List.setIfInBounds_toArray, List.set_cons_zero, List.set_cons_succ]
                refine Rg.take (i := 6) (d := 32) (v := .agg #[.int .i64 rp, .int .i64 ri, .int .i64 rf, .int .i64 rk, .int .i64 rv, .int .i64 rs, .string rc]) rfl rfl (by kernel_rfl) (by kernel_rfl) (by kernel_rfl) (fun _ _ _ h => h) (by kernel_rfl) (fun W hSW => ?_) hH ?_
                · obtain ⟨-, r0, r1, r2, r3, r4, r5, r6, s0, s1, s2, s3, s4, s5, s6⟩ := hSW
                  go_simp
                simp only [List.setIfInBounds_toArray, List.set_cons_zero, List.set_cons_succ]
                refine Rg.take (i := 7) (d := 33) (v := .slice (some ⟨h, ho, none⟩) nm cm) rfl rfl (by kernel_rfl) (by kernel_rfl) (by kernel_rfl) (fun _ _ _ h => h) (by kernel_rfl) (fun W hSW => ?_) hH ?_
                · clear hSW
                  go_simp
                simp only [List.setIfInBounds_toArray, List.set_cons_zero, List.set_cons_succ]
                refine Rg.take (i := 8) (d := 34) (v := .int .i64 k) rfl rfl (by kernel_rfl) (by kernel_rfl) (by kernel_rfl) (fun _ _ _ h => h) (by kernel_rfl) (fun W hSW => ?_) hH ?_
                · clear hSW
                  go_simp
                simp only [List.setIfInBounds_toArray, List.set_cons_zero, List.set_cons_succ]
                refine Rg.take (i := 9) (d := 35) (v := .pointer (some ⟨h, ho + k * 7, none⟩)) rfl rfl (by kernel_rfl) (by kernel_rfl) (by kernel_rfl) (fun _ _ _ h => h) (by kernel_rfl) (fun W hSW => ?_) hH ?_
                · clear hSW
                  go_simp
                simp only [List.setIfInBounds_toArray, List.set_cons_zero, List.set_cons_succ]
                refine Rg.take (i := 10) (d := 36) (v := .agg #[.int .i64 sp, .int .i64 si, .int .i64 sf, .int .i64 sk, .int .i64 sv, .int .i64 ss, .string sc]) rfl rfl (by kernel_rfl) (by kernel_rfl) (by kernel_rfl) (fun _ _ _ h => h) (by kernel_rfl) (fun W hSW => ?_) hH ?_
                · obtain ⟨-, r0, r1, r2, r3, r4, r5, r6, s0, s1, s2, s3, s4, s5, s6⟩ := hSW
                  go_simp
                simp only [List.setIfInBounds_toArray, List.set_cons_zero, List.set_cons_succ]
                refine Rg.take (i := 11) (d := 37) (v := .int .i64 j) rfl rfl (by kernel_rfl) (by kernel_rfl) (by kernel_rfl) (fun _ _ _ h => h) (by kernel_rfl) (fun W hSW => ?_) hH ?_
                · clear hSW
                  go_simp
                simp only [List.setIfInBounds_toArray, List.set_cons_zero, List.set_cons_succ]
                refine Rg.take (i := 12) (d := 38) (v := .bool fst) rfl rfl (by kernel_rfl) (by kernel_rfl) (by kernel_rfl) (fun _ _ _ h => h) (by kernel_rfl) (fun W hSW => ?_) hH ?_
                · clear hSW
                  go_simp
                simp only [List.setIfInBounds_toArray, List.set_cons_zero, List.set_cons_succ]
                refine wpAnyH_ready (rs := [13]) (by kernel_rfl) (by simp) (AllReadyH.cons rfl (fun K hK => ?_) AllReadyH.nil)
                go_simp
                refine (hBc _).mono ?_
                rintro e w5 ⟨rfl, hb5⟩
                have hB5 := hB4d.next hb5
                go_simp
                refine hK.out _ _ (hH.next hb5 hg2 hh2) (fun hH => ?_)
                clear hK K
                refine Rg.take (i := 14) (d := 40) (v := .bool false) rfl rfl (by kernel_rfl) (by kernel_rfl) (by kernel_rfl) (fun _ _ _ h => h) (by kernel_rfl) (fun W hSW => ?_) hH ?_
                · clear hSW
                  go_simp
                simp only [List.setIfInBounds_toArray, List.set_cons_zero, List.set_cons_succ]
                refine Rg.take (i := 15) (d := 41) (v := .bool false) rfl rfl (by kernel_rfl) (by kernel_rfl) (by kernel_rfl) (fun _ _ _ h => h) (by kernel_rfl) (fun W hSW => ?_) hH ?_
                · clear hSW
                  go_simp
                simp only [List.setIfInBounds_toArray, List.set_cons_zero, List.set_cons_succ]
                refine Rg.take (i := 16) (d := 42) (v := .bool false) rfl rfl (by kernel_rfl) (by kernel_rfl) (by kernel_rfl) (fun _ _ _ h => h) (by kernel_rfl) (fun W hSW => ?_) hH ?_
                · clear hSW
                  go_simp
                simp only [List.setIfInBounds_toArray, List.set_cons_zero, List.set_cons_succ]
                refine Rg.take (i := 17) (d := 43) (v := .slice (some ⟨g, go, none⟩) nl cl) rfl rfl (by kernel_rfl) (by kernel_rfl) (by kernel_rfl) (fun _ _ _ h => h) (by kernel_rfl) (fun W hSW => ?_) hH ?_
                · clear hSW
                  go_simp
                simp only [List.setIfInBounds_toArray, List.set_cons_zero, List.set_cons_succ]
                refine Rg.take (i := 18) (d := 44) (v := .int .i64 j) rfl rfl (by kernel_rfl) (by kernel_rfl) (by kernel_rfl) (fun _ _ _ h => h) (by kernel_rfl) (fun W hSW => ?_) hH ?_
                · clear hSW
                  go_simp
                simp only [List.setIfInBounds_toArray, List.set_cons_zero, List.set_cons_succ]
                refine Rg.take (i := 19) (d := 45) (v := .pointer (some ⟨g, go + j * 7, none⟩)) rfl rfl (by kernel_rfl) (by kernel_rfl) (by kernel_rfl) (fun _ _ _ h => h) (by kernel_rfl) (fun W hSW => ?_) hH ?_
                · clear hSW
                  go_simp
                simp only [List.setIfInBounds_toArray, List.set_cons_zero, List.set_cons_succ]
                refine Rg.take (i := 20) (d := 46) (v := .agg #[.int .i64 rp, .int .i64 ri, .int .i64 rf, .int .i64 rk, .int .i64 rv, .int .i64 rs, .string rc]) rfl rfl (by kernel_rfl) (by kernel_rfl) (by kernel_rfl) (fun _ _ _ h => h) (by kernel_rfl) (fun W hSW => ?_) hH ?_
                · obtain ⟨-, r0, r1, r2, r3, r4, r5, r6, s0, s1, s2, s3, s4, s5, s6⟩ := hSW
                  go_simp
                simp only [List.setIfInBounds_toArray, List.set_cons_zero, List.set_cons_succ]
                refine wpAnyH_ready (rs := [21]) (by kernel_rfl) (by simp) (AllReadyH.cons rfl (fun K hK => ?_) AllReadyH.nil)
                go_simp
                refine (hCc _).mono ?_
                rintro e w6 ⟨rfl, hb6⟩
                have hB6 := hB5.next hb6
                go_simp
                refine hK.out _ _ (hH.next hb6 hg2 hh2) (fun hH => ?_)
                clear hK K
                refine Rg.take (i := 22) (d := 48) (v := .bool false) rfl rfl (by kernel_rfl) (by kernel_rfl) (by kernel_rfl) (fun _ _ _ h => h) (by kernel_rfl) (fun W hSW => ?_) hH ?_
                · clear hSW
                  go_simp
                simp only [List.setIfInBounds_toArray, List.set_cons_zero, List.set_cons_succ]
                refine Rg.skips_of (fuel' := 2) [23, 24, 25, 26, 27, 28, 29, 30, 31] [49, 50, 51, 52, 53, 54, 55, 56, 57] (by kernel_rfl) (fun _ _ _ _ _ h => h) hH rfl (by kernel_rfl) ?_
                simp only [Rg.puts, List.setIfInBounds_toArray, List.set_cons_zero, List.set_cons_succ]
                refine Rg.take (i := 32) (d := 58) (v := .bool false) rfl rfl (by kernel_rfl) (by kernel_rfl) (by kernel_rfl) (fun _ _ _ h => h) (by kernel_rfl) (fun W hSW => ?_) hH ?_
                · clear hSW
                  go_simp
                simp only [List.setIfInBounds_toArray, List.set_cons_zero, List.set_cons_succ]
                refine Rg.take (i := 33) (d := 59) (v := .bool false) rfl rfl (by kernel_rfl) (by kernel_rfl) (by kernel_rfl) (fun _ _ _ h => h) (by kernel_rfl) (fun W hSW => ?_) hH ?_
                · clear hSW
                  go_simp
                simp only [List.setIfInBounds_toArray, List.set_cons_zero, List.set_cons_succ]
                refine wpAnyH_done (by kernel_rfl) ?_ _
                go_wp2_with fail
                refine ⟨⟨j + 1, hlt, by go_num, fun q hq => ?_, hB6⟩, by simp [intOf]; omega⟩
                by_cases e : q = j
                · subst e; exact HR.out
                · exact HALL.out q (by omega)
              · by_cases hab : a = b
                · have e7 : ((a : Int) != b) = false := by simp; omega
                  have HR : Hid (okAt l m j = true) := Lib.hid (HO.out.trans (by simp [hab]))
                  clear hab
                  go_wp2_with fail
                  refine wp_region_held_drew (S := (fun W => TwoS w4 g (go + j * 7) h (ho + k * 7) rp ri rf rk rv rs rc sp si sf sk sv ss sc W)) (by kernel_rfl) hSd (fun hH => ?_)
                  refine Rg.take (i := 0) (d := 26) (v := .int .i64 k) rfl rfl (by kernel_rfl) (by kernel_rfl) (by kernel_rfl) (fun _ _ _ h => h) (by kernel_rfl) (fun W hSW => ?_) hH ?_
                  · clear hSW
                    go_simp
                  simp only [List.setIfInBounds_toArray, List.set_cons_zero, List.set_cons_succ]
                  refine Rg.take (i := 1) (d := 27) (v := .bool false) rfl rfl (by kernel_rfl) (by kernel_rfl) (by kernel_rfl) (fun _ _ _ h => h) (by kernel_rfl) (fun W hSW => ?_) hH ?_
                  · clear hSW
                    go_simp
                  simp only [List.setIfInBounds_toArray, List.set_cons_zero, List.set_cons_succ]
                  refine Rg.take (i := 2) (d := 28) (v := .bool false) rfl rfl (by kernel_rfl) (by kernel_rfl) (by kernel_rfl) (fun _ _ _ h => h) (by kernel_rfl) (fun W hSW => ?_) hH ?_
                  · clear hSW
                    go_simp
                  simp only [List.setIfInBounds_toArray, List.set_cons_zero, List.set_cons_succ]
                  refine Rg.take (i := 3) (d := 29) (v := .slice (some ⟨g, go, none⟩) nl cl) rfl rfl (by kernel_rfl) (by kernel_rfl) (by kernel_rfl) (fun _ _ _ h => h) (by kernel_rfl) (fun W hSW => ?_) hH ?_
                  · clear hSW
                    go_simp
                  simp only [List.setIfInBounds_toArray, List.set_cons_zero, List.set_cons_succ]
                  refine Rg.take (i := 4) (d := 30) (v := .int .i64 j) rfl rfl (by kernel_rfl) (by kernel_rfl) (by kernel_rfl) (fun _ _ _ h => h) (by kernel_rfl) (fun W hSW => ?_) hH ?_
                  · clear hSW
                    go_simp
                  simp only [List.setIfInBounds_toArray, List.set_cons_zero, List.set_cons_succ]
                  refine Rg.take (i := 5) (d := 31) (v := .pointer (some ⟨g, go + j * 7, none⟩)) rfl rfl (by kernel_rfl) (by kernel_rfl) (by kernel_rfl) (fun _ _ _ h => h) (by kernel_rfl) (fun W hSW => ?_) hH ?_
                  · clear hSW
                    go_simp
                  simp only [List.setIfInBounds_toArray, List.set_cons_zero, List.set_cons_succ]
                  refine Rg.take (i := 6) (d := 32) (v := .agg #[.int .i64 rp, .int .i64 ri, .int .i64 rf, .int .i64 rk, .int .i64 rv, .int .i64 rs, .string rc]) rfl rfl (by kernel_rfl) (by kernel_rfl) (by kernel_rfl) (fun _ _ _ h => h) (by kernel_rfl) (fun W hSW => ?_) hH ?_
                  · obtain ⟨-, r0, r1, r2, r3, r4, r5, r6, s0, s1, s2, s3, s4, s5, s6⟩ := hSW
                    go_simp
                  simp only [List.setIfInBounds_toArray, List.set_cons_zero, List.set_cons_succ]
                  refine Rg.take (i := 7) (d := 33) (v := .slice (some ⟨h, ho, none⟩) nm cm) rfl rfl (by kernel_rfl) (by kernel_rfl) (by kernel_rfl) (fun _ _ _ h => h) (by kernel_rfl) (fun W hSW => ?_) hH ?_
                  · clear hSW
                    go_simp
                  simp only [List.setIfInBounds_toArray, List.set_cons_zero, List.set_cons_succ]
                  refine Rg.take (i := 8) (d := 34) (v := .int .i64 k) rfl rfl (by kernel_rfl) (by kernel_rfl) (by kernel_rfl) (fun _ _ _ h => h) (by kernel_rfl) (fun W hSW => ?_) hH ?_
                  · clear hSW
                    go_simp
                  simp only [List.setIfInBounds_toArray, List.set_cons_zero, List.set_cons_succ]
                  refine Rg.take (i := 9) (d := 35) (v := .pointer (some ⟨h, ho + k * 7, none⟩)) rfl rfl (by kernel_rfl) (by kernel_rfl) (by kernel_rfl) (fun _ _ _ h => h) (by kernel_rfl) (fun W hSW => ?_) hH ?_
                  · clear hSW
                    go_simp
                  simp only [List.setIfInBounds_toArray, List.set_cons_zero, List.set_cons_succ]
                  refine Rg.take (i := 10) (d := 36) (v := .agg #[.int .i64 sp, .int .i64 si, .int .i64 sf, .int .i64 sk, .int .i64 sv, .int .i64 ss, .string sc]) rfl rfl (by kernel_rfl) (by kernel_rfl) (by kernel_rfl) (fun _ _ _ h => h) (by kernel_rfl) (fun W hSW => ?_) hH ?_
                  · obtain ⟨-, r0, r1, r2, r3, r4, r5, r6, s0, s1, s2, s3, s4, s5, s6⟩ := hSW
                    go_simp
                  simp only [List.setIfInBounds_toArray, List.set_cons_zero, List.set_cons_succ]
                  refine Rg.take (i := 11) (d := 37) (v := .int .i64 j) rfl rfl (by kernel_rfl) (by kernel_rfl) (by kernel_rfl) (fun _ _ _ h => h) (by kernel_rfl) (fun W hSW => ?_) hH ?_
                  · clear hSW
                    go_simp
                  simp only [List.setIfInBounds_toArray, List.set_cons_zero, List.set_cons_succ]
                  refine Rg.take (i := 12) (d := 38) (v := .bool fst) rfl rfl (by kernel_rfl) (by kernel_rfl) (by kernel_rfl) (fun _ _ _ h => h) (by kernel_rfl) (fun W hSW => ?_) hH ?_
                  · clear hSW
                    go_simp
                  simp only [List.setIfInBounds_toArray, List.set_cons_zero, List.set_cons_succ]
                  refine wpAnyH_ready (rs := [13]) (by kernel_rfl) (by simp) (AllReadyH.cons rfl (fun K hK => ?_) AllReadyH.nil)
                  go_simp
                  refine (hBc _).mono ?_
                  rintro e w5 ⟨rfl, hb5⟩
                  have hB5 := hB4d.next hb5
                  go_simp
                  refine hK.out _ _ (hH.next hb5 hg2 hh2) (fun hH => ?_)
                  clear hK K
                  refine Rg.take (i := 14) (d := 40) (v := .bool false) rfl rfl (by kernel_rfl) (by kernel_rfl) (by kernel_rfl) (fun _ _ _ h => h) (by kernel_rfl) (fun W hSW => ?_) hH ?_
                  · clear hSW
                    go_simp
                  simp only [List.setIfInBounds_toArray, List.set_cons_zero, List.set_cons_succ]
                  refine Rg.take (i := 15) (d := 41) (v := .bool false) rfl rfl (by kernel_rfl) (by kernel_rfl) (by kernel_rfl) (fun _ _ _ h => h) (by kernel_rfl) (fun W hSW => ?_) hH ?_
                  · clear hSW
                    go_simp
                  simp only [List.setIfInBounds_toArray, List.set_cons_zero, List.set_cons_succ]
                  refine Rg.take (i := 16) (d := 42) (v := .bool false) rfl rfl (by kernel_rfl) (by kernel_rfl) (by kernel_rfl) (fun _ _ _ h => h) (by kernel_rfl) (fun W hSW => ?_) hH ?_
                  · clear hSW
                    go_simp
                  simp only [List.setIfInBounds_toArray, List.set_cons_zero, List.set_cons_succ]
                  refine Rg.take (i := 17) (d := 43) (v := .slice (some ⟨g, go, none⟩) nl cl) rfl rfl (by kernel_rfl) (by kernel_rfl) (by kernel_rfl) (fun _ _ _ h => h) (by kernel_rfl) (fun W hSW => ?_) hH ?_
                  · clear hSW
                    go_simp
                  simp only [List.setIfInBounds_toArray, List.set_cons_zero, List.set_cons_succ]
                  refine Rg.take (i := 18) (d := 44) (v := .int .i64 j) rfl rfl (by kernel_rfl) (by kernel_rfl) (by kernel_rfl) (fun _ _ _ h => h) (by kernel_rfl) (fun W hSW => ?_) hH ?_
                  · clear hSW
                    go_simp
                  simp only [List.setIfInBounds_toArray, List.set_cons_zero, List.set_cons_succ]
                  refine Rg.take (i := 19) (d := 45) (v := .pointer (some ⟨g, go + j * 7, none⟩)) rfl rfl (by kernel_rfl) (by kernel_rfl) (by kernel_rfl) (fun _ _ _ h => h) (by kernel_rfl) (fun W hSW => ?_) hH ?_
                  · clear hSW
                    go_simp
                  simp only [List.setIfInBounds_toArray, List.set_cons_zero, List.set_cons_succ]
                  refine Rg.take (i := 20) (d := 46) (v := .agg #[.int .i64 rp, .int .i64 ri, .int .i64 rf, .int .i64 rk, .int .i64 rv, .int .i64 rs, .string rc]) rfl rfl (by kernel_rfl) (by kernel_rfl) (by kernel_rfl) (fun _ _ _ h => h) (by kernel_rfl) (fun W hSW => ?_) hH ?_
                  · obtain ⟨-, r0, r1, r2, r3, r4, r5, r6, s0, s1, s2, s3, s4, s5, s6⟩ := hSW
                    go_simp
                  simp only [List.setIfInBounds_toArray, List.set_cons_zero, List.set_cons_succ]
                  refine wpAnyH_ready (rs := [21]) (by kernel_rfl) (by simp) (AllReadyH.cons rfl (fun K hK => ?_) AllReadyH.nil)
                  go_simp
                  refine (hCc _).mono ?_
                  rintro e w6 ⟨rfl, hb6⟩
                  have hB6 := hB5.next hb6
                  go_simp
                  refine hK.out _ _ (hH.next hb6 hg2 hh2) (fun hH => ?_)
                  clear hK K
                  refine Rg.take (i := 22) (d := 48) (v := .bool true) rfl rfl (by kernel_rfl) (by kernel_rfl) (by kernel_rfl) (fun _ _ _ h => h) (by kernel_rfl) (fun W hSW => ?_) hH ?_
                  · clear hSW
                    go_simp
                  simp only [List.setIfInBounds_toArray, List.set_cons_zero, List.set_cons_succ]
                  refine Rg.take (i := 23) (d := 49) (v := .slice (some ⟨g, go, none⟩) nl cl) rfl rfl (by kernel_rfl) (by kernel_rfl) (by kernel_rfl) (fun _ _ _ h => h) (by kernel_rfl) (fun W hSW => ?_) hH ?_
                  · clear hSW
                    go_simp
                  simp only [List.setIfInBounds_toArray, List.set_cons_zero, List.set_cons_succ]
                  refine Rg.take (i := 24) (d := 50) (v := .int .i64 j) rfl rfl (by kernel_rfl) (by kernel_rfl) (by kernel_rfl) (fun _ _ _ h => h) (by kernel_rfl) (fun W hSW => ?_) hH ?_
                  · clear hSW
                    go_simp
                  simp only [List.setIfInBounds_toArray, List.set_cons_zero, List.set_cons_succ]
                  refine Rg.take (i := 27) (d := 53) (v := .slice (some ⟨h, ho, none⟩) nm cm) rfl rfl (by kernel_rfl) (by kernel_rfl) (by kernel_rfl) (fun _ _ _ h => h) (by kernel_rfl) (fun W hSW => ?_) hH ?_
                  · clear hSW
                    go_simp
                  simp only [List.setIfInBounds_toArray, List.set_cons_zero, List.set_cons_succ]
                  refine Rg.take (i := 28) (d := 54) (v := .int .i64 k) rfl rfl (by kernel_rfl) (by kernel_rfl) (by kernel_rfl) (fun _ _ _ h => h) (by kernel_rfl) (fun W hSW => ?_) hH ?_
                  · clear hSW
                    go_simp
                  simp only [List.setIfInBounds_toArray, List.set_cons_zero, List.set_cons_succ]
                  refine wpAnyH_ready (rs := [25]) (by kernel_rfl) (by simp) (AllReadyH.cons rfl (fun K hK => ?_) AllReadyH.nil)
                  go_simp
                  refine (HKL.out _ hB6).mono ?_
                  rintro e w7 ⟨⟨A7, c7, rfl⟩, hb7⟩
                  have hB7 := hB6.next hb7
                  go_simp
                  refine hK.out _ _ (hH.next hb7 hg2 hh2) (fun hH => ?_)
                  clear hK K
                  refine Rg.take (i := 26) (d := 52) (v := .int .i64 a) rfl rfl (by kernel_rfl) (by kernel_rfl) (by kernel_rfl) (fun _ _ _ h => h) (by kernel_rfl) (fun W hSW => ?_) hH ?_
                  · clear hSW
                    go_simp
                  simp only [List.setIfInBounds_toArray, List.set_cons_zero, List.set_cons_succ]
                  refine wpAnyH_ready (rs := [29]) (by kernel_rfl) (by simp) (AllReadyH.cons rfl (fun K hK => ?_) AllReadyH.nil)
                  go_simp
                  refine (HKM.out _ hB7).mono ?_
                  rintro e w8 ⟨⟨A8, c8, rfl⟩, hb8⟩
                  have hB8 := hB7.next hb8
                  go_simp
                  refine hK.out _ _ (hH.next hb8 hg2 hh2) (fun hH => ?_)
                  clear hK K
                  refine Rg.take (i := 30) (d := 56) (v := .int .i64 b) rfl rfl (by kernel_rfl) (by kernel_rfl) (by kernel_rfl) (fun _ _ _ h => h) (by kernel_rfl) (fun W hSW => ?_) hH ?_
                  · clear hSW
                    go_simp
                  simp only [List.setIfInBounds_toArray, List.set_cons_zero, List.set_cons_succ]
                  refine Rg.take (i := 31) (d := 57) (v := .bool false) rfl rfl (by kernel_rfl) (by kernel_rfl) (by kernel_rfl) (fun _ _ _ h => h) (by kernel_rfl) (fun W hSW => ?_) hH ?_
                  · clear hSW
                    go_simp
                  simp only [List.setIfInBounds_toArray, List.set_cons_zero, List.set_cons_succ]
                  refine Rg.take (i := 32) (d := 58) (v := .bool false) rfl rfl (by kernel_rfl) (by kernel_rfl) (by kernel_rfl) (fun _ _ _ h => h) (by kernel_rfl) (fun W hSW => ?_) hH ?_
                  · clear hSW
                    go_simp
                  simp only [List.setIfInBounds_toArray, List.set_cons_zero, List.set_cons_succ]
                  refine Rg.take (i := 33) (d := 59) (v := .bool false) rfl rfl (by kernel_rfl) (by kernel_rfl) (by kernel_rfl) (fun _ _ _ h => h) (by kernel_rfl) (fun W hSW => ?_) hH ?_
                  · clear hSW
                    go_simp
                  simp only [List.setIfInBounds_toArray, List.set_cons_zero, List.set_cons_succ]
                  refine wpAnyH_done (by kernel_rfl) ?_ _
                  go_wp2_with fail
                  refine ⟨⟨j + 1, hlt, by go_num, fun q hq => ?_, hB8⟩, by simp [intOf]; omega⟩
                  by_cases e : q = j
                  · subst e; exact HR.out
                  · exact HALL.out q (by omega)
                · have e7 : ((a : Int) != b) = true := by simp; omega
                  have HR : Hid (okAt l m j = false) := Lib.hid (HO.out.trans (by simp [hab]))
                  clear hab
                  go_wp2_with fail
                  refine wp_region_held_drew (S := (fun W => TwoS w4 g (go + j * 7) h (ho + k * 7) rp ri rf rk rv rs rc sp si sf sk sv ss sc W)) (by kernel_rfl) hSd (fun hH => ?_)
                  refine Rg.take (i := 0) (d := 26) (v := .int .i64 k) rfl rfl (by kernel_rfl) (by kernel_rfl) (by kernel_rfl) (fun _ _ _ h => h) (by kernel_rfl) (fun W hSW => ?_) hH ?_
                  · clear hSW
                    go_simp
                  simp only [List.setIfInBounds_toArray, List.set_cons_zero, List.set_cons_succ]
                  refine Rg.take (i := 1) (d := 27) (v := .bool false) rfl rfl (by kernel_rfl) (by kernel_rfl) (by kernel_rfl) (fun _ _ _ h => h) (by kernel_rfl) (fun W hSW => ?_) hH ?_
                  · clear hSW
                    go_simp
                  simp only [List.setIfInBounds_toArray, List.set_cons_zero, List.set_cons_succ]
                  refine Rg.take (i := 2) (d := 28) (v := .bool false) rfl rfl (by kernel_rfl) (by kernel_rfl) (by kernel_rfl) (fun _ _ _ h => h) (by kernel_rfl) (fun W hSW => ?_) hH ?_
                  · clear hSW
                    go_simp
                  simp only [List.setIfInBounds_toArray, List.set_cons_zero, List.set_cons_succ]
                  refine Rg.take (i := 3) (d := 29) (v := .slice (some ⟨g, go, none⟩) nl cl) rfl rfl (by kernel_rfl) (by kernel_rfl) (by kernel_rfl) (fun _ _ _ h => h) (by kernel_rfl) (fun W hSW => ?_) hH ?_
                  · clear hSW
                    go_simp
                  simp only [List.setIfInBounds_toArray, List.set_cons_zero, List.set_cons_succ]
                  refine Rg.take (i := 4) (d := 30) (v := .int .i64 j) rfl rfl (by kernel_rfl) (by kernel_rfl) (by kernel_rfl) (fun _ _ _ h => h) (by kernel_rfl) (fun W hSW => ?_) hH ?_
                  · clear hSW
                    go_simp
                  simp only [List.setIfInBounds_toArray, List.set_cons_zero, List.set_cons_succ]
                  refine Rg.take (i := 5) (d := 31) (v := .pointer (some ⟨g, go + j * 7, none⟩)) rfl rfl (by kernel_rfl) (by kernel_rfl) (by kernel_rfl) (fun _ _ _ h => h) (by kernel_rfl) (fun W hSW => ?_) hH ?_
                  · clear hSW
                    go_simp
                  simp only [List.setIfInBounds_toArray, List.set_cons_zero, List.set_cons_succ]
                  refine Rg.take (i := 6) (d := 32) (v := .agg #[.int .i64 rp, .int .i64 ri, .int .i64 rf, .int .i64 rk, .int .i64 rv, .int .i64 rs, .string rc]) rfl rfl (by kernel_rfl) (by kernel_rfl) (by kernel_rfl) (fun _ _ _ h => h) (by kernel_rfl) (fun W hSW => ?_) hH ?_
                  · obtain ⟨-, r0, r1, r2, r3, r4, r5, r6, s0, s1, s2, s3, s4, s5, s6⟩ := hSW
                    go_simp
                  simp only [List.setIfInBounds_toArray, List.set_cons_zero, List.set_cons_succ]
                  refine Rg.take (i := 7) (d := 33) (v := .slice (some ⟨h, ho, none⟩) nm cm) rfl rfl (by kernel_rfl) (by kernel_rfl) (by kernel_rfl) (fun _ _ _ h => h) (by kernel_rfl) (fun W hSW => ?_) hH ?_
                  · clear hSW
                    go_simp
                  simp only [List.setIfInBounds_toArray, List.set_cons_zero, List.set_cons_succ]
                  refine Rg.take (i := 8) (d := 34) (v := .int .i64 k) rfl rfl (by kernel_rfl) (by kernel_rfl) (by kernel_rfl) (fun _ _ _ h => h) (by kernel_rfl) (fun W hSW => ?_) hH ?_
                  · clear hSW
                    go_simp
                  simp only [List.setIfInBounds_toArray, List.set_cons_zero, List.set_cons_succ]
                  refine Rg.take (i := 9) (d := 35) (v := .pointer (some ⟨h, ho + k * 7, none⟩)) rfl rfl (by kernel_rfl) (by kernel_rfl) (by kernel_rfl) (fun _ _ _ h => h) (by kernel_rfl) (fun W hSW => ?_) hH ?_
                  · clear hSW
                    go_simp
                  simp only [List.setIfInBounds_toArray, List.set_cons_zero, List.set_cons_succ]
                  refine Rg.take (i := 10) (d := 36) (v := .agg #[.int .i64 sp, .int .i64 si, .int .i64 sf, .int .i64 sk, .int .i64 sv, .int .i64 ss, .string sc]) rfl rfl (by kernel_rfl) (by kernel_rfl) (by kernel_rfl) (fun _ _ _ h => h) (by kernel_rfl) (fun W hSW => ?_) hH ?_
                  · obtain ⟨-, r0, r1, r2, r3, r4, r5, r6, s0, s1, s2, s3, s4, s5, s6⟩ := hSW
                    go_simp
                  simp only [List.setIfInBounds_toArray, List.set_cons_zero, List.set_cons_succ]
                  refine Rg.take (i := 11) (d := 37) (v := .int .i64 j) rfl rfl (by kernel_rfl) (by kernel_rfl) (by kernel_rfl) (fun _ _ _ h => h) (by kernel_rfl) (fun W hSW => ?_) hH ?_
                  · clear hSW
                    go_simp
                  simp only [List.setIfInBounds_toArray, List.set_cons_zero, List.set_cons_succ]
                  refine Rg.take (i := 12) (d := 38) (v := .bool fst) rfl rfl (by kernel_rfl) (by kernel_rfl) (by kernel_rfl) (fun _ _ _ h => h) (by kernel_rfl) (fun W hSW => ?_) hH ?_
                  · clear hSW
                    go_simp
                  simp only [List.setIfInBounds_toArray, List.set_cons_zero, List.set_cons_succ]
                  refine wpAnyH_ready (rs := [13]) (by kernel_rfl) (by simp) (AllReadyH.cons rfl (fun K hK => ?_) AllReadyH.nil)
                  go_simp
                  refine (hBc _).mono ?_
                  rintro e w5 ⟨rfl, hb5⟩
                  have hB5 := hB4d.next hb5
                  go_simp
                  refine hK.out _ _ (hH.next hb5 hg2 hh2) (fun hH => ?_)
                  clear hK K
                  refine Rg.take (i := 14) (d := 40) (v := .bool false) rfl rfl (by kernel_rfl) (by kernel_rfl) (by kernel_rfl) (fun _ _ _ h => h) (by kernel_rfl) (fun W hSW => ?_) hH ?_
                  · clear hSW
                    go_simp
                  simp only [List.setIfInBounds_toArray, List.set_cons_zero, List.set_cons_succ]
                  refine Rg.take (i := 15) (d := 41) (v := .bool false) rfl rfl (by kernel_rfl) (by kernel_rfl) (by kernel_rfl) (fun _ _ _ h => h) (by kernel_rfl) (fun W hSW => ?_) hH ?_
                  · clear hSW
                    go_simp
                  simp only [List.setIfInBounds_toArray, List.set_cons_zero, List.set_cons_succ]
                  refine Rg.take (i := 16) (d := 42) (v := .bool false) rfl rfl (by kernel_rfl) (by kernel_rfl) (by kernel_rfl) (fun _ _ _ h => h) (by kernel_rfl) (fun W hSW => ?_) hH ?_
                  · clear hSW
                    go_simp
                  simp only [List.setIfInBounds_toArray, List.set_cons_zero, List.set_cons_succ]
                  refine Rg.take (i := 17) (d := 43) (v := .slice (some ⟨g, go, none⟩) nl cl) rfl rfl (by kernel_rfl) (by kernel_rfl) (by kernel_rfl) (fun _ _ _ h => h) (by kernel_rfl) (fun W hSW => ?_) hH ?_
                  · clear hSW
                    go_simp
                  simp only [List.setIfInBounds_toArray, List.set_cons_zero, List.set_cons_succ]
                  refine Rg.take (i := 18) (d := 44) (v := .int .i64 j) rfl rfl (by kernel_rfl) (by kernel_rfl) (by kernel_rfl) (fun _ _ _ h => h) (by kernel_rfl) (fun W hSW => ?_) hH ?_
                  · clear hSW
                    go_simp
                  simp only [List.setIfInBounds_toArray, List.set_cons_zero, List.set_cons_succ]
                  refine Rg.take (i := 19) (d := 45) (v := .pointer (some ⟨g, go + j * 7, none⟩)) rfl rfl (by kernel_rfl) (by kernel_rfl) (by kernel_rfl) (fun _ _ _ h => h) (by kernel_rfl) (fun W hSW => ?_) hH ?_
                  · clear hSW
                    go_simp
                  simp only [List.setIfInBounds_toArray, List.set_cons_zero, List.set_cons_succ]
                  refine Rg.take (i := 20) (d := 46) (v := .agg #[.int .i64 rp, .int .i64 ri, .int .i64 rf, .int .i64 rk, .int .i64 rv, .int .i64 rs, .string rc]) rfl rfl (by kernel_rfl) (by kernel_rfl) (by kernel_rfl) (fun _ _ _ h => h) (by kernel_rfl) (fun W hSW => ?_) hH ?_
                  · obtain ⟨-, r0, r1, r2, r3, r4, r5, r6, s0, s1, s2, s3, s4, s5, s6⟩ := hSW
                    go_simp
                  simp only [List.setIfInBounds_toArray, List.set_cons_zero, List.set_cons_succ]
                  refine wpAnyH_ready (rs := [21]) (by kernel_rfl) (by simp) (AllReadyH.cons rfl (fun K hK => ?_) AllReadyH.nil)
                  go_simp
                  refine (hCc _).mono ?_
                  rintro e w6 ⟨rfl, hb6⟩
                  have hB6 := hB5.next hb6
                  go_simp
                  refine hK.out _ _ (hH.next hb6 hg2 hh2) (fun hH => ?_)
                  clear hK K
                  refine Rg.take (i := 22) (d := 48) (v := .bool true) rfl rfl (by kernel_rfl) (by kernel_rfl) (by kernel_rfl) (fun _ _ _ h => h) (by kernel_rfl) (fun W hSW => ?_) hH ?_
                  · clear hSW
                    go_simp
                  simp only [List.setIfInBounds_toArray, List.set_cons_zero, List.set_cons_succ]
                  refine Rg.take (i := 23) (d := 49) (v := .slice (some ⟨g, go, none⟩) nl cl) rfl rfl (by kernel_rfl) (by kernel_rfl) (by kernel_rfl) (fun _ _ _ h => h) (by kernel_rfl) (fun W hSW => ?_) hH ?_
                  · clear hSW
                    go_simp
                  simp only [List.setIfInBounds_toArray, List.set_cons_zero, List.set_cons_succ]
                  refine Rg.take (i := 24) (d := 50) (v := .int .i64 j) rfl rfl (by kernel_rfl) (by kernel_rfl) (by kernel_rfl) (fun _ _ _ h => h) (by kernel_rfl) (fun W hSW => ?_) hH ?_
                  · clear hSW
                    go_simp
                  simp only [List.setIfInBounds_toArray, List.set_cons_zero, List.set_cons_succ]
                  refine Rg.take (i := 27) (d := 53) (v := .slice (some ⟨h, ho, none⟩) nm cm) rfl rfl (by kernel_rfl) (by kernel_rfl) (by kernel_rfl) (fun _ _ _ h => h) (by kernel_rfl) (fun W hSW => ?_) hH ?_
                  · clear hSW
                    go_simp
                  simp only [List.setIfInBounds_toArray, List.set_cons_zero, List.set_cons_succ]
                  refine Rg.take (i := 28) (d := 54) (v := .int .i64 k) rfl rfl (by kernel_rfl) (by kernel_rfl) (by kernel_rfl) (fun _ _ _ h => h) (by kernel_rfl) (fun W hSW => ?_) hH ?_
                  · clear hSW
                    go_simp
                  simp only [List.setIfInBounds_toArray, List.set_cons_zero, List.set_cons_succ]
                  refine wpAnyH_ready (rs := [25]) (by kernel_rfl) (by simp) (AllReadyH.cons rfl (fun K hK => ?_) AllReadyH.nil)
                  go_simp
                  refine (HKL.out _ hB6).mono ?_
                  rintro e w7 ⟨⟨A7, c7, rfl⟩, hb7⟩
                  have hB7 := hB6.next hb7
                  go_simp
                  refine hK.out _ _ (hH.next hb7 hg2 hh2) (fun hH => ?_)
                  clear hK K
                  refine Rg.take (i := 26) (d := 52) (v := .int .i64 a) rfl rfl (by kernel_rfl) (by kernel_rfl) (by kernel_rfl) (fun _ _ _ h => h) (by kernel_rfl) (fun W hSW => ?_) hH ?_
                  · clear hSW
                    go_simp
                  simp only [List.setIfInBounds_toArray, List.set_cons_zero, List.set_cons_succ]
                  refine wpAnyH_ready (rs := [29]) (by kernel_rfl) (by simp) (AllReadyH.cons rfl (fun K hK => ?_) AllReadyH.nil)
                  go_simp
                  refine (HKM.out _ hB7).mono ?_
                  rintro e w8 ⟨⟨A8, c8, rfl⟩, hb8⟩
                  have hB8 := hB7.next hb8
                  go_simp
                  refine hK.out _ _ (hH.next hb8 hg2 hh2) (fun hH => ?_)
                  clear hK K
                  refine Rg.take (i := 30) (d := 56) (v := .int .i64 b) rfl rfl (by kernel_rfl) (by kernel_rfl) (by kernel_rfl) (fun _ _ _ h => h) (by kernel_rfl) (fun W hSW => ?_) hH ?_
                  · clear hSW
                    go_simp
                  simp only [List.setIfInBounds_toArray, List.set_cons_zero, List.set_cons_succ]
                  refine Rg.take (i := 31) (d := 57) (v := .bool true) rfl rfl (by kernel_rfl) (by kernel_rfl) (by kernel_rfl) (fun _ _ _ h => h) (by kernel_rfl) (fun W hSW => ?_) hH ?_
                  · clear hSW
                    go_simp
                  simp only [List.setIfInBounds_toArray, List.set_cons_zero, List.set_cons_succ]
                  refine Rg.take (i := 32) (d := 58) (v := .bool true) rfl rfl (by kernel_rfl) (by kernel_rfl) (by kernel_rfl) (fun _ _ _ h => h) (by kernel_rfl) (fun W hSW => ?_) hH ?_
                  · clear hSW
                    go_simp
                  simp only [List.setIfInBounds_toArray, List.set_cons_zero, List.set_cons_succ]
                  refine Rg.take (i := 33) (d := 59) (v := .bool true) rfl rfl (by kernel_rfl) (by kernel_rfl) (by kernel_rfl) (fun _ _ _ h => h) (by kernel_rfl) (fun W hSW => ?_) hH ?_
                  · clear hSW
                    go_simp
                  simp only [List.setIfInBounds_toArray, List.set_cons_zero, List.set_cons_succ]
                  refine wpAnyH_done (by kernel_rfl) ?_ _
                  go_wp2_with fail
                  go_ret
                  refine ⟨ret_bool ?_, hB8⟩
                  symm
                  refine HGG.out _ ?_
                  rw [List.all_eq_false]
                  exact ⟨j, List.mem_range.2 (by rw [HNL.out]; exact hlt), by rw [HR.out]; simp⟩
        · obtain rfl : j = nl := by omega
          go_wp2_with fail
          go_ret
          refine ⟨ret_bool ?_, hB⟩
          symm
          refine HGG.out _ ?_
          rw [List.all_eq_true]
          intro q hq
          exact HALL.out q (by have := List.mem_range.1 hq; rw [HNL.out] at this; exact this)
    · have f0 : (F != 0) = true := by simpa using hF0
      have HGG := Lib.hid (HG.out false (by rw [decide_eq_false hF0]; simp))
      clear hF0
      go_wp2_with fail
      refine hC2.mono ?_
      rintro e w2 ⟨rfl, hb2⟩
      go_wp2_with fail
      go_ret
      exact ⟨ret_bool HGG.out.symm, hb1.next hb2⟩
  · have e0 : (E != 0) = true := by simpa using hE0
    have HGG := Lib.hid (HG.out false (by rw [decide_eq_false hE0]; simp))
    clear hE0
    go_enter Tryz.func22, Tryz.ntmps22
    go_wp2_with fail
    refine hC.mono ?_
    rintro e w1 ⟨rfl, hb1⟩
    go_wp2_with fail
    go_ret
    exact ⟨ret_bool HGG.out.symm, hb1⟩
end P7
end Go.Proofs.YtajbchecjbddgaaGreatDoor
