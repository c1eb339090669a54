/- Audit: the reference's Became, later. -/
import Derived.Test.YtajbchecjbddgaaGreatDoorNa
import Derived.Test.YtajbchecjbddgaaGreatDoorRk
import Derived.Test.YtajbchecjbddgaaGreatDoorH5
import Derived.Test.YtajbchecjbddgaaGreatDoorU8
namespace Go.Proofs.YtajbchecjbddgaaGreatDoor
open Go.RowKit
namespace P20
open P7

theorem refBecNeg {w : World} {vl vm : Value} {i : Int} (hi : i < 0) :
    Calls Tryz.prog 23 #[vl, vm, .int .i64 i] w fun e w' => e = .returned (.int .i64 i) ∧ Below w.heap.size w w' := by
  have f1 : decide (i < 0) = true := decide_eq_true hi
  clear hi
  go_enter Tryz.func23, Tryz.ntmps23
  go_wp2_with fail
  go_ret
  exact ⟨rfl, Below.refl _ _⟩
set_option maxRecDepth 100000 in
set_option maxHeartbeats 8000000 in
theorem refBec_any {w0 : World} {vl vm : Value} {l m : List Row} (hL : Sl w0 w0.heap.size 7 vl (rowsC l)) (hM : Sl w0 w0.heap.size 7 vm (rowsC m)) (hG : GrownT l m = true) (hl : l.length ≤ 40) (hm : m.length ≤ 40) :
    ∀ (i : Nat), i < l.length → ∀ w, Below w0.heap.size w0 w → Calls Tryz.prog 23 #[vl, vm, .int .i64 i] w fun e w' => e = .returned (.int .i64 (tN l m i : Nat)) ∧ Below w.heap.size w w' := by
  intro i
  induction i using Nat.strongRecOn with
  | ind i ih =>
  intro hi w hw
  obtain ⟨hTl, hTm, -⟩ := GrownT_iff.1 hG
  have HIH := Lib.hid ih
  have hup := hTl.up i hi hi
  have HHD : Hid (∀ p : Nat, (at_ l i).p = (p : Int) → (kids m (tN l m p : Nat))[(kidsTo l (p : Int) i).length]? = some (tN l m i) ∧ p < i) := Lib.hid (fun p hp => by
    have h := tN_head hG hi hp
    rw [List.getElem?_drop, Nat.add_zero] at h
    exact h)
  have HR0 : Hid (i = 0 → tN l m i = 0) := Lib.hid (fun e => by
    have h := tN_ff hG hi
    rw [e, FF_root hG] at h
    rw [e]
    exact (Option.some.inj h).symm)
  obtain ⟨Al, cl, hvl, hncl, hAl⟩ := rows_open hL
  obtain ⟨Am, cm, hvm, hncm, -⟩ := rows_open hM
  have HAL := Lib.hid hAl
  have HW := Lib.hid hw
  have HM := Lib.hid hM
  obtain ⟨nl, hnl⟩ := name_of l.length
  obtain ⟨nm, hnm⟩ := name_of m.length
  have HNL := Lib.hid hnl
  have HNM := Lib.hid hnm
  rw [hnl] at hvl hncl hl hi
  rw [hnm] at hvm hncm hm
  subst hvl hvm
  obtain ⟨X, hX⟩ := name_of (tN l m i)
  have HXX := Lib.hid hX
  rw [hX] at HHD HR0 ⊢
  clear hAl hL hM hnl hnm hX hw ih hTl hTm hG
  obtain ⟨g, off, eA, hg, c0, -⟩ := HAL.out i (by rw [HNL.out]; exact hi)
  subst eA
  have f1 : decide ((i : Int) < 0) = false := decide_eq_false (by omega)
  by_cases hp0 : (at_ l i).p < 0
  · have hi0 : i = 0 := by
      rcases Nat.eq_zero_or_pos i with e | e
      · exact e
      · have := hup.2 (by omega)
        omega
    have HV : Hid ((i : Int) = (X : Int)) := Lib.hid (by rw [HR0.out hi0, hi0])
    obtain ⟨P, hP⟩ := name_of (at_ l i).p
    rw [hP] at c0 hp0
    have d0 := (HW.out.cell (p := ⟨g, _, none⟩) hg).trans c0
    have f2 : decide (P < 0) = true := decide_eq_true hp0
    clear hup hp0 hP c0 hi0 HR0 HHD HIH
    go_enter Tryz.func23, Tryz.ntmps23
    go_wp2_with fail
    go_ret
    exact ⟨ret_i HV.out, Below.refl _ _⟩
  · have hp0' : 0 ≤ (at_ l i).p := by omega
    have hpi := hup.1
    obtain ⟨p, hp⟩ := Int.eq_ofNat_of_zero_le hp0'
    obtain ⟨hhd, hpi2⟩ := HHD.out p hp
    have HHH := Lib.hid hhd
    have HPP := Lib.hid hp
    rw [hp] at c0
    have d0 := (HW.out.cell (p := ⟨g, _, none⟩) hg).trans c0
    have f3 : decide ((p : Int) < 0) = false := decide_eq_false (by omega)
    have hRec := fun W (hW : Below w.heap.size w W) => HIH.out p hpi2 (by rw [HNL.out]; omega) W (HW.out.trans (hW.mono HW.out.size))
    obtain ⟨Y, hY⟩ := name_of (tN l m p)
    rw [hY] at hRec HHH
    have HRC := Lib.hid hRec
    clear hp0 hp0' hpi hp hhd hup c0 hY hRec HIH HHD HR0
    go_enter Tryz.func23, Tryz.ntmps23
    go_wp2_with fail
    go_loopw [8, 7] (fun x y wr => ∃ k : Nat, k ≤ i ∧ x = .int .i64 k ∧ y = .int .i64 ((kidsTo l (p : Int) k).length : Nat) ∧ Below w.heap.size w wr) (fun x _ _ => i - (intOf x).toNat)
    case atStart => exact ⟨0, Nat.zero_le _, rfl, rfl, Below.refl _ _⟩
    case round =>
      clear d0
      obtain ⟨k, hk, rfl, rfl, hB⟩ := hrel
      have hBw : Below w0.heap.size w0 wr := HW.out.trans (hB.mono HW.out.size)
      obtain ⟨g1, off1, e1, hg1, r0, -⟩ := HAL.out i (by rw [HNL.out]; exact hi)
      injection e1 with e1
      injection e1 with e1a e1b _
      subst e1a e1b
      have d0 := (hBw.cell (p := ⟨g, _, none⟩) hg1).trans r0
      have HPI := HPP.out
      rw [HPI] at d0
      by_cases hki : k < i
      · obtain ⟨g2, off2, e2, hg2, s0, -⟩ := HAL.out k (by rw [HNL.out]; omega)
        injection e2 with e2
        injection e2 with e2a e2b _
        subst e2a e2b
        have z0 := (hBw.cell (p := ⟨g, _, none⟩) hg2).trans s0
        have HSU : Hid (kidsTo l (p : Int) (k + 1) = kidsTo l (p : Int) k ++ if (at_ l k).p = (p : Int) then [k] else []) := Lib.hid (kidsTo_succ l p k)
        have hkn : k < nl := by omega
        have hkl := kidsTo_len l (p : Int) k
        obtain ⟨Z, hZ⟩ := name_of (at_ l k).p
        rw [hZ] at z0 HSU
        obtain ⟨N, hN⟩ := name_of (kidsTo l (p : Int) k).length
        rw [hN] at hkl ⊢
        have HN := Lib.hid hN
        clear r0 s0 hZ hN HPI
        by_cases hz : Z = (p : Int)
        · have f5 : (Z == (p : Int)) = true := by simpa using hz
          have HL : Hid (((kidsTo l (p : Int) (k + 1)).length : Int) = (N : Int) + 1) := Lib.hid (by rw [HSU.out, if_pos hz, List.length_append, HN.out]; simp)
          clear hz
          go_wp2_with fail
          go_quiet (fail)
          go_wp2_with fail
          exact ⟨⟨k + 1, by omega, by go_num, by rw [HL.out], hB.next (below_drewN _)⟩, by simp [intOf]; omega⟩
        · have f5 : (Z == (p : Int)) = false := by simpa using hz
          have HL : Hid (((kidsTo l (p : Int) (k + 1)).length : Int) = (N : Int)) := Lib.hid (by rw [HSU.out, if_neg hz, List.append_nil, HN.out])
          clear hz
          go_wp2_with fail
          go_quiet (fail)
          go_wp2_with fail
          exact ⟨⟨k + 1, by omega, by go_num, by rw [HL.out], hB.next (below_drewN _)⟩, by simp [intOf]; omega⟩
      · obtain rfl : k = i := by omega
        have hR := HRC.out wr hB
        obtain ⟨N, hN⟩ := name_of (kidsTo l (p : Int) k).length
        have hNk := kidsTo_len l (p : Int) k
        rw [hN] at HHH hNk ⊢
        clear r0 HPI hN hki
        go_wp2_with fail
        refine hR.mono ?_
        clear hR d0
        rintro e w3 ⟨rfl, hb3⟩
        have hB3 := hB.next hb3
        have hK := refKids_any (HM.out.next (HW.out.trans (hB3.mono HW.out.size))) (by rw [HNM.out]; omega) (Y : Int)
        have HB3 := Lib.hid hB3
        clear hb3 hB3 hB hBw
        go_wp2_with fail
        refine hK.mono ?_
        clear hK
        rintro e w4 ⟨⟨A4, c4, rfl, hs4⟩, hb4⟩
        have HB4 := Lib.hid (HB3.out.next hb4)
        have hN4 := (List.getElem?_eq_some_iff.1 HHH.out).1
        obtain ⟨A5, n5, c5, e5, hnc5, hn5, hA5⟩ := hs4
        injection e5 with e5 e6 e7
        rw [P7.iv_length, Nat.mul_one] at hn5
        obtain ⟨K, hK⟩ := name_of (kids m (Y : Int)).length
        rw [hK] at hN4 e6 hn5 ⊢
        obtain ⟨b5, o5, e8, hb5, hr5⟩ := hA5 (by omega)
        have e9 := e5.trans e8
        subst e9
        have y0 : w4.cell? ⟨b5, o5 + N, none⟩ = some (.int .i64 (X : Nat)) := hr5 N _ (by
          unfold P7.iv
          rw [List.getElem?_map, HHH.out]
          rfl)
        clear hb4 hnc5 hn5 hA5 hr5 hb5 hK e5 e6 e7 e8
        go_wp2_with fail
        go_ret
        exact ⟨rfl, HB4.out⟩
/-- Two boxes of shots. -/
structure TwB (W0 : World) (P : Nat) (a b : Array Value) (W : World) : Prop where
  gr : Below W0.heap.size W0 W
  ba : W.heap[P]? = some (.cells a 26 (0, 0))
  bb : W.heap[P + 1]? = some (.cells b 26 (0, 0))
theorem TwB.next {W0 W W' : World} {P : Nat} {a b : Array Value} (h : TwB W0 P a b W) (hb : Below W.heap.size W W') : TwB W0 P a b W' :=
  ⟨h.gr.next hb, blk_next h.ba hb, blk_next h.bb hb⟩
theorem TwB.cells {W0 W : World} {P : Nat} {a0 a1 a2 b0 b1 b2 : Value} (h : TwB W0 P #[a0, a1, a2] #[b0, b1, b2] W) :
    W.cell? ⟨P, 0, none⟩ = some a0 ∧ W.cell? ⟨P, 1, none⟩ = some a1 ∧ W.cell? ⟨P, 2, none⟩ = some a2 ∧ W.cell? ⟨P + 1, 0, none⟩ = some b0 ∧ W.cell? ⟨P + 1, 1, none⟩ = some b1 ∧ W.cell? ⟨P + 1, 2, none⟩ = some b2 :=
  ⟨(cell_of_row _ _ _ _ _ _ h.ba).trans rfl, (cell_of_row _ _ _ _ _ _ h.ba).trans rfl, (cell_of_row _ _ _ _ _ _ h.ba).trans rfl, (cell_of_row _ _ _ _ _ _ h.bb).trans rfl, (cell_of_row _ _ _ _ _ _ h.bb).trans rfl, (cell_of_row _ _ _ _ _ _ h.bb).trans rfl⟩
/-- The boxes, and a scope's row and K. -/
def LtS (V : World) (P : Nat) (a b : Array Value) (g o : Nat) (r k : Int) (W : World) : Prop := TwB V P a b W ∧ W.cell? ⟨g, o, none⟩ = some (.int .i64 r) ∧ W.cell? ⟨g, o + 1, none⟩ = some (.int .i64 k)
theorem LtS.next {V W W' : World} {P g o : Nat} {a b : Array Value} {r k : Int} (h : LtS V P a b g o r k W) (hb : Below W.heap.size W W') (hg : g < V.heap.size) : LtS V P a b g o r k W' :=
  ⟨h.1.next hb, (hb.cell (p := ⟨g, _, none⟩) (Nat.lt_of_lt_of_le hg h.1.gr.size)).trans h.2.1, (hb.cell (p := ⟨g, _, none⟩) (Nat.lt_of_lt_of_le hg h.1.gr.size)).trans h.2.2⟩
set_option maxRecDepth 100000 in
set_option maxHeartbeats 8000000 in
theorem later_any {w : World} {Ar As Aw Br Bs Bw : Option Addr} {nar car nas cas naw caw nbr cbr nbs cbs nbw cbw : Nat} {a b : Sh} (hA : Shm w (.slice Ar nar car) (.slice As nas cas) (.slice Aw naw caw) a) (hB : Shm w (.slice Br nbr cbr) (.slice Bs nbs cbs) (.slice Bw nbw cbw) b)
    (hG : GrownT a.l b.l = true) (hfa : FewS a) (hfb : FewS b) (i : Nat) (hi : i < a.sc.length) (hr : (sA a.sc i).r < a.l.length) :
    Calls Tryz.prog 24 #[.agg #[.slice Ar nar car, .slice As nas cas, .slice Aw naw caw], .agg #[.slice Br nbr cbr, .slice Bs nbs cbs, .slice Bw nbw cbw], .int .i64 i] w fun e w' => e = .returned (.int .i64 (inI (ltN a b i))) ∧ Below w.heap.size w w' := by
  obtain ⟨V, hV⟩ := name_of ((w.alloc (.cells #[.slice Ar nar car, .slice As nas cas, .slice Aw naw caw] 26)).alloc (.cells #[.slice Br nbr cbr, .slice Bs nbs cbs, .slice Bw nbw cbw] 26))
  have hbV : Below w.heap.size w V := by rw [← hV]; go_grown
  have hTB : TwB V w.heap.size #[.slice Ar nar car, .slice As nas cas, .slice Aw naw caw] #[.slice Br nbr cbr, .slice Bs nbs cbs, .slice Bw nbw cbw] V := by
    rw [← hV]
    exact ⟨Below.refl _ _, heap_alloc2_old w _ _, heap_alloc2_new w _ _⟩
  obtain ⟨A', c', e1, hnc, hAs⟩ := scs_open (hA.next hbV).scs
  injection e1 with e1 e2 e3
  subst e1 e3
  obtain ⟨g, off, hAg, hg, hc⟩ := hAs i hi
  subst hAg
  obtain ⟨c0, c1, -⟩ := hc
  have hsz := hfa.sc
  have hBc : ∀ W, Below V.heap.size V W → Calls Tryz.prog 23 #[.slice Ar nar car, .slice Br nbr cbr, .int .i64 (sA a.sc i).r] W fun e w' => e = .returned (.int .i64 (toR a b (sA a.sc i).r)) ∧ Below W.heap.size W w' := fun W hW => by
    unfold toR
    by_cases h0 : 0 ≤ (sA a.sc i).r
    · obtain ⟨j, hj⟩ := Int.eq_ofNat_of_zero_le h0
      rw [if_pos h0, hj]
      exact refBec_any ((hA.next hbV).rows.sl) ((hB.next hbV).rows.sl) hG hfa.l hfb.l j (by rw [hj] at hr; omega) W hW
    · rw [if_neg h0]
      exact refBecNeg (by omega)
  have hFd := fun W (hW : Below V.heap.size V W) => refFind_any ((hB.next hbV).next hW) (by have := hfb.sc; omega) (toR a b (sA a.sc i).r) (sA a.sc i).k
  have HL : Hid (fnd b.sc (toR a b (sA a.sc i).r) (sA a.sc i).k = ltN a b i) := Lib.hid rfl
  rw [HL.out] at hFd
  obtain ⟨r, hrr⟩ := name_of (sA a.sc i).r
  obtain ⟨k, hkk⟩ := name_of (sA a.sc i).k
  rw [hrr] at c0 hBc hFd
  rw [hkk] at c1 hFd
  obtain ⟨q, hq⟩ := name_of (toR a b r)
  rw [hq] at hBc hFd
  obtain ⟨X, hX⟩ := name_of (inI (ltN a b i))
  rw [hX] at hFd ⊢
  have hin : i < nas := by omega
  have hLS : LtS V w.heap.size #[.slice Ar nar car, .slice (some ⟨g, off, none⟩) nas cas, .slice Aw naw caw] #[.slice Br nbr cbr, .slice Bs nbs cbs, .slice Bw nbw cbw] g (off + i * 6) r k V := ⟨hTB, c0, c1⟩
  have HBC := Lib.hid hBc
  have HFD := Lib.hid hFd
  have HBV := Lib.hid hbV
  clear hA hB hG hfa hfb hi hr hAs hBc hFd hrr hkk hq hX hTB HL e2 c0 c1 hbV
  go_enter Tryz.func24, Tryz.ntmps24
  go_upto_region 1 with fail
  clear hV
  refine wp_region_held_drew (S := (fun W => LtS V w.heap.size #[.slice Ar nar car, .slice (some ⟨g, off, none⟩) nas cas, .slice Aw naw caw] #[.slice Br nbr cbr, .slice Bs nbs cbs, .slice Bw nbw cbw] g (off + i * 6) r k W)) (by kernel_rfl) (hLS.next below_drewU hg) (fun hH => ?_)
  refine Rg.take (i := 0) (d := 7) (v := .agg #[.slice Br nbr cbr, .slice Bs nbs cbs, .slice Bw nbw cbw]) rfl rfl (by kernel_rfl) (by kernel_rfl) (by kernel_rfl) (fun _ _ _ h => h) (by kernel_rfl) (fun W hSW => ?_) hH ?_
  · obtain ⟨q0, q1, q2, q3, q4, q5⟩ := hSW.1.cells
    go_simp
  simp only [List.setIfInBounds_toArray, List.set_cons_zero, List.set_cons_succ]
  refine Rg.take (i := 1) (d := 8) (v := .pointer (some ⟨w.heap.size, 0, none⟩)) rfl rfl (by kernel_rfl) (by kernel_rfl) (by kernel_rfl) (fun _ _ _ h => h) (by kernel_rfl) (fun W hSW => ?_) hH ?_
  · clear hSW
    go_simp
  simp only [List.setIfInBounds_toArray, List.set_cons_zero, List.set_cons_succ]
  refine Rg.take (i := 2) (d := 9) (v := .slice Ar nar car) rfl rfl (by kernel_rfl) (by kernel_rfl) (by kernel_rfl) (fun _ _ _ h => h) (by kernel_rfl) (fun W hSW => ?_) hH ?_
  · obtain ⟨q0, q1, q2, q3, q4, q5⟩ := hSW.1.cells
    go_simp
  simp only [List.setIfInBounds_toArray, List.set_cons_zero, List.set_cons_succ]
  refine Rg.take (i := 3) (d := 10) (v := .pointer (some ⟨w.heap.size + 1, 0, none⟩)) rfl rfl (by kernel_rfl) (by kernel_rfl) (by kernel_rfl) (fun _ _ _ h => h) (by kernel_rfl) (fun W hSW => ?_) hH ?_
  · clear hSW
    go_simp
  simp only [List.setIfInBounds_toArray, List.set_cons_zero, List.set_cons_succ]
  refine Rg.take (i := 4) (d := 11) (v := .slice Br nbr cbr) rfl rfl (by kernel_rfl) (by kernel_rfl) (by kernel_rfl) (fun _ _ _ h => h) (by kernel_rfl) (fun W hSW => ?_) hH ?_
  · obtain ⟨q0, q1, q2, q3, q4, q5⟩ := hSW.1.cells
    go_simp
  simp only [List.setIfInBounds_toArray, List.set_cons_zero, List.set_cons_succ]
  refine Rg.take (i := 5) (d := 12) (v := .pointer (some ⟨w.heap.size, 1, none⟩)) rfl rfl (by kernel_rfl) (by kernel_rfl) (by kernel_rfl) (fun _ _ _ h => h) (by kernel_rfl) (fun W hSW => ?_) hH ?_
  · clear hSW
    go_simp
  simp only [List.setIfInBounds_toArray, List.set_cons_zero, List.set_cons_succ]
  refine Rg.take (i := 6) (d := 13) (v := .slice (some ⟨g, off, none⟩) nas cas) rfl rfl (by kernel_rfl) (by kernel_rfl) (by kernel_rfl) (fun _ _ _ h => h) (by kernel_rfl) (fun W hSW => ?_) hH ?_
  · obtain ⟨q0, q1, q2, q3, q4, q5⟩ := hSW.1.cells
    go_simp
  simp only [List.setIfInBounds_toArray, List.set_cons_zero, List.set_cons_succ]
  refine Rg.take (i := 7) (d := 14) (v := .int .i64 i) rfl rfl (by kernel_rfl) (by kernel_rfl) (by kernel_rfl) (fun _ _ _ h => h) (by kernel_rfl) (fun W hSW => ?_) hH ?_
  · clear hSW
    go_simp
  simp only [List.setIfInBounds_toArray, List.set_cons_zero, List.set_cons_succ]
  refine Rg.take (i := 8) (d := 15) (v := .pointer (some ⟨g, off + i * 6, none⟩)) rfl rfl (by kernel_rfl) (by kernel_rfl) (by kernel_rfl) (fun _ _ _ h => h) (by kernel_rfl) (fun W hSW => ?_) hH ?_
  · clear hSW
    go_simp
  simp only [List.setIfInBounds_toArray, List.set_cons_zero, List.set_cons_succ]
  refine Rg.take (i := 9) (d := 16) (v := .pointer (some ⟨g, off + i * 6, none⟩)) rfl rfl (by kernel_rfl) (by kernel_rfl) (by kernel_rfl) (fun _ _ _ h => h) (by kernel_rfl) (fun W hSW => ?_) hH ?_
  · clear hSW
    go_simp
  simp only [List.setIfInBounds_toArray, List.set_cons_zero, List.set_cons_succ]
  refine Rg.take (i := 10) (d := 17) (v := .int .i64 r) rfl rfl (by kernel_rfl) (by kernel_rfl) (by kernel_rfl) (fun _ _ _ h => h) (by kernel_rfl) (fun W hSW => ?_) hH ?_
  · obtain ⟨-, q0, q1⟩ := hSW
    go_simp
  simp only [List.setIfInBounds_toArray, List.set_cons_zero, List.set_cons_succ]
  refine Rg.take (i := 12) (d := 19) (v := .pointer (some ⟨w.heap.size, 1, none⟩)) rfl rfl (by kernel_rfl) (by kernel_rfl) (by kernel_rfl) (fun _ _ _ h => h) (by kernel_rfl) (fun W hSW => ?_) hH ?_
  · clear hSW
    go_simp
  simp only [List.setIfInBounds_toArray, List.set_cons_zero, List.set_cons_succ]
  refine Rg.take (i := 13) (d := 20) (v := .slice (some ⟨g, off, none⟩) nas cas) rfl rfl (by kernel_rfl) (by kernel_rfl) (by kernel_rfl) (fun _ _ _ h => h) (by kernel_rfl) (fun W hSW => ?_) hH ?_
  · obtain ⟨q0, q1, q2, q3, q4, q5⟩ := hSW.1.cells
    go_simp
  simp only [List.setIfInBounds_toArray, List.set_cons_zero, List.set_cons_succ]
  refine Rg.take (i := 14) (d := 21) (v := .int .i64 i) rfl rfl (by kernel_rfl) (by kernel_rfl) (by kernel_rfl) (fun _ _ _ h => h) (by kernel_rfl) (fun W hSW => ?_) hH ?_
  · clear hSW
    go_simp
  simp only [List.setIfInBounds_toArray, List.set_cons_zero, List.set_cons_succ]
  refine Rg.take (i := 15) (d := 22) (v := .pointer (some ⟨g, off + i * 6, none⟩)) rfl rfl (by kernel_rfl) (by kernel_rfl) (by kernel_rfl) (fun _ _ _ h => h) (by kernel_rfl) (fun W hSW => ?_) hH ?_
  · clear hSW
    go_simp
  simp only [List.setIfInBounds_toArray, List.set_cons_zero, List.set_cons_succ]
  refine Rg.take (i := 16) (d := 23) (v := .pointer (some ⟨g, off + i * 6 + 1, none⟩)) rfl rfl (by kernel_rfl) (by kernel_rfl) (by kernel_rfl) (fun _ _ _ h => h) (by kernel_rfl) (fun W hSW => ?_) hH ?_
  · clear hSW
    go_simp
  simp only [List.setIfInBounds_toArray, List.set_cons_zero, List.set_cons_succ]
  refine Rg.take (i := 17) (d := 24) (v := .int .i64 k) rfl rfl (by kernel_rfl) (by kernel_rfl) (by kernel_rfl) (fun _ _ _ h => h) (by kernel_rfl) (fun W hSW => ?_) hH ?_
  · obtain ⟨-, q0, q1⟩ := hSW
    go_simp
  simp only [List.setIfInBounds_toArray, List.set_cons_zero, List.set_cons_succ]
  refine wpAnyH_ready (rs := [11]) (by kernel_rfl) (by simp) (AllReadyH.cons rfl (fun K hK => ?_) AllReadyH.nil)
  go_simp
  refine ((HBC.out _ hH.1.gr)).mono ?_
  rintro e X1 ⟨rfl, hb⟩
  go_simp
  refine hK.out _ _ (hH.next hb hg) (fun hH => ?_)
  clear hK K
  clear hb
  refine wpAnyH_ready (rs := [18]) (by kernel_rfl) (by simp) (AllReadyH.cons rfl (fun K hK => ?_) AllReadyH.nil)
  go_simp
  refine ((HFD.out _ hH.1.gr)).mono ?_
  rintro e X2 ⟨rfl, hb⟩
  go_simp
  refine hK.out _ _ (hH.next hb hg) (fun hH => ?_)
  clear hK K
  clear hb
  refine Rg.take (i := 19) (d := 6) (v := .int .i64 X) rfl rfl (by kernel_rfl) (by kernel_rfl) (by kernel_rfl) (fun _ _ _ h => h) (by kernel_rfl) (fun W hSW => ?_) hH ?_
  · clear hSW
    go_simp
  simp only [List.setIfInBounds_toArray, List.set_cons_zero, List.set_cons_succ]
  refine wpAnyH_done (by kernel_rfl) ?_ _
  go_wp2_with fail
  go_ret
  exact ⟨rfl, HBV.out.trans (Below.mono hH.1.gr HBV.out.size)⟩
end P20
end Go.Proofs.YtajbchecjbddgaaGreatDoor
