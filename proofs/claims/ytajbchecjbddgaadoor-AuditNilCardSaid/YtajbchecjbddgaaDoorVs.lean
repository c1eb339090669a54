/- Audit: the law AuditStays. -/
import Derived.Test.YtajbchecjbddgaaDoorH7
import Derived.Test.YtajbchecjbddgaaDoorVw
import Derived.Test.YtajbchecjbddgaaDoorVg
import Derived.Deep.CutRange
namespace Go.Proofs.YtajbchecjbddgaaDoor
open Go.RowKit
namespace P20
open P7

/-- Two boxes of shots. -/
structure TwB (W0 : World) (P : Nat) (a b : Array Value) (W : World) : Prop where
  gr : Below W0.heap.size W0 W
  ba : W.heap[P]? = some (.cells a 26 (0, 0))
  bb : W.heap[P + 1]? = some (.cells b 26 (0, 0))
theorem TwB.next {W0 W W' : World} {P : Nat} {a b : Array Value} (h : TwB W0 P a b W) (hb : Below W.heap.size W W') : TwB W0 P a b W' :=
  ⟨h.gr.next hb, blk_next h.ba hb, blk_next h.bb hb⟩
theorem TwB.cells {W0 W : World} {P : Nat} {a0 a1 a2 b0 b1 b2 : Value} (h : TwB W0 P #[a0, a1, a2] #[b0, b1, b2] W) :
    W.cell? ⟨P, 0, none⟩ = some a0 ∧ W.cell? ⟨P, 1, none⟩ = some a1 ∧ W.cell? ⟨P, 2, none⟩ = some a2 ∧ W.cell? ⟨P + 1, 0, none⟩ = some b0 ∧ W.cell? ⟨P + 1, 1, none⟩ = some b1 ∧ W.cell? ⟨P + 1, 2, none⟩ = some b2 :=
  ⟨(cell_of_row _ _ _ _ _ _ h.ba).trans rfl, (cell_of_row _ _ _ _ _ _ h.ba).trans rfl, (cell_of_row _ _ _ _ _ _ h.ba).trans rfl, (cell_of_row _ _ _ _ _ _ h.bb).trans rfl, (cell_of_row _ _ _ _ _ _ h.bb).trans rfl, (cell_of_row _ _ _ _ _ _ h.bb).trans rfl⟩
set_option maxRecDepth 100000 in
set_option maxHeartbeats 16000000 in
theorem auditStays_any (hAw : AwP) {w : World} {var vas vaw vbr vbs vbw : Value} {a b : Sh} (hA : Shm w var vas vaw a) (hB : Shm w vbr vbs vbw b) :
    Calls Tryd.prog 6 #[.agg #[var, vas, vaw], .agg #[vbr, vbs, vbw]] w fun e w' => e = .returned (.bool true) ∧ Below w.heap.size w w' := by
  obtain ⟨Ar, car, hra, -, -⟩ := rows_open hA.rows.sl
  obtain ⟨As, cas, hsa, hnca, hAs⟩ := scs_open hA.scs
  obtain ⟨Aw, caw, hwa, -, -⟩ := hA.wks.open_
  have HAS := Lib.hid hAs
  obtain ⟨nar, hnar⟩ := name_of a.l.length
  obtain ⟨nas, hnas⟩ := name_of a.sc.length
  obtain ⟨naw, hnaw⟩ := name_of a.ws.length
  have HNAR := Lib.hid hnar
  have HNAS := Lib.hid hnas
  rw [hnar] at hra
  rw [hnas] at hsa hnca
  rw [hnaw] at hwa
  subst hra hsa hwa
  clear hnar hnas hnaw hAs
  obtain ⟨Br, cbr, hrb, -, -⟩ := rows_open hB.rows.sl
  obtain ⟨Bs, cbs, hsb, hncb, hBs⟩ := scs_open hB.scs
  obtain ⟨Bw, cbw, hwb, -, -⟩ := hB.wks.open_
  have HBS := Lib.hid hBs
  obtain ⟨nbr, hnbr⟩ := name_of b.l.length
  obtain ⟨nbs, hnbs⟩ := name_of b.sc.length
  obtain ⟨nbw, hnbw⟩ := name_of b.ws.length
  have HNBR := Lib.hid hnbr
  have HNBS := Lib.hid hnbs
  rw [hnbr] at hrb
  rw [hnbs] at hsb hncb
  rw [hnbw] at hwb
  subst hrb hsb hwb
  clear hnbr hnbs hnbw hBs
  obtain ⟨V, hV⟩ := name_of ((w.alloc (.cells #[.slice Ar nar car, .slice As nas cas, .slice Aw naw caw] 26)).alloc (.cells #[.slice Br nbr cbr, .slice Bs nbs cbs, .slice Bw nbw cbw] 26))
  have hbV : Below w.heap.size w V := by rw [← hV]; go_grown
  have hTB : TwB V w.heap.size #[.slice Ar nar car, .slice As nas cas, .slice Aw naw caw] #[.slice Br nbr cbr, .slice Bs nbs cbs, .slice Bw nbw cbw] V := by
    rw [← hV]
    exact ⟨Below.refl _ _, heap_alloc2_old w _ _, heap_alloc2_new w _ _⟩
  have HBV := Lib.hid hbV
  have HA := Lib.hid (hA.next hbV)
  have HB := Lib.hid (hB.next hbV)
  have hVs := hbV.size
  have HAV : Hid (∀ k, k < nas → ∃ g off, As = some ⟨g, off, none⟩ ∧ g < V.heap.size ∧ ScAt V g (off + k * 6) (sA a.sc k)) := Lib.hid (fun k hk => by
    obtain ⟨g, off, e, hg, hc⟩ := HAS.out k (by rw [HNAS.out]; exact hk)
    exact ⟨g, off, e, Nat.lt_of_lt_of_le hg hVs, hc.below hbV hg⟩)
  have HBV2 : Hid (∀ k, k < nbs → ∃ g off, Bs = some ⟨g, off, none⟩ ∧ g < V.heap.size ∧ ScAt V g (off + k * 6) (sA b.sc k)) := Lib.hid (fun k hk => by
    obtain ⟨g, off, e, hg, hc⟩ := HBS.out k (by rw [HNBS.out]; exact hk)
    exact ⟨g, off, e, Nat.lt_of_lt_of_le hg hVs, hc.below hbV hg⟩)
  have hTB1 := hTB
  have HTB := Lib.hid hTB
  clear hA hB hbV hTB HAS HBS hVs
  go_enter Tryd.func6, Tryd.ntmps6
  go_upto_region 1 with fail
  clear hV
  go_cut [29] from 14 to 29 (fun x wx => ∃ Z : Bool, x = .bool Z ∧ Hid (Z = false → FewS a ∧ FewS b ∧ nxt a b = 0) ∧ TwB V w.heap.size #[.slice Ar nar car, .slice As nas cas, .slice Aw naw caw] #[.slice Br nbr cbr, .slice Bs nbs cbs, .slice Bw nbw cbw] wx)
  case first =>
    refine wp_region_held_drew (S := (fun W => TwB V w.heap.size #[.slice Ar nar car, .slice As nas cas, .slice Aw naw caw] #[.slice Br nbr cbr, .slice Bs nbs cbs, .slice Bw nbw cbw] W)) (by kernel_rfl) (TwB.next hTB1 below_drewU) (fun hH => ?_)
    refine Rg.take (i := 0) (d := 14) (v := .agg #[.slice Ar nar car, .slice As nas cas, .slice Aw naw caw]) rfl rfl (by kernel_rfl) (by kernel_rfl) (by kernel_rfl) (fun _ _ _ h => h) (by kernel_rfl) (fun W hSW => ?_) hH ?_
    · obtain ⟨q0, q1, q2, -, -, -⟩ := TwB.cells hSW
      go_simp
    simp only [List.setIfInBounds_toArray, List.set_cons_zero, List.set_cons_succ]
    refine wpAnyH_ready (rs := [1]) (by kernel_rfl) (by simp) (AllReadyH.cons rfl (fun K hK => ?_) AllReadyH.nil)
    go_simp
    refine (few20_any (HA.out.next hH.gr)).mono ?_
    rintro e w2 ⟨⟨z, rfl, hz⟩, hb⟩
    have HZ := Lib.hid hz
    clear hz
    go_simp
    refine hK.out _ _ (TwB.next hH hb) (fun hH => ?_)
    clear hK K
    clear hb
    cases z with
    | false =>
      refine Rg.take (i := 2) (d := 16) (v := .bool true) rfl rfl (by kernel_rfl) (by kernel_rfl) (by kernel_rfl) (fun _ _ _ h => h) (by kernel_rfl) (fun W hSW => ?_) hH ?_
      · clear hSW
        go_simp
      simp only [List.setIfInBounds_toArray, List.set_cons_zero, List.set_cons_succ]
      refine Rg.take (i := 3) (d := 17) (v := .bool true) rfl rfl (by kernel_rfl) (by kernel_rfl) (by kernel_rfl) (fun _ _ _ h => h) (by kernel_rfl) (fun W hSW => ?_) hH ?_
      · clear hSW
        go_simp
      simp only [List.setIfInBounds_toArray, List.set_cons_zero, List.set_cons_succ]
      refine Rg.skips_of (fuel' := 9) [4, 5, 6] [18, 19, 20] (by kernel_rfl) (fun _ _ _ _ _ h => h) hH rfl (by kernel_rfl) ?_
      simp only [Rg.puts, List.setIfInBounds_toArray, List.set_cons_zero, List.set_cons_succ]
      refine Rg.take (i := 7) (d := 21) (v := .bool true) rfl rfl (by kernel_rfl) (by kernel_rfl) (by kernel_rfl) (fun _ _ _ h => h) (by kernel_rfl) (fun W hSW => ?_) hH ?_
      · clear hSW
        go_simp
      simp only [List.setIfInBounds_toArray, List.set_cons_zero, List.set_cons_succ]
      refine Rg.take (i := 8) (d := 22) (v := .bool true) rfl rfl (by kernel_rfl) (by kernel_rfl) (by kernel_rfl) (fun _ _ _ h => h) (by kernel_rfl) (fun W hSW => ?_) hH ?_
      · clear hSW
        go_simp
      simp only [List.setIfInBounds_toArray, List.set_cons_zero, List.set_cons_succ]
      refine Rg.skips_of (fuel' := 1) [9, 10, 11, 12, 13, 14] [23, 24, 25, 26, 27, 28] (by kernel_rfl) (fun _ _ _ _ _ h => h) hH rfl (by kernel_rfl) ?_
      simp only [Rg.puts, List.setIfInBounds_toArray, List.set_cons_zero, List.set_cons_succ]
      refine Rg.take (i := 15) (d := 29) (v := .bool true) rfl rfl (by kernel_rfl) (by kernel_rfl) (by kernel_rfl) (fun _ _ _ h => h) (by kernel_rfl) (fun W hSW => ?_) hH ?_
      · clear hSW
        go_simp
      simp only [List.setIfInBounds_toArray, List.set_cons_zero, List.set_cons_succ]
      refine wpAnyH_done (by kernel_rfl) ?_ _
      go_wp2_with fail
      go_meet
      exact ⟨_, rfl, Lib.hid (fun h => by cases h), hH⟩
    | true =>
      have HFA := Lib.hid (HZ.out rfl)
      refine Rg.take (i := 2) (d := 16) (v := .bool false) rfl rfl (by kernel_rfl) (by kernel_rfl) (by kernel_rfl) (fun _ _ _ h => h) (by kernel_rfl) (fun W hSW => ?_) hH ?_
      · clear hSW
        go_simp
      simp only [List.setIfInBounds_toArray, List.set_cons_zero, List.set_cons_succ]
      refine Rg.take (i := 3) (d := 17) (v := .bool false) rfl rfl (by kernel_rfl) (by kernel_rfl) (by kernel_rfl) (fun _ _ _ h => h) (by kernel_rfl) (fun W hSW => ?_) hH ?_
      · clear hSW
        go_simp
      simp only [List.setIfInBounds_toArray, List.set_cons_zero, List.set_cons_succ]
      refine Rg.take (i := 4) (d := 18) (v := .agg #[.slice Br nbr cbr, .slice Bs nbs cbs, .slice Bw nbw cbw]) rfl rfl (by kernel_rfl) (by kernel_rfl) (by kernel_rfl) (fun _ _ _ h => h) (by kernel_rfl) (fun W hSW => ?_) hH ?_
      · obtain ⟨-, -, -, q3, q4, q5⟩ := TwB.cells hSW
        go_simp
      simp only [List.setIfInBounds_toArray, List.set_cons_zero, List.set_cons_succ]
      refine wpAnyH_ready (rs := [5]) (by kernel_rfl) (by simp) (AllReadyH.cons rfl (fun K hK => ?_) AllReadyH.nil)
      go_simp
      refine (few20_any (HB.out.next hH.gr)).mono ?_
      rintro e w3 ⟨⟨z, rfl, hz⟩, hb⟩
      have HY := Lib.hid hz
      clear hz
      go_simp
      refine hK.out _ _ (TwB.next hH hb) (fun hH => ?_)
      clear hK K
      clear hb
      cases z with
      | false =>
        refine Rg.take (i := 6) (d := 20) (v := .bool true) rfl rfl (by kernel_rfl) (by kernel_rfl) (by kernel_rfl) (fun _ _ _ h => h) (by kernel_rfl) (fun W hSW => ?_) hH ?_
        · clear hSW
          go_simp
        simp only [List.setIfInBounds_toArray, List.set_cons_zero, List.set_cons_succ]
        refine Rg.take (i := 7) (d := 21) (v := .bool true) rfl rfl (by kernel_rfl) (by kernel_rfl) (by kernel_rfl) (fun _ _ _ h => h) (by kernel_rfl) (fun W hSW => ?_) hH ?_
        · clear hSW
          go_simp
        simp only [List.setIfInBounds_toArray, List.set_cons_zero, List.set_cons_succ]
        refine Rg.take (i := 8) (d := 22) (v := .bool true) rfl rfl (by kernel_rfl) (by kernel_rfl) (by kernel_rfl) (fun _ _ _ h => h) (by kernel_rfl) (fun W hSW => ?_) hH ?_
        · clear hSW
          go_simp
        simp only [List.setIfInBounds_toArray, List.set_cons_zero, List.set_cons_succ]
        refine Rg.skips_of (fuel' := 1) [9, 10, 11, 12, 13, 14] [23, 24, 25, 26, 27, 28] (by kernel_rfl) (fun _ _ _ _ _ h => h) hH rfl (by kernel_rfl) ?_
        simp only [Rg.puts, List.setIfInBounds_toArray, List.set_cons_zero, List.set_cons_succ]
        refine Rg.take (i := 15) (d := 29) (v := .bool true) rfl rfl (by kernel_rfl) (by kernel_rfl) (by kernel_rfl) (fun _ _ _ h => h) (by kernel_rfl) (fun W hSW => ?_) hH ?_
        · clear hSW
          go_simp
        simp only [List.setIfInBounds_toArray, List.set_cons_zero, List.set_cons_succ]
        refine wpAnyH_done (by kernel_rfl) ?_ _
        go_wp2_with fail
        go_meet
        exact ⟨_, rfl, Lib.hid (fun h => by cases h), hH⟩
      | true =>
        have HFB := Lib.hid (HY.out rfl)
        obtain ⟨E, hE⟩ := name_of (nxt a b)
        have HE := Lib.hid hE
        have hN : ∀ W, TwB V w.heap.size #[.slice Ar nar car, .slice As nas cas, .slice Aw naw caw] #[.slice Br nbr cbr, .slice Bs nbs cbs, .slice Bw nbw cbw] W → Calls Tryd.prog 16 #[.agg #[.slice Ar nar car, .slice As nas cas, .slice Aw naw caw], .agg #[.slice Br nbr cbr, .slice Bs nbs cbs, .slice Bw nbw cbw]] W fun e w' => e = .returned (.int .i64 E) ∧ Below W.heap.size W w' := fun W hW => by
          rw [← hE]
          exact next_any (HA.out.next hW.gr) (HB.out.next hW.gr) HFA.out HFB.out
        clear hE
        refine Rg.take (i := 6) (d := 20) (v := .bool false) rfl rfl (by kernel_rfl) (by kernel_rfl) (by kernel_rfl) (fun _ _ _ h => h) (by kernel_rfl) (fun W hSW => ?_) hH ?_
        · clear hSW
          go_simp
        simp only [List.setIfInBounds_toArray, List.set_cons_zero, List.set_cons_succ]
        refine Rg.take (i := 7) (d := 21) (v := .bool false) rfl rfl (by kernel_rfl) (by kernel_rfl) (by kernel_rfl) (fun _ _ _ h => h) (by kernel_rfl) (fun W hSW => ?_) hH ?_
        · clear hSW
          go_simp
        simp only [List.setIfInBounds_toArray, List.set_cons_zero, List.set_cons_succ]
        refine Rg.take (i := 8) (d := 22) (v := .bool false) rfl rfl (by kernel_rfl) (by kernel_rfl) (by kernel_rfl) (fun _ _ _ h => h) (by kernel_rfl) (fun W hSW => ?_) hH ?_
        · clear hSW
          go_simp
        simp only [List.setIfInBounds_toArray, List.set_cons_zero, List.set_cons_succ]
        refine Rg.take (i := 9) (d := 23) (v := .agg #[.slice Ar nar car, .slice As nas cas, .slice Aw naw caw]) rfl rfl (by kernel_rfl) (by kernel_rfl) (by kernel_rfl) (fun _ _ _ h => h) (by kernel_rfl) (fun W hSW => ?_) hH ?_
        · obtain ⟨q0, q1, q2, -, -, -⟩ := TwB.cells hSW
          go_simp
        simp only [List.setIfInBounds_toArray, List.set_cons_zero, List.set_cons_succ]
        refine Rg.take (i := 11) (d := 25) (v := .agg #[.slice Br nbr cbr, .slice Bs nbs cbs, .slice Bw nbw cbw]) rfl rfl (by kernel_rfl) (by kernel_rfl) (by kernel_rfl) (fun _ _ _ h => h) (by kernel_rfl) (fun W hSW => ?_) hH ?_
        · obtain ⟨-, -, -, q3, q4, q5⟩ := TwB.cells hSW
          go_simp
        simp only [List.setIfInBounds_toArray, List.set_cons_zero, List.set_cons_succ]
        refine wpAnyH_ready (rs := [10]) (by kernel_rfl) (by simp) (AllReadyH.cons rfl (fun K hK => ?_) AllReadyH.nil)
        go_simp
        refine (shot_any).mono ?_
        rintro e w4 ⟨rfl, hb⟩
        go_simp
        refine hK.out _ _ (TwB.next hH hb) (fun hH => ?_)
        clear hK K
        clear hb
        refine wpAnyH_ready (rs := [12]) (by kernel_rfl) (by simp) (AllReadyH.cons rfl (fun K hK => ?_) AllReadyH.nil)
        go_simp
        refine (shot_any).mono ?_
        rintro e w5 ⟨rfl, hb⟩
        go_simp
        refine hK.out _ _ (TwB.next hH hb) (fun hH => ?_)
        clear hK K
        clear hb
        refine wpAnyH_ready (rs := [13]) (by kernel_rfl) (by simp) (AllReadyH.cons rfl (fun K hK => ?_) AllReadyH.nil)
        go_simp
        refine (hN _ hH).mono ?_
        rintro e w6 ⟨rfl, hb⟩
        go_simp
        refine hK.out _ _ (TwB.next hH hb) (fun hH => ?_)
        clear hK K
        clear hb hN
        by_cases he : E = 0
        · have f1 : (E != 0) = false := by simpa using he
          have HV := Lib.hid (HE.out.trans he)
          clear he
          refine Rg.take (i := 14) (d := 28) (v := .bool false) rfl rfl (by kernel_rfl) (by kernel_rfl) (by kernel_rfl) (fun _ _ _ h => h) (by kernel_rfl) (fun W hSW => ?_) hH ?_
          · clear hSW
            go_simp
          simp only [List.setIfInBounds_toArray, List.set_cons_zero, List.set_cons_succ]
          refine Rg.take (i := 15) (d := 29) (v := .bool false) rfl rfl (by kernel_rfl) (by kernel_rfl) (by kernel_rfl) (fun _ _ _ h => h) (by kernel_rfl) (fun W hSW => ?_) hH ?_
          · clear hSW
            go_simp
          simp only [List.setIfInBounds_toArray, List.set_cons_zero, List.set_cons_succ]
          refine wpAnyH_done (by kernel_rfl) ?_ _
          go_wp2_with fail
          go_meet
          exact ⟨_, rfl, Lib.hid (fun _ => ⟨HFA.out, HFB.out, HV.out⟩), hH⟩
        · have f1 : (E != 0) = true := by simpa using he
          clear he
          refine Rg.take (i := 14) (d := 28) (v := .bool true) rfl rfl (by kernel_rfl) (by kernel_rfl) (by kernel_rfl) (fun _ _ _ h => h) (by kernel_rfl) (fun W hSW => ?_) hH ?_
          · clear hSW
            go_simp
          simp only [List.setIfInBounds_toArray, List.set_cons_zero, List.set_cons_succ]
          refine Rg.take (i := 15) (d := 29) (v := .bool true) rfl rfl (by kernel_rfl) (by kernel_rfl) (by kernel_rfl) (fun _ _ _ h => h) (by kernel_rfl) (fun W hSW => ?_) hH ?_
          · clear hSW
            go_simp
          simp only [List.setIfInBounds_toArray, List.set_cons_zero, List.set_cons_succ]
          refine wpAnyH_done (by kernel_rfl) ?_ _
          go_wp2_with fail
          go_meet
          exact ⟨_, rfl, Lib.hid (fun h => by cases h), hH⟩
  obtain ⟨Z, rfl, HZ, hT2⟩ := hcut
  cases Z with
  | true =>
    have hC := hAw wc
    go_wp2_with fail
    refine hC.mono ?_
    rintro e wz ⟨rfl, hbz⟩
    have HBz := Lib.hid (HBV.out.next (hT2.gr.next hbz))
    clear hC hbz
    go_wp2_with fail
    go_ret
    exact ⟨rfl, HBz.out⟩
  | false =>
  obtain ⟨hfa, hfb, hnx⟩ := HZ.out rfl
  obtain ⟨ca, cb, cn⟩ := nxt_zero.1 hnx
  have HNX : Hid (Nx a b) := Lib.hid ⟨ca, cb, cn⟩
  have HWA := Lib.hid (fun W (hW : Below V.heap.size V W) of ho hc => within_any (HA.out.next hW) hfa ca of ho hc)
  have HWB := Lib.hid (fun W (hW : Below V.heap.size V W) of ho hc => within_any (HB.out.next hW) hfb cb of ho hc)
  have HBC := Lib.hid (fun i (hi : i < a.l.length) W (hW : Below V.heap.size V W) => lawBec_any HA.out.rows.sl HB.out.rows.sl cn.1 hfa.l hfb.l i hi W hW)
  have HFD := Lib.hid (fun W (hW : Below V.heap.size V W) r k => lawFind_any (HB.out.next hW) (by have := hfb.sc; omega) r k)
  have HSR : Hid (∀ i, i < nas → (sA a.sc i).r < nar) := Lib.hid (fun i hi => by
    have h1 := sc_row HNX.out.sa.1 HNX.out.ta.pos (i := i) (by rw [HNAS.out]; exact hi)
    rw [HNAR.out] at h1
    exact h1)
  have hsa := hfa.sc
  have hsb := hfb.sc
  rw [HNAS.out] at hsa
  rw [HNBS.out] at hsb
  rw [HNAR.out] at HBC
  rw [HNAS.out] at HWA
  rw [HNBS.out] at HWB
  have HT2 := Lib.hid hT2
  clear hfa hfb hnx ca cb cn HZ hT2 hTB1
  go_wp2_with fail
  go_loopw [5] (fun x wr => ∃ i : Nat, i ≤ nas ∧ x = .int .i64 i ∧ Hid (TwB V w.heap.size #[.slice Ar nar car, .slice As nas cas, .slice Aw naw caw] #[.slice Br nbr cbr, .slice Bs nbs cbs, .slice Bw nbw cbw] wr)) (fun x _ => nas - (intOf x).toNat)
  case atStart => exact ⟨0, Nat.zero_le _, rfl, HT2⟩
  case round =>
    clear HT2
    obtain ⟨i, hi, rfl, HTI⟩ := hrel
    obtain ⟨q0, q1, q2, q3, q4, q5⟩ := HTI.out.cells
    by_cases hlt : i < nas
    · obtain ⟨g, off, rfl, hg, c0, c1, -, -, c4, -⟩ := HAV.out i hlt
      have d0 := (HTI.out.gr.cell (p := ⟨g, _, none⟩) hg).trans c0
      have d4 := (HTI.out.gr.cell (p := ⟨g, _, none⟩) hg).trans c4
      have hr := HSR.out i hlt
      obtain ⟨k, hk, hkl, -, hup⟩ := HNX.out.lt_some (i := i) (by rw [HNAS.out]; exact hlt)
      rw [HNBS.out] at hkl
      have hst : (sA a.sc i).c = true → (inRows b k).length = (inRows a i).length ∧ stepsOf b (inRows b k) = stepsOf a (inRows a i) := fun hc => HNX.out.stays (by rw [HNAS.out]; exact hlt) hk hc
      have hbc : (sA a.sc i).c = true → (sA b.sc k).c = true ∧ (sA b.sc k).v = 0 := fun hc => ⟨hup.2.2 hc, (closed_rows HNX.out.cb (by rw [HNBS.out]; exact hkl) (hup.2.2 hc)).1⟩
      have HKE : Hid (fnd b.sc (toR a b (sA a.sc i).r) (sA a.sc i).k = some k) := Lib.hid hk
      have HST := Lib.hid hst
      have HBCL := Lib.hid hbc
      have HWI := Lib.hid (fun W hW hc => HWA.out W hW i hlt hc)
      have HRL : Hid (-1 ≤ (sA a.sc i).r) := Lib.hid (HNX.out.sa.1.r_bd (i := i) (by rw [HNAS.out]; exact hlt)).1
      obtain ⟨r, hr0⟩ := name_of (sA a.sc i).r
      obtain ⟨K, hK0⟩ := name_of (sA a.sc i).k
      obtain ⟨C, hC0⟩ := name_of (sA a.sc i).c
      rw [hr0] at d0 hr HKE c0 HRL
      rw [hK0] at HKE c1
      rw [hC0] at d4 HST HBCL HWI
      clear hk hup hst hbc hr0 hK0 hC0 c4
      cases C with
      | false =>
        go_wp2_with fail
        exact ⟨⟨i + 1, by omega, by go_num, HTI⟩, by simp [intOf]; omega⟩
      | true =>
        obtain ⟨hs1, hs2⟩ := HST.out rfl
        obtain ⟨hb1, hb2⟩ := HBCL.out rfl
        obtain ⟨gb, offb, rfl, hgb, -, -, -, -, b4, b5⟩ := HBV2.out k hkl
        rw [hb1] at b4
        rw [hb2] at b5
        have HWK := Lib.hid (fun W hW => HWB.out W hW k hkl hb1)
        have HWI2 := Lib.hid (fun W hW => HWI.out W hW rfl)
        rw [hs1, hs2] at HWK
        obtain ⟨NN, hNN⟩ := name_of (inRows a i).length
        obtain ⟨SS, hSS⟩ := name_of (stepsOf a (inRows a i))
        rw [hNN, hSS] at HWK HWI2
        have HTR : Hid (r < nar → toR a b r = if 0 ≤ r then (tN a.l b.l r.toNat : Int) else r) := Lib.hid (fun _ => rfl)
        obtain ⟨RR, hRR⟩ := name_of (toR a b r)
        rw [hRR] at HKE HTR
        clear hs1 hs2 hb1 hb2 HWI HST HBCL hNN hSS hRR
        go_upto_if 50 with fail
        go_cut [6] from 50 to 61 (fun x wx => x = .int .i64 RR ∧ TwB V w.heap.size #[.slice Ar nar car, .slice (some ⟨g, off, none⟩) nas cas, .slice Aw naw caw] #[.slice Br nbr cbr, .slice (some ⟨gb, offb, none⟩) nbs cbs, .slice Bw nbw cbw] wx)
        case first =>
          by_cases hp : 0 ≤ r
          · have f1 : decide (0 ≤ r) = true := decide_eq_true hp
            obtain ⟨p, rfl⟩ := Int.eq_ofNat_of_zero_le hp
            have hpn : p < nar := by omega
            have HQ : Hid (RR = (tN a.l b.l p : Nat)) := Lib.hid (by rw [HTR.out hr, if_pos hp]; rfl)
            clear hp d0 d4 q0 q1 q2 q3 q4 q5
            go_wp2_with fail
            refine wp_region_held_drew (S := (fun W => TwB V w.heap.size #[.slice Ar nar car, .slice (some ⟨g, off, none⟩) nas cas, .slice Aw naw caw] #[.slice Br nbr cbr, .slice (some ⟨gb, offb, none⟩) nbs cbs, .slice Bw nbw cbw] W)) (by kernel_rfl) (HTI.out.next below_drewU) (fun hH => ?_)
            refine Rg.take (i := 0) (d := 51) (v := .pointer (some ⟨w.heap.size, 0, none⟩)) rfl rfl (by kernel_rfl) (by kernel_rfl) (by kernel_rfl) (fun _ _ _ h => h) (by kernel_rfl) (fun W hSW => ?_) hH ?_
            · clear hSW
              go_simp
            simp only [List.setIfInBounds_toArray, List.set_cons_zero, List.set_cons_succ]
            refine Rg.take (i := 1) (d := 52) (v := .slice Ar nar car) rfl rfl (by kernel_rfl) (by kernel_rfl) (by kernel_rfl) (fun _ _ _ h => h) (by kernel_rfl) (fun W hSW => ?_) hH ?_
            · obtain ⟨q0, -⟩ := TwB.cells hSW
              go_simp
            simp only [List.setIfInBounds_toArray, List.set_cons_zero, List.set_cons_succ]
            refine Rg.take (i := 2) (d := 53) (v := .pointer (some ⟨w.heap.size + 1, 0, none⟩)) rfl rfl (by kernel_rfl) (by kernel_rfl) (by kernel_rfl) (fun _ _ _ h => h) (by kernel_rfl) (fun W hSW => ?_) hH ?_
            · clear hSW
              go_simp
            simp only [List.setIfInBounds_toArray, List.set_cons_zero, List.set_cons_succ]
            refine Rg.take (i := 3) (d := 54) (v := .slice Br nbr cbr) rfl rfl (by kernel_rfl) (by kernel_rfl) (by kernel_rfl) (fun _ _ _ h => h) (by kernel_rfl) (fun W hSW => ?_) hH ?_
            · obtain ⟨-, -, -, q3, -⟩ := TwB.cells hSW
              go_simp
            simp only [List.setIfInBounds_toArray, List.set_cons_zero, List.set_cons_succ]
            refine Rg.take (i := 4) (d := 55) (v := .pointer (some ⟨w.heap.size, 1, none⟩)) rfl rfl (by kernel_rfl) (by kernel_rfl) (by kernel_rfl) (fun _ _ _ h => h) (by kernel_rfl) (fun W hSW => ?_) hH ?_
            · clear hSW
              go_simp
            simp only [List.setIfInBounds_toArray, List.set_cons_zero, List.set_cons_succ]
            refine Rg.take (i := 5) (d := 56) (v := .slice (some ⟨g, off, none⟩) nas cas) rfl rfl (by kernel_rfl) (by kernel_rfl) (by kernel_rfl) (fun _ _ _ h => h) (by kernel_rfl) (fun W hSW => ?_) hH ?_
            · obtain ⟨-, q1, -⟩ := TwB.cells hSW
              go_simp
            simp only [List.setIfInBounds_toArray, List.set_cons_zero, List.set_cons_succ]
            refine Rg.take (i := 6) (d := 57) (v := .int .i64 i) rfl rfl (by kernel_rfl) (by kernel_rfl) (by kernel_rfl) (fun _ _ _ h => h) (by kernel_rfl) (fun W hSW => ?_) hH ?_
            · clear hSW
              go_simp
            simp only [List.setIfInBounds_toArray, List.set_cons_zero, List.set_cons_succ]
            refine Rg.take (i := 7) (d := 58) (v := .pointer (some ⟨g, off + i * 6, none⟩)) rfl rfl (by kernel_rfl) (by kernel_rfl) (by kernel_rfl) (fun _ _ _ h => h) (by kernel_rfl) (fun W hSW => ?_) hH ?_
            · clear hSW
              go_simp
            simp only [List.setIfInBounds_toArray, List.set_cons_zero, List.set_cons_succ]
            refine Rg.take (i := 8) (d := 59) (v := .pointer (some ⟨g, off + i * 6, none⟩)) rfl rfl (by kernel_rfl) (by kernel_rfl) (by kernel_rfl) (fun _ _ _ h => h) (by kernel_rfl) (fun W hSW => ?_) hH ?_
            · clear hSW
              go_simp
            simp only [List.setIfInBounds_toArray, List.set_cons_zero, List.set_cons_succ]
            refine Rg.take (i := 9) (d := 60) (v := .int .i64 (p : Int)) rfl rfl (by kernel_rfl) (by kernel_rfl) (by kernel_rfl) (fun _ _ _ h => h) (by kernel_rfl) (fun W hSW => ?_) hH ?_
            · have r9 := (hSW.gr.cell (p := ⟨g, _, none⟩) hg).trans c0
              go_simp
            simp only [List.setIfInBounds_toArray, List.set_cons_zero, List.set_cons_succ]
            refine wpAnyH_ready (rs := [10]) (by kernel_rfl) (by simp) (AllReadyH.cons rfl (fun K hK => ?_) AllReadyH.nil)
            go_simp
            refine (HBC.out p hpn _ hH.gr).mono ?_
            rintro e w4 ⟨rfl, hb⟩
            go_simp
            refine hK.out _ _ (TwB.next hH hb) (fun hH => ?_)
            clear hK K
            refine Rg.take (i := 11) (d := 6) (v := .int .i64 (tN a.l b.l p : Nat)) rfl rfl (by kernel_rfl) (by kernel_rfl) (by kernel_rfl) (fun _ _ _ h => h) (by kernel_rfl) (fun W hSW => ?_) hH ?_
            · clear hSW
              go_simp
            simp only [List.setIfInBounds_toArray, List.set_cons_zero, List.set_cons_succ]
            refine wpAnyH_done (by kernel_rfl) ?_ _
            go_wp2_with fail
            go_meet
            exact ⟨by rw [HQ.out], hH⟩
          · have f1 : decide (0 ≤ r) = false := decide_eq_false hp
            have HQ : Hid (RR = -1) := Lib.hid (by rw [HTR.out hr, if_neg hp]; have := HRL.out; omega)
            clear hp
            rw [f1]
            go_wp2_with fail
            go_meet
            exact ⟨by rw [HQ.out], HTI.out⟩
        obtain ⟨rfl, hT3⟩ := hcut
        clear HTI q0 q1 q2 q3 q4 q5 d0 d4
        go_upto_region 10 with fail
        have HFK : ∀ W, Below V.heap.size V W → Calls Tryd.prog 18 #[.agg #[.slice Br nbr cbr, .slice (some ⟨gb, offb, none⟩) nbs cbs, .slice Bw nbw cbw], .int .i64 RR, .int .i64 K] W fun e w' => e = .returned (.int .i64 (k : Int)) ∧ Below W.heap.size W w' := fun W hW => by
          have h := HFD.out W hW RR K
          rw [HKE.out] at h
          exact h
        go_cut [7] from 62 to 70 (fun x wx => x = .int .i64 (k : Int) ∧ TwB V w.heap.size #[.slice Ar nar car, .slice (some ⟨g, off, none⟩) nas cas, .slice Aw naw caw] #[.slice Br nbr cbr, .slice (some ⟨gb, offb, none⟩) nbs cbs, .slice Bw nbw cbw] wx)
        case first =>
          refine wp_region_held_drew (S := (fun W => TwB V w.heap.size #[.slice Ar nar car, .slice (some ⟨g, off, none⟩) nas cas, .slice Aw naw caw] #[.slice Br nbr cbr, .slice (some ⟨gb, offb, none⟩) nbs cbs, .slice Bw nbw cbw] W)) (by kernel_rfl) (hT3.next below_drewU) (fun hH => ?_)
          refine Rg.take (i := 0) (d := 62) (v := .agg #[.slice Br nbr cbr, .slice (some ⟨gb, offb, none⟩) nbs cbs, .slice Bw nbw cbw]) rfl rfl (by kernel_rfl) (by kernel_rfl) (by kernel_rfl) (fun _ _ _ h => h) (by kernel_rfl) (fun W hSW => ?_) hH ?_
          · obtain ⟨-, -, -, q3, q4, q5⟩ := TwB.cells hSW
            go_simp
          simp only [List.setIfInBounds_toArray, List.set_cons_zero, List.set_cons_succ]
          refine Rg.take (i := 1) (d := 63) (v := .int .i64 RR) rfl rfl (by kernel_rfl) (by kernel_rfl) (by kernel_rfl) (fun _ _ _ h => h) (by kernel_rfl) (fun W hSW => ?_) hH ?_
          · clear hSW
            go_simp
          simp only [List.setIfInBounds_toArray, List.set_cons_zero, List.set_cons_succ]
          refine Rg.take (i := 2) (d := 64) (v := .pointer (some ⟨w.heap.size, 1, none⟩)) rfl rfl (by kernel_rfl) (by kernel_rfl) (by kernel_rfl) (fun _ _ _ h => h) (by kernel_rfl) (fun W hSW => ?_) hH ?_
          · clear hSW
            go_simp
          simp only [List.setIfInBounds_toArray, List.set_cons_zero, List.set_cons_succ]
          refine Rg.take (i := 3) (d := 65) (v := .slice (some ⟨g, off, none⟩) nas cas) rfl rfl (by kernel_rfl) (by kernel_rfl) (by kernel_rfl) (fun _ _ _ h => h) (by kernel_rfl) (fun W hSW => ?_) hH ?_
          · obtain ⟨-, q1, -⟩ := TwB.cells hSW
            go_simp
          simp only [List.setIfInBounds_toArray, List.set_cons_zero, List.set_cons_succ]
          refine Rg.take (i := 4) (d := 66) (v := .int .i64 i) rfl rfl (by kernel_rfl) (by kernel_rfl) (by kernel_rfl) (fun _ _ _ h => h) (by kernel_rfl) (fun W hSW => ?_) hH ?_
          · clear hSW
            go_simp
          simp only [List.setIfInBounds_toArray, List.set_cons_zero, List.set_cons_succ]
          refine Rg.take (i := 5) (d := 67) (v := .pointer (some ⟨g, off + i * 6, none⟩)) rfl rfl (by kernel_rfl) (by kernel_rfl) (by kernel_rfl) (fun _ _ _ h => h) (by kernel_rfl) (fun W hSW => ?_) hH ?_
          · clear hSW
            go_simp
          simp only [List.setIfInBounds_toArray, List.set_cons_zero, List.set_cons_succ]
          refine Rg.take (i := 6) (d := 68) (v := .pointer (some ⟨g, off + i * 6 + 1, none⟩)) rfl rfl (by kernel_rfl) (by kernel_rfl) (by kernel_rfl) (fun _ _ _ h => h) (by kernel_rfl) (fun W hSW => ?_) hH ?_
          · clear hSW
            go_simp
          simp only [List.setIfInBounds_toArray, List.set_cons_zero, List.set_cons_succ]
          refine Rg.take (i := 7) (d := 69) (v := .int .i64 K) rfl rfl (by kernel_rfl) (by kernel_rfl) (by kernel_rfl) (fun _ _ _ h => h) (by kernel_rfl) (fun W hSW => ?_) hH ?_
          · have r9 := (hSW.gr.cell (p := ⟨g, _, none⟩) hg).trans c1
            go_simp
          simp only [List.setIfInBounds_toArray, List.set_cons_zero, List.set_cons_succ]
          refine wpAnyH_ready (rs := [8]) (by kernel_rfl) (by simp) (AllReadyH.cons rfl (fun K hK => ?_) AllReadyH.nil)
          go_simp
          refine (HFK _ hH.gr).mono ?_
          rintro e w4 ⟨rfl, hb⟩
          go_simp
          refine hK.out _ _ (TwB.next hH hb) (fun hH => ?_)
          clear hK K
          refine Rg.take (i := 9) (d := 7) (v := .int .i64 (k : Int)) rfl rfl (by kernel_rfl) (by kernel_rfl) (by kernel_rfl) (fun _ _ _ h => h) (by kernel_rfl) (fun W hSW => ?_) hH ?_
          · clear hSW
            go_simp
          simp only [List.setIfInBounds_toArray, List.set_cons_zero, List.set_cons_succ]
          refine wpAnyH_done (by kernel_rfl) ?_ _
          go_wp2_with fail
          go_meet
          exact ⟨rfl, hH⟩
        obtain ⟨rfl, hT4⟩ := hcut
        obtain ⟨q0, q1, q2, q3, q4, q5⟩ := hT4.cells
        have e4 := (hT4.gr.cell (p := ⟨gb, _, none⟩) hgb).trans b4
        have e5 := (hT4.gr.cell (p := ⟨gb, _, none⟩) hgb).trans b5
        have hWI := HWI2.out _ hT4.gr
        have HT4 := Lib.hid hT4
        clear hT3 hT4 HFK
        go_wp2_with fail
        refine hWI.mono ?_
        clear hWI q0 q1 q2 q3 q4 q5 e4 e5
        rintro e w5 ⟨rfl, hb5⟩
        have HT5 := Lib.hid (HT4.out.next hb5)
        obtain ⟨q0, q1, q2, q3, q4, q5⟩ := HT5.out.cells
        have hWK := HWK.out _ HT5.out.gr
        clear hb5 HT4
        go_wp2_with fail
        refine hWK.mono ?_
        clear hWK q0 q1 q2 q3 q4 q5
        rintro e w6 ⟨rfl, hb6⟩
        have HT6 := Lib.hid (HT5.out.next hb6)
        clear hb6 HT5
        have f7 : ((NN : Int) != NN) = false := by simp
        have f8 : ((SS : Int) != SS) = false := by simp
        go_wp2_with fail
        exact ⟨⟨i + 1, by omega, by go_num, HT6⟩, by simp [intOf]; omega⟩
    · obtain rfl : i = nas := by omega
      have hC := hAw wr
      go_wp2_with fail
      refine hC.mono ?_
      rintro e wz ⟨rfl, hbz⟩
      have HBz := Lib.hid (HBV.out.next (HTI.out.gr.next hbz))
      clear hC hbz
      go_wp2_with fail
      go_ret
      exact ⟨rfl, HBz.out⟩
end P20
end Go.Proofs.YtajbchecjbddgaaDoor
