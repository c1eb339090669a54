/- Audit: Allowed. -/
import Derived.Test.YtajbchecjbddgaaGreatDoorUk
import Derived.Test.YtajbchecjbddgaaGreatDoorH1
namespace Go.Proofs.YtajbchecjbddgaaGreatDoor
open Go.RowKit
namespace P20
open P7

/-- Is a row in a scope that was asked to be? -/
def askedB (s : Sh) (i : Nat) : Bool := (ch s ((ofN s i).getD 0)).any fun j => (sA s.sc j).a
theorem askR_iff {s : Sh} (hf : Fine s) {i : Nat} (hi : i < s.l.length) : askR s i ↔ ((at_ s.l i).k = 4 → askedB s i = true) := by
  unfold askR askedB
  obtain ⟨k, hk, hkl⟩ := ofN_lt hf.sc hi
  constructor
  · intro h h4
    obtain ⟨j, _, h2, h3⟩ := h h4
    exact List.any_eq_true.2 ⟨j, h3, h2⟩
  · intro h h4
    obtain ⟨j, h1, h2⟩ := List.any_eq_true.1 (h h4)
    refine ⟨j, ?_, h2, h1⟩
    rw [hk] at h1
    have := ch_lt hf.sc hf.up k hkl j h1
    omega
theorem asked_any {w : World} {bx bv bm : Nat} {vr vs vw : Value} {s : Sh} (hV : Vm w bv bm vr vs vw s) (hx : Boxed w bx 42 (.pointer (some ⟨bv, 0, none⟩))) (hf : FewS s) (i : Nat) (hi : i < s.sc.length) :
    Calls Tryz.prog 27 #[.int .i64 i, .pointer (some ⟨bx, 0, none⟩)] w fun e w' => e = .returned (.bool (sA s.sc i).a) ∧ Below w.heap.size w w' := by
  obtain ⟨A, c, hvs, hnc, hA⟩ := scs_open hV.sh.scs
  obtain ⟨g, off, rfl, hg, -, -, -, c3, -⟩ := hA i hi
  have q1 := hV.vb.c1
  rw [hvs] at q1
  have cx := hx.cell
  have h60 := hf.sc
  obtain ⟨xc, hxc⟩ := name_of (sA s.sc i).a
  rw [hxc] at c3 ⊢
  obtain ⟨n, hn⟩ := name_of s.sc.length
  rw [hn] at q1 hi hnc h60
  clear hA hvs hV hx hf hxc hn
  go_enter Tryz.func27, Tryz.ntmps27
  go_wp2_with fail
  go_ret
  exact ⟨rfl, Below.refl _ _⟩
theorem enters_asked (args : Array Value) (w : World) : (callFunc 27 args).run Tryz.prog w = .ok (.enter 27 args) w :=
  enters_of Tryz.func27 (by kernel_rfl) rfl args w
/-- The box of the view, and a row's kind. -/
abbrev KxS (W0 : World) (bx rb : Nat) (a k : Value) (W : World) : Prop := Below W0.heap.size W0 W ∧ W.cell? ⟨bx, 0, none⟩ = some a ∧ W.cell? ⟨rb, 3, none⟩ = some k
theorem KxS.gr {W0 W : World} {bx by_ : Nat} {a b : Value} (h : KxS W0 bx by_ a b W) : Below W0.heap.size W0 W := h.1
theorem KxS.next {W0 W W' : World} {bx by_ : Nat} {a b : Value} (h0 : KxS W0 bx by_ a b W) (hb : Below W.heap.size W W') (h1 : bx < W0.heap.size) (h2 : by_ < W0.heap.size) : KxS W0 bx by_ a b W' :=
  ⟨h0.1.next hb, (hb.cell (p := ⟨bx, 0, none⟩) (Nat.lt_of_lt_of_le h1 h0.1.size)).trans h0.2.1, (hb.cell (p := ⟨by_, 3, none⟩) (Nat.lt_of_lt_of_le h2 h0.1.size)).trans h0.2.2⟩
set_option maxRecDepth 100000 in
set_option maxHeartbeats 8000000 in
theorem allowed_any {w : World} {vr vs vw : Value} {s : Sh} (hS : Shm w vr vs vw s) (hf : FewS s) :
    Calls Tryz.prog 12 #[.agg #[vr, vs, vw]] w fun e w' => e = .returned (.bool (decide (alOk s))) ∧ Below w.heap.size w w' := by
  have hb1 : Below w.heap.size w (w.alloc (.cells #[vr, vs, vw] 31)) := by go_grown
  have hC := look_any (hS.next hb1) hf
  have hblk := heap_alloc_last w (.cells #[vr, vs, vw] 31)
  obtain ⟨Ar, cr, hvr, hncr, hAr⟩ := rows_open hS.rows.sl
  obtain ⟨A, c, hvs, -, -⟩ := scs_open hS.scs
  obtain ⟨Aw, cw, hvw, -, -⟩ := hS.wks.open_
  have HAR := Lib.hid hAr
  obtain ⟨n, hn⟩ := name_of s.sc.length
  obtain ⟨nr, hnr⟩ := name_of s.l.length
  obtain ⟨nw, hnw⟩ := name_of s.ws.length
  have HNR := Lib.hid hnr
  have hl40 := hf.l
  rw [hn] at hvs
  rw [hnr] at hvr hncr hl40
  rw [hnw] at hvw
  obtain ⟨R, hR⟩ := name_of (decide (alOk s))
  have HRR := Lib.hid hR
  obtain ⟨E, hE⟩ := name_of (chkS s)
  have HEE := Lib.hid hE
  have HB1 := Lib.hid hb1
  have HBLK := Lib.hid hblk
  have HFW := Lib.hid hf
  rw [hR]
  subst hvr hvs hvw
  clear hn hnr hnw hS hb1 hf hR hblk hAr
  unfold LookPost at hC
  rw [hE] at hC
  clear hE
  go_enter Tryz.func12, Tryz.ntmps12
  go_wp2_with fail
  refine hC.mono ?_
  rintro e w2 ⟨hb2, ⟨hne, rfl⟩ | ⟨h0, hFine, bv, bm, rfl, hVm⟩⟩
  · have f1 : (E != 0) = true := by simpa using hne
    have HB2 := Lib.hid (HB1.out.next (hb2.next ((Below.refl _ _).alloc (Nat.le_refl _) (.cells #[.pointer none] 42))))
    have HV : Hid (false = R) := Lib.hid (by rw [← HRR.out]; exact (decide_eq_false (fun h => hne (HEE.out.symm.trans h.1))).symm)
    clear hC hb2 hne
    go_wp2_with fail
    go_ret
    exact ⟨ret_bool HV.out, HB2.out⟩
  · subst h0
    have HV := Lib.hid hVm
    have HFN := Lib.hid hFine
    obtain ⟨V, hV⟩ := name_of (w2.alloc (.cells #[.pointer (some ⟨bv, 0, none⟩)] 42))
    have hbx := Boxed.new w2 42 (.pointer (some ⟨bv, 0, none⟩))
    have hbV : Below w2.heap.size w2 V := by rw [← hV]; exact (Below.refl _ _).alloc (Nat.le_refl _) _
    have hsz : w2.heap.size < V.heap.size := by rw [← hV]; simp
    rw [hV] at hbx
    have hBV := HB1.out.next (hb2.next hbV)
    have hblkV := blk_next HBLK.out (hb2.next hbV)
    have y0 : V.cell? ⟨w.heap.size, 0, none⟩ = some (.slice Ar nr cr) := by rw [cell_of_row _ _ _ _ _ _ hblkV]; rfl
    have HVV := Lib.hid (HV.out.next hbV)
    have HBX := Lib.hid hbx
    have HBV := Lib.hid hBV
    have HSZ := Lib.hid hsz
    have HOF : Hid (∀ W i, Below V.heap.size V W → i < nr → Calls Tryz.prog 20 #[.pointer (some ⟨bv, 0, none⟩), .int .i64 i] W fun e w' => e = .returned (.int .i64 (((ofN s i).getD 0 : Nat) : Int)) ∧ Below W.heap.size W w') :=
      Lib.hid fun W i hW hi => of_any (HVV.out.next hW) HFN.out.sc.1 HFW.out i (by rw [HNR.out]; exact hi)
    have HAN : Hid (∀ W i, Below V.heap.size V W → i < nr → Calls Tryz.prog 17 #[.pointer (some ⟨bv, 0, none⟩), .int .i64 (((ofN s i).getD 0 : Nat) : Int), .func (.func 27) #[] #[.pointer (some ⟨w2.heap.size, 0, none⟩)]] W fun e w' => e = .returned (.bool (askedB s i)) ∧ Below W.heap.size W w') :=
      Lib.hid fun W i hW hi => by
        obtain ⟨k, hk, hkl⟩ := ofN_lt HFN.out.sc (i := i) (by rw [HNR.out]; exact hi)
        have h := any_any (HVV.out.next hW) HFN.out k hkl 27 #[.pointer (some ⟨w2.heap.size, 0, none⟩)] (fun j => (sA s.sc j).a) enters_asked (fun W' x hW' hxl => asked_any ((HVV.out.next hW).next hW') (boxNext (boxNext HBX.out hW) hW') HFW.out x hxl)
        unfold askedB
        rw [hk]
        exact h
    have hmf : ∀ fn first cap w, (Instr.makeFunc fn first cap).run Tryz.prog w = .ok (.func fn first cap) w := fun _ _ _ _ => rfl
    clear hC hb2 hVm hFine hbx hbV hsz hBV hblkV
    go_wp2_with fail
    clear hV
    go_loopw [17] (fun x wr => ∃ i : Nat, i ≤ nr ∧ x = .int .i64 i ∧ Hid (∀ m, m < i → askR s m) ∧ Below V.heap.size V wr) (fun x _ => nr - (intOf x).toNat)
    case atStart => exact ⟨0, Nat.zero_le _, rfl, Lib.hid (fun m hm => by omega), Below.refl _ _⟩
    case round =>
      clear y0
      obtain ⟨i, hi, rfl, hno, hB⟩ := hrel
      have hBw : Below w.heap.size w wr := HBV.out.next hB
      by_cases hlt : i < nr
      · obtain ⟨g, off, rfl, hg, c0, c1, c2, c3, c4, c5, c6⟩ := HAR.out i (by rw [HNR.out]; exact hlt)
        have HAK := Lib.hid (askR_iff HFN.out (i := i) (by rw [HNR.out]; exact hlt))
        obtain ⟨⟨rp, ri, rf, rk, rv, rs, rc⟩, hr⟩ := name_of (at_ s.l i)
        rw [hr] at c0 c1 c2 c3 c4 c5 c6 HAK
        dsimp only at c0 c1 c2 c3 c4 c5 c6 HAK
        have d0 := (hBw.cell (p := ⟨g, _, none⟩) hg).trans c0
        have d1 := (hBw.cell (p := ⟨g, _, none⟩) hg).trans c1
        have d2 := (hBw.cell (p := ⟨g, _, none⟩) hg).trans c2
        have d3 := (hBw.cell (p := ⟨g, _, none⟩) hg).trans c3
        have d4 := (hBw.cell (p := ⟨g, _, none⟩) hg).trans c4
        have d5 := (hBw.cell (p := ⟨g, _, none⟩) hg).trans c5
        have d6 := (hBw.cell (p := ⟨g, _, none⟩) hg).trans c6
        have hb1 : Below wr.heap.size wr (wr.alloc (.cells #[.int .i64 rp, .int .i64 ri, .int .i64 rf, .int .i64 rk, .int .i64 rv, .int .i64 rs, .string rc] 69)) := (Below.refl _ _).alloc (Nat.le_refl _) _
        have hblk := heap_alloc_last wr (.cells #[.int .i64 rp, .int .i64 ri, .int .i64 rf, .int .i64 rk, .int .i64 rv, .int .i64 rs, .string rc] 69)
        obtain ⟨W1, hW1⟩ := name_of (wr.alloc (.cells #[.int .i64 rp, .int .i64 ri, .int .i64 rf, .int .i64 rk, .int .i64 rv, .int .i64 rs, .string rc] 69))
        have hl1 : wr.heap.size < W1.heap.size := by rw [← hW1]; simp
        rw [hW1] at hb1 hblk
        have HB1' := Lib.hid (hB.next hb1)
        have hKS : KxS W1 w2.heap.size wr.heap.size (.pointer (some ⟨bv, 0, none⟩)) (.int .i64 rk) W1 := ⟨Below.refl _ _, (boxNext HBX.out HB1'.out).cell, by rw [cell_of_row _ _ _ _ _ _ hblk]; rfl⟩
        have hl2 : w2.heap.size < W1.heap.size := Nat.lt_of_lt_of_le HSZ.out HB1'.out.size
        clear c0 c1 c2 c3 c4 c5 c6 hr hB hBw hb1 hblk
        have HNO : Hid (askR s i → Hid (∀ m, m < i + 1 → askR s m)) := Lib.hid (fun h => Lib.hid (fun m hm => by
          by_cases e : m = i
          · rw [e]; exact h
          · exact hno.out m (by omega)))
        clear hno
        go_wp2_with ((with_reducible (show wpList _ _ _ (Oper.mk _ (Op.store _ _ _) _ _ _ _ :: _) _ _)); refine wpList_store_new rfl 69 69 (.tmp 6) (.tmp 21) rfl _ _ wr.heap.size rfl rfl rfl (by kernel_rfl) rfl rfl ?_)
        clear hW1 d0 d1 d2 d3 d4 d5 d6
        by_cases hk : rk = 4
        · have f1 : (rk == 4) = true := by simpa using hk
          obtain ⟨T, hT⟩ := name_of (askedB s i)
          obtain ⟨K, hK⟩ := name_of ((((ofN s i).getD 0 : Nat) : Int))
          have hOf : ∀ W, KxS W1 w2.heap.size wr.heap.size (.pointer (some ⟨bv, 0, none⟩)) (.int .i64 rk) W → Calls Tryz.prog 20 #[.pointer (some ⟨bv, 0, none⟩), .int .i64 i] W fun e w' => e = .returned (.int .i64 K) ∧ Below W.heap.size W w' := fun W hW => by
            rw [← hK]
            exact HOF.out W i (HB1'.out.next hW.1) hlt
          have hAn : ∀ W, KxS W1 w2.heap.size wr.heap.size (.pointer (some ⟨bv, 0, none⟩)) (.int .i64 rk) W → Calls Tryz.prog 17 #[.pointer (some ⟨bv, 0, none⟩), .int .i64 K, .func (.func 27) #[] #[.pointer (some ⟨w2.heap.size, 0, none⟩)]] W fun e w' => e = .returned (.bool T) ∧ Below W.heap.size W w' := fun W hW => by
            rw [← hK, ← hT]
            exact HAN.out W i (HB1'.out.next hW.1) hlt
          refine wp_region_held_drew (S := (fun W => KxS W1 w2.heap.size wr.heap.size (.pointer (some ⟨bv, 0, none⟩)) (.int .i64 rk) W)) (by kernel_rfl) (KxS.next hKS below_drewU hl2 hl1) (fun hH => ?_)
          refine Rg.take (i := 0) (d := 22) (v := .pointer (some ⟨wr.heap.size, 3, none⟩)) rfl rfl (by kernel_rfl) (by kernel_rfl) (by kernel_rfl) (fun _ _ _ h => h) (by kernel_rfl) (fun W hSW => ?_) hH ?_
          · clear hSW
            go_simp
          simp only [List.setIfInBounds_toArray, List.set_cons_zero, List.set_cons_succ]
          refine Rg.take (i := 1) (d := 23) (v := .int .i64 rk) rfl rfl (by kernel_rfl) (by kernel_rfl) (by kernel_rfl) (fun _ _ _ h => h) (by kernel_rfl) (fun W hSW => ?_) hH ?_
          · obtain ⟨-, r0, r1⟩ := hSW
            go_simp
          simp only [List.setIfInBounds_toArray, List.set_cons_zero, List.set_cons_succ]
          refine Rg.take (i := 2) (d := 24) (v := .bool true) rfl rfl (by kernel_rfl) (by kernel_rfl) (by kernel_rfl) (fun _ _ _ h => h) (by kernel_rfl) (fun W hSW => ?_) hH ?_
          · clear hSW
            go_simp
          simp only [List.setIfInBounds_toArray, List.set_cons_zero, List.set_cons_succ]
          refine Rg.take (i := 3) (d := 25) (v := .bool true) rfl rfl (by kernel_rfl) (by kernel_rfl) (by kernel_rfl) (fun _ _ _ h => h) (by kernel_rfl) (fun W hSW => ?_) hH ?_
          · clear hSW
            go_simp
          simp only [List.setIfInBounds_toArray, List.set_cons_zero, List.set_cons_succ]
          refine Rg.take (i := 4) (d := 26) (v := .pointer (some ⟨bv, 0, none⟩)) rfl rfl (by kernel_rfl) (by kernel_rfl) (by kernel_rfl) (fun _ _ _ h => h) (by kernel_rfl) (fun W hSW => ?_) hH ?_
          · obtain ⟨-, r0, r1⟩ := hSW
            go_simp
          simp only [List.setIfInBounds_toArray, List.set_cons_zero, List.set_cons_succ]
          refine Rg.take (i := 5) (d := 27) (v := .pointer (some ⟨bv, 0, none⟩)) rfl rfl (by kernel_rfl) (by kernel_rfl) (by kernel_rfl) (fun _ _ _ h => h) (by kernel_rfl) (fun W hSW => ?_) hH ?_
          · obtain ⟨-, r0, r1⟩ := hSW
            go_simp
          simp only [List.setIfInBounds_toArray, List.set_cons_zero, List.set_cons_succ]
          refine Rg.take (i := 6) (d := 28) (v := .int .i64 i) rfl rfl (by kernel_rfl) (by kernel_rfl) (by kernel_rfl) (fun _ _ _ h => h) (by kernel_rfl) (fun W hSW => ?_) hH ?_
          · clear hSW
            go_simp
          simp only [List.setIfInBounds_toArray, List.set_cons_zero, List.set_cons_succ]
          refine Rg.take (i := 8) (d := 30) (v := .func (.func 27) #[] #[.pointer (some ⟨w2.heap.size, 0, none⟩)]) rfl rfl (by kernel_rfl) (by kernel_rfl) (by kernel_rfl) (fun _ _ _ h => h) (by kernel_rfl) (fun W hSW => ?_) hH ?_
          · clear hSW
            go_simp
          simp only [List.setIfInBounds_toArray, List.set_cons_zero, List.set_cons_succ]
          refine wpAnyH_ready (rs := [7]) (by kernel_rfl) (by simp) (AllReadyH.cons rfl (fun K hK => ?_) AllReadyH.nil)
          go_simp
          refine (hOf _ hH).mono ?_
          rintro e w4 ⟨rfl, hb4⟩
          have hB4 := hH.1.next hb4
          go_simp
          refine hK.out _ _ (KxS.next hH hb4 hl2 hl1) (fun hH => ?_)
          clear hK K
          refine wpAnyH_ready (rs := [9]) (by kernel_rfl) (by simp) (AllReadyH.cons rfl (fun K hK => ?_) AllReadyH.nil)
          go_simp
          refine (hAn _ hH).mono ?_
          rintro e w5 ⟨rfl, hb5⟩
          have hB5 := hB4.next hb5
          go_simp
          refine hK.out _ _ (KxS.next hH hb5 hl2 hl1) (fun hH => ?_)
          clear hK K
          have HB5 := Lib.hid (HB1'.out.next hB5)
          clear hB4 hB5 hb4 hb5
          cases T with
          | true =>
            have HR := Lib.hid (HNO.out (HAK.out.2 (fun _ => hT)))
            refine Rg.take (i := 10) (d := 32) (v := .bool false) rfl rfl (by kernel_rfl) (by kernel_rfl) (by kernel_rfl) (fun _ _ _ h => h) (by kernel_rfl) (fun W hSW => ?_) hH ?_
            · clear hSW
              go_simp
            simp only [List.setIfInBounds_toArray, List.set_cons_zero, List.set_cons_succ]
            refine Rg.take (i := 11) (d := 33) (v := .bool false) rfl rfl (by kernel_rfl) (by kernel_rfl) (by kernel_rfl) (fun _ _ _ h => h) (by kernel_rfl) (fun W hSW => ?_) hH ?_
            · clear hSW
              go_simp
            simp only [List.setIfInBounds_toArray, List.set_cons_zero, List.set_cons_succ]
            refine wpAnyH_done (by kernel_rfl) ?_ _
            go_wp2_with fail
            exact ⟨⟨i + 1, by omega, by go_num, HR, HB5.out⟩, by simp [intOf]; omega⟩
          | false =>
            have HR : Hid (false = R) := Lib.hid (by rw [← HRR.out]; exact (decide_eq_false (fun h => by have h1 := HAK.out.1 (h.2 i (by rw [HNR.out]; exact hlt)) hk; rw [hT] at h1; cases h1)).symm)
            refine Rg.take (i := 10) (d := 32) (v := .bool true) rfl rfl (by kernel_rfl) (by kernel_rfl) (by kernel_rfl) (fun _ _ _ h => h) (by kernel_rfl) (fun W hSW => ?_) hH ?_
            · clear hSW
              go_simp
            simp only [List.setIfInBounds_toArray, List.set_cons_zero, List.set_cons_succ]
            refine Rg.take (i := 11) (d := 33) (v := .bool true) rfl rfl (by kernel_rfl) (by kernel_rfl) (by kernel_rfl) (fun _ _ _ h => h) (by kernel_rfl) (fun W hSW => ?_) hH ?_
            · clear hSW
              go_simp
            simp only [List.setIfInBounds_toArray, List.set_cons_zero, List.set_cons_succ]
            refine wpAnyH_done (by kernel_rfl) ?_ _
            go_wp2_with fail
            go_ret
            exact ⟨ret_bool HR.out, HBV.out.next HB5.out⟩
        · have f1 : (rk == 4) = false := by simpa using hk
          refine wp_region_held_drew (S := (fun W => KxS W1 w2.heap.size wr.heap.size (.pointer (some ⟨bv, 0, none⟩)) (.int .i64 rk) W)) (by kernel_rfl) (KxS.next hKS below_drewU hl2 hl1) (fun hH => ?_)
          refine Rg.take (i := 0) (d := 22) (v := .pointer (some ⟨wr.heap.size, 3, none⟩)) rfl rfl (by kernel_rfl) (by kernel_rfl) (by kernel_rfl) (fun _ _ _ h => h) (by kernel_rfl) (fun W hSW => ?_) hH ?_
          · clear hSW
            go_simp
          simp only [List.setIfInBounds_toArray, List.set_cons_zero, List.set_cons_succ]
          refine Rg.take (i := 1) (d := 23) (v := .int .i64 rk) rfl rfl (by kernel_rfl) (by kernel_rfl) (by kernel_rfl) (fun _ _ _ h => h) (by kernel_rfl) (fun W hSW => ?_) hH ?_
          · obtain ⟨-, r0, r1⟩ := hSW
            go_simp
          simp only [List.setIfInBounds_toArray, List.set_cons_zero, List.set_cons_succ]
          refine Rg.take (i := 2) (d := 24) (v := .bool false) rfl rfl (by kernel_rfl) (by kernel_rfl) (by kernel_rfl) (fun _ _ _ h => h) (by kernel_rfl) (fun W hSW => ?_) hH ?_
          · clear hSW
            go_simp
          simp only [List.setIfInBounds_toArray, List.set_cons_zero, List.set_cons_succ]
          refine Rg.take (i := 3) (d := 25) (v := .bool false) rfl rfl (by kernel_rfl) (by kernel_rfl) (by kernel_rfl) (fun _ _ _ h => h) (by kernel_rfl) (fun W hSW => ?_) hH ?_
          · clear hSW
            go_simp
          simp only [List.setIfInBounds_toArray, List.set_cons_zero, List.set_cons_succ]
          refine Rg.skips_of (fuel' := 1) [4, 5, 6, 7, 8, 9, 10] [26, 27, 28, 29, 30, 31, 32] (by kernel_rfl) (fun _ _ _ _ _ h => h) hH rfl (by kernel_rfl) ?_
          simp only [Rg.puts, List.setIfInBounds_toArray, List.set_cons_zero, List.set_cons_succ]
          refine Rg.take (i := 11) (d := 33) (v := .bool false) rfl rfl (by kernel_rfl) (by kernel_rfl) (by kernel_rfl) (fun _ _ _ h => h) (by kernel_rfl) (fun W hSW => ?_) hH ?_
          · clear hSW
            go_simp
          simp only [List.setIfInBounds_toArray, List.set_cons_zero, List.set_cons_succ]
          refine wpAnyH_done (by kernel_rfl) ?_ _
          go_wp2_with fail
          exact ⟨⟨i + 1, by omega, by go_num, HNO.out (HAK.out.2 (fun h => absurd h hk)), HB1'.out.next below_drewU⟩, by simp [intOf]; omega⟩
      · obtain rfl : i = nr := by omega
        have HV : Hid (true = R) := Lib.hid (by rw [← HRR.out]; exact (decide_eq_true (show alOk s from ⟨HEE.out, by rw [HNR.out]; exact hno.out⟩)).symm)
        clear hno
        go_wp2_with fail
        go_ret
        exact ⟨ret_bool HV.out, hBw⟩
end P20
end Go.Proofs.YtajbchecjbddgaaGreatDoor
