/- Audit: the reference's Check. -/
import Derived.Test.YtajbchecjbddgaaGreatDoorU8
import Derived.Test.YtajbchecjbddgaaGreatDoorU6
import Derived.Test.YtajbchecjbddgaaGreatDoorT7d
namespace Go.Proofs.YtajbchecjbddgaaGreatDoor
open Go.RowKit
namespace P20
open P7

theorem chk_up {f : Nat} {l : List Row} (h : chk f l = 0) : 0 < l.length ∧ ∀ j, j < l.length → (at_ l j).p < j := by
  unfold chk at h
  split at h
  · cases h
  · rename_i h0
    refine ⟨by omega, fun j hj => ?_⟩
    have := firstW_zero l.length 0 h j hj
    rw [Nat.zero_add] at this
    exact (place_up (right_up this).1).1
theorem FewS.small {s : Sh} (h : FewS s) : Small s.l := ⟨by have := h.l; omega, fun k hk => h.lc k hk⟩
theorem numW {s : Sh} : (∀ x ∈ s.ws, numL x.st s.l.length ∧ numL x.dq s.l.length) ↔ ∀ j, j < s.ws.length → numL (wA s.ws j).st s.l.length ∧ numL (wA s.ws j).dq s.l.length := by
  constructor
  · intro h j hj
    rw [wA_eq hj]
    exact h _ (List.getElem_mem hj)
  · intro h x hx
    obtain ⟨j, hj, e⟩ := List.getElem_of_mem hx
    have := h j hj
    rw [wA_eq hj, e] at this
    exact this
theorem ret_i {a b : Int} (h : a = b) : Ending.returned (.int .i64 a) = .returned (.int .i64 b) := by rw [h]
section
variable {s : Sh}
theorem chkS_l (h : chk (s.l.length + 1) s.l ≠ 0) : chkS s = chk (s.l.length + 1) s.l := by unfold chkS; rw [if_pos h]
theorem chkS_sc (h0 : chk (s.l.length + 1) s.l = 0) (h : ¬ scOk s) : chkS s = 15 := by unfold chkS; rw [if_neg (by simpa using h0), if_pos h]
theorem chkS_num (h0 : chk (s.l.length + 1) s.l = 0) (h1 : scOk s) (h : ¬ numOk s) : chkS s = 10 := by unfold chkS; rw [if_neg (by simpa using h0), if_neg (by simpa using h1), if_pos h]
theorem chkS_st (h0 : chk (s.l.length + 1) s.l = 0) (h1 : scOk s) (h2 : numOk s) (h : ¬ stOk s) : chkS s = 19 := by unfold chkS; rw [if_neg (by simpa using h0), if_neg (by simpa using h1), if_neg (by simpa using h2), if_pos h]
theorem chkS_cl (h0 : chk (s.l.length + 1) s.l = 0) (h1 : scOk s) (h2 : numOk s) (h3 : stOk s) (h : ¬ clOk s) : chkS s = 26 := by unfold chkS; rw [if_neg (by simpa using h0), if_neg (by simpa using h1), if_neg (by simpa using h2), if_neg (by simpa using h3), if_pos h]
theorem chkS_ok (h0 : chk (s.l.length + 1) s.l = 0) (h1 : scOk s) (h2 : numOk s) (h3 : stOk s) (h : clOk s) : chkS s = 0 := by unfold chkS; rw [if_neg (by simpa using h0), if_neg (by simpa using h1), if_neg (by simpa using h2), if_neg (by simpa using h3), if_neg (by simpa using h)]
end
set_option maxRecDepth 100000 in
set_option maxHeartbeats 8000000 in
theorem refCheckS_any {w : World} {vr vs vw : Value} {s : Sh} (h : Shm w vr vs vw s) (hf : FewS s) :
    Calls Tryz.prog 21 #[.agg #[vr, vs, vw]] w fun e w' => e = .returned (.int .i64 (chkS s)) ∧ Below w.heap.size w w' := by
  have hsc := hf.sc
  have hll := hf.l
  have HC : Hid (∀ W, Below w.heap.size w W → Calls Tryz.prog 39 #[vr] W fun e w' => e = .returned (.int .i64 (chk (s.l.length + 1) s.l)) ∧ Below W.heap.size W w') := Lib.hid (fun W hW => refCheck_any (h.next hW).rows.sl hf.small)
  have HS : Hid (∀ W, Below w.heap.size w W → 0 < s.l.length → Calls Tryz.prog 40 #[.agg #[vr, vs, vw]] W fun e w' => e = .returned (.bool (decide (scOk s))) ∧ Below W.heap.size W w') := Lib.hid (fun W hW h0 => refScopes_any (h.next hW) (by omega) (by omega) h0 _ decide_eq_true_iff)
  have HT : Hid (∀ W, Below w.heap.size w W → ∀ b, (b = true ↔ stR s) → Calls Tryz.prog 42 #[.agg #[vr, vs, vw]] W fun e w' => e = .returned (.bool b) ∧ Below W.heap.size W w') := Lib.hid (fun W hW b hb => refStates_any (h.next hW) hf b hb)
  have HL : Hid (∀ W, Below w.heap.size w W → scOk s → (∀ j, j < s.l.length → (at_ s.l j).p < j) → ∀ of, of < s.sc.length → Calls Tryz.prog 43 #[.agg #[vr, vs, vw], .int .i64 of] W fun e w' => e = .returned (.bool (decide (clean s of))) ∧ Below W.heap.size W w') := Lib.hid (fun W hW hok hup of hof => refClean_any (h.next hW) hf hok hup of hof _ decide_eq_true_iff)
  have HFW := Lib.hid hf
  obtain ⟨A, c, rfl, hnc, hA⟩ := scs_open h.scs
  obtain ⟨Ar, cr, rfl, hncr, -⟩ := rows_open h.rows.sl
  obtain ⟨Aw, cw, rfl, hncw, hAw⟩ := h.wks.open_
  have HA := Lib.hid hA
  have HAW := Lib.hid hAw
  have hw20 := hf.ws
  obtain ⟨n, hn⟩ := name_of s.sc.length
  obtain ⟨nr, hnr⟩ := name_of s.l.length
  obtain ⟨nw, hnw⟩ := name_of s.ws.length
  have HN := Lib.hid hn
  have HNR := Lib.hid hnr
  have HNW := Lib.hid hnw
  obtain ⟨E, hE⟩ := name_of (chk (s.l.length + 1) s.l)
  have HE := Lib.hid hE
  rw [hE] at HC
  rw [hnr] at HC
  rw [hn, hnr, hnw] at HS HT HL
  rw [hn] at hnc hsc
  rw [hnr] at hncr hll
  rw [hnw] at hncw hw20
  rw [hn, hnr, hnw]
  obtain ⟨R, hR⟩ := name_of (chkS s)
  have HR := Lib.hid hR
  rw [hR]
  clear hA hAw h hn hnr hnw hf hE hR
  have hB0 : Below w.heap.size w (w.alloc (.cells #[.slice Ar nr cr, .slice A n c, .slice Aw nw cw] 26)) := by go_grown
  have hG0 := heap_alloc_last w (.cells #[.slice Ar nr cr, .slice A n c, .slice Aw nw cw] 26)
  have hC := HC.out _ hB0
  have HB0 := Lib.hid hB0
  have HG0 := Lib.hid hG0
  clear HC hB0 hG0
  by_cases hE0 : E = 0
  rotate_left
  · have e1 : (E != 0) = true := bne_iff_ne.2 hE0
    have HV : Hid (E = R) := Lib.hid (by rw [← HR.out, chkS_l (by rw [HE.out]; exact hE0), HE.out])
    clear hE0
    go_enter Tryz.func21, Tryz.ntmps21
    go_wp2_with fail
    refine hC.mono ?_
    rintro e w3 ⟨rfl, hb3⟩
    go_wp2_with fail
    go_ret
    exact ⟨ret_i HV.out, HB0.out.next hb3⟩
  have HZ : Hid (chk (s.l.length + 1) s.l = 0) := Lib.hid (by rw [HE.out, hE0])
  have hup := chk_up HZ.out
  have HUP := Lib.hid hup.2
  have hl0 : 0 < nr := by rw [← HNR.out]; exact hup.1
  subst hE0
  clear hup
  go_enter Tryz.func21, Tryz.ntmps21
  go_wp2_with fail
  refine hC.mono ?_
  rintro e w3 ⟨rfl, hb3⟩
  have HB3 := Lib.hid (HB0.out.next hb3)
  have HG3 := Lib.hid (blk_next HG0.out hb3)
  have q0 : w3.cell? ⟨w.heap.size, 0, none⟩ = some (.slice Ar nr cr) := by rw [cell_of_row _ _ _ _ _ _ HG3.out]; rfl
  have q1 : w3.cell? ⟨w.heap.size, 1, none⟩ = some (.slice A n c) := by rw [cell_of_row _ _ _ _ _ _ HG3.out]; rfl
  have q2 : w3.cell? ⟨w.heap.size, 2, none⟩ = some (.slice Aw nw cw) := by rw [cell_of_row _ _ _ _ _ _ HG3.out]; rfl
  have hS := HS.out w3 HB3.out hl0
  clear hC HB0 HG0 hb3 HS
  by_cases h1 : scOk s
  rotate_left
  · rw [decide_eq_false h1] at hS
    have HV : Hid (15 = R) := Lib.hid (by rw [← HR.out, chkS_sc HZ.out h1])
    clear h1
    go_wp2_with fail
    refine hS.mono ?_
    rintro e w4 ⟨rfl, hb4⟩
    go_wp2_with fail
    go_ret
    exact ⟨ret_i HV.out, HB3.out.next hb4⟩
  rw [decide_eq_true h1] at hS
  have H1 := Lib.hid h1
  clear h1
  go_wp2_with fail
  refine hS.mono ?_
  rintro e w4 ⟨rfl, hb4⟩
  have HB4 := Lib.hid (HB3.out.next hb4)
  have HG4 := Lib.hid (blk_next HG3.out hb4)
  have q0 : w4.cell? ⟨w.heap.size, 0, none⟩ = some (.slice Ar nr cr) := by rw [cell_of_row _ _ _ _ _ _ HG4.out]; rfl
  have q1 : w4.cell? ⟨w.heap.size, 1, none⟩ = some (.slice A n c) := by rw [cell_of_row _ _ _ _ _ _ HG4.out]; rfl
  have q2 : w4.cell? ⟨w.heap.size, 2, none⟩ = some (.slice Aw nw cw) := by rw [cell_of_row _ _ _ _ _ _ HG4.out]; rfl
  clear hS HB3 HG3 hb4
  by_cases h16 : 16 < nw
  · have e2 : decide (16 < nw) = true := decide_eq_true h16
    have e2' : decide (16 < (nw : Int)) = true := decide_eq_true (by omega)
    have HV : Hid (10 = R) := Lib.hid (by rw [← HR.out, chkS_num HZ.out H1.out (fun hs => by have := hs.1; rw [HNW.out] at this; omega)])
    clear h16
    go_wp2_with fail
    go_ret
    exact ⟨ret_i HV.out, HB4.out⟩
  have e2 : decide (16 < nw) = false := decide_eq_false h16
  have e2' : decide (16 < (nw : Int)) = false := decide_eq_false (by omega)
  have hw16 : nw ≤ 16 := by omega
  clear h16
  go_wp2_with fail
  go_loopw [4] (fun x wr => ∃ j : Nat, j ≤ nw ∧ x = .int .i64 j ∧ Hid (∀ m, m < j → numL (wA s.ws m).st s.l.length ∧ numL (wA s.ws m).dq s.l.length) ∧ Below w.heap.size w wr ∧ Hid (wr.heap[w.heap.size]? = some (.cells #[.slice Ar nr cr, .slice A n c, .slice Aw nw cw] 26 (0, 0)))) (fun x _ => nw - (intOf x).toNat)
  case atStart => exact ⟨0, Nat.zero_le _, rfl, Lib.hid (fun m hm => by omega), HB4.out, HG4⟩
  case round =>
    clear q0 q1 q2 HB4 HG4 e2 e2'
    obtain ⟨j, hj, rfl, hno, hB, hblk⟩ := hrel
    have q0 : wr.cell? ⟨w.heap.size, 0, none⟩ = some (.slice Ar nr cr) := by rw [cell_of_row _ _ _ _ _ _ hblk.out]; rfl
    have q1 : wr.cell? ⟨w.heap.size, 1, none⟩ = some (.slice A n c) := by rw [cell_of_row _ _ _ _ _ _ hblk.out]; rfl
    have q2 : wr.cell? ⟨w.heap.size, 2, none⟩ = some (.slice Aw nw cw) := by rw [cell_of_row _ _ _ _ _ _ hblk.out]; rfl
    by_cases hlt : j < nw
    · obtain ⟨gw, offw, sv, dv, rfl, hgw, -, -, d2, d3, hs, hd⟩ := HAW.out j (by rw [HNW.out]; exact hlt)
      have e2 := (hB.cell (p := ⟨gw, _, none⟩) hgw).trans d2
      have e3 := (hB.cell (p := ⟨gw, _, none⟩) hgw).trans d3
      have hst := HFW.out.st j (by rw [HNW.out]; exact hlt)
      have hdq := HFW.out.dq j (by rw [HNW.out]; exact hlt)
      obtain ⟨t1, ht1⟩ := name_of (decide (numL (wA s.ws j).st nr))
      obtain ⟨t2, ht2⟩ := name_of (decide (numL (wA s.ws j).dq nr))
      have hT2 : ∀ N, Calls Tryz.prog 41 #[sv, .int .i64 nr] (wr.drewN N) fun e w' => e = .returned (.bool t1) ∧ w' = wr.drewN N := fun N => (refNumbers_any ((hs.below hB).keep (fun b o _ => cell_drewN _ N)) (by omega) nr t1 (by rw [← ht1]; exact decide_eq_true_iff)).mono fun _ _ h => ⟨h.1, h.2.symm⟩
      have hU2 : ∀ N, Calls Tryz.prog 41 #[dv, .int .i64 nr] (wr.drewN N) fun e w' => e = .returned (.bool t2) ∧ w' = wr.drewN N := fun N => (refNumbers_any ((hd.below hB).keep (fun b o _ => cell_drewN _ N)) (by omega) nr t2 (by rw [← ht2]; exact decide_eq_true_iff)).mono fun _ _ h => ⟨h.1, h.2.symm⟩
      have HT1 : Hid (numL (wA s.ws j).st s.l.length ↔ t1 = true) := Lib.hid (by rw [HNR.out, ← ht1, decide_eq_true_iff])
      have HT2 : Hid (numL (wA s.ws j).dq s.l.length ↔ t2 = true) := Lib.hid (by rw [HNR.out, ← ht2, decide_eq_true_iff])
      obtain ⟨As, ns, cs, rfl, -⟩ := hs
      obtain ⟨Ad, nd, cd, rfl, -⟩ := hd
      have HBJ := Lib.hid hB
      have hjI : (j : Int) < nw := by omega
      have HBAD : Hid (¬ (t1 = true ∧ t2 = true) → 10 = R) := Lib.hid (fun hno => by
        rw [← HR.out, chkS_num HZ.out H1.out (fun hs => hno ?_)]
        have := (numW.1 hs.2) j (by rw [HNW.out]; exact hlt)
        exact ⟨HT1.out.1 this.1, HT2.out.1 this.2⟩)
      clear d2 d3 hst hdq ht1 ht2 hB
      cases t1 with
      | false =>
        have HV : Hid (10 = R) := Lib.hid (HBAD.out (by simp))
        go_wp2_with fail
        go_quiet ((go_at_call 41; (first | (with_reducible exact Calls.quiet_of_same (hT2 _)) | (with_reducible exact Calls.quiet_of_same (hU2 _)))))
        go_wp2_with fail
        go_ret
        exact ⟨ret_i HV.out, HBJ.out.next (below_drewN _)⟩
      | true =>
        cases t2 with
        | false =>
          have HV : Hid (10 = R) := Lib.hid (HBAD.out (by simp))
          go_wp2_with fail
          go_quiet ((go_at_call 41; (first | (with_reducible exact Calls.quiet_of_same (hT2 _)) | (with_reducible exact Calls.quiet_of_same (hU2 _)))))
          go_wp2_with fail
          go_ret
          exact ⟨ret_i HV.out, HBJ.out.next (below_drewN _)⟩
        | true =>
          have HRR : Hid (∀ m, m < j + 1 → numL (wA s.ws m).st s.l.length ∧ numL (wA s.ws m).dq s.l.length) := Lib.hid fun m hm => by
            by_cases e : m = j
            · rw [e]; exact ⟨HT1.out.2 rfl, HT2.out.2 rfl⟩
            · exact hno.out m (by omega)
          go_wp2_with fail
          go_quiet ((go_at_call 41; (first | (with_reducible exact Calls.quiet_of_same (hT2 _)) | (with_reducible exact Calls.quiet_of_same (hU2 _)))))
          go_wp2_with fail
          exact ⟨⟨j + 1, by omega, by go_num, HRR, HBJ.out.next (below_drewN _), Lib.hid (blk_next hblk.out (below_drewN _))⟩, by simp [intOf]; omega⟩
    · obtain rfl : j = nw := by omega
      have H2 : Hid (numOk s) := Lib.hid ⟨by rw [HNW.out]; exact hw16, numW.2 (by rw [HNW.out]; exact hno.out)⟩
      have hT := HT.out wr hB (decide (stOk s)) (by rw [decide_eq_true_iff, stR_iff H2.out])
      by_cases h3 : stOk s
      rotate_left
      · rw [decide_eq_false h3] at hT
        have HV : Hid (19 = R) := Lib.hid (by rw [← HR.out, chkS_st HZ.out H1.out H2.out h3])
        clear h3
        go_wp2_with fail
        refine hT.mono ?_
        rintro e w4 ⟨rfl, hb4⟩
        go_wp2_with fail
        go_ret
        exact ⟨ret_i HV.out, hB.next hb4⟩
      rw [decide_eq_true h3] at hT
      have H3 := Lib.hid h3
      clear h3
      go_wp2_with fail
      refine hT.mono ?_
      rintro e w4 ⟨rfl, hb4⟩
      have HB4 := Lib.hid (hB.next hb4)
      have HG4 := Lib.hid (blk_next hblk.out hb4)
      clear hT hB hblk hb4 q0 q1 q2
      go_wp2_with fail
      go_loopw [5] (fun x wr => ∃ q : Nat, q ≤ n ∧ x = .int .i64 q ∧ Hid (∀ m, m < q → (sA s.sc m).c = true → clean s m) ∧ Below w.heap.size w wr ∧ Hid (wr.heap[w.heap.size]? = some (.cells #[.slice Ar nr cr, .slice A n c, .slice Aw j cw] 26 (0, 0)))) (fun x _ => n - (intOf x).toNat)
      case atStart => exact ⟨0, Nat.zero_le _, rfl, Lib.hid (fun m hm => by omega), HB4.out, HG4⟩
      case round =>
        clear HB4 HG4
        obtain ⟨q, hq, rfl, hnq, hBq, hblq⟩ := hrel
        have q0 : wr.cell? ⟨w.heap.size, 0, none⟩ = some (.slice Ar nr cr) := by rw [cell_of_row _ _ _ _ _ _ hblq.out]; rfl
        have q1 : wr.cell? ⟨w.heap.size, 1, none⟩ = some (.slice A n c) := by rw [cell_of_row _ _ _ _ _ _ hblq.out]; rfl
        have q2 : wr.cell? ⟨w.heap.size, 2, none⟩ = some (.slice Aw j cw) := by rw [cell_of_row _ _ _ _ _ _ hblq.out]; rfl
        by_cases hlq : q < n
        · obtain ⟨g, off, rfl, hg, -, -, -, -, c4, -⟩ := HA.out q (by rw [HN.out]; exact hlq)
          have c4w := (hBq.cell (p := ⟨g, _, none⟩) hg).trans c4
          have hL := HL.out wr hBq H1.out (by rw [← HNR.out]; exact HUP.out) q hlq
          obtain ⟨xc, hxc⟩ := name_of (sA s.sc q).c
          rw [hxc] at c4w
          have HXC := Lib.hid hxc
          clear c4 hxc
          cases xc with
          | false =>
            have HRR : Hid (∀ m, m < q + 1 → (sA s.sc m).c = true → clean s m) := Lib.hid fun m hm => by
              by_cases e : m = q
              · rw [e, HXC.out]; intro h; cases h
              · exact hnq.out m (by omega)
            clear hL
            go_wp2_with fail
            exact ⟨⟨q + 1, by omega, by go_num, HRR, hBq, hblq⟩, by simp [intOf]; omega⟩
          | true =>
            by_cases hcl : clean s q
            · rw [decide_eq_true hcl] at hL
              have HRR : Hid (∀ m, m < q + 1 → (sA s.sc m).c = true → clean s m) := Lib.hid fun m hm => by
                by_cases e : m = q
                · rw [e]; exact fun _ => hcl
                · exact hnq.out m (by omega)
              clear hcl
              go_wp2_with fail
              refine hL.mono ?_
              rintro e w5 ⟨rfl, hb5⟩
              go_wp2_with fail
              exact ⟨⟨q + 1, by omega, by go_num, HRR, hBq.next hb5, Lib.hid (blk_next hblq.out hb5)⟩, by simp [intOf]; omega⟩
            · rw [decide_eq_false hcl] at hL
              have HV : Hid (26 = R) := Lib.hid (by rw [← HR.out, chkS_cl HZ.out H1.out H2.out H3.out (fun h => hcl (h q (by rw [HN.out]; exact hlq) HXC.out))])
              clear hcl
              go_wp2_with fail
              refine hL.mono ?_
              rintro e w5 ⟨rfl, hb5⟩
              go_wp2_with fail
              go_ret
              exact ⟨ret_i HV.out, hBq.next hb5⟩
        · obtain rfl : q = n := by omega
          have HV : Hid (0 = R) := Lib.hid (by rw [← HR.out, chkS_ok HZ.out H1.out H2.out H3.out (by unfold clOk; rw [HN.out]; exact hnq.out)])
          go_wp2_with fail
          go_ret
          exact ⟨ret_i HV.out, hBq⟩
end P20
end Go.Proofs.YtajbchecjbddgaaGreatDoor
