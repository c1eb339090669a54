/- Audit: the reference's Clean. -/
import Derived.Test.YtajbchecjbddgaaGreatDoorU7
import Derived.Deep.RegionHeld3
import Derived.Deep.QuietTactic
import Derived.BigQuiet
namespace Go.Proofs.YtajbchecjbddgaaGreatDoor
open Go.RowKit
namespace P20
open P7

theorem below_drewN {w : World} : ∀ n, Below w.heap.size w (w.drewN n)
  | 0 => Below.refl _ _
  | n + 1 => by
    have h := below_drewN (w := w) n
    exact ⟨h.os, h.tape, h.output, h.size, h.block⟩
abbrev BxS (W0 : World) (g : Nat) (a1 a2 a3 : Value) (W : World) : Prop :=
  Below W0.heap.size W0 W ∧ W.cell? ⟨g, 0, none⟩ = some a1 ∧ W.cell? ⟨g, 1, none⟩ = some a2 ∧ W.cell? ⟨g, 2, none⟩ = some a3
theorem BxS.gr {W0 W : World} {g : Nat} {a1 a2 a3 : Value} (h : BxS W0 g a1 a2 a3 W) : Below W0.heap.size W0 W := h.1
theorem BxS.next {W0 W W' : World} {g : Nat} {a1 a2 a3 : Value} (h0 : BxS W0 g a1 a2 a3 W) (hb : Below W.heap.size W W') (hg : g < W0.heap.size) : BxS W0 g a1 a2 a3 W' := by
  obtain ⟨h0, r0, r1, r2⟩ := h0
  have k := fun j => hb.cell (p := ⟨g, j, none⟩) (Nat.lt_of_lt_of_le hg h0.size)
  exact ⟨h0.next hb, (k _).trans r0, (k _).trans r1, (k _).trans r2⟩
theorem refIn_next {w : World} {vr vs vw : Value} {s : Sh} (h : Shm w vr vs vw s) (hlen : s.sc.length ≤ 1000) (hok : scOk s) (hup : ∀ j, j < s.l.length → (at_ s.l j).p < j) (i of : Nat) (hi : i < s.sc.length) : ∀ W, Below w.heap.size w W →
    Calls Tryz.prog 25 #[.agg #[vr, vs, vw], .int .i64 i, .int .i64 of] W fun e w' => e = .returned (.bool (decide (of ∈ ch s i))) ∧ Below W.heap.size W w' := fun _ hW => refIn_any (h.next hW) hlen hok hup i of hi
theorem notin_S {ws : List Wk} {y : Int} (h : ∀ m, m < ws.length → y ∉ (wA ws m).st) : y ∉ allS ws := fun hy => by
  obtain ⟨x, hx, hy⟩ := mem_allS.1 hy
  obtain ⟨m, hm, e⟩ := List.getElem_of_mem hx
  have := h m hm
  rw [wA_eq hm, e] at this
  exact this hy
theorem notin_D {ws : List Wk} {y : Int} (h : ∀ m, m < ws.length → y ∉ (wA ws m).dq) : y ∉ allD ws := fun hy => by
  obtain ⟨x, hx, hy⟩ := mem_allD.1 hy
  obtain ⟨m, hm, e⟩ := List.getElem_of_mem hx
  have := h m hm
  rw [wA_eq hm, e] at this
  exact this hy
theorem in_S {ws : List Wk} {y : Int} {m : Nat} (hm : m < ws.length) (h : y ∈ (wA ws m).st) : y ∈ allS ws := mem_allS.2 ⟨_, by rw [wA_eq hm]; exact List.getElem_mem hm, h⟩
theorem in_D {ws : List Wk} {y : Int} {m : Nat} (hm : m < ws.length) (h : y ∈ (wA ws m).dq) : y ∈ allD ws := mem_allD.2 ⟨_, by rw [wA_eq hm]; exact List.getElem_mem hm, h⟩
theorem cell_drewN {w : World} (a : Addr) : ∀ n, (w.drewN n).cell? a = w.cell? a
  | 0 => rfl
  | n + 1 => cell_drewN (w := w) a n
set_option maxRecDepth 100000 in
set_option maxHeartbeats 8000000 in
theorem refClean_any {w : World} {vr vs vw : Value} {s : Sh} (h : Shm w vr vs vw s) (hf : FewS s) (hok : scOk s) (hup : ∀ j, j < s.l.length → (at_ s.l j).p < j) (of : Nat) (hof : of < s.sc.length) (b : Bool) (hb : b = true ↔ clean s of) :
    Calls Tryz.prog 43 #[.agg #[vr, vs, vw], .int .i64 of] w fun e w' => e = .returned (.bool b) ∧ Below w.heap.size w w' := by
  have hsc := hf.sc
  have HO := Lib.hid (refOf_next h (by omega))
  have HI := Lib.hid (refIn_next h (by omega) hok hup)
  have HOK := Lib.hid hok
  have HFW := Lib.hid hf
  obtain ⟨A, c, rfl, hnc, hA⟩ := scs_open h.scs
  obtain ⟨Ar, cr, rfl, hncr, hAr⟩ := rows_open h.rows.sl
  obtain ⟨Aw, cw, rfl, hncw, hAw⟩ := h.wks.open_
  have HAR := Lib.hid hAr
  have HAW := Lib.hid hAw
  obtain ⟨g, off, rfl, hg, -, -, -, -, -, c5⟩ := hA of hof
  have hl40 := hf.l
  have hw20 := hf.ws
  have HB := Lib.hid hb
  obtain ⟨n, hn⟩ := name_of s.sc.length
  obtain ⟨nr, hnr⟩ := name_of s.l.length
  obtain ⟨nw, hnw⟩ := name_of s.ws.length
  have HN := Lib.hid hn
  have HNR := Lib.hid hnr
  have HNW := Lib.hid hnw
  rw [hn, hnr, hnw] at HO HI
  rw [hn] at hnc hof hsc
  rw [hnr] at hncr hl40
  rw [hnw] at hncw hw20
  rw [hn, hnr, hnw]
  have hfalse : ¬ clean s of → Hid (b = false) := fun h => Lib.hid (by
    cases b with
    | false => rfl
    | true => exact absurd (HB.out.1 rfl) h)
  have HF := Lib.hid hfalse
  obtain ⟨xv, hxv⟩ := name_of (sA s.sc of).v
  rw [hxv] at c5
  have HXV := Lib.hid hxv
  clear hA hAr hAw h hn hnr hnw hb hf hfalse hok hup hxv
  have hB0 : Below w.heap.size w (w.alloc (.cells #[.slice Ar nr cr, .slice (some ⟨g, off, none⟩) n c, .slice Aw nw cw] 26)) := by go_grown
  have hG0 := heap_alloc_last w (.cells #[.slice Ar nr cr, .slice (some ⟨g, off, none⟩) n c, .slice Aw nw cw] 26)
  by_cases hv : xv = 0
  rotate_left
  · have e1 : (xv != 0) = true := bne_iff_ne.2 hv
    have HR := HF.out (fun hs => hv (by rw [← HXV.out]; exact hs.1))
    clear hv hG0
    go_enter Tryz.func43, Tryz.ntmps43
    go_wp2_with fail
    go_ret
    exact ⟨ret_bool HR.out.symm, hB0⟩
  have e1 : (xv != 0) = false := bne_eq_false_iff_eq.2 hv
  have HV0 : Hid ((sA s.sc of).v = 0) := Lib.hid (by rw [HXV.out, hv])
  clear hv
  go_enter Tryz.func43, Tryz.ntmps43
  go_wp2_with fail
  go_loopw [5] (fun x wr => ∃ i : Nat, i ≤ nr ∧ x = .int .i64 i ∧ Hid (∀ m, m < i → cleanR s of m) ∧ Below w.heap.size w wr ∧ Hid (wr.heap[w.heap.size]? = some (.cells #[.slice Ar nr cr, .slice (some ⟨g, off, none⟩) n c, .slice Aw nw cw] 26 (0, 0)))) (fun x _ => nr - (intOf x).toNat)
  case atStart => exact ⟨0, Nat.zero_le _, rfl, Lib.hid (fun m hm => by omega), hB0, Lib.hid hG0⟩
  case round =>
    clear hB0 hG0 c5 e1
    obtain ⟨i, hi, rfl, hno, hB, hblk⟩ := hrel
    have q0 : wr.cell? ⟨w.heap.size, 0, none⟩ = some (.slice Ar nr cr) := by rw [cell_of_row _ _ _ _ _ _ hblk.out]; rfl
    have q1 : wr.cell? ⟨w.heap.size, 1, none⟩ = some (.slice (some ⟨g, off, none⟩) n c) := by rw [cell_of_row _ _ _ _ _ _ hblk.out]; rfl
    have q2 : wr.cell? ⟨w.heap.size, 2, none⟩ = some (.slice Aw nw cw) := by rw [cell_of_row _ _ _ _ _ _ hblk.out]; rfl
    have hws : w.heap.size < wr.heap.size := lt_of_block hblk.out
    by_cases hlt : i < nr
    · obtain ⟨gr, offr, rfl, hgr, -, -, -, k3, -⟩ := HAR.out i (by rw [HNR.out]; exact hlt)
      obtain ⟨k, hk, hkl⟩ := ofN_lt HOK.out (i := i) (by rw [HNR.out]; exact hlt)
      rw [HN.out] at hkl
      obtain ⟨rk, hrk⟩ := name_of (at_ s.l i).k
      rw [hrk] at k3
      have HRK := Lib.hid hrk
      have HBW := Lib.hid hB
      have hS : BxS wr w.heap.size (.slice (some ⟨gr, offr, none⟩) nr cr) (.slice (some ⟨g, off, none⟩) n c) (.slice Aw nw cw) wr := ⟨Below.refl _ _, q0, q1, q2⟩
      have hOS : ∀ W, BxS wr w.heap.size (.slice (some ⟨gr, offr, none⟩) nr cr) (.slice (some ⟨g, off, none⟩) n c) (.slice Aw nw cw) W → Calls Tryz.prog 26 #[.agg #[.slice (some ⟨gr, offr, none⟩) nr cr, .slice (some ⟨g, off, none⟩) n c, .slice Aw nw cw], .int .i64 i] W fun e w' => e = .returned (.int .i64 k) ∧ Below W.heap.size W w' := fun W hW => by
        have h := HO.out i hlt W (HBW.out.next hW.1)
        rw [hk] at h
        exact h
      obtain ⟨t, ht⟩ := name_of (decide (of ∈ ch s k))
      have hIS : ∀ W, BxS wr w.heap.size (.slice (some ⟨gr, offr, none⟩) nr cr) (.slice (some ⟨g, off, none⟩) n c) (.slice Aw nw cw) W → Calls Tryz.prog 25 #[.agg #[.slice (some ⟨gr, offr, none⟩) nr cr, .slice (some ⟨g, off, none⟩) n c, .slice Aw nw cw], .int .i64 k, .int .i64 of] W fun e w' => e = .returned (.bool t) ∧ Below W.heap.size W w' := fun W hW => by
        have h := HI.out k of hkl W (HBW.out.next hW.1)
        rw [ht] at h
        exact h
      have HT : Hid (rowIn s i of ↔ t = true) := Lib.hid (by
        unfold rowIn
        rw [hk, ← ht, decide_eq_true_iff]
        exact Iff.rfl)
      have HK3 := Lib.hid k3
      clear q0 q1 q2 k3 hrk hk ht hB
      go_wp2_with fail
      go_region_held3 (fun W => BxS wr w.heap.size (.slice (some ⟨gr, offr, none⟩) nr cr) (.slice (some ⟨g, off, none⟩) n c) (.slice Aw nw cw) W) (first | assumption | exact BxS.next hS below_drewU (by assumption) | exact BxS.next (by assumption) (by assumption) (by assumption)) (first | (go_at_call 26; (with_reducible refine (hOS _ (by assumption)).mono ?_); rintro e w3 ⟨rfl, hb3⟩; have hB3 := (BxS.gr (W := _) (by assumption)).next hb3) | (go_at_call 25; (with_reducible refine (hIS _ (by assumption)).mono ?_); rintro e w4 ⟨rfl, hb4⟩; have hB4 := (BxS.gr (W := _) (by assumption)).next hb4))
      have HBX := Lib.hid (HBW.out.next hB4)
      have HGX := Lib.hid (blk_next hblk.out hB4)
      have k3w := (HBX.out.cell (p := ⟨gr, _, none⟩) hgr).trans HK3.out
      have q0 : w4.cell? ⟨w.heap.size, 0, none⟩ = some (.slice (some ⟨gr, offr, none⟩) nr cr) := by rw [cell_of_row _ _ _ _ _ _ HGX.out]; rfl
      have q2 : w4.cell? ⟨w.heap.size, 2, none⟩ = some (.slice Aw nw cw) := by rw [cell_of_row _ _ _ _ _ _ HGX.out]; rfl
      clear hOS hIS hS hb3 hb4 hB3
      cases t with
      | false =>
        have HR : Hid (∀ m, m < i + 1 → cleanR s of m) := Lib.hid fun m hm => by
          by_cases e : m = i
          · rw [e]; intro hin; exact absurd (HT.out.1 hin) (by simp)
          · exact hno.out m (by omega)
        go_wp2_with fail
        exact ⟨⟨i + 1, by omega, by go_num, HR, HBX.out, HGX⟩, by simp [intOf]; omega⟩
      | true =>
        by_cases g1 : rk < 2
        · have f1 : decide (rk < 2) = true := decide_eq_true g1
          have HR := HF.out (fun hs => by
            have := (hs.2 i (by rw [HNR.out]; exact hlt) (HT.out.2 (by simp))).1
            rw [HRK.out] at this
            omega)
          clear g1
          go_wp2_with fail
          go_ret
          exact ⟨ret_bool HR.out.symm, HBX.out⟩
        · have f1 : decide (rk < 2) = false := decide_eq_false g1
          have HRK2 : Hid (2 ≤ (at_ s.l i).k) := Lib.hid (by rw [HRK.out]; omega)
          clear g1
          go_wp2_with fail
          go_loopw [6] (fun x wr => ∃ j : Nat, j ≤ nw ∧ x = .int .i64 j ∧ Hid (∀ m, m < j → (i : Int) ∉ (wA s.ws m).st ∧ (i : Int) ∉ (wA s.ws m).dq) ∧ Below w.heap.size w wr ∧ Hid (wr.heap[w.heap.size]? = some (.cells #[.slice (some ⟨gr, offr, none⟩) nr cr, .slice (some ⟨g, off, none⟩) n c, .slice Aw nw cw] 26 (0, 0)))) (fun x _ => nw - (intOf x).toNat)
          case atStart => exact ⟨0, Nat.zero_le _, rfl, Lib.hid (fun m hm => by omega), HBX.out, HGX⟩
          case round =>
            clear q0 q2 k3w f1
            obtain ⟨j, hj, rfl, hnj, hBj, hblj⟩ := hrel
            have q0 : wr.cell? ⟨w.heap.size, 0, none⟩ = some (.slice (some ⟨gr, offr, none⟩) nr cr) := by rw [cell_of_row _ _ _ _ _ _ hblj.out]; rfl
            have q2 : wr.cell? ⟨w.heap.size, 2, none⟩ = some (.slice Aw nw cw) := by rw [cell_of_row _ _ _ _ _ _ hblj.out]; rfl
            by_cases hltw : j < nw
            · obtain ⟨gw, offw, sv, dv, rfl, hgw, -, -, d2, d3, hs, hd⟩ := HAW.out j (by rw [HNW.out]; exact hltw)
              have e2 := (hBj.cell (p := ⟨gw, _, none⟩) hgw).trans d2
              have e3 := (hBj.cell (p := ⟨gw, _, none⟩) hgw).trans d3
              have hst := HFW.out.st j (by rw [HNW.out]; exact hltw)
              have hdq := HFW.out.dq j (by rw [HNW.out]; exact hltw)
              have hT2 : ∀ N, Calls Tryz.prog 70 #[sv, .int .i64 i] (wr.drewN N) fun e w' => e = .returned (.int .i64 ((wA s.ws j).st.count (i : Int) : Nat)) ∧ w' = wr.drewN N := fun N => (refTimes_any ((hs.below hBj).keep (fun b o _ => cell_drewN _ N)) (by omega) (i : Int)).mono fun _ _ h => ⟨h.1, h.2.symm⟩
              have hU2 : ∀ N, Calls Tryz.prog 70 #[dv, .int .i64 i] (wr.drewN N) fun e w' => e = .returned (.int .i64 ((wA s.ws j).dq.count (i : Int) : Nat)) ∧ w' = wr.drewN N := fun N => (refTimes_any ((hd.below hBj).keep (fun b o _ => cell_drewN _ N)) (by omega) (i : Int)).mono fun _ _ h => ⟨h.1, h.2.symm⟩
              have hpc := List.count_le_length (a := (i : Int)) (l := (wA s.ws j).st)
              have hqc := List.count_le_length (a := (i : Int)) (l := (wA s.ws j).dq)
              obtain ⟨p1, hp1⟩ := name_of ((wA s.ws j).st.count (i : Int))
              obtain ⟨q1, hq1⟩ := name_of ((wA s.ws j).dq.count (i : Int))
              rw [hp1] at hT2 hpc
              rw [hq1] at hU2 hqc
              have HP1 := Lib.hid hp1
              have HQ1 := Lib.hid hq1
              have hwS : IntKind.i64.wrap ((p1 : Int) + (q1 : Int)) = (p1 : Int) + (q1 : Int) := IntWalk.i64_in _ (by omega)
              obtain ⟨As, ns, cs, rfl, -⟩ := hs
              obtain ⟨Ad, nd, cd, rfl, -⟩ := hd
              clear d2 d3 hp1 hq1 hst hdq hpc hqc
              by_cases g2 : 0 < p1 + q1
              · have f2 : decide (0 < (p1 : Int) + (q1 : Int)) = true := decide_eq_true (by omega)
                have HR := HF.out (fun hs => by
                  obtain ⟨-, h1, h2⟩ := hs.2 i (by rw [HNR.out]; exact hlt) (HT.out.2 (by simp))
                  have h3 : p1 = 0 := by
                    rw [← HP1.out]
                    exact List.count_eq_zero_of_not_mem fun h => h1 (in_S (by rw [HNW.out]; exact hltw) h)
                  have h4 : q1 = 0 := by
                    rw [← HQ1.out]
                    exact List.count_eq_zero_of_not_mem fun h => h2 (in_D (by rw [HNW.out]; exact hltw) h)
                  omega)
                have HBJ := Lib.hid hBj
                clear g2 hBj
                have hjI : (j : Int) < nw := by omega
                go_wp2_with fail
                go_quiet ((go_at_call 70; (first | (with_reducible exact Calls.quiet_of_same (hT2 _)) | (with_reducible exact Calls.quiet_of_same (hU2 _)))))
                go_wp2_with fail
                go_ret
                exact ⟨ret_bool HR.out.symm, HBJ.out.next (below_drewN _)⟩
              · have f2 : decide (0 < (p1 : Int) + (q1 : Int)) = false := decide_eq_false (by omega)
                have HR : Hid (∀ m, m < j + 1 → (i : Int) ∉ (wA s.ws m).st ∧ (i : Int) ∉ (wA s.ws m).dq) := Lib.hid fun m hm => by
                  by_cases e : m = j
                  · rw [e]
                    exact ⟨fun h => by have := List.count_pos_iff.2 h; rw [HP1.out] at this; omega, fun h => by have := List.count_pos_iff.2 h; rw [HQ1.out] at this; omega⟩
                  · exact hnj.out m (by omega)
                have HBJ := Lib.hid hBj
                clear g2 hBj
                have hjI : (j : Int) < nw := by omega
                go_wp2_with fail
                go_quiet ((go_at_call 70; (first | (with_reducible exact Calls.quiet_of_same (hT2 _)) | (with_reducible exact Calls.quiet_of_same (hU2 _)))))
                go_wp2_with fail
                exact ⟨⟨j + 1, by omega, by go_num, HR, HBJ.out.next (below_drewN _), Lib.hid (blk_next hblj.out (below_drewN _))⟩, by simp [intOf]; omega⟩
            · obtain rfl : j = nw := by omega
              have HR : Hid (∀ m, m < i + 1 → cleanR s of m) := Lib.hid fun m hm => by
                by_cases e : m = i
                · rw [e]; exact fun _ => ⟨HRK2.out, notin_S fun x hx => (hnj.out x (by rw [HNW.out] at hx; exact hx)).1, notin_D fun x hx => (hnj.out x (by rw [HNW.out] at hx; exact hx)).2⟩
                · exact hno.out m (by omega)
              go_wp2_with fail
              exact ⟨⟨i + 1, by omega, by go_num, HR, hBj, hblj⟩, by simp [intOf]; omega⟩
    · obtain rfl : i = nr := by omega
      have HR : Hid (b = true) := Lib.hid (HB.out.2 ⟨HV0.out, by rw [HNR.out]; exact hno.out⟩)
      go_wp2_with fail
      go_ret
      exact ⟨ret_bool HR.out.symm, hB⟩
end P20
end Go.Proofs.YtajbchecjbddgaaGreatDoor
