/- Audit: the law's within. -/
import Derived.Test.YtajbchecjbddgaaDoorVf
import Derived.Test.YtajbchecjbddgaaDoorU8
import Derived.Test.YtajbchecjbddgaaDoorH3
import Derived.Deep.CutRange
import Derived.Deep.CutBlock
namespace Go.Proofs.YtajbchecjbddgaaDoor
open Go.RowKit
namespace P20
open P7

def inTo (s : Sh) (of i : Nat) : List Nat := (List.range i).filter fun j => decide (rowIn s j of)
theorem inTo_succ (s : Sh) (of i : Nat) : inTo s of (i + 1) = if rowIn s i of then inTo s of i ++ [i] else inTo s of i := by
  unfold inTo
  rw [List.range_succ, List.filter_append]
  by_cases h : rowIn s i of
  · rw [if_pos h]; simp [h]
  · rw [if_neg h]; simp [h]
theorem inTo_all (s : Sh) (of : Nat) : inTo s of s.l.length = inRows s of := rfl
theorem inTo_len (s : Sh) (of i : Nat) : (inTo s of i).length ≤ i := by
  have := List.length_filter_le (fun j => decide (rowIn s j of)) (List.range i)
  rw [List.length_range] at this
  exact this
theorem stepsOf_snoc (s : Sh) (L : List Nat) (x : Nat) : stepsOf s (L ++ [x]) = stepsOf s L + (at_ s.l x).s := by
  unfold stepsOf
  rw [List.map_append, List.foldl_append]
  rfl
theorem tab_s {l : List Row} (h : Tab l) {i : Nat} (hi : i < l.length) : 0 ≤ (at_ l i).s ∧ (at_ l i).s ≤ 1048576 := by
  have h1 := (right_up (h.row i hi)).2.1
  unfold spanOk at h1
  have := of_decide_eq_true h1
  omega
theorem stepsOf_bd {s : Sh} (h : Tab s.l) (of : Nat) : ∀ i, i ≤ s.l.length → 0 ≤ stepsOf s (inTo s of i) ∧ stepsOf s (inTo s of i) ≤ i * 1048576
  | 0, _ => by simp [inTo, stepsOf]
  | i + 1, hi => by
    have ih := stepsOf_bd h of i (by omega)
    have hs := tab_s h (i := i) (by omega)
    rw [inTo_succ]
    split
    · rw [stepsOf_snoc]
      omega
    · omega
theorem rowIn_iff {s : Sh} (h : scOk s) {i : Nat} (hi : i < s.l.length) {of : Nat} : ∃ q, fnd s.sc (at_ s.l i).p (at_ s.l i).i = some q ∧ q < s.sc.length ∧ (rowIn s i of ↔ of ∈ ch s q) := by
  obtain ⟨q, hq, hql⟩ := ofN_lt h hi
  refine ⟨q, hq, hql, ?_⟩
  unfold rowIn
  rw [hq]
  rfl
/-- What a step up the scopes does. -/
theorem step_up {s : Sh} (h : scOk s) (hu : ∀ j, j < s.l.length → (at_ s.l j).p < j) {P K : Int} {cur : Nat} (hf : fnd s.sc P K = some cur) :
    cur < s.sc.length ∧ (sA s.sc cur).r = P ∧ (sA s.sc cur).k = K ∧ (P < 0 → cur = 0 ∧ ch s cur = [0]) ∧ (0 ≤ P → P < s.l.length ∧ ∃ c', c' < cur ∧ ch s cur = cur :: ch s c' ∧ (0 < K → fnd s.sc P (sA s.sc cur).n = some c') ∧ (¬ 0 < K → fnd s.sc (at_ s.l P.toNat).p (at_ s.l P.toNat).i = some c' ∧ -1 ≤ (at_ s.l P.toNat).p ∧ (at_ s.l P.toNat).p < s.l.length)) := by
  obtain ⟨h1, ⟨h2, h3⟩, -⟩ := fnd_some hf
  have hb := h.1.r_bd h1
  refine ⟨h1, h2, h3, fun hp => ?_, fun hp => ?_⟩
  · have h0 := hb.2.2 (by omega)
    refine ⟨h0, ?_⟩
    subst h0
    exact ch_zero h.1 h1
  · have h0 : cur ≠ 0 := fun e => by have := hb.2.1 e; omega
    have hr := h.1.r_row h1 h0
    obtain ⟨c', hc, hlt⟩ := arN_lt h hu h1 h0
    refine ⟨by omega, c', hlt, ch_step h hu h1 h0 hc, fun hK => ?_, fun hK => ?_⟩
    · unfold arN at hc
      rw [if_neg (by omega), if_pos (by omega), h2] at hc
      exact hc
    · unfold arN at hc
      rw [if_neg (by omega), if_neg (by omega), h2] at hc
      have hc' : fnd s.sc (at_ s.l P.toNat).p (at_ s.l P.toNat).i = some c' := hc
      obtain ⟨g1, ⟨g2, g3⟩, -⟩ := fnd_some hc'
      have gb := h.1.r_bd g1
      have gu := hu P.toNat (by omega)
      exact ⟨hc', by omega, by omega⟩
set_option maxRecDepth 100000 in
set_option maxHeartbeats 16000000 in
theorem within_any {w : World} {vr vs vw : Value} {s : Sh} (h : Shm w vr vs vw s) (hf : FewS s) (hck : chkS s = 0) (of : Nat) (hof : of < s.sc.length) (hcl : (sA s.sc of).c = true) :
    Calls Tryd.prog 19 #[.agg #[vr, vs, vw], .int .i64 of] w fun e w' => e = .returned (.tuple #[.int .i64 ((inRows s of).length : Nat), .int .i64 (stepsOf s (inRows s of)), .bool true]) ∧ Below w.heap.size w w' := by
  obtain ⟨hT, hsc, -, -, -⟩ := chkS_split hck
  have hcr := (closed_rows hck hof hcl).2
  have hl40 := hf.l
  have hs60 := hf.sc
  have hw20 := hf.ws
  have HFD : Hid (∀ W r k, Below w.heap.size w W → Calls Tryd.prog 18 #[.agg #[vr, vs, vw], .int .i64 r, .int .i64 k] W fun e w' => e = .returned (.int .i64 (inI (fnd s.sc r k))) ∧ Below W.heap.size W w') := Lib.hid fun W r k hW => lawFind_any (h.next hW) (by omega) r k
  have HST := Lib.hid (stepsOf_bd hT of)
  have HTS := Lib.hid (fun i (hi : i < s.l.length) => tab_s hT hi)
  have HUP : Hid (∀ j, j < s.l.length → (at_ s.l j).p < j) := Lib.hid (Tab_lt hT)
  have HSC := Lib.hid hsc
  have HCR : Hid (∀ i, i < s.l.length → rowIn s i of → 2 ≤ (at_ s.l i).k ∧ (i : Int) ∉ allS s.ws ∧ (i : Int) ∉ allD s.ws) := Lib.hid (fun i hi hr => hcr i (by unfold inRows; rw [List.mem_filter, List.mem_range, decide_eq_true_iff]; exact ⟨hi, hr⟩))
  have HFW := Lib.hid hf
  obtain ⟨A, c, rfl, hnc, hA⟩ := scs_open h.scs
  obtain ⟨Ar, cr, rfl, hncr, hAr⟩ := rows_open h.rows.sl
  obtain ⟨Aw, cw, rfl, hncw, hAw⟩ := h.wks.open_
  have HA := Lib.hid hA
  have HAR := Lib.hid hAr
  have HAW := Lib.hid hAw
  obtain ⟨n, hn⟩ := name_of s.sc.length
  obtain ⟨nr, hnr⟩ := name_of s.l.length
  obtain ⟨nw, hnw⟩ := name_of s.ws.length
  have HN := Lib.hid hn
  have HNR := Lib.hid hnr
  have HNW := Lib.hid hnw
  rw [hn] at hnc hs60 hof
  rw [hnr] at hncr hl40
  rw [hnw] at hncw hw20
  rw [hn, hnr, hnw] at HFD
  rw [hn, hnr, hnw]
  rw [hnr] at HST HTS
  have HFIN : Hid (Value.tuple #[.int .i64 ((inTo s of nr).length : Nat), .int .i64 (stepsOf s (inTo s of nr)), .bool true] = .tuple #[.int .i64 ((inRows s of).length : Nat), .int .i64 (stepsOf s (inRows s of)), .bool true]) := Lib.hid (by rw [← hnr]; rfl)
  obtain ⟨RR, hRR⟩ := name_of (Value.tuple #[.int .i64 ((inRows s of).length : Nat), .int .i64 (stepsOf s (inRows s of)), .bool true])
  rw [hRR] at HFIN ⊢
  clear hA hAr hAw h hf hn hnr hnw hT hsc hcr hcl hck hRR
  go_enter Tryd.func19, Tryd.ntmps19
  go_wp2_with fail
  go_loopw [9, 7, 8] (fun x y z wr => ∃ i : Nat, i ≤ nr ∧ x = .int .i64 i ∧ y = .int .i64 ((inTo s of i).length : Nat) ∧ z = .int .i64 (stepsOf s (inTo s of i)) ∧ Below w.heap.size w wr ∧ Hid (wr.heap[w.heap.size]? = some (.cells #[.slice Ar nr cr, .slice A n c, .slice Aw nw cw] 26 (0, 0)))) (fun x _ _ _ => nr - (intOf x).toNat)
  case atStart => exact ⟨0, Nat.zero_le _, rfl, rfl, rfl, by go_grown, Lib.hid (heap_alloc_last _ _)⟩
  case round =>
    obtain ⟨i, hi, rfl, rfl, rfl, hB, hg⟩ := hrel
    have q0 : wr.cell? ⟨w.heap.size, 0, none⟩ = some (.slice Ar nr cr) := (cell_of_row _ _ _ _ _ _ hg.out).trans rfl
    by_cases hlt : i < nr
    · obtain ⟨g, off, rfl, hgl, c0, c1, -, c3, -, c5, -⟩ := HAR.out i (by rw [HNR.out]; exact hlt)
      have d0 := (hB.cell (p := ⟨g, _, none⟩) hgl).trans c0
      have d1 := (hB.cell (p := ⟨g, _, none⟩) hgl).trans c1
      obtain ⟨q, hq, hql, hqi⟩ := rowIn_iff HSC.out (i := i) (of := of) (by rw [HNR.out]; exact hlt)
      have hqb := step_up HSC.out HUP.out hq
      have hPb : -1 ≤ (at_ s.l i).p ∧ (at_ s.l i).p < nr := by
        have h1 := HSC.out.1.r_bd hql
        rw [hqb.2.1] at h1
        have h2 := HUP.out i (by rw [HNR.out]; exact hlt)
        omega
      obtain ⟨P, hP⟩ := name_of (at_ s.l i).p
      obtain ⟨K, hK⟩ := name_of (at_ s.l i).i
      rw [hP] at d0 hq hPb
      rw [hK] at d1 hq
      have HQ := Lib.hid hq
      have HQI := Lib.hid hqi
      rw [HN.out] at hql
      clear c0 c1 hq hqi hqb hP hK
      obtain ⟨RB, hRB⟩ := name_of (decide (rowIn s i of))
      have HRB := Lib.hid hRB
      clear hRB
      go_upto_block 2 with fail
      go_cut [13] from 37 to 94 (fun x wx => x = .bool RB ∧ Below w.heap.size w wx ∧ wx.heap[w.heap.size]? = some (.cells #[.slice (some ⟨g, off, none⟩) nr cr, .slice A n c, .slice Aw nw cw] 26 (0, 0)))
      case first =>
        clear d0 d1 q0
        go_wp2_with fail
        go_loopw [12, 11, 13, 14] (fun xp xk xb xl wr => ∃ (P K : Int) (L cur : Nat) (b : Bool), xp = .int .i64 P ∧ xk = .int .i64 K ∧ xb = .bool b ∧ xl = .int .i64 L ∧ Hid (fnd s.sc P K = some cur) ∧ L + cur ≤ n ∧ -1 ≤ P ∧ P < nr ∧ Hid (b = true → rowIn s i of) ∧ Hid (b = false → (rowIn s i of ↔ of ∈ ch s cur)) ∧ Below w.heap.size w wr ∧ Hid (wr.heap[w.heap.size]? = some (.cells #[.slice (some ⟨g, off, none⟩) nr cr, .slice A n c, .slice Aw nw cw] 26 (0, 0)))) (fun _ _ _ xl _ => 200 - (intOf xl).toNat)
        case atStart => exact ⟨P, K, 0, q, false, rfl, rfl, rfl, rfl, HQ, by omega, hPb.1, hPb.2, Lib.hid (fun h => by cases h), Lib.hid (fun _ => HQI.out), hB, hg⟩
        case round =>
          clear HQ HQI hB hg hPb hql
          obtain ⟨P, K, L, cur, b, rfl, rfl, rfl, rfl, HF, hLc, hP1, hP2, hbT, hbF, hB, hg⟩ := hrel
          have q0 : wr.cell? ⟨w.heap.size, 0, none⟩ = some (.slice (some ⟨g, off, none⟩) nr cr) := (cell_of_row _ _ _ _ _ _ hg.out).trans rfl
          have f1 : decide ((L : Int) < 200) = true := decide_eq_true (by omega)
          have f2 : decide (-1 ≤ P) = true := decide_eq_true hP1
          have f3 : decide (P < nr) = true := decide_eq_true hP2
          cases b with
          | true =>
            have HV : Hid (Value.bool true = .bool RB) := Lib.hid (by rw [← HRB.out, decide_eq_true (hbT.out rfl)])
            go_wp2_with fail
            go_meet
            exact ⟨HV.out, hB, hg.out⟩
          | false =>
            obtain ⟨hcl, hcr, hck, hneg, hpos⟩ := step_up HSC.out HUP.out HF.out
            have hFd := HFD.out wr P K hB
            rw [HF.out] at hFd
            have hin : inI (some cur) = (cur : Int) := rfl
            rw [hin] at hFd
            have q1 : wr.cell? ⟨w.heap.size, 1, none⟩ = some (.slice A n c) := (cell_of_row _ _ _ _ _ _ hg.out).trans rfl
            have q2 : wr.cell? ⟨w.heap.size, 2, none⟩ = some (.slice Aw nw cw) := (cell_of_row _ _ _ _ _ _ hg.out).trans rfl
            have hbI := hbF.out rfl
            have HBI := Lib.hid hbI
            have f4 : decide ((cur : Int) < 0) = false := decide_eq_false (by omega)
            have HCE : Hid ((((cur : Int) == of) = true ↔ cur = of)) := Lib.hid (by simp; omega)
            obtain ⟨T, hT⟩ := name_of ((cur : Int) == of)
            rw [hT] at HCE
            by_cases hp : P < 0
            · have f5 : decide (P < 0) = true := decide_eq_true hp
              have HV : Hid (Value.bool T = .bool RB) := Lib.hid (by
                obtain ⟨e1, e2⟩ := hneg hp
                rw [e2, List.mem_singleton] at hbI
                have : T = decide (rowIn s i of) := by
                  rw [Bool.eq_iff_iff, HCE.out, decide_eq_true_iff, hbI, e1]
                  exact eq_comm
                rw [this, HRB.out])
              clear hp hneg hpos hcl hcr hck hbI HF hbT hbF
              go_wp2_with fail
              refine hFd.mono ?_
              rintro e w3 ⟨rfl, hb3⟩
              have HB3 := Lib.hid (hB.next hb3)
              have HG3 := Lib.hid (blk_next hg.out hb3)
              clear hFd hb3 q0 q1 q2
              go_wp2_with fail
              go_meet
              exact ⟨HV.out, HB3.out, HG3.out⟩
            · have f5 : decide (P < 0) = false := decide_eq_false hp
              obtain ⟨p, rfl⟩ := Int.eq_ofNat_of_zero_le (show 0 ≤ P by omega)
              obtain ⟨hpl, c', hc1, hc2, hcK, hcN⟩ := hpos (by omega)
              obtain ⟨gs, offs, rfl, hgs, -, s1, s2, -⟩ := HA.out cur (by rw [HN.out] at hcl ⊢; exact hcl)
              rw [hck] at s1
              obtain ⟨g', off', eg, hgp, r0, r1, -⟩ := HAR.out p (by rw [HNR.out]; omega)
              injection eg with eg
              injection eg with eg1 eg2 _
              subst eg1 eg2
              have HT1 : Hid (T = true → rowIn s i of) := Lib.hid (fun h => HBI.out.2 (by rw [HCE.out.1 h]; exact ch_self s of))
              have HT2 : Hid (T = false → (rowIn s i of ↔ of ∈ ch s c')) := Lib.hid (fun h => by
                rw [HBI.out, hc2, List.mem_cons]
                constructor
                · rintro (e | e)
                  · have := HCE.out.2 e.symm
                    rw [h] at this
                    cases this
                  · exact e
                · exact .inr)
              have hpn : p < nr := by omega
              rw [HN.out] at hcl
              go_wp2_with fail
              refine hFd.mono ?_
              rintro e w3 ⟨rfl, hb3⟩
              have hB3 := hB.next hb3
              have HG3 := Lib.hid (blk_next hg.out hb3)
              have b1 := (hB3.cell (p := ⟨gs, _, none⟩) hgs).trans s1
              have b2 := (hB3.cell (p := ⟨gs, _, none⟩) hgs).trans s2
              have m0 := (hB3.cell (p := ⟨g, _, none⟩) hgp).trans r0
              have m1 := (hB3.cell (p := ⟨g, _, none⟩) hgp).trans r1
              have v0 : w3.cell? ⟨w.heap.size, 0, none⟩ = some (.slice (some ⟨g, off, none⟩) nr cr) := (cell_of_row _ _ _ _ _ _ HG3.out).trans rfl
              have v1 : w3.cell? ⟨w.heap.size, 1, none⟩ = some (.slice (some ⟨gs, offs, none⟩) n c) := (cell_of_row _ _ _ _ _ _ HG3.out).trans rfl
              by_cases hK : 0 < K
              · have f6 : decide (0 < K) = true := decide_eq_true hK
                have HF2 := Lib.hid (hcK hK)
                obtain ⟨N, hN⟩ := name_of (sA s.sc cur).n
                rw [hN] at b2 HF2
                clear hFd hb3 q0 q1 q2 s1 s2 r0 r1 hK hcK hcN hc2 hpl hck hcr hneg hpos hbI HF hN hp
                go_wp2_with fail
                exact ⟨⟨_, _, L + 1, c', T, rfl, rfl, rfl, by go_num, HF2, by omega, by omega, by omega, HT1, HT2, hB3, HG3⟩, by simp [intOf]; omega⟩
              · have f6 : decide (0 < K) = false := decide_eq_false hK
                obtain ⟨h1, h2, h3⟩ := hcN (by omega)
                have h4 : ((p : Int)).toNat = p := Int.toNat_natCast p
                rw [h4] at h1 h2 h3
                have HF2 := Lib.hid h1
                obtain ⟨N, hN⟩ := name_of (at_ s.l p).p
                obtain ⟨M, hM⟩ := name_of (at_ s.l p).i
                rw [hN] at m0 HF2 h2 h3
                rw [hM] at m1 HF2
                rw [HNR.out] at h3
                clear hFd hb3 q0 q1 q2 s1 s2 r0 r1 hK hcK hcN hc2 hpl hck hcr hneg hpos hbI HF hN hM h1 h4 hp
                go_wp2_with fail
                exact ⟨⟨_, _, L + 1, c', T, rfl, rfl, rfl, by go_num, HF2, by omega, h2, h3, HT1, HT2, hB3, HG3⟩, by simp [intOf]; omega⟩
      obtain ⟨rfl, hBc, hgc⟩ := hcut
      have HBc := Lib.hid hBc
      have HGc := Lib.hid hgc
      have HSU : Hid (inTo s of (i + 1) = if RB = true then inTo s of i ++ [i] else inTo s of i) := Lib.hid (by
        rw [inTo_succ]
        by_cases hr : rowIn s i of
        · rw [if_pos hr, if_pos (by rw [← HRB.out]; exact decide_eq_true hr)]
        · rw [if_neg hr, if_neg (by rw [← HRB.out, decide_eq_false hr]; simp)])
      clear HQ HQI hB hg d0 d1 q0 hBc hgc
      cases RB with
      | false =>
        have HL : Hid (inTo s of (i + 1) = inTo s of i) := Lib.hid HSU.out
        go_wp2_with fail
        exact ⟨⟨i + 1, by omega, by go_num, by rw [HL.out], by rw [HL.out], HBc.out, HGc⟩, by simp [intOf]; omega⟩
      | true =>
        have hrow : rowIn s i of := by
          have := HRB.out
          exact of_decide_eq_true this
        obtain ⟨hk2, hnS, hnD⟩ := HCR.out i (by rw [HNR.out]; exact hlt) hrow
        have hlen := inTo_len s of i
        have hst := HST.out i (by omega)
        have hss := HTS.out i hlt
        have HL : Hid (((inTo s of (i + 1)).length : Int) = (inTo s of i).length + 1 ∧ stepsOf s (inTo s of (i + 1)) = stepsOf s (inTo s of i) + (at_ s.l i).s) := Lib.hid (by
          have h := HSU.out
          rw [if_pos rfl] at h
          rw [h, stepsOf_snoc, List.length_append]
          exact ⟨by simp, rfl⟩)
        have e3 := (HBc.out.cell (p := ⟨g, _, none⟩) hgl).trans c3
        have e5 := (HBc.out.cell (p := ⟨g, _, none⟩) hgl).trans c5
        obtain ⟨kk, hkk⟩ := name_of (at_ s.l i).k
        obtain ⟨ss, hs5⟩ := name_of (at_ s.l i).s
        rw [hkk] at e3 hk2
        rw [hs5] at e5 hss HL
        have f6 : decide (kk < 2) = false := decide_eq_false (by omega)
        have y0 : wc.cell? ⟨w.heap.size, 0, none⟩ = some (.slice (some ⟨g, off, none⟩) nr cr) := (cell_of_row _ _ _ _ _ _ HGc.out).trans rfl
        have y2 : wc.cell? ⟨w.heap.size, 2, none⟩ = some (.slice Aw nw cw) := (cell_of_row _ _ _ _ _ _ HGc.out).trans rfl
        obtain ⟨X, hX⟩ := name_of (inTo s of i).length
        obtain ⟨Y, hY⟩ := name_of (stepsOf s (inTo s of i))
        rw [hX] at hlen HL ⊢
        rw [hY] at hst HL ⊢
        have HNS := Lib.hid hnS
        have HND := Lib.hid hnD
        clear c3 c5 hkk hs5 hk2 hnS hnD hrow hX hY
        go_wp2_with fail
        go_loopw [16] (fun x wq => ∃ j : Nat, j ≤ nw ∧ x = .int .i64 j ∧ Below w.heap.size w wq ∧ Hid (wq.heap[w.heap.size]? = some (.cells #[.slice (some ⟨g, off, none⟩) nr cr, .slice A n c, .slice Aw nw cw] 26 (0, 0)))) (fun x _ => nw - (intOf x).toNat)
        case atStart => exact ⟨0, Nat.zero_le _, rfl, HBc.out, HGc⟩
        case round =>
          clear HBc HGc y0 y2 e3 e5
          obtain ⟨j, hj, rfl, hB, hg⟩ := hrel
          have y2 : wr.cell? ⟨w.heap.size, 2, none⟩ = some (.slice Aw nw cw) := (cell_of_row _ _ _ _ _ _ hg.out).trans rfl
          by_cases hjl : j < nw
          · obtain ⟨gw, offw, sv, dv, rfl, hgw, -, -, d2, d3, hs, hd⟩ := HAW.out j (by rw [HNW.out]; exact hjl)
            have b2 := (hB.cell (p := ⟨gw, _, none⟩) hgw).trans d2
            have b3 := (hB.cell (p := ⟨gw, _, none⟩) hgw).trans d3
            have hSt := has_any ((hs.below hB).more hB.size) (by have := HFW.out.st j (by rw [HNW.out]; exact hjl); omega) (i : Int)
            have hDq := fun W (hW : Below w.heap.size w W) => has_any (w := W) ((hd.below hW).more hW.size) (by have := HFW.out.dq j (by rw [HNW.out]; exact hjl); omega) (i : Int)
            rw [decide_eq_false (fun h => HNS.out (in_S (by rw [HNW.out]; exact hjl) h))] at hSt
            have hDq : ∀ W, Below w.heap.size w W → Calls Tryd.prog 44 #[dv, .int .i64 (i : Int)] W fun e w' => e = .returned (.bool false) ∧ Below W.heap.size W w' := fun W hW => by
              have h := hDq W hW
              rw [decide_eq_false (fun h => HND.out (in_D (by rw [HNW.out]; exact hjl) h))] at h
              exact h
            obtain ⟨A1, c1, rfl, -⟩ := ints_open hs
            obtain ⟨A2, c2, rfl, -⟩ := ints_open hd
            clear d2 d3 hs hd
            go_wp2_with fail
            refine hSt.mono ?_
            rintro e w4 ⟨rfl, hb4⟩
            have hB4 := hB.next hb4
            have HG4 := Lib.hid (blk_next hg.out hb4)
            have z3 := (hB4.cell (p := ⟨gw, _, none⟩) hgw).trans ((hB.cell (p := ⟨gw, _, none⟩) hgw).symm.trans b3)
            have z2 : w4.cell? ⟨w.heap.size, 2, none⟩ = some (.slice (some ⟨gw, offw, none⟩) nw cw) := (cell_of_row _ _ _ _ _ _ HG4.out).trans rfl
            have hD4 := hDq w4 hB4
            clear hSt hDq hb4 b2 b3 y2
            go_wp2_with fail
            refine hD4.mono ?_
            rintro e w5 ⟨rfl, hb5⟩
            have HB5 := Lib.hid (hB4.next hb5)
            have HG5 := Lib.hid (blk_next HG4.out hb5)
            clear hD4 hb5 z2 z3
            go_wp2_with fail
            exact ⟨⟨j + 1, by omega, by go_num, HB5.out, HG5⟩, by simp [intOf]; omega⟩
          · obtain rfl : j = nw := by omega
            go_wp2_with fail
            exact ⟨⟨i + 1, by omega, by go_num, by rw [HL.out.1], by rw [HL.out.2], hB, hg⟩, by simp [intOf]; omega⟩
    · obtain rfl : i = nr := by omega
      go_wp2_with fail
      go_ret3
      exact ⟨congrArg Ending.returned HFIN.out, hB⟩
end P20
end Go.Proofs.YtajbchecjbddgaaDoor
