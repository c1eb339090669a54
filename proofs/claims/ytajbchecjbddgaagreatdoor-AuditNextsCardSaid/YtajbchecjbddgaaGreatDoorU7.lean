/- Audit: the reference's states. -/
import Derived.Test.YtajbchecjbddgaaGreatDoorU5
namespace Go.Proofs.YtajbchecjbddgaaGreatDoor
open Go.RowKit
namespace P20
open P7

/-- What the reference asks of stacks and deques: of a row, and of a worker. -/
def rowSt (s : Sh) (i : Nat) : Prop := (allS s.ws).count (i : Int) ≤ 1 ∧ (allD s.ws).count (i : Int) ≤ 1 ∧ (0 < (allS s.ws).count (i : Int) → (at_ s.l i).k ≠ 0)
def wkSt (x : Wk) : Prop := x.on = false → x.st = []
def stR (s : Sh) : Prop := (∀ i, i < s.l.length → rowSt s i) ∧ ∀ j, j < s.ws.length → wkSt (wA s.ws j)
theorem mem_allS {ws : List Wk} {y : Int} : y ∈ allS ws ↔ ∃ x ∈ ws, y ∈ x.st := List.mem_flatMap
theorem mem_allD {ws : List Wk} {y : Int} : y ∈ allD ws ↔ ∃ x ∈ ws, y ∈ x.dq := List.mem_flatMap
theorem stR_iff {s : Sh} (hn : numOk s) : stR s ↔ stOk s := by
  have hS : ∀ y ∈ allS s.ws, 0 ≤ y ∧ y < s.l.length := fun y hy => by
    obtain ⟨x, hx, hy⟩ := mem_allS.1 hy
    exact (hn.2 x hx).1 y hy
  have hD : ∀ y ∈ allD s.ws, 0 ≤ y ∧ y < s.l.length := fun y hy => by
    obtain ⟨x, hx, hy⟩ := mem_allD.1 hy
    exact (hn.2 x hx).2 y hy
  have hw : (∀ j, j < s.ws.length → wkSt (wA s.ws j)) ↔ ∀ x ∈ s.ws, x.on = false → x.st = [] := by
    constructor
    · intro h x hx
      obtain ⟨j, hj, e⟩ := List.getElem_of_mem hx
      have := h j hj
      rw [wA_eq hj, e] at this
      exact this
    · intro h j hj
      rw [wA_eq hj]
      exact h _ (List.getElem_mem hj)
  have cnt : ∀ (l : List Int), (∀ y ∈ l, 0 ≤ y ∧ y < s.l.length) → ((∀ i, i < s.l.length → l.count (i : Int) ≤ 1) ↔ l.Nodup) := by
    intro l hl
    rw [List.nodup_iff_count]
    constructor
    · intro h a
      by_cases ha : a ∈ l
      · have := hl a ha
        have h2 := h a.toNat (by omega)
        rwa [show ((a.toNat : Nat) : Int) = a by omega] at h2
      · rw [List.count_eq_zero_of_not_mem ha]; omega
    · intro h i _
      exact h _
  unfold stR stOk
  rw [hw, ← cnt _ hS, ← cnt _ hD]
  constructor
  · rintro ⟨h1, h2⟩
    refine ⟨fun i hi => (h1 i hi).1, fun i hi => (h1 i hi).2.1, h2, fun y hy => ?_⟩
    have hb := hS y hy
    have h3 := (h1 y.toNat (by omega)).2.2
    rw [show ((y.toNat : Nat) : Int) = y by omega] at h3
    exact h3 (List.count_pos_iff.2 hy)
  · rintro ⟨h1, h2, h3, h4⟩
    refine ⟨fun i hi => ⟨h1 i hi, h2 i hi, fun hc => ?_⟩, h3⟩
    have := h4 _ (List.count_pos_iff.1 hc)
    rwa [Int.toNat_natCast] at this
theorem allS_take (ws : List Wk) (j : Nat) (hj : j < ws.length) (y : Int) : (allS (ws.take (j + 1))).count y = (allS (ws.take j)).count y + (wA ws j).st.count y := by
  unfold allS
  rw [List.take_succ_eq_append_getElem hj, List.flatMap_append, List.count_append, wA_eq hj]
  simp
theorem allD_take (ws : List Wk) (j : Nat) (hj : j < ws.length) (y : Int) : (allD (ws.take (j + 1))).count y = (allD (ws.take j)).count y + (wA ws j).dq.count y := by
  unfold allD
  rw [List.take_succ_eq_append_getElem hj, List.flatMap_append, List.count_append, wA_eq hj]
  simp
set_option maxRecDepth 100000 in
set_option maxHeartbeats 8000000 in
theorem refStates_any {w : World} {vr vs vw : Value} {s : Sh} (h : Shm w vr vs vw s) (hf : FewS s) (b : Bool) (hb : b = true ↔ stR s) :
    Calls Tryz.prog 42 #[.agg #[vr, vs, vw]] w fun e w' => e = .returned (.bool b) ∧ Below w.heap.size w w' := by
  have HW := Lib.hid h.wks
  have HR := Lib.hid h.rows.sl
  obtain ⟨A, c, rfl, -⟩ := scs_open h.scs
  obtain ⟨Ar, cr, rfl, hncr, hAr⟩ := rows_open h.rows.sl
  obtain ⟨Aw, cw, rfl, hncw, hAw⟩ := h.wks.open_
  have HAR := Lib.hid hAr
  have HAW := Lib.hid hAw
  have HB := Lib.hid hb
  have HFW := Lib.hid hf
  have hl40 := hf.l
  have hw20 := hf.ws
  obtain ⟨n, hn⟩ := name_of s.sc.length
  obtain ⟨nr, hnr⟩ := name_of s.l.length
  obtain ⟨nw, hnw⟩ := name_of s.ws.length
  have HNR := Lib.hid hnr
  have HNW := Lib.hid hnw
  rw [hnr] at hncr hl40
  rw [hnw] at hncw hw20
  rw [hn, hnr, hnw]
  have hfalse : ¬ stR s → Hid (b = false) := fun h => Lib.hid (by
    cases b with
    | false => rfl
    | true => exact absurd (HB.out.1 rfl) h)
  have HF := Lib.hid hfalse
  clear hAr hAw h hn hnr hnw hb hf hfalse
  have hB0 : Below w.heap.size w (w.alloc (.cells #[.slice Ar nr cr, .slice A n c, .slice Aw nw cw] 26)) := by go_grown
  have hG0 := heap_alloc_last w (.cells #[.slice Ar nr cr, .slice A n c, .slice Aw nw cw] 26)
  go_enter Tryz.func42, Tryz.ntmps42
  go_wp2_with fail
  go_loopw [3] (fun x wr => ∃ i : Nat, i ≤ nr ∧ x = .int .i64 i ∧ Hid (∀ m, m < i → rowSt s m) ∧ Below w.heap.size w wr ∧ Hid (wr.heap[w.heap.size]? = some (.cells #[.slice Ar nr cr, .slice A n c, .slice Aw nw cw] 26 (0, 0)))) (fun x _ => nr - (intOf x).toNat)
  case atStart => exact ⟨0, Nat.zero_le _, rfl, Lib.hid (fun m hm => by omega), hB0, Lib.hid hG0⟩
  case round =>
    clear hB0 hG0
    obtain ⟨i, hi, rfl, hno, hB, hblk⟩ := hrel
    have q0 : wr.cell? ⟨w.heap.size, 0, none⟩ = some (.slice Ar nr cr) := by rw [cell_of_row _ _ _ _ _ _ hblk.out]; rfl
    have q2 : wr.cell? ⟨w.heap.size, 2, none⟩ = some (.slice Aw nw cw) := by rw [cell_of_row _ _ _ _ _ _ hblk.out]; rfl
    by_cases hlt : i < nr
    · obtain ⟨gr, offr, rfl, hgr, -, -, -, k3, -⟩ := HAR.out i (by rw [HNR.out]; exact hlt)
      have k3w := (hB.cell (p := ⟨gr, _, none⟩) hgr).trans k3
      clear k3
      go_wp2_with fail
      go_loop [4, 5, 6] (fun a d x => ∃ j p q : Nat, j ≤ nw ∧ x = .int .i64 j ∧ a = .int .i64 p ∧ d = .int .i64 q ∧ Hid ((allS (s.ws.take j)).count (i : Int) = p) ∧ Hid ((allD (s.ws.take j)).count (i : Int) = q) ∧ p ≤ j * 60 ∧ q ≤ j * 60) (fun _ _ x => nw - (intOf x).toNat)
      case atStart => exact ⟨0, 0, 0, Nat.zero_le _, rfl, rfl, rfl, Lib.hid rfl, Lib.hid rfl, by omega, by omega⟩
      case round =>
        obtain ⟨j, p, q, hj, rfl, rfl, rfl, HP, HQ, hp, hq⟩ := hrel
        by_cases hltw : j < nw
        · obtain ⟨gw, offw, sv, dv, rfl, hgw, -, -, d2, d3, hs, hd⟩ := HAW.out j (by rw [HNW.out]; exact hltw)
          have e2 := (hB.cell (p := ⟨gw, _, none⟩) hgw).trans d2
          have e3 := (hB.cell (p := ⟨gw, _, none⟩) hgw).trans d3
          have hst := HFW.out.st j (by rw [HNW.out]; exact hltw)
          have hdq := HFW.out.dq j (by rw [HNW.out]; exact hltw)
          have hT := refTimes_any (hs.below hB) (by omega) (i : Int)
          have hU := refTimes_any (hd.below hB) (by omega) (i : Int)
          have hpc := List.count_le_length (a := (i : Int)) (l := (wA s.ws j).st)
          have hqc := List.count_le_length (a := (i : Int)) (l := (wA s.ws j).dq)
          have HP1 := Lib.hid (allS_take s.ws j (by rw [HNW.out]; exact hltw) (i : Int))
          have HQ1 := Lib.hid (allD_take s.ws j (by rw [HNW.out]; exact hltw) (i : Int))
          obtain ⟨p1, hp1⟩ := name_of ((wA s.ws j).st.count (i : Int))
          obtain ⟨q1, hq1⟩ := name_of ((wA s.ws j).dq.count (i : Int))
          rw [hp1] at hT hpc HP1
          rw [hq1] at hU hqc HQ1
          have hp60 : p1 ≤ 60 := by omega
          have hq60 : q1 ≤ 60 := by omega
          have HP2 : Hid ((allS (s.ws.take (j + 1))).count (i : Int) = p + p1) := Lib.hid (by rw [HP1.out, HP.out])
          have HQ2 : Hid ((allD (s.ws.take (j + 1))).count (i : Int) = q + q1) := Lib.hid (by rw [HQ1.out, HQ.out])
          have hp20 : p ≤ 1200 := by omega
          have hq20 : q ≤ 1200 := by omega
          obtain ⟨As, ns, cs, rfl, -⟩ := hs
          obtain ⟨Ad, nd, cd, rfl, -⟩ := hd
          clear d2 d3 hp1 hq1 hst hdq hpc hqc HP1 HQ1
          go_wp2_with fail
          refine hT.mono ?_
          rintro e w' ⟨rfl, rfl⟩
          go_wp2_with fail
          refine hU.mono ?_
          rintro e w' ⟨rfl, rfl⟩
          go_wp2_with fail
          exact ⟨⟨j + 1, p + p1, q + q1, by omega, by go_num, by simp, by simp, HP2, HQ2, by omega, by omega⟩, by simp [intOf]; omega⟩
        · obtain rfl : j = nw := by omega
          have HP2 : Hid ((allS s.ws).count (i : Int) = p) := Lib.hid (by rw [← HP.out, List.take_of_length_le (by rw [HNW.out]; exact Nat.le_refl _)])
          have HQ2 : Hid ((allD s.ws).count (i : Int) = q) := Lib.hid (by rw [← HQ.out, List.take_of_length_le (by rw [HNW.out]; exact Nat.le_refl _)])
          obtain ⟨rk, hrk⟩ := name_of (at_ s.l i).k
          rw [hrk] at k3w
          have HRK := Lib.hid hrk
          have hpb : p ≤ 1200 := by omega
          have hqb : q ≤ 1200 := by omega
          clear hrk HP HQ
          by_cases g1 : 1 < p
          · have f1 : decide (1 < p) = true := decide_eq_true g1
            have f1' : decide (1 < (p : Int)) = true := decide_eq_true (by omega)
            have HR := HF.out (fun hs => by
              have := (hs.1 i (by rw [HNR.out]; exact hlt)).1
              rw [HP2.out] at this
              omega)
            clear g1
            go_wp2_with fail
            go_ret
            exact ⟨ret_bool HR.out.symm, hB⟩
          have f1 : decide (1 < p) = false := decide_eq_false g1
          have f1' : decide (1 < (p : Int)) = false := decide_eq_false (by omega)
          by_cases g2 : 1 < q
          · have f2 : decide (1 < q) = true := decide_eq_true g2
            have f2' : decide (1 < (q : Int)) = true := decide_eq_true (by omega)
            have HR := HF.out (fun hs => by
              have := (hs.1 i (by rw [HNR.out]; exact hlt)).2.1
              rw [HQ2.out] at this
              omega)
            clear g1 g2
            go_wp2_with fail
            go_ret
            exact ⟨ret_bool HR.out.symm, hB⟩
          have f2 : decide (1 < q) = false := decide_eq_false g2
          have f2' : decide (1 < (q : Int)) = false := decide_eq_false (by omega)
          by_cases g3 : 0 < p
          · have f3 : decide (0 < p) = true := decide_eq_true g3
            have f3' : decide (0 < (p : Int)) = true := decide_eq_true (by omega)
            by_cases g4 : rk = 0
            · have f4 : (rk == 0) = true := by simpa using g4
              have HR := HF.out (fun hs => by
                have := (hs.1 i (by rw [HNR.out]; exact hlt)).2.2
                rw [HP2.out, HRK.out] at this
                exact this g3 g4)
              clear g1 g2 g3 g4
              go_wp2_with fail
              go_ret
              exact ⟨ret_bool HR.out.symm, hB⟩
            · have f4 : (rk == 0) = false := by simpa using g4
              have HR : Hid (∀ m, m < i + 1 → rowSt s m) := Lib.hid fun m hm => by
                by_cases e : m = i
                · rw [e]; exact ⟨by rw [HP2.out]; omega, by rw [HQ2.out]; omega, fun _ => by rw [HRK.out]; exact g4⟩
                · exact hno.out m (by omega)
              clear g1 g2 g3 g4
              go_wp2_with fail
              exact ⟨⟨i + 1, by omega, by go_num, HR, hB, hblk⟩, by simp [intOf]; omega⟩
          · have f3 : decide (0 < p) = false := decide_eq_false g3
            have f3' : decide (0 < (p : Int)) = false := decide_eq_false (by omega)
            have HR : Hid (∀ m, m < i + 1 → rowSt s m) := Lib.hid fun m hm => by
              by_cases e : m = i
              · rw [e]; exact ⟨by rw [HP2.out]; omega, by rw [HQ2.out]; omega, fun h => by rw [HP2.out] at h; omega⟩
              · exact hno.out m (by omega)
            clear g1 g2 g3
            go_wp2_with fail
            exact ⟨⟨i + 1, by omega, by go_num, HR, hB, hblk⟩, by simp [intOf]; omega⟩
    · obtain rfl : i = nr := by omega
      go_wp2_with fail
      go_loop [7] (fun x => ∃ j : Nat, j ≤ nw ∧ x = .int .i64 j ∧ Hid (∀ m, m < j → wkSt (wA s.ws m))) (fun x => nw - (intOf x).toNat)
      case atStart => exact ⟨0, Nat.zero_le _, rfl, Lib.hid (fun m hm => by omega)⟩
      case round =>
        obtain ⟨j, hj, rfl, hnw2⟩ := hrel
        by_cases hltw : j < nw
        · obtain ⟨gw, offw, sv, dv, rfl, hgw, d0, -, d2, -, hs, -⟩ := HAW.out j (by rw [HNW.out]; exact hltw)
          have e0 := (hB.cell (p := ⟨gw, _, none⟩) hgw).trans d0
          have e2 := (hB.cell (p := ⟨gw, _, none⟩) hgw).trans d2
          obtain ⟨As, cs, rfl, -⟩ := ints_open hs
          obtain ⟨ns, hns⟩ := name_of (wA s.ws j).st.length
          obtain ⟨on, hon⟩ := name_of (wA s.ws j).on
          have HNS := Lib.hid hns
          have HON := Lib.hid hon
          rw [hns] at e2
          rw [hon] at e0
          clear d0 d2 hs hns hon
          cases on with
          | true =>
            have HR : Hid (∀ m, m < j + 1 → wkSt (wA s.ws m)) := Lib.hid fun m hm => by
              by_cases e : m = j
              · rw [e]; intro h; rw [HON.out] at h; cases h
              · exact hnw2.out m (by omega)
            go_wp2_with fail
            exact ⟨⟨j + 1, by omega, by go_num, HR⟩, by simp [intOf]; omega⟩
          | false =>
            by_cases g1 : 0 < ns
            · have f1 : decide (0 < ns) = true := decide_eq_true g1
              have f1' : decide (0 < (ns : Int)) = true := decide_eq_true (by omega)
              have HR := HF.out (fun hs => by
                have := hs.2 j (by rw [HNW.out]; exact hltw) HON.out
                have h2 := HNS.out
                rw [this] at h2
                simp at h2
                omega)
              clear g1
              go_wp2_with fail
              go_ret
              exact ⟨ret_bool HR.out.symm, hB⟩
            · have f1 : decide (0 < ns) = false := decide_eq_false g1
              have f1' : decide (0 < (ns : Int)) = false := decide_eq_false (by omega)
              have HR : Hid (∀ m, m < j + 1 → wkSt (wA s.ws m)) := Lib.hid fun m hm => by
                by_cases e : m = j
                · rw [e]; intro _; exact List.eq_nil_of_length_eq_zero (by rw [HNS.out]; omega)
                · exact hnw2.out m (by omega)
              clear g1
              go_wp2_with fail
              exact ⟨⟨j + 1, by omega, by go_num, HR⟩, by simp [intOf]; omega⟩
        · obtain rfl : j = nw := by omega
          have HR : Hid (b = true) := Lib.hid (HB.out.2 ⟨by rw [HNR.out]; exact hno.out, by rw [HNW.out]; exact hnw2.out⟩)
          go_wp2_with fail
          go_ret
          exact ⟨ret_bool HR.out.symm, hB⟩
end P20
end Go.Proofs.YtajbchecjbddgaaGreatDoor
