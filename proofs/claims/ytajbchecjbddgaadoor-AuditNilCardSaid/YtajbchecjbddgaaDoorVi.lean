/- Audit: same. -/
import Derived.Test.YtajbchecjbddgaaDoorVh
import Derived.Deep.CutRange
namespace Go.Proofs.YtajbchecjbddgaaDoor
open Go.RowKit
namespace P20
open P7

theorem eq_scSame (i : Sc) (w : World) : (Op.equalIn 10000 36 (scV i) (scV i)).run Tryd.prog w = .ok true w := by
  obtain ⟨a, b, c, d, e, f⟩ := i
  unfold scV
  rw [run_equalIn_agg w 9999 36 _ _ (by kernel_rfl) (by kernel_rfl)]
  rw [show (Tryd.prog.fieldsOf 36).toList = [⟨"Row", 3, 0, false, "", "", 0⟩, ⟨"K", 3, 1, false, "", "", 8⟩, ⟨"In", 3, 2, false, "", "", 16⟩, ⟨"Asked", 4, 3, false, "", "", 24⟩, ⟨"Closed", 4, 4, false, "", "", 25⟩, ⟨"Live", 3, 5, false, "", "", 32⟩] from by kernel_rfl]
  have hi : ∀ (x y : Int) w, (Op.equalIn 9999 3 (.int .i64 x) (.int .i64 y)).run Tryd.prog w = .ok (x == y) w := fun x y w => run_equalIn_int w 9998 _ .i64 .i64 x y Tryd.underlying3
  have hs : ∀ (x y : Bool) w, (Op.equalIn 9999 4 (.bool x) (.bool y)).run Tryd.prog w = .ok (x == y) w := fun x y w => run_equalIn_bool w 9998 _ x y Tryd.underlying4
  have p0 : ∀ (cs : Array Value) (k : Nat) (v : Value) w, cs[k]? = some v → (part 3 cs k).run Tryd.prog w = .ok v w := by
    intro cs k v w h
    simp [part, h]
  have p1 : ∀ (cs : Array Value) (k : Nat) (v : Value) w, cs[k]? = some v → (part 4 cs k).run Tryd.prog w = .ok v w := by
    intro cs k v w h
    simp [part, h]
  simp [Op.eqFields, hi, hs, p0, p1]
theorem neq_scSame (i : Sc) (w : World) : (binOp .neq 36 (scV i) (scV i)).run Tryd.prog w = .ok (.bool false) w := by
  have h := eq_scSame i w
  unfold scV at h ⊢
  rw [run_neq_struct, h]
  rfl
theorem neq_rowSame (i : Row) (w : World) : (binOp .neq 64 (rowV i) (rowV i)).run Tryd.prog w = .ok (.bool false) w := by
  have h := neq_row i i w
  rw [decide_eq_true rfl] at h
  exact h
/-- Two boxes of the audit's shots. -/
structure TwC (W0 : World) (P : Nat) (a b : Array Value) (W : World) : Prop where
  gr : Below W0.heap.size W0 W
  ba : W.heap[P]? = some (.cells a 31 (0, 0))
  bb : W.heap[P + 1]? = some (.cells b 31 (0, 0))
theorem TwC.next {W0 W W' : World} {P : Nat} {a b : Array Value} (h : TwC W0 P a b W) (hb : Below W.heap.size W W') : TwC W0 P a b W' :=
  ⟨h.gr.next hb, blk_next h.ba hb, blk_next h.bb hb⟩
theorem TwC.cells {W0 W : World} {P : Nat} {a0 a1 a2 b0 b1 b2 : Value} (h : TwC W0 P #[a0, a1, a2] #[b0, b1, b2] W) :
    W.cell? ⟨P, 0, none⟩ = some a0 ∧ W.cell? ⟨P, 1, none⟩ = some a1 ∧ W.cell? ⟨P, 2, none⟩ = some a2 ∧ W.cell? ⟨P + 1, 0, none⟩ = some b0 ∧ W.cell? ⟨P + 1, 1, none⟩ = some b1 ∧ W.cell? ⟨P + 1, 2, none⟩ = some b2 :=
  ⟨(cell_of_row _ _ _ _ _ _ h.ba).trans rfl, (cell_of_row _ _ _ _ _ _ h.ba).trans rfl, (cell_of_row _ _ _ _ _ _ h.ba).trans rfl, (cell_of_row _ _ _ _ _ _ h.bb).trans rfl, (cell_of_row _ _ _ _ _ _ h.bb).trans rfl, (cell_of_row _ _ _ _ _ _ h.bb).trans rfl⟩
set_option maxRecDepth 100000 in
set_option maxHeartbeats 16000000 in
theorem same_any {w : World} {vr vs vw ur us uw : Value} {s : Sh} (hA : Shm w vr vs vw s) (hB : Shm w ur us uw s) (hf : FewS s) :
    Calls Tryd.prog 25 #[.agg #[vr, vs, vw], .agg #[ur, us, uw]] w fun e w' => e = .returned (.bool true) ∧ Below w.heap.size w w' := by
  have hl40 := hf.l
  have hs60 := hf.sc
  have hw20 := hf.ws
  have HF := Lib.hid hf
  obtain ⟨Ar, car, hra, -, hAr⟩ := rows_open hA.rows.sl
  obtain ⟨As, cas, hsa, -, hAs⟩ := scs_open hA.scs
  obtain ⟨Aw, caw, hwa, -, hAw⟩ := hA.wks.open_
  obtain ⟨Br, cbr, hrb, -, hBr⟩ := rows_open hB.rows.sl
  obtain ⟨Bs, cbs, hsb, -, hBs⟩ := scs_open hB.scs
  obtain ⟨Bw, cbw, hwb, -, hBw⟩ := hB.wks.open_
  have HAR := Lib.hid hAr
  have HAS := Lib.hid hAs
  have HAW := Lib.hid hAw
  have HBR := Lib.hid hBr
  have HBS := Lib.hid hBs
  have HBW := Lib.hid hBw
  obtain ⟨nr, hnr⟩ := name_of s.l.length
  obtain ⟨ns, hns⟩ := name_of s.sc.length
  obtain ⟨nw, hnw⟩ := name_of s.ws.length
  have HNR := Lib.hid hnr
  have HNS := Lib.hid hns
  have HNW := Lib.hid hnw
  rw [hnr] at hra hrb hl40
  rw [hns] at hsa hsb hs60
  rw [hnw] at hwa hwb hw20
  subst hra hsa hwa hrb hsb hwb
  obtain ⟨V, hV⟩ := name_of ((w.alloc (.cells #[.slice Ar nr car, .slice As ns cas, .slice Aw nw caw] 31)).alloc (.cells #[.slice Br nr cbr, .slice Bs ns cbs, .slice Bw nw cbw] 31))
  have hbV : Below w.heap.size w V := by rw [← hV]; go_grown
  have hTB : TwC V w.heap.size #[.slice Ar nr car, .slice As ns cas, .slice Aw nw caw] #[.slice Br nr cbr, .slice Bs ns cbs, .slice Bw nw cbw] V := by
    rw [← hV]
    exact ⟨Below.refl _ _, heap_alloc2_old w _ _, heap_alloc2_new w _ _⟩
  obtain ⟨q0, q1, q2, q3, q4, q5⟩ := hTB.cells
  have HBV := Lib.hid hbV
  have HTB := Lib.hid hTB
  clear hA hB hf hAr hAs hAw hBr hBs hBw hnr hns hnw hbV hTB
  go_enter Tryd.func25, Tryd.ntmps25
  go_wp2_with fail
  clear hV q0 q1 q2 q3 q4 q5
  go_loopw [5] (fun x wr => ∃ i : Nat, i ≤ nr ∧ x = .int .i64 i ∧ TwC V w.heap.size #[.slice Ar nr car, .slice As ns cas, .slice Aw nw caw] #[.slice Br nr cbr, .slice Bs ns cbs, .slice Bw nw cbw] wr) (fun x _ => nr - (intOf x).toNat)
  case atStart => exact ⟨0, Nat.zero_le _, rfl, HTB.out⟩
  case round =>
    obtain ⟨i, hi, rfl, hT⟩ := hrel
    obtain ⟨q0, q1, q2, q3, q4, q5⟩ := hT.cells
    have hBw := HBV.out.next hT.gr
    by_cases hlt : i < nr
    · obtain ⟨g, off, rfl, hg, c0, c1, c2, c3, c4, c5, c6⟩ := HAR.out i (by rw [HNR.out]; exact hlt)
      obtain ⟨h, ofg, rfl, hh, d0, d1, d2, d3, d4, d5, d6⟩ := HBR.out i (by rw [HNR.out]; exact hlt)
      obtain ⟨R, hR⟩ := name_of (at_ s.l i)
      rw [hR] at c0 c1 c2 c3 c4 c5 c6 d0 d1 d2 d3 d4 d5 d6
      clear hR
      have hne := neq_rowSame R
      unfold rowV at hne
      have x0 := (hBw.cell (p := ⟨g, _, none⟩) hg).trans c0
      have y0 := (hBw.cell (p := ⟨h, _, none⟩) hh).trans d0
      have x1 := (hBw.cell (p := ⟨g, _, none⟩) hg).trans c1
      have y1 := (hBw.cell (p := ⟨h, _, none⟩) hh).trans d1
      have x2 := (hBw.cell (p := ⟨g, _, none⟩) hg).trans c2
      have y2 := (hBw.cell (p := ⟨h, _, none⟩) hh).trans d2
      have x3 := (hBw.cell (p := ⟨g, _, none⟩) hg).trans c3
      have y3 := (hBw.cell (p := ⟨h, _, none⟩) hh).trans d3
      have x4 := (hBw.cell (p := ⟨g, _, none⟩) hg).trans c4
      have y4 := (hBw.cell (p := ⟨h, _, none⟩) hh).trans d4
      have x5 := (hBw.cell (p := ⟨g, _, none⟩) hg).trans c5
      have y5 := (hBw.cell (p := ⟨h, _, none⟩) hh).trans d5
      have x6 := (hBw.cell (p := ⟨g, _, none⟩) hg).trans c6
      have y6 := (hBw.cell (p := ⟨h, _, none⟩) hh).trans d6
      clear c0 c1 c2 c3 c4 c5 c6 d0 d1 d2 d3 d4 d5 d6 hBw hg hh
      go_wp2_with fail
      go_quiet (fail)
      go_wp2_with fail
      exact ⟨⟨i + 1, by omega, by go_num, hT.next (below_drewN _)⟩, by simp [intOf]; omega⟩
    · go_wp2_with fail
      clear q0 q1 q2 q3 q4 q5 hBw
      go_loopw [6] (fun x wr => ∃ i : Nat, i ≤ ns ∧ x = .int .i64 i ∧ TwC V w.heap.size #[.slice Ar nr car, .slice As ns cas, .slice Aw nw caw] #[.slice Br nr cbr, .slice Bs ns cbs, .slice Bw nw cbw] wr) (fun x _ => ns - (intOf x).toNat)
      case atStart => exact ⟨0, Nat.zero_le _, rfl, hT⟩
      case round =>
        obtain ⟨k, hk, rfl, hT⟩ := hrel
        obtain ⟨q0, q1, q2, q3, q4, q5⟩ := hT.cells
        have hBw := HBV.out.next hT.gr
        by_cases hlt : k < ns
        · obtain ⟨g, off, rfl, hg, c0, c1, c2, c3, c4, c5⟩ := HAS.out k (by rw [HNS.out]; exact hlt)
          obtain ⟨h, ofg, rfl, hh, d0, d1, d2, d3, d4, d5⟩ := HBS.out k (by rw [HNS.out]; exact hlt)
          obtain ⟨R, hR⟩ := name_of (sA s.sc k)
          rw [hR] at c0 c1 c2 c3 c4 c5 d0 d1 d2 d3 d4 d5
          clear hR
          have hne := neq_scSame R
          unfold scV at hne
          have x0 := (hBw.cell (p := ⟨g, _, none⟩) hg).trans c0
          have y0 := (hBw.cell (p := ⟨h, _, none⟩) hh).trans d0
          have x1 := (hBw.cell (p := ⟨g, _, none⟩) hg).trans c1
          have y1 := (hBw.cell (p := ⟨h, _, none⟩) hh).trans d1
          have x2 := (hBw.cell (p := ⟨g, _, none⟩) hg).trans c2
          have y2 := (hBw.cell (p := ⟨h, _, none⟩) hh).trans d2
          have x3 := (hBw.cell (p := ⟨g, _, none⟩) hg).trans c3
          have y3 := (hBw.cell (p := ⟨h, _, none⟩) hh).trans d3
          have x4 := (hBw.cell (p := ⟨g, _, none⟩) hg).trans c4
          have y4 := (hBw.cell (p := ⟨h, _, none⟩) hh).trans d4
          have x5 := (hBw.cell (p := ⟨g, _, none⟩) hg).trans c5
          have y5 := (hBw.cell (p := ⟨h, _, none⟩) hh).trans d5
          clear c0 c1 c2 c3 c4 c5 d0 d1 d2 d3 d4 d5 hBw hg hh
          go_wp2_with fail
          go_quiet (fail)
          go_wp2_with fail
          exact ⟨⟨k + 1, by omega, by go_num, hT.next (below_drewN _)⟩, by simp [intOf]; omega⟩
        · go_wp2_with fail
          clear q0 q1 q2 q3 q4 q5 hBw
          go_loopw [7] (fun x wr => ∃ i : Nat, i ≤ nw ∧ x = .int .i64 i ∧ TwC V w.heap.size #[.slice Ar nr car, .slice As ns cas, .slice Aw nw caw] #[.slice Br nr cbr, .slice Bs ns cbs, .slice Bw nw cbw] wr) (fun x _ => nw - (intOf x).toNat)
          case atStart => exact ⟨0, Nat.zero_le _, rfl, hT⟩
          case round =>
            obtain ⟨m, hm, rfl, hT⟩ := hrel
            obtain ⟨q0, q1, q2, q3, q4, q5⟩ := hT.cells
            have hBw := HBV.out.next hT.gr
            by_cases hlt : m < nw
            · have hgi : m < s.ws.length := by rw [HNW.out]; exact hlt
              obtain ⟨g, off, sv, dv, rfl, hg, c0, c1, c2, c3, hp, hq⟩ := HAW.out m hgi
              obtain ⟨h, ofg, su, du, rfl, hh, d0, d1, d2, d3, hp2, hq2⟩ := HBW.out m hgi
              have hst := HF.out.st m hgi
              have hdq := HF.out.dq m hgi
              obtain ⟨on, hon⟩ := name_of (wA s.ws m).on
              obtain ⟨pk, hpk⟩ := name_of (wA s.ws m).pk
              rw [hon] at c0 d0
              rw [hpk] at c1 d1
              have x0 := (hBw.cell (p := ⟨g, _, none⟩) hg).trans c0
              have y0 := (hBw.cell (p := ⟨h, _, none⟩) hh).trans d0
              have x1 := (hBw.cell (p := ⟨g, _, none⟩) hg).trans c1
              have y1 := (hBw.cell (p := ⟨h, _, none⟩) hh).trans d1
              have x2 := (hBw.cell (p := ⟨g, _, none⟩) hg).trans c2
              have y2 := (hBw.cell (p := ⟨h, _, none⟩) hh).trans d2
              have x3 := (hBw.cell (p := ⟨g, _, none⟩) hg).trans c3
              have y3 := (hBw.cell (p := ⟨h, _, none⟩) hh).trans d3
              have HS1 : Hid (∀ W, Below wr.heap.size wr W → Calls Tryd.prog 46 #[sv, su] W fun e w' => e = .returned (.bool true) ∧ Below W.heap.size W w') := Lib.hid (fun W hW => ints_any ((hp.next hBw).next hW) ((hp2.next hBw).next hW) (by omega))
              have HS2 : Hid (∀ W, Below wr.heap.size wr W → Calls Tryd.prog 46 #[dv, du] W fun e w' => e = .returned (.bool true) ∧ Below W.heap.size W w') := Lib.hid (fun W hW => ints_any ((hq.next hBw).next hW) ((hq2.next hBw).next hW) (by omega))
              obtain ⟨Ap, np, kp, rfl, -⟩ := hp
              obtain ⟨Aq, nq, kq, rfl, -⟩ := hq
              obtain ⟨Bp, mp, lp, rfl, -⟩ := hp2
              obtain ⟨Bq, mq, lq, rfl, -⟩ := hq2
              obtain ⟨W1, hW1⟩ := name_of (wr.alloc (.cells #[.bool on, .bool pk, .slice Ap np kp, .slice Aq nq kq] 56))
              have hB1 : Below wr.heap.size wr W1 := by rw [← hW1]; exact (Below.refl _ _).alloc (Nat.le_refl _) _
              have z1 : W1.heap.size = wr.heap.size + 1 := by rw [← hW1]; simp
              have g0 : W1.heap[wr.heap.size]? = some (.cells #[.bool on, .bool pk, .slice Ap np kp, .slice Aq nq kq] 56 (0, 0)) := by rw [← hW1]; exact heap_alloc_last _ _
              obtain ⟨-, -, -, -, -, r5⟩ := (hT.next hB1).cells
              have hB1w := hBw.next hB1
              have s0 := (hB1w.cell (p := ⟨h, _, none⟩) hh).trans d0
              have s1 := (hB1w.cell (p := ⟨h, _, none⟩) hh).trans d1
              have s2 := (hB1w.cell (p := ⟨h, _, none⟩) hh).trans d2
              have s3 := (hB1w.cell (p := ⟨h, _, none⟩) hh).trans d3
              obtain ⟨W2, hW2⟩ := name_of (W1.alloc (.cells #[.bool on, .bool pk, .slice Bp mp lp, .slice Bq mq lq] 56))
              have hB12 : Below W1.heap.size W1 W2 := by rw [← hW2]; exact (Below.refl _ _).alloc (Nat.le_refl _) _
              have hB2 := hB1.next hB12
              have g1 := blk_next g0 hB12
              have g2 : W2.heap[wr.heap.size + 1]? = some (.cells #[.bool on, .bool pk, .slice Bp mp lp, .slice Bq mq lq] 56 (0, 0)) := by rw [← z1, ← hW2]; exact heap_alloc_last _ _
              clear hB1 hB12 g0 hB1w
              clear c0 c1 c2 c3 d0 d1 d2 d3 y0 y1 y2 y3 hBw hg hh hst hdq hon hpk
              go_upto_region 18 with fail
              clear hW1 hW2 r5 s0 s1 s2 s3 x0 x1 x2 x3 q0 q1 q2 q3 q4 q5
              have e0 : W2.cell? ⟨wr.heap.size, 0, none⟩ = some (.bool on) := (cell_of_row _ _ _ _ _ _ g1).trans rfl
              have f0 : W2.cell? ⟨wr.heap.size + 1, 0, none⟩ = some (.bool on) := (cell_of_row _ _ _ _ _ _ g2).trans rfl
              have e1 : W2.cell? ⟨wr.heap.size, 1, none⟩ = some (.bool pk) := (cell_of_row _ _ _ _ _ _ g1).trans rfl
              have f1 : W2.cell? ⟨wr.heap.size + 1, 1, none⟩ = some (.bool pk) := (cell_of_row _ _ _ _ _ _ g2).trans rfl
              have e2 : W2.cell? ⟨wr.heap.size, 2, none⟩ = some (.slice Ap np kp) := (cell_of_row _ _ _ _ _ _ g1).trans rfl
              have f2 : W2.cell? ⟨wr.heap.size + 1, 2, none⟩ = some (.slice Bp mp lp) := (cell_of_row _ _ _ _ _ _ g2).trans rfl
              have e3 : W2.cell? ⟨wr.heap.size, 3, none⟩ = some (.slice Aq nq kq) := (cell_of_row _ _ _ _ _ _ g1).trans rfl
              have f3 : W2.cell? ⟨wr.heap.size + 1, 3, none⟩ = some (.slice Bq mq lq) := (cell_of_row _ _ _ _ _ _ g2).trans rfl
              have hC := HS1.out W2 hB2
              go_wp2_with fail
              refine hC.mono ?_
              rintro e W3 ⟨rfl, hb3⟩
              clear hC e0 e1 e2 e3 f0 f1 f2 f3
              have g1 := blk_next g1 hb3
              have g2 := blk_next g2 hb3
              have hB3 := hB2.next hb3
              have e3 : W3.cell? ⟨wr.heap.size, 3, none⟩ = some (.slice Aq nq kq) := (cell_of_row _ _ _ _ _ _ g1).trans rfl
              have f3 : W3.cell? ⟨wr.heap.size + 1, 3, none⟩ = some (.slice Bq mq lq) := (cell_of_row _ _ _ _ _ _ g2).trans rfl
              have hC := HS2.out W3 hB3
              go_wp2_with fail
              refine hC.mono ?_
              rintro e W4 ⟨rfl, hb4⟩
              clear hC e3 f3
              have HT4 := Lib.hid (hT.next (hB3.next hb4))
              clear hT hB2 hB3 hb3 hb4 g1 g2
              go_wp2_with fail
              exact ⟨⟨m + 1, by omega, by go_num, HT4.out⟩, by simp [intOf]; omega⟩
            · go_wp2_with fail
              go_ret
              exact ⟨rfl, HBV.out.next hT.gr⟩
end P20
end Go.Proofs.YtajbchecjbddgaaDoor
