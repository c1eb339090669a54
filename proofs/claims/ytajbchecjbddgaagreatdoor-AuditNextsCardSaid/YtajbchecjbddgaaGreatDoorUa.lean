/- Audit: the view in memory; (view).told. -/
import Derived.Test.YtajbchecjbddgaaGreatDoorH4
import Derived.Test.YtajbchecjbddgaaGreatDoorU8
import Derived.Deep.QuietTactic
import Derived.BigQuiet
namespace Go.Proofs.YtajbchecjbddgaaGreatDoor
open Go.RowKit
namespace P20
open P7

/-- The view's block. -/
def VwB (W : World) (bv bm : Nat) (vr vs vw : Value) : Prop := W.heap[bv]? = some (.cells #[vr, vs, vw, .map (some bm)] 53 (0, 0))
theorem VwB.next {W W' : World} {bv bm : Nat} {vr vs vw : Value} (h : VwB W bv bm vr vs vw) (hb : Below W.heap.size W W') : VwB W' bv bm vr vs vw := blk_next h hb
theorem VwB.lt {W : World} {bv bm : Nat} {vr vs vw : Value} (h : VwB W bv bm vr vs vw) : bv < W.heap.size := lt_of_block h
theorem VwB.c0 {W : World} {bv bm : Nat} {vr vs vw : Value} (h : VwB W bv bm vr vs vw) : W.cell? ⟨bv, 0, none⟩ = some vr := by rw [cell_of_row _ _ _ _ _ _ h]; rfl
theorem VwB.c1 {W : World} {bv bm : Nat} {vr vs vw : Value} (h : VwB W bv bm vr vs vw) : W.cell? ⟨bv, 1, none⟩ = some vs := by rw [cell_of_row _ _ _ _ _ _ h]; rfl
theorem VwB.c2 {W : World} {bv bm : Nat} {vr vs vw : Value} (h : VwB W bv bm vr vs vw) : W.cell? ⟨bv, 2, none⟩ = some vw := by rw [cell_of_row _ _ _ _ _ _ h]; rfl
theorem VwB.c3 {W : World} {bv bm : Nat} {vr vs vw : Value} (h : VwB W bv bm vr vs vw) : W.cell? ⟨bv, 3, none⟩ = some (.map (some bm)) := by rw [cell_of_row _ _ _ _ _ _ h]; rfl
set_option maxRecDepth 100000 in
set_option maxHeartbeats 8000000 in
theorem told_any {w : World} {vr vs vw : Value} {bv bm : Nat} {s : Sh} (h : Shm w vr vs vw s) (hV : VwB w bv bm vr vs vw) (hlen : s.sc.length ≤ 1000) (i : Nat) (hi : i < s.sc.length) (hto : toldTo s i) (b : Bool) (hb : b = true ↔ told s i) :
    Calls Tryz.prog 52 #[.pointer (some ⟨bv, 0, none⟩), .int .i64 i] w fun e w' => e = .returned (.bool b) ∧ Below w.heap.size w w' := by
  obtain ⟨A, c, rfl, hnc, hA⟩ := scs_open h.scs
  obtain ⟨Ar, cr, rfl, hncr, -⟩ := rows_open h.rows.sl
  obtain ⟨g, off, rfl, hg, c0, c1, c2, c3, c4, c5⟩ := hA i hi
  have HA := Lib.hid hA
  have q0 := hV.c0
  have q1 := hV.c1
  obtain ⟨n, hn⟩ := name_of s.sc.length
  obtain ⟨nr, hnr⟩ := name_of s.l.length
  have HN := Lib.hid hn
  have HNR := Lib.hid hnr
  have HTJ : Hid (told s i ↔ (i = 0 → (sA s.sc i).r = -1 ∧ (sA s.sc i).k = 0 ∧ (sA s.sc i).n = 0) ∧ (i ≠ 0 → 0 ≤ (sA s.sc i).r ∧ (sA s.sc i).r < nr ∧ (((sA s.sc i).r = (sA s.sc (i - 1)).r ∧ (sA s.sc i).k = (sA s.sc (i - 1)).k + 1 ∧ 0 ≤ (sA s.sc i).n ∧ (sA s.sc i).n < (sA s.sc i).k) ∨ ((sA s.sc (i - 1)).r < (sA s.sc i).r ∧ (sA s.sc i).k = 0 ∧ (sA s.sc i).n = 0)))) := Lib.hid (by unfold told; rw [hnr])
  have HB := Lib.hid hb
  have HTO := Lib.hid hto
  rw [hn] at hnc q1 hi hlen
  rw [hnr] at hncr q0
  obtain ⟨⟨xr, xk, xn, xa, xc, xv⟩, hx⟩ := name_of (sA s.sc i)
  rw [hx] at c0 c1 c2 c3 c4 c5 HTJ
  dsimp only at c0 c1 c2 c3 c4 c5 HTJ
  have hgv := hV.lt
  clear hA h hn hnr hx hV hb hto
  have hBX : Below w.heap.size w (w.alloc (.cells #[.int .i64 xr, .int .i64 xk, .int .i64 xn, .bool xa, .bool xc, .int .i64 xv] 49)) := by go_grown
  have HBX := Lib.hid hBX
  clear hBX
  by_cases h0 : i = 0
  · have e0 : ((i : Int) == 0) = true := by rw [beq_iff_eq]; omega
    have HT : Hid (b = true ↔ xr = -1 ∧ xk = 0 ∧ xn = 0) := Lib.hid (by
      rw [HB.out, HTJ.out]
      exact ⟨fun h => h.1 h0, fun h => ⟨fun _ => h, fun h' => absurd h0 h'⟩⟩)
    clear h0 HTJ
    by_cases h1 : xr = -1
    · have e1 : (xr == -1) = true := by simpa using h1
      by_cases h2 : xk = 0
      · have e2 : (xk == 0) = true := by simpa using h2
        have HR : Hid ((xn == 0) = b) := Lib.hid (by
          rw [Bool.eq_iff_iff, HT.out]
          simp only [beq_iff_eq]
          omega)
        clear h1 h2
        go_enter Tryz.func52, Tryz.ntmps52
        go_wp2_with ((with_reducible (show wpList _ _ _ (Oper.mk _ (Op.store _ _ _) _ _ _ _ :: _) _ _)); refine wpList_store_new rfl 49 49 (.tmp 5) (.tmp 14) rfl _ _ w.heap.size rfl rfl rfl (by kernel_rfl) rfl (by kernel_rfl) ?_)
        go_ret
        exact ⟨ret_bool HR.out, HBX.out⟩
      · have e2 : (xk == 0) = false := by simpa using h2
        have HR : Hid (false = b) := Lib.hid (by
          rw [Bool.eq_iff_iff, HT.out]
          simp only [Bool.false_eq_true, false_iff]
          omega)
        clear h1 h2
        go_enter Tryz.func52, Tryz.ntmps52
        go_wp2_with ((with_reducible (show wpList _ _ _ (Oper.mk _ (Op.store _ _ _) _ _ _ _ :: _) _ _)); refine wpList_store_new rfl 49 49 (.tmp 5) (.tmp 14) rfl _ _ w.heap.size rfl rfl rfl (by kernel_rfl) rfl (by kernel_rfl) ?_)
        go_ret
        exact ⟨ret_bool HR.out, HBX.out⟩
    · have e1 : (xr == -1) = false := by simpa using h1
      have HR : Hid (false = b) := Lib.hid (by
        rw [Bool.eq_iff_iff, HT.out]
        simp only [Bool.false_eq_true, false_iff]
        omega)
      clear h1
      go_enter Tryz.func52, Tryz.ntmps52
      go_wp2_with ((with_reducible (show wpList _ _ _ (Oper.mk _ (Op.store _ _ _) _ _ _ _ :: _) _ _)); refine wpList_store_new rfl 49 49 (.tmp 5) (.tmp 14) rfl _ _ w.heap.size rfl rfl rfl (by kernel_rfl) rfl (by kernel_rfl) ?_)
      go_ret
      exact ⟨ret_bool HR.out, HBX.out⟩
  · have e0 : ((i : Int) == 0) = false := by rw [beq_eq_false_iff_ne]; omega
    obtain ⟨j, rfl⟩ : ∃ j, i = j + 1 := ⟨i - 1, by omega⟩
    rw [Nat.add_sub_cancel] at HTJ
    have hj1 : (((j + 1 : Nat) : Int) - 1) = (j : Int) := by omega
    have hyk := HTO.out.k_bd j (by omega)
    obtain ⟨g', off', hgg, -, d0, d1, d2, d3, d4, d5⟩ := HA.out j (by rw [HN.out]; omega)
    injection hgg with hgg
    injection hgg with eg eo
    subst eg eo
    obtain ⟨⟨yr, yk, yn, ya, yc, yv⟩, hy⟩ := name_of (sA s.sc j)
    rw [hy] at d0 d1 d2 d3 d4 d5 HTJ hyk
    dsimp only at d0 d1 d2 d3 d4 d5 HTJ hyk
    have HT : Hid (b = true ↔ 0 ≤ xr ∧ xr < nr ∧ ((xr = yr ∧ xk = yk + 1 ∧ 0 ≤ xn ∧ xn < xk) ∨ (yr < xr ∧ xk = 0 ∧ xn = 0))) := Lib.hid (by
      rw [HB.out, HTJ.out]
      exact ⟨fun h => h.2 (by omega), fun h => ⟨fun h' => absurd h' (by omega), fun _ => h⟩⟩)
    have hjn : j < n := by omega
    have hBY : Below w.heap.size w ((w.alloc (.cells #[.int .i64 xr, .int .i64 xk, .int .i64 xn, .bool xa, .bool xc, .int .i64 xv] 49)).alloc (.cells #[.int .i64 yr, .int .i64 yk, .int .i64 yn, .bool ya, .bool yc, .int .i64 yv] 49)) := by go_grown
    have HBY := Lib.hid hBY
    clear hy HTJ hBY h0
    have hyk2 : yk ≤ 1000 := by omega
    by_cases g1 : xr < 0
    · have f2 : decide (xr < 0) = true := decide_eq_true g1
      have HR : Hid (false = b) := Lib.hid (by
        rw [Bool.eq_iff_iff, HT.out]
        simp only [Bool.false_eq_true, false_iff]
        omega)
      clear g1
      go_enter Tryz.func52, Tryz.ntmps52
      go_wp2_with (first | ((with_reducible (show wpList _ _ _ (Oper.mk _ (Op.store _ _ _) _ _ _ _ :: _) _ _)); refine wpList_store_new rfl 49 49 (.tmp 5) (.tmp 14) rfl _ _ w.heap.size rfl rfl rfl (by kernel_rfl) rfl (by kernel_rfl) ?_) | ((with_reducible (show wpList _ _ _ (Oper.mk _ (Op.store _ _ _) _ _ _ _ :: _) _ _)); refine wpList_store_new rfl 49 49 (.tmp 6) (.tmp 38) rfl _ _ (w.heap.size + 1) (by simp) rfl rfl (by kernel_rfl) rfl (by kernel_rfl) ?_))
      go_quiet (fail)
      go_wp2_with fail
      go_ret
      exact ⟨ret_bool HR.out, HBY.out.next (below_drewN _)⟩
    have f2 : decide (xr < 0) = false := decide_eq_false g1
    by_cases g2 : (nr : Int) ≤ xr
    · have f3 : decide ((nr : Int) ≤ xr) = true := decide_eq_true g2
      have HR : Hid (false = b) := Lib.hid (by
        rw [Bool.eq_iff_iff, HT.out]
        simp only [Bool.false_eq_true, false_iff]
        omega)
      clear g1 g2
      go_enter Tryz.func52, Tryz.ntmps52
      go_wp2_with (first | ((with_reducible (show wpList _ _ _ (Oper.mk _ (Op.store _ _ _) _ _ _ _ :: _) _ _)); refine wpList_store_new rfl 49 49 (.tmp 5) (.tmp 14) rfl _ _ w.heap.size rfl rfl rfl (by kernel_rfl) rfl (by kernel_rfl) ?_) | ((with_reducible (show wpList _ _ _ (Oper.mk _ (Op.store _ _ _) _ _ _ _ :: _) _ _)); refine wpList_store_new rfl 49 49 (.tmp 6) (.tmp 38) rfl _ _ (w.heap.size + 1) (by simp) rfl rfl (by kernel_rfl) rfl (by kernel_rfl) ?_))
      go_quiet (fail)
      go_wp2_with fail
      go_ret
      exact ⟨ret_bool HR.out, HBY.out.next (below_drewN _)⟩
    have f3 : decide ((nr : Int) ≤ xr) = false := decide_eq_false g2
    by_cases g3 : xr = yr
    · have f4 : (xr == yr) = true := by simpa using g3
      by_cases g4 : xk = yk + 1
      · have f5 : (xk == yk + 1) = true := by simpa using g4
        by_cases g5 : 0 ≤ xn
        · have f6 : decide (0 ≤ xn) = true := decide_eq_true g5
          have HR : Hid ((decide (xn < xk)) = b) := Lib.hid (by
            rw [Bool.eq_iff_iff, HT.out]
            simp only [decide_eq_true_iff]
            omega)
          clear g1 g2 g3 g4 g5
          go_enter Tryz.func52, Tryz.ntmps52
          go_wp2_with (first | ((with_reducible (show wpList _ _ _ (Oper.mk _ (Op.store _ _ _) _ _ _ _ :: _) _ _)); refine wpList_store_new rfl 49 49 (.tmp 5) (.tmp 14) rfl _ _ w.heap.size rfl rfl rfl (by kernel_rfl) rfl (by kernel_rfl) ?_) | ((with_reducible (show wpList _ _ _ (Oper.mk _ (Op.store _ _ _) _ _ _ _ :: _) _ _)); refine wpList_store_new rfl 49 49 (.tmp 6) (.tmp 38) rfl _ _ (w.heap.size + 1) (by simp) rfl rfl (by kernel_rfl) rfl (by kernel_rfl) ?_))
          go_quiet (fail)
          go_wp2_with fail
          go_ret
          exact ⟨ret_bool HR.out, HBY.out.next (below_drewN _)⟩
        · have f6 : decide (0 ≤ xn) = false := decide_eq_false g5
          have HR : Hid (false = b) := Lib.hid (by
            rw [Bool.eq_iff_iff, HT.out]
            simp only [Bool.false_eq_true, false_iff]
            omega)
          clear g1 g2 g3 g4 g5
          go_enter Tryz.func52, Tryz.ntmps52
          go_wp2_with (first | ((with_reducible (show wpList _ _ _ (Oper.mk _ (Op.store _ _ _) _ _ _ _ :: _) _ _)); refine wpList_store_new rfl 49 49 (.tmp 5) (.tmp 14) rfl _ _ w.heap.size rfl rfl rfl (by kernel_rfl) rfl (by kernel_rfl) ?_) | ((with_reducible (show wpList _ _ _ (Oper.mk _ (Op.store _ _ _) _ _ _ _ :: _) _ _)); refine wpList_store_new rfl 49 49 (.tmp 6) (.tmp 38) rfl _ _ (w.heap.size + 1) (by simp) rfl rfl (by kernel_rfl) rfl (by kernel_rfl) ?_))
          go_quiet (fail)
          go_wp2_with fail
          go_ret
          exact ⟨ret_bool HR.out, HBY.out.next (below_drewN _)⟩
      · have f5 : (xk == yk + 1) = false := by simpa using g4
        have HR : Hid (false = b) := Lib.hid (by
          rw [Bool.eq_iff_iff, HT.out]
          simp only [Bool.false_eq_true, false_iff]
          omega)
        clear g1 g2 g3 g4
        go_enter Tryz.func52, Tryz.ntmps52
        go_wp2_with (first | ((with_reducible (show wpList _ _ _ (Oper.mk _ (Op.store _ _ _) _ _ _ _ :: _) _ _)); refine wpList_store_new rfl 49 49 (.tmp 5) (.tmp 14) rfl _ _ w.heap.size rfl rfl rfl (by kernel_rfl) rfl (by kernel_rfl) ?_) | ((with_reducible (show wpList _ _ _ (Oper.mk _ (Op.store _ _ _) _ _ _ _ :: _) _ _)); refine wpList_store_new rfl 49 49 (.tmp 6) (.tmp 38) rfl _ _ (w.heap.size + 1) (by simp) rfl rfl (by kernel_rfl) rfl (by kernel_rfl) ?_))
        go_quiet (fail)
        go_wp2_with fail
        go_ret
        exact ⟨ret_bool HR.out, HBY.out.next (below_drewN _)⟩
    · have f4 : (xr == yr) = false := by simpa using g3
      by_cases g4 : yr < xr
      · have f5 : decide (yr < xr) = true := decide_eq_true g4
        by_cases g5 : xk = 0
        · have f6 : (xk == 0) = true := by simpa using g5
          have HR : Hid ((xn == 0) = b) := Lib.hid (by
            rw [Bool.eq_iff_iff, HT.out]
            simp only [beq_iff_eq]
            omega)
          clear g1 g2 g3 g4 g5
          go_enter Tryz.func52, Tryz.ntmps52
          go_wp2_with (first | ((with_reducible (show wpList _ _ _ (Oper.mk _ (Op.store _ _ _) _ _ _ _ :: _) _ _)); refine wpList_store_new rfl 49 49 (.tmp 5) (.tmp 14) rfl _ _ w.heap.size rfl rfl rfl (by kernel_rfl) rfl (by kernel_rfl) ?_) | ((with_reducible (show wpList _ _ _ (Oper.mk _ (Op.store _ _ _) _ _ _ _ :: _) _ _)); refine wpList_store_new rfl 49 49 (.tmp 6) (.tmp 38) rfl _ _ (w.heap.size + 1) (by simp) rfl rfl (by kernel_rfl) rfl (by kernel_rfl) ?_))
          go_quiet (fail)
          go_wp2_with fail
          go_ret
          exact ⟨ret_bool HR.out, HBY.out.next (below_drewN _)⟩
        · have f6 : (xk == 0) = false := by simpa using g5
          have HR : Hid (false = b) := Lib.hid (by
            rw [Bool.eq_iff_iff, HT.out]
            simp only [Bool.false_eq_true, false_iff]
            omega)
          clear g1 g2 g3 g4 g5
          go_enter Tryz.func52, Tryz.ntmps52
          go_wp2_with (first | ((with_reducible (show wpList _ _ _ (Oper.mk _ (Op.store _ _ _) _ _ _ _ :: _) _ _)); refine wpList_store_new rfl 49 49 (.tmp 5) (.tmp 14) rfl _ _ w.heap.size rfl rfl rfl (by kernel_rfl) rfl (by kernel_rfl) ?_) | ((with_reducible (show wpList _ _ _ (Oper.mk _ (Op.store _ _ _) _ _ _ _ :: _) _ _)); refine wpList_store_new rfl 49 49 (.tmp 6) (.tmp 38) rfl _ _ (w.heap.size + 1) (by simp) rfl rfl (by kernel_rfl) rfl (by kernel_rfl) ?_))
          go_quiet (fail)
          go_wp2_with fail
          go_ret
          exact ⟨ret_bool HR.out, HBY.out.next (below_drewN _)⟩
      · have f5 : decide (yr < xr) = false := decide_eq_false g4
        have HR : Hid (false = b) := Lib.hid (by
          rw [Bool.eq_iff_iff, HT.out]
          simp only [Bool.false_eq_true, false_iff]
          omega)
        clear g1 g2 g3 g4
        go_enter Tryz.func52, Tryz.ntmps52
        go_wp2_with (first | ((with_reducible (show wpList _ _ _ (Oper.mk _ (Op.store _ _ _) _ _ _ _ :: _) _ _)); refine wpList_store_new rfl 49 49 (.tmp 5) (.tmp 14) rfl _ _ w.heap.size rfl rfl rfl (by kernel_rfl) rfl (by kernel_rfl) ?_) | ((with_reducible (show wpList _ _ _ (Oper.mk _ (Op.store _ _ _) _ _ _ _ :: _) _ _)); refine wpList_store_new rfl 49 49 (.tmp 6) (.tmp 38) rfl _ _ (w.heap.size + 1) (by simp) rfl rfl (by kernel_rfl) rfl (by kernel_rfl) ?_))
        go_quiet (fail)
        go_wp2_with fail
        go_ret
        exact ⟨ret_bool HR.out, HBY.out.next (below_drewN _)⟩
end P20
end Go.Proofs.YtajbchecjbddgaaGreatDoor
