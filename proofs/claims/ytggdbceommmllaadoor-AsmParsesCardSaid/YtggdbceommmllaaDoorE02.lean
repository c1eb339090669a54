/- Walks: the reference's Check. -/
import Derived.Test.YtggdbceommmllaaDoorD02
import Derived.Deep.QuietTactic
import Derived.BigQuiet
namespace Go.Proofs.YtggdbceommmllaaDoor
open Go.RowKit
namespace P2

theorem spans_lit (op : Int) (h0 : 0 ≤ op) (h1 : op ≤ 16) (w : World) : Calls Tryd.prog 32 #[.int .i64 op] w fun e w' =>
    e = .returned (.agg #[.int .i64 (lo (kind op 0)), .int .i64 (hi (kind op 0)), .int .i64 (lo (kind op 1)), .int .i64 (hi (kind op 1)), .int .i64 (lo (kind op 2)), .int .i64 (hi (kind op 2)), .int .i64 (lo (kind op 3)), .int .i64 (hi (kind op 3))]) ∧ Below w.heap.size w w' := spans_any op h0 h1 w

theorem refCheck_bad (i : Ins) (h : opOk i.1 = false) (w : World) : Calls Tryd.prog 14 #[insV i] w fun e w' => e = .returned (.int .i64 (chk i)) ∧ Below w.heap.size w w' := by
  obtain ⟨op, a, b, c, n⟩ := i
  have hc : Hid (chk (op, a, b, c, n) = 13) := by simp [Hid, chk, h]
  simp only [opOk, decide_eq_false_iff_not] at h
  unfold insV
  by_cases h0 : op < 0
  · clear h
    go_enter Tryd.func14, Tryd.ntmps14
    go_wp2
    go_ret
    exact ⟨by rw [hc.out]; rfl, by go_grown⟩
  · have h1 : 16 < op := by omega
    clear h
    go_enter Tryd.func14, Tryd.ntmps14
    go_wp2
    go_ret
    exact ⟨by rw [hc.out]; rfl, by go_grown⟩

set_option maxHeartbeats 4000000 in
theorem refCheck_ok (i : Ins) (h : opOk i.1 = true) (w : World) : Calls Tryd.prog 14 #[insV i] w fun e w' => e = .returned (.int .i64 (chk i)) ∧ Below w.heap.size w w' := by
  obtain ⟨op, a, b, c, n⟩ := i
  simp only [opOk, decide_eq_true_eq] at h
  obtain ⟨h0, h1⟩ := h
  unfold insV
  go_enter Tryd.func14, Tryd.ntmps14
  go_wp2_with fail
  refine (spans_lit op h0 h1 _).mono ?_
  rintro e w1 ⟨rfl, hb⟩
  have hI := newest_cells hb (by simp)
  have hz := below_size hb
  have hB := hb.of_alloc
  clear hb
  have hB2 : ∀ o o', Below w.heap.size w ((w1.alloc o).alloc o') := fun o o' => (hB.alloc hB.size o).alloc (by have := hB.size; simp; omega) o'
  go_wp2_with fail
  refine wp_loop_rounds 5 ?_
  rw [rounds_succ]
  go_wp2_with fail
  by_cases la : a < lo (kind op 0)
  · have hd : decide (a < lo (kind op 0)) = true := by simpa using la
    go_quiet (fail)
    go_wp2_with fail
    go_ret
    exact ⟨ret_int (ch_10 h0 h1 (by omega)), by first | exact below_drewN (hB2 _ _) _ | exact below_drewN (below_drewN (hB2 _ _) _) _ | exact hB2 _ _⟩
  by_cases ua : hi (kind op 0) < a
  · have hd : decide (a < lo (kind op 0)) = false := by simpa using la
    have hd2 : decide (hi (kind op 0) < a) = true := by simpa using ua
    go_quiet (fail)
    go_wp2_with fail
    go_ret
    exact ⟨ret_int (ch_10 h0 h1 (by omega)), by first | exact below_drewN (hB2 _ _) _ | exact below_drewN (below_drewN (hB2 _ _) _) _ | exact hB2 _ _⟩
  have hda : decide (a < lo (kind op 0)) = false := by simpa using la
  have hea : decide (hi (kind op 0) < a) = false := by simpa using ua
  go_quiet (fail)
  go_wp2_with fail
  rw [rounds_succ]
  go_wp2_with fail
  by_cases lb : b < lo (kind op 1)
  · have hd : decide (b < lo (kind op 1)) = true := by simpa using lb
    go_quiet (fail)
    go_wp2_with fail
    go_ret
    exact ⟨ret_int (ch_10 h0 h1 (by omega)), by first | exact below_drewN (hB2 _ _) _ | exact below_drewN (below_drewN (hB2 _ _) _) _ | exact hB2 _ _⟩
  by_cases ub : hi (kind op 1) < b
  · have hd : decide (b < lo (kind op 1)) = false := by simpa using lb
    have hd2 : decide (hi (kind op 1) < b) = true := by simpa using ub
    go_quiet (fail)
    go_wp2_with fail
    go_ret
    exact ⟨ret_int (ch_10 h0 h1 (by omega)), by first | exact below_drewN (hB2 _ _) _ | exact below_drewN (below_drewN (hB2 _ _) _) _ | exact hB2 _ _⟩
  have hdb : decide (b < lo (kind op 1)) = false := by simpa using lb
  have heb : decide (hi (kind op 1) < b) = false := by simpa using ub
  go_quiet (fail)
  go_wp2_with fail
  rw [rounds_succ]
  go_wp2_with fail
  by_cases lc : c < lo (kind op 2)
  · have hd : decide (c < lo (kind op 2)) = true := by simpa using lc
    go_quiet (fail)
    go_wp2_with fail
    go_ret
    exact ⟨ret_int (ch_10 h0 h1 (by omega)), by first | exact below_drewN (hB2 _ _) _ | exact below_drewN (below_drewN (hB2 _ _) _) _ | exact hB2 _ _⟩
  by_cases uc : hi (kind op 2) < c
  · have hd : decide (c < lo (kind op 2)) = false := by simpa using lc
    have hd2 : decide (hi (kind op 2) < c) = true := by simpa using uc
    go_quiet (fail)
    go_wp2_with fail
    go_ret
    exact ⟨ret_int (ch_10 h0 h1 (by omega)), by first | exact below_drewN (hB2 _ _) _ | exact below_drewN (below_drewN (hB2 _ _) _) _ | exact hB2 _ _⟩
  have hdc : decide (c < lo (kind op 2)) = false := by simpa using lc
  have hec : decide (hi (kind op 2) < c) = false := by simpa using uc
  go_quiet (fail)
  go_wp2_with fail
  rw [rounds_succ]
  go_wp2_with fail
  by_cases ln : n < lo (kind op 3)
  · have hd : decide (n < lo (kind op 3)) = true := by simpa using ln
    go_quiet (fail)
    go_wp2_with fail
    go_ret
    exact ⟨ret_int (ch_10 h0 h1 (by omega)), by first | exact below_drewN (hB2 _ _) _ | exact below_drewN (below_drewN (hB2 _ _) _) _ | exact hB2 _ _⟩
  by_cases un : hi (kind op 3) < n
  · have hd : decide (n < lo (kind op 3)) = false := by simpa using ln
    have hd2 : decide (hi (kind op 3) < n) = true := by simpa using un
    go_quiet (fail)
    go_wp2_with fail
    go_ret
    exact ⟨ret_int (ch_10 h0 h1 (by omega)), by first | exact below_drewN (hB2 _ _) _ | exact below_drewN (below_drewN (hB2 _ _) _) _ | exact hB2 _ _⟩
  have hdn : decide (n < lo (kind op 3)) = false := by simpa using ln
  have hen : decide (hi (kind op 3) < n) = false := by simpa using un
  go_quiet (fail)
  go_wp2_with fail
  rw [rounds_succ]
  go_wp2_with fail
  go_ret
  exact ⟨ret_int (ch_0 h0 h1 (by omega) (by omega) (by omega) (by omega)), by first | exact below_drewN (hB2 _ _) _ | exact below_drewN (below_drewN (hB2 _ _) _) _ | exact hB2 _ _⟩

theorem refCheck_any (i : Ins) (w : World) : Calls Tryd.prog 14 #[insV i] w fun e w' => e = .returned (.int .i64 (chk i)) ∧ Below w.heap.size w w' := by
  cases h : opOk i.1
  · exact refCheck_bad i h w
  · exact refCheck_ok i h w

end P2
end Go.Proofs.YtggdbceommmllaaDoor
