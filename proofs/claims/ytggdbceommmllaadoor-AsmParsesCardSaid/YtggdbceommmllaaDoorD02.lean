/- Walks: code.Check. -/
import Derived.Test.YtggdbceommmllaaDoorB02
import Derived.Test.YtggdbceommmllaaDoorC3
namespace Go.Proofs.YtggdbceommmllaaDoor
open Go.RowKit
namespace P2

def fld (i : Ins) : Nat → Int | 0 => i.2.1 | 1 => i.2.2.1 | 2 => i.2.2.2.1 | _ => i.2.2.2.2
def insV (i : Ins) : Value := .agg #[.int .i64 i.1, .int .i64 i.2.1, .int .i64 i.2.2.1, .int .i64 i.2.2.2.1, .int .i64 i.2.2.2.2]

theorem ch_0 {op a b c n : Int} (h0 : 0 ≤ op) (h1 : op ≤ 16) (ha : lo (kind op 0) ≤ a ∧ a ≤ hi (kind op 0)) (hb : lo (kind op 1) ≤ b ∧ b ≤ hi (kind op 1)) (hc : lo (kind op 2) ≤ c ∧ c ≤ hi (kind op 2)) (hn : lo (kind op 3) ≤ n ∧ n ≤ hi (kind op 3)) :
    0 = chk (op, a, b, c, n) := by
  simp [chk, opOk, fits, inR, h0, h1, ha, hb, hc, hn]
theorem ch_10 {op a b c n : Int} (h0 : 0 ≤ op) (h1 : op ≤ 16) (h : ¬ ((lo (kind op 0) ≤ a ∧ a ≤ hi (kind op 0)) ∧ (lo (kind op 1) ≤ b ∧ b ≤ hi (kind op 1)) ∧ (lo (kind op 2) ≤ c ∧ c ≤ hi (kind op 2)) ∧ (lo (kind op 3) ≤ n ∧ n ≤ hi (kind op 3)))) :
    10 = chk (op, a, b, c, n) := by
  have : fits (op, a, b, c, n) = false := by
    rw [Bool.eq_false_iff]
    intro hf
    simp only [fits, inR, Bool.and_eq_true, decide_eq_true_eq] at hf
    exact h ⟨hf.1.1.1, hf.1.1.2, hf.1.2, hf.2⟩
  simp [chk, opOk, this, h0, h1]
theorem operands_lit (op : Int) (h0 : 0 ≤ op) (h1 : op ≤ 16) (w : World) : Calls Tryd.prog 50 #[.int .i64 op] w fun e w' =>
    e = .returned (.agg #[.int .i64 (kind op 0), .int .i64 (kind op 1), .int .i64 (kind op 2), .int .i64 (kind op 3)]) ∧ Below w.heap.size w w' := operands_any op h0 h1 w

theorem check_bad (i : Ins) (h : opOk i.1 = false) (w : World) : Calls Tryd.prog 29 #[insV i] w fun e w' => e = .returned (.int .i64 (chk i)) ∧ Below w.heap.size w w' := by
  obtain ⟨op, a, b, c, n⟩ := i
  have hc : Hid (chk (op, a, b, c, n) = 13) := by simp [Hid, chk, h]
  simp only [opOk, decide_eq_false_iff_not] at h
  unfold insV
  by_cases h0 : op < 0
  · clear h
    go_enter Tryd.func29, Tryd.ntmps29
    go_wp2
    go_step3
    go_wp2
    all_goals (try rw [Exit.noGoto_ret])

    all_goals go_ret
    all_goals exact ⟨by rw [hc.out]; rfl, by go_grown⟩
  · have h1 : 17 ≤ op := by omega
    clear h
    go_enter Tryd.func29, Tryd.ntmps29
    go_wp2
    go_step3
    go_wp2
    all_goals (try rw [Exit.noGoto_ret])

    all_goals go_ret
    all_goals exact ⟨by rw [hc.out]; rfl, by go_grown⟩

set_option maxHeartbeats 4000000 in
theorem check_ok (i : Ins) (h : opOk i.1 = true) (w : World) : Calls Tryd.prog 29 #[insV i] w fun e w' => e = .returned (.int .i64 (chk i)) ∧ Below w.heap.size w w' := by
  obtain ⟨op, a, b, c, n⟩ := i
  simp only [opOk, decide_eq_true_eq] at h
  obtain ⟨h0, h1⟩ := h
  unfold insV
  have i0 : ∀ w, (Instr.index 73 (.agg #[.int .i64 a, .int .i64 b, .int .i64 c, .int .i64 n]) (.int .i64 0)).run Tryd.prog w = .ok (.int .i64 a) w := fun _ => by kernel_rfl
  have i1 : ∀ w, (Instr.index 73 (.agg #[.int .i64 a, .int .i64 b, .int .i64 c, .int .i64 n]) (.int .i64 1)).run Tryd.prog w = .ok (.int .i64 b) w := fun _ => by kernel_rfl
  have i2 : ∀ w, (Instr.index 73 (.agg #[.int .i64 a, .int .i64 b, .int .i64 c, .int .i64 n]) (.int .i64 2)).run Tryd.prog w = .ok (.int .i64 c) w := fun _ => by kernel_rfl
  have i3 : ∀ w, (Instr.index 73 (.agg #[.int .i64 a, .int .i64 b, .int .i64 c, .int .i64 n]) (.int .i64 3)).run Tryd.prog w = .ok (.int .i64 n) w := fun _ => by kernel_rfl
  go_enter Tryd.func29, Tryd.ntmps29
  go_wp2_with fail
  go_step3
  go_wp2_with fail
  refine (operands_lit op h0 h1 _).mono ?_
  rintro e w1 ⟨rfl, hb⟩
  have hI := newest_cells hb (by simp)
  have hz := below_size hb
  have hB := hb.of_alloc
  go_wp2_with fail
  go_step3
  go_wp2_with fail
  refine wp_loop_rounds 5 ?_
  rw [rounds_succ]
  go_wp2_with (go_at_call 51; refine (span_any _ _).mono ?_; rintro e w' ⟨rfl, rfl⟩)
  all_goals (try (rw [rounds_succ]; go_wp2_with (go_at_call 51; refine (span_any _ _).mono ?_; rintro e w' ⟨rfl, rfl⟩)))
  all_goals (try (rw [rounds_succ]; go_wp2_with (go_at_call 51; refine (span_any _ _).mono ?_; rintro e w' ⟨rfl, rfl⟩)))
  all_goals (try (rw [rounds_succ]; go_wp2_with (go_at_call 51; refine (span_any _ _).mono ?_; rintro e w' ⟨rfl, rfl⟩)))
  all_goals (try (rw [rounds_succ]; go_wp2_with (go_at_call 51; refine (span_any _ _).mono ?_; rintro e w' ⟨rfl, rfl⟩)))
  all_goals (try rw [Exit.noGoto_ret])
  all_goals go_ret
  all_goals first
    | exact ⟨ret_int (ch_10 h0 h1 (by omega)), hB.alloc hB.size _⟩
    | exact ⟨ret_int (ch_0 h0 h1 (by omega) (by omega) (by omega) (by omega)), hB.alloc hB.size _⟩

theorem check_any (i : Ins) (w : World) : Calls Tryd.prog 29 #[insV i] w fun e w' => e = .returned (.int .i64 (chk i)) ∧ Below w.heap.size w w' := by
  cases h : opOk i.1
  · exact check_bad i h w
  · exact check_ok i h w

end P2
end Go.Proofs.YtggdbceommmllaaDoor
