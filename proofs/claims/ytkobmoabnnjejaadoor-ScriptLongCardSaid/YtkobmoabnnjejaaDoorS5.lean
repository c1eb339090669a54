/- Script: Parse's deferred function. -/
import Derived.Test.YtkobmoabnnjejaaDoorS4
import Derived.Recover
import Derived.Defers
import Derived.BigRegion
namespace Go.Proofs.YtkobmoabnnjejaaDoor
open Go.RowKit
namespace P21
open PC NumL

theorem below_drew {B : Nat} {w w' : World} (h : Below B w w') : Below B w w'.drew := h.trans ⟨rfl, rfl, rfl, Nat.le_refl _, fun _ _ => rfl⟩
theorem rep18 : Array.replicate 18 undef = #[undef, undef, undef, undef, undef, undef, undef, undef, undef, undef, undef, undef, undef, undef, undef, undef, undef, undef] := rfl
set_option maxHeartbeats 1000000 in
theorem caught_idle (a b c : Addr) (w : World) :
    CallsD Tryd.prog 33 #[.pointer (some a), .pointer (some b), .pointer (some c)] .returning w fun e u' w' => e = .returned (.tuple #[]) ∧ u' = .returning ∧ w' = w := by
  refine callsD_of_wpS Tryd.func33 rfl fun c₀ cs hu => ?_
  apply wpS_seq
  apply wpS_region
  simp [wpOpsS, go_sem, recoverD, hu, Tryd.ntmps33, Exit.thenS]
  refine wpS_of_wp ?_
  rw [rep18]
  simp only [List.setIfInBounds_toArray, List.set_cons_zero, List.set_cons_succ, List.append_toArray, List.cons_append, List.nil_append]
  go_wp2_with fail
  refine ⟨rfl, .returning, ?_, _, results_none rfl _ _ _, rfl, rfl, rfl⟩
  cases c₀
  simp_all
set_option maxRecDepth 10000 in
set_option maxHeartbeats 1000000 in
theorem caught_broken (p q r : Nat) (line code : Int) (x : Value) (y z : Int) (w : World) (hx : w.cell? ⟨p, 0, none⟩ = some x) (hy : w.cell? ⟨q, 0, none⟩ = some (.int .i64 y)) (hz : w.cell? ⟨r, 0, none⟩ = some (.int .i64 z))
    (fx : w.frozen? ⟨p, 0, none⟩ = false) (fy : w.frozen? ⟨q, 0, none⟩ = false) (fz : w.frozen? ⟨r, 0, none⟩ = false) (hpq : p ≠ q) (hpr : p ≠ r) (hqr : q ≠ r) (B : Nat) (hBw : B ≤ w.heap.size) (hBp : B ≤ p) (hBq : B ≤ q) (hBr : B ≤ r) :
    CallsD Tryd.prog 33 #[.pointer (some ⟨p, 0, none⟩), .pointer (some ⟨q, 0, none⟩), .pointer (some ⟨r, 0, none⟩)] (.panicking (broken line code)) w fun e u' w' =>
      e = .returned (.tuple #[]) ∧ u' = .panicking [{ v := .iface 68 (.agg #[.int .i64 line, .int .i64 code]), recovered := true }] ∧
        w'.cell? ⟨p, 0, none⟩ = some (.slice none 0 0) ∧ w'.cell? ⟨q, 0, none⟩ = some (.int .i64 line) ∧ w'.cell? ⟨r, 0, none⟩ = some (.int .i64 code) ∧ Below B w w' := by
  have hta : ∀ w, (Instr.typeAssert (.iface 68 (.agg #[.int .i64 line, .int .i64 code])) 20 68 true).run Tryd.prog w = .ok (.tuple #[.agg #[.int .i64 line, .int .i64 code], .bool true]) w := fun w => by kernel_rfl
  unfold broken
  refine callsD_of_wpS Tryd.func33 rfl fun c₀ cs hu => ?_
  apply wpS_seq
  apply wpS_region
  simp [wpOpsS, go_sem, recoverD, hu, Tryd.ntmps33, Exit.thenS]
  refine wpS_of_wp ?_
  rw [rep18]
  simp only [List.setIfInBounds_toArray, List.set_cons_zero, List.set_cons_succ, List.append_toArray, List.cons_append, List.nil_append]
  go_wp2_with fail
  have np : w.heap.size ≠ p := Nat.ne_of_gt (World.block_lt_of_cell? w _ hx)
  have nq : w.heap.size ≠ q := Nat.ne_of_gt (World.block_lt_of_cell? w _ hy)
  have nr : w.heap.size ≠ r := Nat.ne_of_gt (World.block_lt_of_cell? w _ hz)
  have np' : p ≠ w.heap.size := fun h => np h.symm
  have nq' : q ≠ w.heap.size := fun h => nq h.symm
  have nr' : r ≠ w.heap.size := fun h => nr h.symm
  have hA : Below w.heap.size w (w.alloc (.cells #[.int .i64 line, .int .i64 code] 68)) := by go_grown
  have x1 := (hA.cell (p := ⟨p, 0, none⟩) (World.block_lt_of_cell? w _ hx)).trans hx
  have y1 := (hA.cell (p := ⟨q, 0, none⟩) (World.block_lt_of_cell? w _ hy)).trans hy
  have z1 := (hA.cell (p := ⟨r, 0, none⟩) (World.block_lt_of_cell? w _ hz)).trans hz
  have gx := (hA.frozen (p := ⟨p, 0, none⟩) (World.block_lt_of_cell? w _ hx)).trans fx
  have gy := (hA.frozen (p := ⟨q, 0, none⟩) (World.block_lt_of_cell? w _ hy)).trans fy
  have gz := (hA.frozen (p := ⟨r, 0, none⟩) (World.block_lt_of_cell? w _ hz)).trans fz
  have n0 : (w.alloc (.cells #[.int .i64 line, .int .i64 code] 68)).cell? ⟨w.heap.size, 0, none⟩ = some (.int .i64 line) := by rw [cell_of_row _ _ _ _ _ _ (heap_alloc_last w _)]; rfl
  have n1 : (w.alloc (.cells #[.int .i64 line, .int .i64 code] 68)).cell? ⟨w.heap.size, 1, none⟩ = some (.int .i64 code) := by rw [cell_of_row _ _ _ _ _ _ (heap_alloc_last w _)]; rfl
  have hAB : Below B w (w.alloc (.cells #[.int .i64 line, .int .i64 code] 68)) := (Below.refl _ _).alloc hBw _
  obtain ⟨W1, hW1⟩ := name_of (w.alloc (.cells #[.int .i64 line, .int .i64 code] 68))
  rw [hW1] at hAB x1 y1 z1 gx gy gz n0 n1 ⊢
  obtain ⟨N, hN⟩ := name_of w.heap.size
  rw [hN] at n0 n1 np nq nr np' nq' nr' ⊢
  have hqp : q ≠ p := fun h => hpq h.symm
  have hrp : r ≠ p := fun h => hpr h.symm
  have hrq : r ≠ q := fun h => hqr h.symm
  clear hA hW1 hN hx hy hz fx fy fz
  go_region_held3 (fun W => W.cell? ⟨N, 0, none⟩ = some (.int .i64 line) ∧ W.cell? ⟨N, 1, none⟩ = some (.int .i64 code)) (go_keep) (fail)
  go_wp2_with fail
  refine ⟨rfl, _, rfl, _, results_none rfl _ _ _, rfl, rfl, ?_, ?_, ?_, ?_⟩
  · go_simp
  · go_simp
  · go_simp
  · exact below_drew (((hAB.setCell (p := ⟨p, 0, none⟩) hBp _).setCell (p := ⟨q, 0, none⟩) hBq _).setCell (p := ⟨r, 0, none⟩) hBr _)
end P21
end Go.Proofs.YtkobmoabnnjejaaDoor
