/- Walk: AsmReads. -/
import Derived.Test.YtggdbceommmllaaDoorA4a
namespace Go.Proofs.YtggdbceommmllaaDoor
open Go.RowKit
namespace P3
open P2 PC NumL CutL

/-- Two instructions lie in two blocks. -/
abbrev HasJ (b b' : Nat) (o a c d n : Int) (w0 W : World) : Prop :=
  (W.cell? ⟨b, 0, none⟩ = some (.int .i64 o) ∧ W.cell? ⟨b, 1, none⟩ = some (.int .i64 a) ∧ W.cell? ⟨b, 2, none⟩ = some (.int .i64 c) ∧ W.cell? ⟨b, 3, none⟩ = some (.int .i64 d) ∧ W.cell? ⟨b, 4, none⟩ = some (.int .i64 n)) ∧
  (W.cell? ⟨b', 0, none⟩ = some (.int .i64 o) ∧ W.cell? ⟨b', 1, none⟩ = some (.int .i64 a) ∧ W.cell? ⟨b', 2, none⟩ = some (.int .i64 c) ∧ W.cell? ⟨b', 3, none⟩ = some (.int .i64 d) ∧ W.cell? ⟨b', 4, none⟩ = some (.int .i64 n)) ∧ Below w0.heap.size w0 W
theorem HasJ.next {b b' : Nat} {o a c d n : Int} {w0 W W1 : World} (h : HasJ b b' o a c d n w0 W) (hb : Below W.heap.size W W1) : HasJ b b' o a c d n w0 W1 := by
  obtain ⟨⟨h0, h1, h2, h3, h4⟩, ⟨k0, k1, k2, k3, k4⟩, h5⟩ := h
  have hlt : b < W.heap.size := World.block_lt_of_cell? W _ h0
  have hlt' : b' < W.heap.size := World.block_lt_of_cell? W _ k0
  exact ⟨⟨(hb.cell (p := ⟨b, 0, none⟩) hlt).trans h0, (hb.cell (p := ⟨b, 1, none⟩) hlt).trans h1, (hb.cell (p := ⟨b, 2, none⟩) hlt).trans h2, (hb.cell (p := ⟨b, 3, none⟩) hlt).trans h3, (hb.cell (p := ⟨b, 4, none⟩) hlt).trans h4⟩,
    ⟨(hb.cell (p := ⟨b', 0, none⟩) hlt').trans k0, (hb.cell (p := ⟨b', 1, none⟩) hlt').trans k1, (hb.cell (p := ⟨b', 2, none⟩) hlt').trans k2, (hb.cell (p := ⟨b', 3, none⟩) hlt').trans k3, (hb.cell (p := ⟨b', 4, none⟩) hlt').trans k4⟩, h5.next hb⟩
set_option maxRecDepth 10000 in
set_option maxHeartbeats 4000000 in
theorem asmReads_any (s : ByteArray) (w : World) (hp : Lb w) : Calls Tryd.prog 5 #[.string s] w fun e w' => e = .returned (.bool true) ∧ Below w.heap.size w w' := by
  have HP := Lib.hid hp
  have hA := fun W (hW : Below w.heap.size w W) => awake_any W (HP.out.next hW)
  by_cases h : 100 < s.size
  · have z0 : decide (100 < (s.size : Int)) = true := decide_eq_true (by omega)
    have hAw := hA w (Below.refl _ _)
    clear h hA hp
    go_enter Tryd.func5, Tryd.ntmps5
    go_wp2_with fail
    refine hAw.mono ?_
    rintro e w8 ⟨rfl, hb8⟩
    go_wp2_with fail
    go_ret
    exact ⟨rfl, hb8⟩
  · have z0 : decide (100 < (s.size : Int)) = false := decide_eq_false (by omega)
    obtain ⟨o, a, b, c, n, f, hr⟩ := resI_five (readA s.data.toList)
    have hR1 := read_any s (by omega) w hp
    have hR2 := fun W => refRead_any s (by omega) W
    unfold InsPost at hR1 hR2
    rw [hr] at hR1 hR2
    have hq := eqI_same o a b c n
    have hf : (f == f) = true := beq_iff_eq.2 rfl
    clear h hp hr
    go_enter Tryd.func5, Tryd.ntmps5
    go_wp2_with fail
    refine hR1.mono ?_
    rintro e w1 ⟨rfl, hb1⟩
    have hI := HasI.new w1 o a b c n
    have hI1 := hb1.next hI.2.2.2.2.2
    clear hR1
    go_wp2_with (first | (refine wpList_store_new rfl 33 33 (.tmp 3) (.tmp 14) rfl _ _ w1.heap.size rfl rfl rfl (by kernel_rfl) rfl (by kernel_rfl) ?_))
    refine (hR2 _).mono ?_
    rintro e w2 ⟨rfl, hb2⟩
    have hI2 := (hI.next hb2).next (HasI.new w2 o a b c n).2.2.2.2.2
    have hB2 := (hI1.next hb2).next (HasI.new w2 o a b c n).2.2.2.2.2
    have hJ : HasJ w1.heap.size w2.heap.size o a b c n w (w2.alloc (.cells #[.int .i64 o, .int .i64 a, .int .i64 b, .int .i64 c, .int .i64 n] 33)) :=
      ⟨⟨hI2.1, hI2.2.1, hI2.2.2.1, hI2.2.2.2.1, hI2.2.2.2.2.1⟩, ⟨(HasI.new w2 o a b c n).1, (HasI.new w2 o a b c n).2.1, (HasI.new w2 o a b c n).2.2.1, (HasI.new w2 o a b c n).2.2.2.1, (HasI.new w2 o a b c n).2.2.2.2.1⟩, hB2⟩
    have hAw := hA _ hB2
    obtain ⟨j0, j1, j2, j3, j4⟩ := hJ.1
    obtain ⟨k0, k1, k2, k3, k4⟩ := hJ.2.1
    clear hI hI1 hb1 hR2 hb2 hI2 hB2 hA
    go_wp2_with (first | (refine wpList_store_new rfl 33 33 (.tmp 5) (.tmp 19) rfl _ _ w2.heap.size rfl rfl rfl (by kernel_rfl) rfl (by kernel_rfl) ?_))
    refine hAw.mono ?_
    rintro e w8 ⟨rfl, hb8⟩
    go_wp2_with fail
    go_ret
    exact ⟨rfl, hJ.2.2.next hb8⟩
end P3
end Go.Proofs.YtggdbceommmllaaDoor
