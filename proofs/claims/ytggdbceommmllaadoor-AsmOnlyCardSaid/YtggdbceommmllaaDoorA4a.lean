/- Walk: AsmLines. -/
import Derived.Test.YtggdbceommmllaaDoorA3aw
import Derived.Deep.RegionHeld3
namespace Go.Proofs.YtggdbceommmllaaDoor
open Go.RowKit
namespace P3
open P2 PC NumL CutL

/-- An instruction lies in block b, below which and whatever lay before w nothing turned. -/
abbrev HasI (b : Nat) (o a c d n : Int) (w0 W : World) : Prop :=
  W.cell? ⟨b, 0, none⟩ = some (.int .i64 o) ∧ W.cell? ⟨b, 1, none⟩ = some (.int .i64 a) ∧ W.cell? ⟨b, 2, none⟩ = some (.int .i64 c) ∧ W.cell? ⟨b, 3, none⟩ = some (.int .i64 d) ∧ W.cell? ⟨b, 4, none⟩ = some (.int .i64 n) ∧ Below w0.heap.size w0 W
theorem HasI.next {b : Nat} {o a c d n : Int} {w0 W W1 : World} (h : HasI b o a c d n w0 W) (hb : Below W.heap.size W W1) : HasI b o a c d n w0 W1 := by
  have hlt : b < W.heap.size := World.block_lt_of_cell? W _ h.1
  obtain ⟨h0, h1, h2, h3, h4, h5⟩ := h
  exact ⟨(hb.cell (p := ⟨b, 0, none⟩) hlt).trans h0, (hb.cell (p := ⟨b, 1, none⟩) hlt).trans h1, (hb.cell (p := ⟨b, 2, none⟩) hlt).trans h2, (hb.cell (p := ⟨b, 3, none⟩) hlt).trans h3, (hb.cell (p := ⟨b, 4, none⟩) hlt).trans h4, h5.next hb⟩
theorem HasI.new (w : World) (o a c d n : Int) : HasI w.heap.size o a c d n w (w.alloc (.cells #[.int .i64 o, .int .i64 a, .int .i64 c, .int .i64 d, .int .i64 n] 33)) :=
  ⟨by simp, by simp, by simp, by simp, by simp, (Below.refl _ _).alloc (Nat.le_refl _) _⟩
/-- What the reference's Line is handed. -/
theorem chk_ref {i : Ins} (h : chk i = 0) (w : World) : Calls Tryd.prog 15 #[insV i] w fun e w' => e = .returned (.string ⟨(lineA i).toArray⟩) ∧ Below w.heap.size w w' := by
  obtain ⟨h1, h2⟩ := chk_zero h
  obtain ⟨op, ho, hop⟩ := op_nat h1
  have hwf := chk_wf h
  obtain ⟨o, a, b, c, n⟩ := i
  simp only at ho
  subst ho
  refine refLine_any op hop a b c n hwf (fun k hk => ?_) (fun k hk hf => ?_) w
  · have h3 := h2 k hk
    have h4 := inR_iff.1 h3
    have h5 := (kind_hi hop hk).2
    have h6 : lo (kind ((op : Nat) : Int) k) = lo (kind op k) := rfl
    simp only at h4
    omega
  · have h3 := h2 k hk
    have h4 := inR_iff.1 h3
    have h5 := kind_five hop hk hf
    simp only at h4
    omega
set_option maxRecDepth 10000 in
set_option maxHeartbeats 4000000 in
theorem asmLines_any (i : Ins) (w : World) (hp : Lb w) : Calls Tryd.prog 4 #[insV i] w fun e w' => e = .returned (.bool true) ∧ Below w.heap.size w w' := by
  have HP := Lib.hid hp
  have hL0 := fun W (hW : Below w.heap.size w W) => line_any i W (HP.out.next hW)
  have hC0 := fun W => refCheck_any i W
  have hA := fun W (hW : Below w.heap.size w W) => awake_any W (HP.out.next hW)
  by_cases h : chk i = 0
  · have hR0 := fun W => chk_ref h W
    rw [h, if_pos rfl] at hL0
    rw [h] at hC0
    obtain ⟨x, hx⟩ := name_of (⟨(lineA i).toArray⟩ : ByteArray)
    rw [hx] at hL0 hR0
    have hbe := str_beq x
    clear h hx hp
    obtain ⟨o, a, b, c, n⟩ := i
    unfold insV at hL0 hC0 hR0 ⊢
    simp only at hL0 hC0 hR0 ⊢
    have hI := HasI.new w o a b c n
    go_enter Tryd.func4, Tryd.ntmps4
    go_wp2_with fail
    refine (hL0 _ hI.2.2.2.2.2).mono ?_
    rintro e w1 ⟨rfl, hb1⟩
    have hI1 := hI.next hb1
    have i0 := hI1.1
    have i1 := hI1.2.1
    have i2 := hI1.2.2.1
    have i3 := hI1.2.2.2.1
    have i4 := hI1.2.2.2.2.1
    clear hI hb1
    go_wp2_with fail
    refine (hC0 _).mono ?_
    rintro e w2 ⟨rfl, hb2⟩
    have hI2 := hI1.next hb2
    have q0 := hI2.1
    have q1 := hI2.2.1
    have q2 := hI2.2.2.1
    have q3 := hI2.2.2.2.1
    have q4 := hI2.2.2.2.2.1
    clear hI1 i0 i1 i2 i3 i4 hb2
    go_wp2_with fail
    refine (hR0 _).mono ?_
    rintro e w3 ⟨rfl, hb3⟩
    have hB3 := hI2.2.2.2.2.2.next hb3
    have hAw := hA _ hB3
    clear hA hR0 hb3
    go_wp2_with fail
    refine hAw.mono ?_
    rintro e w8 ⟨rfl, hb8⟩
    go_wp2_with fail
    go_ret
    exact ⟨rfl, hB3.next hb8⟩
  · rw [if_neg h] at hL0
    obtain ⟨c0, hc0⟩ := name_of (chk i)
    rw [hc0] at hL0 hC0 h
    have hb0 : (c0 != 0) = true := bne_iff_ne.2 h
    have hb00 : (c0 == 0) = false := beq_eq_false_iff_ne.2 h
    have hb1 : (c0 == c0) = true := beq_iff_eq.2 rfl
    clear h hc0 hp
    obtain ⟨o, a, b, c, n⟩ := i
    unfold insV at hL0 hC0 ⊢
    simp only at hL0 hC0 ⊢
    have hI := HasI.new w o a b c n
    go_enter Tryd.func4, Tryd.ntmps4
    go_wp2_with fail
    refine (hL0 _ hI.2.2.2.2.2).mono ?_
    rintro e w1 ⟨rfl, hb1⟩
    have hI1 := hI.next hb1
    have i0 := hI1.1
    have i1 := hI1.2.1
    have i2 := hI1.2.2.1
    have i3 := hI1.2.2.2.1
    have i4 := hI1.2.2.2.2.1
    clear hI hb1
    go_wp2_with fail
    refine (hC0 _).mono ?_
    rintro e w2 ⟨rfl, hb2⟩
    have hB2 := (hI1.next hb2).2.2.2.2.2
    have hAw := hA _ hB2
    clear hI1 i0 i1 i2 i3 i4 hb2 hA
    go_wp2_with fail
    refine hAw.mono ?_
    rintro e w8 ⟨rfl, hb8⟩
    go_wp2_with fail
    go_ret
    exact ⟨rfl, hB2.next hb8⟩
end P3
end Go.Proofs.YtggdbceommmllaaDoor
