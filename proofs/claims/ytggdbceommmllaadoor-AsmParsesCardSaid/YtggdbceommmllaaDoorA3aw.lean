/- Asm: awake. -/
import Derived.Test.YtggdbceommmllaaDoorA3u
import Derived.Test.YtggdbceommmllaaDoorA3p
import Derived.Test.YtggdbceommmllaaDoorA3h
import Derived.Test.YtggdbceommmllaaDoorEi
namespace Go.Proofs.YtggdbceommmllaaDoor
open Go.RowKit
namespace P3
open P2 PC NumL CutL

abbrev exL1 : List UInt8 := [116, 114, 121, 32, 114, 49, 32, 114, 50, 32, 104, 51]
abbrev exL2 : List UInt8 := [99, 111, 110, 115, 116, 32, 114, 48, 32, 45, 53]
abbrev exR : List UInt8 := [102, 111, 114, 107, 32, 104, 55, 32, 102, 51, 49]
abbrev exP3 : List UInt8 := [102, 117, 110, 99, 32, 48, 32, 110, 101, 101, 100, 115, 32, 48, 10, 114, 101, 116, 117, 114, 110, 32, 114, 48, 10]
theorem ex_l1 : chk (10, 1, 2, 3, 0) = 0 ∧ lineA (10, 1, 2, 3, 0) = exL1 := by decide +kernel
theorem ex_l2 : chk (0, 0, 0, 0, -5) = 0 ∧ lineA (0, 0, 0, 0, -5) = exL2 := by decide +kernel
theorem ex_r : readA exR = .inr (8, 7, 0, 0, 31) := by kernel_rfl
theorem ex_p : parseA exP3 = ([(0, [(16, 0, 0, 0, 0)])], 0, 0) := by kernel_rfl
theorem aw_l1 (w : World) (hp : Lb w) : Calls Tryd.prog 13 #[.agg #[.int .i64 10, .int .i64 1, .int .i64 2, .int .i64 3, .int .i64 0]] w fun e w' => e = .returned (.tuple #[.string ⟨#[116, 114, 121, 32, 114, 49, 32, 114, 50, 32, 104, 51]⟩, .int .i64 0]) ∧ Below w.heap.size w w' :=
  (line_any (10, 1, 2, 3, 0) w hp).mono fun e w' h => by
    rw [ex_l1.1, if_pos rfl, ex_l1.2] at h
    exact h
theorem aw_l2 (w : World) (hp : Lb w) : Calls Tryd.prog 13 #[.agg #[.int .i64 0, .int .i64 0, .int .i64 0, .int .i64 0, .int .i64 (-5)]] w fun e w' => e = .returned (.tuple #[.string ⟨#[99, 111, 110, 115, 116, 32, 114, 48, 32, 45, 53]⟩, .int .i64 0]) ∧ Below w.heap.size w w' :=
  (line_any (0, 0, 0, 0, -5) w hp).mono fun e w' h => by
    rw [ex_l2.1, if_pos rfl, ex_l2.2] at h
    exact h
theorem aw_r (w : World) (hp : Lb w) : Calls Tryd.prog 16 #[.string ⟨#[102, 111, 114, 107, 32, 104, 55, 32, 102, 51, 49]⟩] w fun e w' => e = .returned (.tuple #[.agg #[.int .i64 8, .int .i64 7, .int .i64 0, .int .i64 0, .int .i64 31], .int .i64 0]) ∧ Below w.heap.size w w' :=
  (read_any _ (by decide) w hp).mono fun e w' h => by
    have h' : InsPost (readA exR) w e w' := h
    rw [ex_r] at h'
    exact h'
theorem aw_p (w : World) (hp : Lb w) : Calls Tryd.prog 11 #[.string ⟨#[102, 117, 110, 99, 32, 48, 32, 110, 101, 101, 100, 115, 32, 48, 10, 114, 101, 116, 117, 114, 110, 32, 114, 48, 10]⟩] w fun e w' => (∃ b o c B O C, e = .returned (.tuple #[.agg #[.slice (some ⟨b, o, none⟩) 1 c], .int .i64 0, .int .i64 0]) ∧ w'.cell? ⟨b, o + 1, none⟩ = some (.slice (some ⟨B, O, none⟩) 1 C) ∧ w'.cell? ⟨B, O, none⟩ = some (.int .i64 16) ∧ w'.cell? ⟨B, O + 1, none⟩ = some (.int .i64 0) ∧ w'.cell? ⟨B, O + 2, none⟩ = some (.int .i64 0) ∧ w'.cell? ⟨B, O + 3, none⟩ = some (.int .i64 0) ∧ w'.cell? ⟨B, O + 4, none⟩ = some (.int .i64 0)) ∧ Below w.heap.size w w' :=
  (parse_any _ (by decide) w hp).mono fun e w' h => by
    have h' : ParsePost (parseA exP3) w e w' := h
    rw [ex_p] at h'
    obtain ⟨v, he, hf, hb⟩ := h'
    obtain ⟨A, c, rfl, -, hk⟩ := hf.open_
    obtain ⟨b, off, cv, rfl, -, -, h1, hs⟩ := hk 0 (by decide)
    obtain ⟨A2, c2, rfl, -, hk2⟩ := code_open hs
    obtain ⟨B, O, rfl, -, q0, q1, q2, q3, q4⟩ := hk2 0 (by decide)
    exact ⟨⟨b, off, c, B, O, c2, he, by simpa using h1, by simpa using q0, by simpa using q1, by simpa using q2, by simpa using q3, by simpa using q4⟩, hb⟩
def HasI0 (b : Nat) (W : World) : Prop :=
  W.cell? ⟨b, 0, none⟩ = some (.int .i64 8) ∧ W.cell? ⟨b, 1, none⟩ = some (.int .i64 7) ∧ W.cell? ⟨b, 2, none⟩ = some (.int .i64 0) ∧ W.cell? ⟨b, 3, none⟩ = some (.int .i64 0) ∧ W.cell? ⟨b, 4, none⟩ = some (.int .i64 31)
theorem HasI0.new (w : World) : HasI0 w.heap.size (w.alloc (.cells #[.int .i64 8, .int .i64 7, .int .i64 0, .int .i64 0, .int .i64 31] 33)) := ⟨by simp, by simp, by simp, by simp, by simp⟩
theorem HasI0.next {b : Nat} {W W1 : World} (h : HasI0 b W) (hb : Below W.heap.size W W1) : HasI0 b W1 := by
  have hlt : b < W.heap.size := World.block_lt_of_cell? W _ h.1
  obtain ⟨h0, h1, h2, h3, h4⟩ := h
  exact ⟨(hb.cell (p := ⟨b, 0, none⟩) hlt).trans h0, (hb.cell (p := ⟨b, 1, none⟩) hlt).trans h1, (hb.cell (p := ⟨b, 2, none⟩) hlt).trans h2, (hb.cell (p := ⟨b, 3, none⟩) hlt).trans h3, (hb.cell (p := ⟨b, 4, none⟩) hlt).trans h4⟩
set_option maxRecDepth 10000 in
set_option maxHeartbeats 4000000 in
theorem awake_any (w : World) (hp : Lb w) : Calls Tryd.prog 10 #[] w fun e w' => e = .returned (.bool true) ∧ Below w.heap.size w w' := by
  have HP := Lib.hid hp
  clear hp
  have hst1 := str_beq ⟨#[116, 114, 121, 32, 114, 49, 32, 114, 50, 32, 104, 51]⟩
  have hst2 := str_beq ⟨#[99, 111, 110, 115, 116, 32, 114, 48, 32, 45, 53]⟩
  go_enter Tryd.func10, Tryd.ntmps10
  go_wp2_with fail
  refine (aw_l1 _ HP.out).mono ?_
  rintro e w1 ⟨rfl, hb1⟩
  go_wp2_with fail
  refine (aw_l2 _ (HP.out.next hb1)).mono ?_
  rintro e w2 ⟨rfl, hb2⟩
  have hB2 := hb1.next hb2
  clear hb1 hb2
  go_wp2_with fail
  refine (aw_r _ (HP.out.next hB2)).mono ?_
  rintro e w3 ⟨rfl, hb3⟩
  have hB3 := hB2.next hb3
  have hbI : Below w3.heap.size w3 (w3.alloc (.cells #[.int .i64 8, .int .i64 7, .int .i64 0, .int .i64 0, .int .i64 31] 33)) := by go_grown
  have hB4 := hB3.next hbI
  have HP4 := Lib.hid (HP.out.next hB4)
  clear hB2 hb3
  go_wp2_with (first | (refine wpList_store_new rfl 33 33 (.tmp 5) (.tmp 22) rfl _ _ w3.heap.size rfl rfl rfl (by kernel_rfl) rfl (by kernel_rfl) ?_))
  have hAP := aw_p _ HP4.out
  refine hAP.mono ?_
  rintro e w5 ⟨⟨b, o, c, B, O, C, rfl, c0, c1, c2, c3, c4, c5⟩, hb5⟩
  have hbP : Below w5.heap.size w5 (w5.alloc (.cells #[.slice (some ⟨b, o, none⟩) 1 c] 25)) := by go_grown
  have hB6 := hB4.next (hb5.next hbP)
  have hI6 := (HasI0.new w3).next (hb5.next hbP)
  obtain ⟨i0, i1, i2, i3, i4⟩ := hI6
  have p0 : (w5.alloc (.cells #[.slice (some ⟨b, o, none⟩) 1 c] 25)).cell? ⟨w5.heap.size, 0, none⟩ = some (.slice (some ⟨b, o, none⟩) 1 c) := by simp
  have d0 := (hbP.cell (p := ⟨b, o + 1, none⟩) (World.block_lt_of_cell? _ _ c0)).trans c0
  have d1 := (hbP.cell (p := ⟨B, O, none⟩) (World.block_lt_of_cell? _ _ c1)).trans c1
  have d2 := (hbP.cell (p := ⟨B, O + 1, none⟩) (World.block_lt_of_cell? _ _ c2)).trans c2
  have d3 := (hbP.cell (p := ⟨B, O + 2, none⟩) (World.block_lt_of_cell? _ _ c3)).trans c3
  have d4 := (hbP.cell (p := ⟨B, O + 3, none⟩) (World.block_lt_of_cell? _ _ c4)).trans c4
  have d5 := (hbP.cell (p := ⟨B, O + 4, none⟩) (World.block_lt_of_cell? _ _ c5)).trans c5
  obtain ⟨W, hW⟩ := name_of (w5.alloc (.cells #[.slice (some ⟨b, o, none⟩) 1 c] 25))
  rw [hW] at hB6 i0 i1 i2 i3 i4 p0 d0 d1 d2 d3 d4 d5
  have HW := Lib.hid hW
  have q1 := eqI_same 8 7 0 0 31
  have q2 := eqI_same 16 0 0 0 0
  clear hAP hB3 hbI hB4 HP HP4 hb5 hbP c0 c1 c2 c3 c4 c5 hW
  go_wp2_with (first | (refine wpList_store_new rfl 25 25 (.tmp 7) (.tmp 26) rfl _ _ w5.heap.size rfl rfl rfl (by kernel_rfl) rfl (by kernel_rfl) ?_; rw [HW.out]))
  go_ret
  first | exact ⟨rfl, hB6⟩ | exact ⟨rfl, below_drewN hB6 _⟩ | exact ⟨rfl, hB6.next (below_drewn _)⟩
end P3
end Go.Proofs.YtggdbceommmllaaDoor
