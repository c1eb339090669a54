/- Walk: CodeMay. -/
import Derived.Test.YtjpnbjlhjlddbaaDoorG02
import Derived.Deep.RegionHeld3
namespace Go.Proofs.YtjpnbjlhjlddbaaDoor
open Go.RowKit
namespace P2

/-- An instruction lies in block b, below which and whatever lay before w nothing turned. -/
abbrev HasIns (b : Nat) (i : Ins) (w0 W : World) : Prop :=
  W.cell? ⟨b, 0, none⟩ = some (.int .i64 i.1) ∧ W.cell? ⟨b, 1, none⟩ = some (.int .i64 i.2.1) ∧ W.cell? ⟨b, 2, none⟩ = some (.int .i64 i.2.2.1) ∧ W.cell? ⟨b, 3, none⟩ = some (.int .i64 i.2.2.2.1) ∧ W.cell? ⟨b, 4, none⟩ = some (.int .i64 i.2.2.2.2) ∧ Below w0.heap.size w0 W
theorem HasIns.next {b : Nat} {i : Ins} {w0 W W1 : World} (h : HasIns b i w0 W) (hb : Below W.heap.size W W1) : HasIns b i w0 W1 := by
  have hlt : b < W.heap.size := World.block_lt_of_cell? W _ h.1
  obtain ⟨h0, h1, h2, h3, h4, h5⟩ := h
  exact ⟨(hb.cell (p := ⟨b, 0, none⟩) hlt).trans h0, (hb.cell (p := ⟨b, 1, none⟩) hlt).trans h1, (hb.cell (p := ⟨b, 2, none⟩) hlt).trans h2, (hb.cell (p := ⟨b, 3, none⟩) hlt).trans h3, (hb.cell (p := ⟨b, 4, none⟩) hlt).trans h4, h5.next hb⟩

theorem codeMay_any (aw : ∀ w : World, Calls Tryd.prog 13 #[] w fun e w' => e = .returned (.bool true) ∧ Below w.heap.size w w')
    (i : Ins) (w : World) : Calls Tryd.prog 5 #[insV i] w fun e w' => e = .returned (.bool true) ∧ Below w.heap.size w w' := by
  have AW := Lib.hid aw
  clear aw
  obtain ⟨op, a, b, c, n⟩ := i
  unfold insV
  have e1 : (chk (op, a, b, c, n) == chk (op, a, b, c, n)) = true := by simp
  have e2 : (pt op == pt op) = true := by simp
  go_enter Tryd.func5, Tryd.ntmps5
  go_wp2_with fail
  go_region_held3 (fun W => HasIns w.heap.size (op, a, b, c, n) w W) (first | assumption | (exact HasIns.next ‹_› ‹_›) | (refine ⟨?_, ?_, ?_, ?_, ?_, ?_⟩ <;> first | (simp; done) | go_grown))
    (first
      | (go_at_call 19; refine (check_any (op, a, b, c, n) _).mono ?_; rintro e W1 ⟨rfl, hb⟩)
      | (go_at_call 12; refine (refCheck_any (op, a, b, c, n) _).mono ?_; rintro e W1 ⟨rfl, hb⟩)
      | (go_at_call 20; refine (point_any op _).mono ?_; rintro e W1 ⟨rfl, rfl⟩)
      | (go_at_call 21; refine (refPoint_any op _).mono ?_; rintro e W1 ⟨rfl, rfl⟩)
      | (go_at_call 13; refine (AW.out _).mono ?_; rintro e W1 ⟨rfl, hb⟩))
  go_wp2_with fail
  go_ret
  exact ⟨rfl, (‹HasIns _ _ _ _›).2.2.2.2.2⟩

end P2
end Go.Proofs.YtjpnbjlhjlddbaaDoor
