/- Audit: the law AuditChecks. -/
import Derived.Test.YtajbchecjbddgaaDoorH7
import Derived.Test.YtajbchecjbddgaaDoorU9
namespace Go.Proofs.YtajbchecjbddgaaDoor
open Go.RowKit
namespace P20
open P7

abbrev ShS (W0 : World) (bx : Nat) (a b c : Value) (W : World) : Prop := Below W0.heap.size W0 W ∧ W.cell? ⟨bx, 0, none⟩ = some a ∧ W.cell? ⟨bx, 1, none⟩ = some b ∧ W.cell? ⟨bx, 2, none⟩ = some c
theorem ShS.gr {W0 W : World} {bx : Nat} {a b c : Value} (h : ShS W0 bx a b c W) : Below W0.heap.size W0 W := h.1
theorem ShS.next {W0 W W' : World} {bx : Nat} {a b c : Value} (h0 : ShS W0 bx a b c W) (hb : Below W.heap.size W W') (h1 : bx < W0.heap.size) : ShS W0 bx a b c W' :=
  ⟨h0.1.next hb, (hb.cell (p := ⟨bx, 0, none⟩) (Nat.lt_of_lt_of_le h1 h0.1.size)).trans h0.2.1, (hb.cell (p := ⟨bx, 1, none⟩) (Nat.lt_of_lt_of_le h1 h0.1.size)).trans h0.2.2.1, (hb.cell (p := ⟨bx, 2, none⟩) (Nat.lt_of_lt_of_le h1 h0.1.size)).trans h0.2.2.2⟩
set_option maxRecDepth 100000 in
set_option maxHeartbeats 8000000 in
theorem auditChecks_any (hAw : AwP) {w : World} {vr vs vw : Value} {s : Sh} (hS : Shm w vr vs vw s) :
    Calls Tryd.prog 3 #[.agg #[vr, vs, vw]] w fun e w' => e = .returned (.bool true) ∧ Below w.heap.size w w' := by
  have hb1 : Below w.heap.size w (w.alloc (.cells #[vr, vs, vw] 26)) := by go_grown
  have hF := few20_any (hS.next hb1)
  have hblk := heap_alloc_last w (.cells #[vr, vs, vw] 26)
  have hS1 := hS.next hb1
  have hlt : w.heap.size < (w.alloc (.cells #[vr, vs, vw] 26)).heap.size := by simp
  obtain ⟨Ar, cr, hvr, -, -⟩ := rows_open hS.rows.sl
  obtain ⟨A, c, hvs, -, -⟩ := scs_open hS.scs
  obtain ⟨Aw, cw, hvw, -, -⟩ := hS.wks.open_
  obtain ⟨n, hn⟩ := name_of s.sc.length
  obtain ⟨nr, hnr⟩ := name_of s.l.length
  obtain ⟨nw, hnw⟩ := name_of s.ws.length
  rw [hn] at hvs
  rw [hnr] at hvr
  rw [hnw] at hvw
  have HB1 := Lib.hid hb1
  subst hvr hvs hvw
  obtain ⟨V, hV⟩ := name_of (w.alloc (.cells #[.slice Ar nr cr, .slice A n c, .slice Aw nw cw] 26))
  have hVS : ShS V w.heap.size (.slice Ar nr cr) (.slice A n c) (.slice Aw nw cw) V := by
    rw [← hV]
    exact ⟨Below.refl _ _, by rw [cell_of_row _ _ _ _ _ _ hblk]; rfl, by rw [cell_of_row _ _ _ _ _ _ hblk]; rfl, by rw [cell_of_row _ _ _ _ _ _ hblk]; rfl⟩
  have q0 := hVS.2.1
  have q1 := hVS.2.2.1
  have q2 := hVS.2.2.2
  rw [hV] at hF HB1 hS1 hlt
  have HVS := Lib.hid hVS
  have HS := Lib.hid hS1
  clear hn hnr hnw hS hb1 hS1 hblk hVS
  go_enter Tryd.func3, Tryd.ntmps3
  go_wp2_with fail
  clear hV
  refine hF.mono ?_
  rintro e w2 ⟨⟨b, rfl, hb⟩, hb2⟩
  have hS2 := HVS.out.next hb2 hlt
  have HFW := Lib.hid hb
  clear hF hb hb2 q0 q1 q2
  have q0 := hS2.2.1
  have q1 := hS2.2.2.1
  have q2 := hS2.2.2.2
  have HS2 := Lib.hid hS2
  cases b with
  | false =>
    clear hS2
    go_wp2_with fail
    refine (hAw _).mono ?_
    rintro e w3 ⟨rfl, hb3⟩
    have HB3 := Lib.hid (HB1.out.next (HS2.out.1.next hb3))
    clear hb3 q0 q1 q2
    go_wp2_with fail
    go_ret
    exact ⟨rfl, HB3.out⟩
  | true =>
    have hf := HFW.out rfl
    obtain ⟨R, hR⟩ := name_of (chkS s)
    have hA : ∀ W, ShS V w.heap.size (.slice Ar nr cr) (.slice A n c) (.slice Aw nw cw) W → Calls Tryd.prog 10 #[] W fun e w' => e = .returned (.bool true) ∧ Below W.heap.size W w' := fun W _ => hAw W
    have hSh : ∀ W, ShS V w.heap.size (.slice Ar nr cr) (.slice A n c) (.slice Aw nw cw) W → Calls Tryd.prog 12 #[.agg #[.slice Ar nr cr, .slice A n c, .slice Aw nw cw]] W fun e w' => e = .returned (.agg #[.slice Ar nr cr, .slice A n c, .slice Aw nw cw]) ∧ Below W.heap.size W w' := fun W _ => shot_any
    have hCk : ∀ W, ShS V w.heap.size (.slice Ar nr cr) (.slice A n c) (.slice Aw nw cw) W → Calls Tryd.prog 11 #[.agg #[.slice Ar nr cr, .slice A n c, .slice Aw nw cw]] W fun e w' => e = .returned (.int .i64 R) ∧ Below W.heap.size W w' := fun W hW => by
      rw [← hR]
      exact checkS_any (HS.out.next hW.1) hf
    have hRk : ∀ W, ShS V w.heap.size (.slice Ar nr cr) (.slice A n c) (.slice Aw nw cw) W → Calls Tryd.prog 13 #[.agg #[.slice Ar nr cr, .slice A n c, .slice Aw nw cw]] W fun e w' => e = .returned (.int .i64 R) ∧ Below W.heap.size W w' := fun W hW => by
      rw [← hR]
      exact refCheckS_any (HS.out.next hW.1) hf
    have f1 : ((R : Int) == R) = true := by simp
    clear hR hf
    go_wp2_with fail
    go_region_held3 (fun W => ShS V w.heap.size (.slice Ar nr cr) (.slice A n c) (.slice Aw nw cw) W) (first | assumption | exact ShS.next hS2 below_drewU (by assumption) | exact ShS.next (by assumption) (by assumption) (by assumption)) (first
      | (go_at_call 12; (with_reducible refine (hSh _ (by assumption)).mono ?_); rintro e w3 ⟨rfl, hb3⟩; have hB3 := (ShS.gr (W := _) (by assumption)).next hb3)
      | (go_at_call 11; (with_reducible refine (hCk _ (by assumption)).mono ?_); rintro e w4 ⟨rfl, hb4⟩; have hB4 := (ShS.gr (W := _) (by assumption)).next hb4)
      | (go_at_call 13; (with_reducible refine (hRk _ (by assumption)).mono ?_); rintro e w5 ⟨rfl, hb5⟩; have hB5 := (ShS.gr (W := _) (by assumption)).next hb5)
      | (go_at_call 10; (with_reducible refine (hA _ (by assumption)).mono ?_); rintro e w6 ⟨rfl, hb6⟩; have hB6 := (ShS.gr (W := _) (by assumption)).next hb6))
    all_goals
      go_wp2_with fail
      go_ret
      exact ⟨rfl, HB1.out.next hB6⟩
end P20
end Go.Proofs.YtajbchecjbddgaaDoor
