/- Audit: the law AuditOrders. -/
import Derived.Test.YtajbchecjbddgaaDoorH7
import Derived.Deep.CutRange
namespace Go.Proofs.YtajbchecjbddgaaDoor
open Go.RowKit
namespace P20
open P7

/-- Three boxes of shots. -/
structure OrB (W0 : World) (P : Nat) (a b c : Array Value) (W : World) : Prop where
  gr : Below W0.heap.size W0 W
  ba : W.heap[P]? = some (.cells a 26 (0, 0))
  bb : W.heap[P + 1]? = some (.cells b 26 (0, 0))
  bc : W.heap[P + 1 + 1]? = some (.cells c 26 (0, 0))
theorem OrB.next {W0 W W' : World} {P : Nat} {a b c : Array Value} (h : OrB W0 P a b c W) (hb : Below W.heap.size W W') : OrB W0 P a b c W' :=
  ⟨h.gr.next hb, blk_next h.ba hb, blk_next h.bb hb, blk_next h.bc hb⟩
theorem OrB.cells {W0 W : World} {P : Nat} {a0 a1 a2 b0 b1 b2 c0 c1 c2 : Value} (h : OrB W0 P #[a0, a1, a2] #[b0, b1, b2] #[c0, c1, c2] W) :
    W.cell? ⟨P, 0, none⟩ = some a0 ∧ W.cell? ⟨P, 1, none⟩ = some a1 ∧ W.cell? ⟨P, 2, none⟩ = some a2 ∧ W.cell? ⟨P + 1, 0, none⟩ = some b0 ∧ W.cell? ⟨P + 1, 1, none⟩ = some b1 ∧ W.cell? ⟨P + 1, 2, none⟩ = some b2 ∧
    W.cell? ⟨P + 1 + 1, 0, none⟩ = some c0 ∧ W.cell? ⟨P + 1 + 1, 1, none⟩ = some c1 ∧ W.cell? ⟨P + 1 + 1, 2, none⟩ = some c2 :=
  ⟨(cell_of_row _ _ _ _ _ _ h.ba).trans rfl, (cell_of_row _ _ _ _ _ _ h.ba).trans rfl, (cell_of_row _ _ _ _ _ _ h.ba).trans rfl, (cell_of_row _ _ _ _ _ _ h.bb).trans rfl, (cell_of_row _ _ _ _ _ _ h.bb).trans rfl, (cell_of_row _ _ _ _ _ _ h.bb).trans rfl, (cell_of_row _ _ _ _ _ _ h.bc).trans rfl, (cell_of_row _ _ _ _ _ _ h.bc).trans rfl, (cell_of_row _ _ _ _ _ _ h.bc).trans rfl⟩
/-- One box of a shot. -/
abbrev SaS (W0 : World) (bx : Nat) (a b c : Value) (W : World) : Prop := Below W0.heap.size W0 W ∧ W.cell? ⟨bx, 0, none⟩ = some a ∧ W.cell? ⟨bx, 1, none⟩ = some b ∧ W.cell? ⟨bx, 2, none⟩ = some c
theorem SaS.gr {W0 W : World} {bx : Nat} {a b c : Value} (h : SaS W0 bx a b c W) : Below W0.heap.size W0 W := h.1
theorem SaS.next {W0 W W' : World} {bx : Nat} {a b c : Value} (h0 : SaS W0 bx a b c W) (hb : Below W.heap.size W W') (h1 : bx < W0.heap.size) : SaS W0 bx a b c W' :=
  ⟨h0.1.next hb, (hb.cell (p := ⟨bx, 0, none⟩) (Nat.lt_of_lt_of_le h1 h0.1.size)).trans h0.2.1, (hb.cell (p := ⟨bx, 1, none⟩) (Nat.lt_of_lt_of_le h1 h0.1.size)).trans h0.2.2.1, (hb.cell (p := ⟨bx, 2, none⟩) (Nat.lt_of_lt_of_le h1 h0.1.size)).trans h0.2.2.2⟩
set_option maxRecDepth 100000 in
set_option maxHeartbeats 16000000 in
theorem auditOrders_any (hAw : AwP) {w : World} {var vas vaw vbr vbs vbw vcr vcs vcw : Value} {a b c : Sh} (hA : Shm w var vas vaw a) (hB : Shm w vbr vbs vbw b) (hC : Shm w vcr vcs vcw c) :
    Calls Tryd.prog 5 #[.agg #[var, vas, vaw], .agg #[vbr, vbs, vbw], .agg #[vcr, vcs, vcw]] w fun e w' => e = .returned (.bool true) ∧ Below w.heap.size w w' := by
  obtain ⟨Ar, car, hra, -, -⟩ := rows_open hA.rows.sl
  obtain ⟨As, cas, hsa, -, -⟩ := scs_open hA.scs
  obtain ⟨Aw, caw, hwa, -, -⟩ := hA.wks.open_
  obtain ⟨nar, hnar⟩ := name_of a.l.length
  obtain ⟨nas, hnas⟩ := name_of a.sc.length
  obtain ⟨naw, hnaw⟩ := name_of a.ws.length
  rw [hnar] at hra
  rw [hnas] at hsa
  rw [hnaw] at hwa
  subst hra hsa hwa
  clear hnar hnas hnaw
  obtain ⟨Br, cbr, hrb, -, -⟩ := rows_open hB.rows.sl
  obtain ⟨Bs, cbs, hsb, -, -⟩ := scs_open hB.scs
  obtain ⟨Bw, cbw, hwb, -, -⟩ := hB.wks.open_
  obtain ⟨nbr, hnbr⟩ := name_of b.l.length
  obtain ⟨nbs, hnbs⟩ := name_of b.sc.length
  obtain ⟨nbw, hnbw⟩ := name_of b.ws.length
  rw [hnbr] at hrb
  rw [hnbs] at hsb
  rw [hnbw] at hwb
  subst hrb hsb hwb
  clear hnbr hnbs hnbw
  obtain ⟨Cr, ccr, hrc, -, -⟩ := rows_open hC.rows.sl
  obtain ⟨Cs, ccs, hsc, -, -⟩ := scs_open hC.scs
  obtain ⟨Cw, ccw, hwc, -, -⟩ := hC.wks.open_
  obtain ⟨ncr, hncr⟩ := name_of c.l.length
  obtain ⟨ncs, hncs⟩ := name_of c.sc.length
  obtain ⟨ncw, hncw⟩ := name_of c.ws.length
  rw [hncr] at hrc
  rw [hncs] at hsc
  rw [hncw] at hwc
  subst hrc hsc hwc
  clear hncr hncs hncw
  obtain ⟨V, hV⟩ := name_of (((w.alloc (.cells #[.slice Ar nar car, .slice As nas cas, .slice Aw naw caw] 26)).alloc (.cells #[.slice Br nbr cbr, .slice Bs nbs cbs, .slice Bw nbw cbw] 26)).alloc (.cells #[.slice Cr ncr ccr, .slice Cs ncs ccs, .slice Cw ncw ccw] 26))
  have hbV : Below w.heap.size w V := by rw [← hV]; go_grown
  have hOB : OrB V w.heap.size #[.slice Ar nar car, .slice As nas cas, .slice Aw naw caw] #[.slice Br nbr cbr, .slice Bs nbs cbs, .slice Bw nbw cbw] #[.slice Cr ncr ccr, .slice Cs ncs ccs, .slice Cw ncw ccw] V := by
    rw [← hV]
    have e0 := heap_alloc_last w (.cells #[.slice Ar nar car, .slice As nas cas, .slice Aw naw caw] 26)
    have e1 := heap_alloc_last (w.alloc (.cells #[.slice Ar nar car, .slice As nas cas, .slice Aw naw caw] 26)) (.cells #[.slice Br nbr cbr, .slice Bs nbs cbs, .slice Bw nbw cbw] 26)
    have e2 := heap_alloc_last ((w.alloc (.cells #[.slice Ar nar car, .slice As nas cas, .slice Aw naw caw] 26)).alloc (.cells #[.slice Br nbr cbr, .slice Bs nbs cbs, .slice Bw nbw cbw] 26)) (.cells #[.slice Cr ncr ccr, .slice Cs ncs ccs, .slice Cw ncw ccw] 26)
    have b1 : Below (w.alloc (.cells #[.slice Ar nar car, .slice As nas cas, .slice Aw naw caw] 26)).heap.size (w.alloc (.cells #[.slice Ar nar car, .slice As nas cas, .slice Aw naw caw] 26)) ((w.alloc (.cells #[.slice Ar nar car, .slice As nas cas, .slice Aw naw caw] 26)).alloc (.cells #[.slice Br nbr cbr, .slice Bs nbs cbs, .slice Bw nbw cbw] 26)) := (Below.refl _ _).alloc (Nat.le_refl _) _
    have b2 : Below ((w.alloc (.cells #[.slice Ar nar car, .slice As nas cas, .slice Aw naw caw] 26)).alloc (.cells #[.slice Br nbr cbr, .slice Bs nbs cbs, .slice Bw nbw cbw] 26)).heap.size ((w.alloc (.cells #[.slice Ar nar car, .slice As nas cas, .slice Aw naw caw] 26)).alloc (.cells #[.slice Br nbr cbr, .slice Bs nbs cbs, .slice Bw nbw cbw] 26)) (((w.alloc (.cells #[.slice Ar nar car, .slice As nas cas, .slice Aw naw caw] 26)).alloc (.cells #[.slice Br nbr cbr, .slice Bs nbs cbs, .slice Bw nbw cbw] 26)).alloc (.cells #[.slice Cr ncr ccr, .slice Cs ncs ccs, .slice Cw ncw ccw] 26)) := (Below.refl _ _).alloc (Nat.le_refl _) _
    rw [World.size_alloc] at e1
    rw [World.size_alloc, World.size_alloc] at e2
    exact ⟨Below.refl _ _, blk_next e0 (b1.next b2), blk_next e1 b2, e2⟩
  have HBV := Lib.hid hbV
  have HA := Lib.hid (hA.next hbV)
  have HB := Lib.hid (hB.next hbV)
  have HC := Lib.hid (hC.next hbV)
  obtain ⟨q0, q1, q2, q3, q4, q5, q6, q7, q8⟩ := hOB.cells
  have HOB := Lib.hid hOB
  have hFa := few20_any HA.out
  clear hA hB hC hbV hOB
  go_enter Tryd.func5, Tryd.ntmps5
  go_wp2_with fail
  clear hV
  refine hFa.mono ?_
  clear hFa q0 q1 q2 q3 q4 q5 q6 q7 q8
  rintro e w2 ⟨⟨za, rfl, hfa⟩, hb⟩
  have HOw2 := Lib.hid (HOB.out.next hb)
  have HFa := Lib.hid hfa
  obtain ⟨q0, q1, q2, q3, q4, q5, q6, q7, q8⟩ := HOw2.out.cells
  clear hfa hb
  cases za with
  | false =>
    have hC := hAw w2
    go_wp2_with fail
    refine hC.mono ?_
    rintro e wz ⟨rfl, hbz⟩
    have HBz := Lib.hid (HBV.out.next (HOw2.out.gr.next hbz))
    clear hC hbz
    go_wp2_with fail
    go_ret
    exact ⟨rfl, HBz.out⟩
  | true =>
  have hFb := few20_any (HB.out.next HOw2.out.gr)
  go_wp2_with fail
  refine hFb.mono ?_
  clear hFb q0 q1 q2 q3 q4 q5 q6 q7 q8
  rintro e w3 ⟨⟨zb, rfl, hfb⟩, hb⟩
  have HOw3 := Lib.hid (HOw2.out.next hb)
  have HFb := Lib.hid hfb
  obtain ⟨q0, q1, q2, q3, q4, q5, q6, q7, q8⟩ := HOw3.out.cells
  clear hfb hb
  cases zb with
  | false =>
    have hC := hAw w3
    go_wp2_with fail
    refine hC.mono ?_
    rintro e wz ⟨rfl, hbz⟩
    have HBz := Lib.hid (HBV.out.next (HOw3.out.gr.next hbz))
    clear hC hbz
    go_wp2_with fail
    go_ret
    exact ⟨rfl, HBz.out⟩
  | true =>
  have hFc := few20_any (HC.out.next HOw3.out.gr)
  go_wp2_with fail
  refine hFc.mono ?_
  clear hFc q0 q1 q2 q3 q4 q5 q6 q7 q8
  rintro e w4 ⟨⟨zc, rfl, hfc⟩, hb⟩
  have HOw4 := Lib.hid (HOw3.out.next hb)
  have HFc := Lib.hid hfc
  obtain ⟨q0, q1, q2, q3, q4, q5, q6, q7, q8⟩ := HOw4.out.cells
  clear hfc hb
  cases zc with
  | false =>
    have hC := hAw w4
    go_wp2_with fail
    refine hC.mono ?_
    rintro e wz ⟨rfl, hbz⟩
    have HBz := Lib.hid (HBV.out.next (HOw4.out.gr.next hbz))
    clear hC hbz
    go_wp2_with fail
    go_ret
    exact ⟨rfl, HBz.out⟩
  | true =>
  have hfa := HFa.out (by trivial)
  have hfb := HFb.out (by trivial)
  have hfc := HFc.out (by trivial)
  obtain ⟨Eaa, hEaa⟩ := name_of (chkS a)
  obtain ⟨Eab, hEab⟩ := name_of (nxt a b)
  obtain ⟨Ebc, hEbc⟩ := name_of (nxt b c)
  obtain ⟨Eac, hEac⟩ := name_of (nxt a c)
  have HTR : Hid (Eab = 0 → Ebc = 0 → Eac = 0) := Lib.hid (fun h1 h2 => by rw [← hEac]; exact nxt_trans (hEab.trans h1) (hEbc.trans h2))
  have hSha : ∀ W, OrB V w.heap.size #[.slice Ar nar car, .slice As nas cas, .slice Aw naw caw] #[.slice Br nbr cbr, .slice Bs nbs cbs, .slice Bw nbw cbw] #[.slice Cr ncr ccr, .slice Cs ncs ccs, .slice Cw ncw ccw] W → Calls Tryd.prog 12 #[.agg #[.slice Ar nar car, .slice As nas cas, .slice Aw naw caw]] W fun e w' => e = .returned (.agg #[.slice Ar nar car, .slice As nas cas, .slice Aw naw caw]) ∧ Below W.heap.size W w' := fun W _ => shot_any
  have hShb : ∀ W, OrB V w.heap.size #[.slice Ar nar car, .slice As nas cas, .slice Aw naw caw] #[.slice Br nbr cbr, .slice Bs nbs cbs, .slice Bw nbw cbw] #[.slice Cr ncr ccr, .slice Cs ncs ccs, .slice Cw ncw ccw] W → Calls Tryd.prog 12 #[.agg #[.slice Br nbr cbr, .slice Bs nbs cbs, .slice Bw nbw cbw]] W fun e w' => e = .returned (.agg #[.slice Br nbr cbr, .slice Bs nbs cbs, .slice Bw nbw cbw]) ∧ Below W.heap.size W w' := fun W _ => shot_any
  have hShc : ∀ W, OrB V w.heap.size #[.slice Ar nar car, .slice As nas cas, .slice Aw naw caw] #[.slice Br nbr cbr, .slice Bs nbs cbs, .slice Bw nbw cbw] #[.slice Cr ncr ccr, .slice Cs ncs ccs, .slice Cw ncw ccw] W → Calls Tryd.prog 12 #[.agg #[.slice Cr ncr ccr, .slice Cs ncs ccs, .slice Cw ncw ccw]] W fun e w' => e = .returned (.agg #[.slice Cr ncr ccr, .slice Cs ncs ccs, .slice Cw ncw ccw]) ∧ Below W.heap.size W w' := fun W _ => shot_any
  have hNaa : ∀ W, OrB V w.heap.size #[.slice Ar nar car, .slice As nas cas, .slice Aw naw caw] #[.slice Br nbr cbr, .slice Bs nbs cbs, .slice Bw nbw cbw] #[.slice Cr ncr ccr, .slice Cs ncs ccs, .slice Cw ncw ccw] W → Calls Tryd.prog 16 #[.agg #[.slice Ar nar car, .slice As nas cas, .slice Aw naw caw], .agg #[.slice Ar nar car, .slice As nas cas, .slice Aw naw caw]] W fun e w' => e = .returned (.int .i64 Eaa) ∧ Below W.heap.size W w' := fun W hW => by
    rw [← hEaa, ← nxt_self a]
    exact next_any (HA.out.next hW.gr) (HA.out.next hW.gr) hfa hfa
  have hNab : ∀ W, OrB V w.heap.size #[.slice Ar nar car, .slice As nas cas, .slice Aw naw caw] #[.slice Br nbr cbr, .slice Bs nbs cbs, .slice Bw nbw cbw] #[.slice Cr ncr ccr, .slice Cs ncs ccs, .slice Cw ncw ccw] W → Calls Tryd.prog 16 #[.agg #[.slice Ar nar car, .slice As nas cas, .slice Aw naw caw], .agg #[.slice Br nbr cbr, .slice Bs nbs cbs, .slice Bw nbw cbw]] W fun e w' => e = .returned (.int .i64 Eab) ∧ Below W.heap.size W w' := fun W hW => by
    rw [← hEab]
    exact next_any (HA.out.next hW.gr) (HB.out.next hW.gr) hfa hfb
  have hNbc : ∀ W, OrB V w.heap.size #[.slice Ar nar car, .slice As nas cas, .slice Aw naw caw] #[.slice Br nbr cbr, .slice Bs nbs cbs, .slice Bw nbw cbw] #[.slice Cr ncr ccr, .slice Cs ncs ccs, .slice Cw ncw ccw] W → Calls Tryd.prog 16 #[.agg #[.slice Br nbr cbr, .slice Bs nbs cbs, .slice Bw nbw cbw], .agg #[.slice Cr ncr ccr, .slice Cs ncs ccs, .slice Cw ncw ccw]] W fun e w' => e = .returned (.int .i64 Ebc) ∧ Below W.heap.size W w' := fun W hW => by
    rw [← hEbc]
    exact next_any (HB.out.next hW.gr) (HC.out.next hW.gr) hfb hfc
  have hNac : ∀ W, OrB V w.heap.size #[.slice Ar nar car, .slice As nas cas, .slice Aw naw caw] #[.slice Br nbr cbr, .slice Bs nbs cbs, .slice Bw nbw cbw] #[.slice Cr ncr ccr, .slice Cs ncs ccs, .slice Cw ncw ccw] W → Calls Tryd.prog 16 #[.agg #[.slice Ar nar car, .slice As nas cas, .slice Aw naw caw], .agg #[.slice Cr ncr ccr, .slice Cs ncs ccs, .slice Cw ncw ccw]] W fun e w' => e = .returned (.int .i64 Eac) ∧ Below W.heap.size W w' := fun W hW => by
    rw [← hEac]
    exact next_any (HA.out.next hW.gr) (HC.out.next hW.gr) hfa hfc
  have hCk : ∀ W, OrB V w.heap.size #[.slice Ar nar car, .slice As nas cas, .slice Aw naw caw] #[.slice Br nbr cbr, .slice Bs nbs cbs, .slice Bw nbw cbw] #[.slice Cr ncr ccr, .slice Cs ncs ccs, .slice Cw ncw ccw] W → Calls Tryd.prog 11 #[.agg #[.slice Ar nar car, .slice As nas cas, .slice Aw naw caw]] W fun e w' => e = .returned (.int .i64 Eaa) ∧ Below W.heap.size W w' := fun W hW => by
    rw [← hEaa]
    exact checkS_any (HA.out.next hW.gr) hfa
  have f1 : ((Eaa : Int) != Eaa) = false := by simp
  have hS4 := HOw4.out
  clear hEaa hEab hEbc hEac hfa hfb hfc HA HB HC HFa HFb HFc HOB HOw2 HOw3 q0 q1 q2 q3 q4 q5 q6 q7 q8
  go_upto_region 3 with fail
  go_cut [29] from 21 to 29 (fun x wx => x = .bool false ∧ OrB V w.heap.size #[.slice Ar nar car, .slice As nas cas, .slice Aw naw caw] #[.slice Br nbr cbr, .slice Bs nbs cbs, .slice Bw nbw cbw] #[.slice Cr ncr ccr, .slice Cs ncs ccs, .slice Cw ncw ccw] wx)
  case first =>
    obtain ⟨q0, q1, q2, -⟩ := hS4.cells
    have hSa : SaS w4 w.heap.size (.slice Ar nar car) (.slice As nas cas) (.slice Aw naw caw) w4 := ⟨Below.refl _ _, q0, q1, q2⟩
    have hla : w.heap.size < w4.heap.size := lt_of_block hS4.ba
    have hShA : ∀ W, SaS w4 w.heap.size (.slice Ar nar car) (.slice As nas cas) (.slice Aw naw caw) W → Calls Tryd.prog 12 #[.agg #[.slice Ar nar car, .slice As nas cas, .slice Aw naw caw]] W fun e w' => e = .returned (.agg #[.slice Ar nar car, .slice As nas cas, .slice Aw naw caw]) ∧ Below W.heap.size W w' := fun W hW => hSha W (hS4.next hW.1)
    have hNaA : ∀ W, SaS w4 w.heap.size (.slice Ar nar car) (.slice As nas cas) (.slice Aw naw caw) W → Calls Tryd.prog 16 #[.agg #[.slice Ar nar car, .slice As nas cas, .slice Aw naw caw], .agg #[.slice Ar nar car, .slice As nas cas, .slice Aw naw caw]] W fun e w' => e = .returned (.int .i64 Eaa) ∧ Below W.heap.size W w' := fun W hW => hNaa W (hS4.next hW.1)
    have hCkA : ∀ W, SaS w4 w.heap.size (.slice Ar nar car) (.slice As nas cas) (.slice Aw naw caw) W → Calls Tryd.prog 11 #[.agg #[.slice Ar nar car, .slice As nas cas, .slice Aw naw caw]] W fun e w' => e = .returned (.int .i64 Eaa) ∧ Below W.heap.size W w' := fun W hW => hCk W (hS4.next hW.1)
    have HS4 := Lib.hid hS4
    clear hSha hShb hShc hNaa hNab hNbc hNac hCk hS4 q0 q1 q2
    go_region_held3 (fun W => SaS w4 w.heap.size (.slice Ar nar car) (.slice As nas cas) (.slice Aw naw caw) W) (first | assumption | exact SaS.next hSa below_drewU (by assumption) | exact SaS.next (by assumption) (by assumption) (by assumption)) (first
      | (go_at_call 12; (with_reducible refine (hShA _ (by assumption)).mono ?_); rintro e w3 ⟨rfl, hb3⟩; have hB3 := (SaS.gr (W := _) (by assumption)).next hb3)
      | (go_at_call 16; (with_reducible refine (hNaA _ (by assumption)).mono ?_); rintro e w5 ⟨rfl, hb5⟩; have hB5 := (SaS.gr (W := _) (by assumption)).next hb5)
      | (go_at_call 11; (with_reducible refine (hCkA _ (by assumption)).mono ?_); rintro e w6 ⟨rfl, hb6⟩; have hB6 := (SaS.gr (W := _) (by assumption)).next hb6))
    all_goals
      go_wp2_with fail
      go_meet
      exact ⟨rfl, HS4.out.next (by first | exact hB6 | exact hB5 | assumption)⟩
  obtain ⟨rfl, hS5⟩ := hcut
  obtain ⟨q0, q1, q2, q3, q4, q5, q6, q7, q8⟩ := hS5.cells
  go_upto_region 5 with fail
  go_cut [51] from 30 to 51 (fun x wx => x = .bool false ∧ OrB V w.heap.size #[.slice Ar nar car, .slice As nas cas, .slice Aw naw caw] #[.slice Br nbr cbr, .slice Bs nbs cbs, .slice Bw nbw cbw] #[.slice Cr ncr ccr, .slice Cs ncs ccs, .slice Cw ncw ccw] wx)
  case first =>
    clear q0 q1 q2 q3 q4 q5 q6 q7 q8 hNaa hCk
    by_cases h1 : Eab = 0
    · have f2 : (Eab == 0) = true := by simpa using h1
      by_cases h2 : Ebc = 0
      · have f3 : (Ebc == 0) = true := by simpa using h2
        have h3 := HTR.out h1 h2
        have f4 : (Eac != 0) = false := by simpa using h3
        clear h1 h2 h3
        refine wp_region_held_drew (S := (fun W => OrB V w.heap.size #[.slice Ar nar car, .slice As nas cas, .slice Aw naw caw] #[.slice Br nbr cbr, .slice Bs nbs cbs, .slice Bw nbw cbw] #[.slice Cr ncr ccr, .slice Cs ncs ccs, .slice Cw ncw ccw] W)) (by kernel_rfl) (OrB.next hS5 below_drewU) (fun hH => ?_)
        refine Rg.take (i := 0) (d := 30) (v := .agg #[.slice Ar nar car, .slice As nas cas, .slice Aw naw caw]) rfl rfl (by kernel_rfl) (by kernel_rfl) (by kernel_rfl) (fun _ _ _ h => h) (by kernel_rfl) (fun W hSW => ?_) hH ?_
        · obtain ⟨q0, q1, q2, -, -, -, -, -, -⟩ := OrB.cells hSW
          go_simp
        simp only [List.setIfInBounds_toArray, List.set_cons_zero, List.set_cons_succ]
        refine Rg.take (i := 2) (d := 32) (v := .agg #[.slice Br nbr cbr, .slice Bs nbs cbs, .slice Bw nbw cbw]) rfl rfl (by kernel_rfl) (by kernel_rfl) (by kernel_rfl) (fun _ _ _ h => h) (by kernel_rfl) (fun W hSW => ?_) hH ?_
        · obtain ⟨-, -, -, q3, q4, q5, -, -, -⟩ := OrB.cells hSW
          go_simp
        simp only [List.setIfInBounds_toArray, List.set_cons_zero, List.set_cons_succ]
        refine wpAnyH_ready (rs := [1]) (by kernel_rfl) (by simp) (AllReadyH.cons rfl (fun K hK => ?_) AllReadyH.nil)
        go_simp
        refine (hSha _ hH).mono ?_
        rintro e wx ⟨rfl, hb⟩
        go_simp
        refine hK.out _ _ (OrB.next hH hb) (fun hH => ?_)
        clear hK K hb
        refine wpAnyH_ready (rs := [3]) (by kernel_rfl) (by simp) (AllReadyH.cons rfl (fun K hK => ?_) AllReadyH.nil)
        go_simp
        refine (hShb _ hH).mono ?_
        rintro e wx ⟨rfl, hb⟩
        go_simp
        refine hK.out _ _ (OrB.next hH hb) (fun hH => ?_)
        clear hK K hb
        refine wpAnyH_ready (rs := [4]) (by kernel_rfl) (by simp) (AllReadyH.cons rfl (fun K hK => ?_) AllReadyH.nil)
        go_simp
        refine (hNab _ hH).mono ?_
        rintro e wx ⟨rfl, hb⟩
        go_simp
        refine hK.out _ _ (OrB.next hH hb) (fun hH => ?_)
        clear hK K hb
        refine Rg.take (i := 5) (d := 35) (v := .bool true) rfl rfl (by kernel_rfl) (by kernel_rfl) (by kernel_rfl) (fun _ _ _ h => h) (by kernel_rfl) (fun W hSW => ?_) hH ?_
        · clear hSW
          go_simp
        simp only [List.setIfInBounds_toArray, List.set_cons_zero, List.set_cons_succ]
        refine Rg.take (i := 6) (d := 36) (v := .bool true) rfl rfl (by kernel_rfl) (by kernel_rfl) (by kernel_rfl) (fun _ _ _ h => h) (by kernel_rfl) (fun W hSW => ?_) hH ?_
        · clear hSW
          go_simp
        simp only [List.setIfInBounds_toArray, List.set_cons_zero, List.set_cons_succ]
        refine Rg.take (i := 7) (d := 37) (v := .agg #[.slice Br nbr cbr, .slice Bs nbs cbs, .slice Bw nbw cbw]) rfl rfl (by kernel_rfl) (by kernel_rfl) (by kernel_rfl) (fun _ _ _ h => h) (by kernel_rfl) (fun W hSW => ?_) hH ?_
        · obtain ⟨-, -, -, q3, q4, q5, -, -, -⟩ := OrB.cells hSW
          go_simp
        simp only [List.setIfInBounds_toArray, List.set_cons_zero, List.set_cons_succ]
        refine Rg.take (i := 9) (d := 39) (v := .agg #[.slice Cr ncr ccr, .slice Cs ncs ccs, .slice Cw ncw ccw]) rfl rfl (by kernel_rfl) (by kernel_rfl) (by kernel_rfl) (fun _ _ _ h => h) (by kernel_rfl) (fun W hSW => ?_) hH ?_
        · obtain ⟨-, -, -, -, -, -, q6, q7, q8⟩ := OrB.cells hSW
          go_simp
        simp only [List.setIfInBounds_toArray, List.set_cons_zero, List.set_cons_succ]
        refine wpAnyH_ready (rs := [8]) (by kernel_rfl) (by simp) (AllReadyH.cons rfl (fun K hK => ?_) AllReadyH.nil)
        go_simp
        refine (hShb _ hH).mono ?_
        rintro e wx ⟨rfl, hb⟩
        go_simp
        refine hK.out _ _ (OrB.next hH hb) (fun hH => ?_)
        clear hK K hb
        refine wpAnyH_ready (rs := [10]) (by kernel_rfl) (by simp) (AllReadyH.cons rfl (fun K hK => ?_) AllReadyH.nil)
        go_simp
        refine (hShc _ hH).mono ?_
        rintro e wx ⟨rfl, hb⟩
        go_simp
        refine hK.out _ _ (OrB.next hH hb) (fun hH => ?_)
        clear hK K hb
        refine wpAnyH_ready (rs := [11]) (by kernel_rfl) (by simp) (AllReadyH.cons rfl (fun K hK => ?_) AllReadyH.nil)
        go_simp
        refine (hNbc _ hH).mono ?_
        rintro e wx ⟨rfl, hb⟩
        go_simp
        refine hK.out _ _ (OrB.next hH hb) (fun hH => ?_)
        clear hK K hb
        refine Rg.take (i := 12) (d := 42) (v := .bool true) rfl rfl (by kernel_rfl) (by kernel_rfl) (by kernel_rfl) (fun _ _ _ h => h) (by kernel_rfl) (fun W hSW => ?_) hH ?_
        · clear hSW
          go_simp
        simp only [List.setIfInBounds_toArray, List.set_cons_zero, List.set_cons_succ]
        refine Rg.take (i := 13) (d := 43) (v := .bool true) rfl rfl (by kernel_rfl) (by kernel_rfl) (by kernel_rfl) (fun _ _ _ h => h) (by kernel_rfl) (fun W hSW => ?_) hH ?_
        · clear hSW
          go_simp
        simp only [List.setIfInBounds_toArray, List.set_cons_zero, List.set_cons_succ]
        refine Rg.take (i := 14) (d := 44) (v := .bool true) rfl rfl (by kernel_rfl) (by kernel_rfl) (by kernel_rfl) (fun _ _ _ h => h) (by kernel_rfl) (fun W hSW => ?_) hH ?_
        · clear hSW
          go_simp
        simp only [List.setIfInBounds_toArray, List.set_cons_zero, List.set_cons_succ]
        refine Rg.take (i := 15) (d := 45) (v := .agg #[.slice Ar nar car, .slice As nas cas, .slice Aw naw caw]) rfl rfl (by kernel_rfl) (by kernel_rfl) (by kernel_rfl) (fun _ _ _ h => h) (by kernel_rfl) (fun W hSW => ?_) hH ?_
        · obtain ⟨q0, q1, q2, -, -, -, -, -, -⟩ := OrB.cells hSW
          go_simp
        simp only [List.setIfInBounds_toArray, List.set_cons_zero, List.set_cons_succ]
        refine Rg.take (i := 17) (d := 47) (v := .agg #[.slice Cr ncr ccr, .slice Cs ncs ccs, .slice Cw ncw ccw]) rfl rfl (by kernel_rfl) (by kernel_rfl) (by kernel_rfl) (fun _ _ _ h => h) (by kernel_rfl) (fun W hSW => ?_) hH ?_
        · obtain ⟨-, -, -, -, -, -, q6, q7, q8⟩ := OrB.cells hSW
          go_simp
        simp only [List.setIfInBounds_toArray, List.set_cons_zero, List.set_cons_succ]
        refine wpAnyH_ready (rs := [16]) (by kernel_rfl) (by simp) (AllReadyH.cons rfl (fun K hK => ?_) AllReadyH.nil)
        go_simp
        refine (hSha _ hH).mono ?_
        rintro e wx ⟨rfl, hb⟩
        go_simp
        refine hK.out _ _ (OrB.next hH hb) (fun hH => ?_)
        clear hK K hb
        refine wpAnyH_ready (rs := [18]) (by kernel_rfl) (by simp) (AllReadyH.cons rfl (fun K hK => ?_) AllReadyH.nil)
        go_simp
        refine (hShc _ hH).mono ?_
        rintro e wx ⟨rfl, hb⟩
        go_simp
        refine hK.out _ _ (OrB.next hH hb) (fun hH => ?_)
        clear hK K hb
        refine wpAnyH_ready (rs := [19]) (by kernel_rfl) (by simp) (AllReadyH.cons rfl (fun K hK => ?_) AllReadyH.nil)
        go_simp
        refine (hNac _ hH).mono ?_
        rintro e wx ⟨rfl, hb⟩
        go_simp
        refine hK.out _ _ (OrB.next hH hb) (fun hH => ?_)
        clear hK K hb
        refine Rg.take (i := 20) (d := 50) (v := .bool false) rfl rfl (by kernel_rfl) (by kernel_rfl) (by kernel_rfl) (fun _ _ _ h => h) (by kernel_rfl) (fun W hSW => ?_) hH ?_
        · clear hSW
          go_simp
        simp only [List.setIfInBounds_toArray, List.set_cons_zero, List.set_cons_succ]
        refine Rg.take (i := 21) (d := 51) (v := .bool false) rfl rfl (by kernel_rfl) (by kernel_rfl) (by kernel_rfl) (fun _ _ _ h => h) (by kernel_rfl) (fun W hSW => ?_) hH ?_
        · clear hSW
          go_simp
        simp only [List.setIfInBounds_toArray, List.set_cons_zero, List.set_cons_succ]
        refine wpAnyH_done (by kernel_rfl) ?_ _
        go_wp2_with fail
        go_meet
        exact ⟨rfl, hH⟩
      · have f3 : (Ebc == 0) = false := by simpa using h2
        clear h1 h2
        refine wp_region_held_drew (S := (fun W => OrB V w.heap.size #[.slice Ar nar car, .slice As nas cas, .slice Aw naw caw] #[.slice Br nbr cbr, .slice Bs nbs cbs, .slice Bw nbw cbw] #[.slice Cr ncr ccr, .slice Cs ncs ccs, .slice Cw ncw ccw] W)) (by kernel_rfl) (OrB.next hS5 below_drewU) (fun hH => ?_)
        refine Rg.take (i := 0) (d := 30) (v := .agg #[.slice Ar nar car, .slice As nas cas, .slice Aw naw caw]) rfl rfl (by kernel_rfl) (by kernel_rfl) (by kernel_rfl) (fun _ _ _ h => h) (by kernel_rfl) (fun W hSW => ?_) hH ?_
        · obtain ⟨q0, q1, q2, -, -, -, -, -, -⟩ := OrB.cells hSW
          go_simp
        simp only [List.setIfInBounds_toArray, List.set_cons_zero, List.set_cons_succ]
        refine Rg.take (i := 2) (d := 32) (v := .agg #[.slice Br nbr cbr, .slice Bs nbs cbs, .slice Bw nbw cbw]) rfl rfl (by kernel_rfl) (by kernel_rfl) (by kernel_rfl) (fun _ _ _ h => h) (by kernel_rfl) (fun W hSW => ?_) hH ?_
        · obtain ⟨-, -, -, q3, q4, q5, -, -, -⟩ := OrB.cells hSW
          go_simp
        simp only [List.setIfInBounds_toArray, List.set_cons_zero, List.set_cons_succ]
        refine wpAnyH_ready (rs := [1]) (by kernel_rfl) (by simp) (AllReadyH.cons rfl (fun K hK => ?_) AllReadyH.nil)
        go_simp
        refine (hSha _ hH).mono ?_
        rintro e wx ⟨rfl, hb⟩
        go_simp
        refine hK.out _ _ (OrB.next hH hb) (fun hH => ?_)
        clear hK K hb
        refine wpAnyH_ready (rs := [3]) (by kernel_rfl) (by simp) (AllReadyH.cons rfl (fun K hK => ?_) AllReadyH.nil)
        go_simp
        refine (hShb _ hH).mono ?_
        rintro e wx ⟨rfl, hb⟩
        go_simp
        refine hK.out _ _ (OrB.next hH hb) (fun hH => ?_)
        clear hK K hb
        refine wpAnyH_ready (rs := [4]) (by kernel_rfl) (by simp) (AllReadyH.cons rfl (fun K hK => ?_) AllReadyH.nil)
        go_simp
        refine (hNab _ hH).mono ?_
        rintro e wx ⟨rfl, hb⟩
        go_simp
        refine hK.out _ _ (OrB.next hH hb) (fun hH => ?_)
        clear hK K hb
        refine Rg.take (i := 5) (d := 35) (v := .bool true) rfl rfl (by kernel_rfl) (by kernel_rfl) (by kernel_rfl) (fun _ _ _ h => h) (by kernel_rfl) (fun W hSW => ?_) hH ?_
        · clear hSW
          go_simp
        simp only [List.setIfInBounds_toArray, List.set_cons_zero, List.set_cons_succ]
        refine Rg.take (i := 6) (d := 36) (v := .bool true) rfl rfl (by kernel_rfl) (by kernel_rfl) (by kernel_rfl) (fun _ _ _ h => h) (by kernel_rfl) (fun W hSW => ?_) hH ?_
        · clear hSW
          go_simp
        simp only [List.setIfInBounds_toArray, List.set_cons_zero, List.set_cons_succ]
        refine Rg.take (i := 7) (d := 37) (v := .agg #[.slice Br nbr cbr, .slice Bs nbs cbs, .slice Bw nbw cbw]) rfl rfl (by kernel_rfl) (by kernel_rfl) (by kernel_rfl) (fun _ _ _ h => h) (by kernel_rfl) (fun W hSW => ?_) hH ?_
        · obtain ⟨-, -, -, q3, q4, q5, -, -, -⟩ := OrB.cells hSW
          go_simp
        simp only [List.setIfInBounds_toArray, List.set_cons_zero, List.set_cons_succ]
        refine Rg.take (i := 9) (d := 39) (v := .agg #[.slice Cr ncr ccr, .slice Cs ncs ccs, .slice Cw ncw ccw]) rfl rfl (by kernel_rfl) (by kernel_rfl) (by kernel_rfl) (fun _ _ _ h => h) (by kernel_rfl) (fun W hSW => ?_) hH ?_
        · obtain ⟨-, -, -, -, -, -, q6, q7, q8⟩ := OrB.cells hSW
          go_simp
        simp only [List.setIfInBounds_toArray, List.set_cons_zero, List.set_cons_succ]
        refine wpAnyH_ready (rs := [8]) (by kernel_rfl) (by simp) (AllReadyH.cons rfl (fun K hK => ?_) AllReadyH.nil)
        go_simp
        refine (hShb _ hH).mono ?_
        rintro e wx ⟨rfl, hb⟩
        go_simp
        refine hK.out _ _ (OrB.next hH hb) (fun hH => ?_)
        clear hK K hb
        refine wpAnyH_ready (rs := [10]) (by kernel_rfl) (by simp) (AllReadyH.cons rfl (fun K hK => ?_) AllReadyH.nil)
        go_simp
        refine (hShc _ hH).mono ?_
        rintro e wx ⟨rfl, hb⟩
        go_simp
        refine hK.out _ _ (OrB.next hH hb) (fun hH => ?_)
        clear hK K hb
        refine wpAnyH_ready (rs := [11]) (by kernel_rfl) (by simp) (AllReadyH.cons rfl (fun K hK => ?_) AllReadyH.nil)
        go_simp
        refine (hNbc _ hH).mono ?_
        rintro e wx ⟨rfl, hb⟩
        go_simp
        refine hK.out _ _ (OrB.next hH hb) (fun hH => ?_)
        clear hK K hb
        refine Rg.take (i := 12) (d := 42) (v := .bool false) rfl rfl (by kernel_rfl) (by kernel_rfl) (by kernel_rfl) (fun _ _ _ h => h) (by kernel_rfl) (fun W hSW => ?_) hH ?_
        · clear hSW
          go_simp
        simp only [List.setIfInBounds_toArray, List.set_cons_zero, List.set_cons_succ]
        refine Rg.take (i := 13) (d := 43) (v := .bool false) rfl rfl (by kernel_rfl) (by kernel_rfl) (by kernel_rfl) (fun _ _ _ h => h) (by kernel_rfl) (fun W hSW => ?_) hH ?_
        · clear hSW
          go_simp
        simp only [List.setIfInBounds_toArray, List.set_cons_zero, List.set_cons_succ]
        refine Rg.take (i := 14) (d := 44) (v := .bool false) rfl rfl (by kernel_rfl) (by kernel_rfl) (by kernel_rfl) (fun _ _ _ h => h) (by kernel_rfl) (fun W hSW => ?_) hH ?_
        · clear hSW
          go_simp
        simp only [List.setIfInBounds_toArray, List.set_cons_zero, List.set_cons_succ]
        refine Rg.skips_of (fuel' := 1) [15, 16, 17, 18, 19, 20] [45, 46, 47, 48, 49, 50] (by kernel_rfl) (fun _ _ _ _ _ h => h) hH rfl (by kernel_rfl) ?_
        simp only [Rg.puts, List.setIfInBounds_toArray, List.set_cons_zero, List.set_cons_succ]
        refine Rg.take (i := 21) (d := 51) (v := .bool false) rfl rfl (by kernel_rfl) (by kernel_rfl) (by kernel_rfl) (fun _ _ _ h => h) (by kernel_rfl) (fun W hSW => ?_) hH ?_
        · clear hSW
          go_simp
        simp only [List.setIfInBounds_toArray, List.set_cons_zero, List.set_cons_succ]
        refine wpAnyH_done (by kernel_rfl) ?_ _
        go_wp2_with fail
        go_meet
        exact ⟨rfl, hH⟩
    · have f2 : (Eab == 0) = false := by simpa using h1
      clear h1
      refine wp_region_held_drew (S := (fun W => OrB V w.heap.size #[.slice Ar nar car, .slice As nas cas, .slice Aw naw caw] #[.slice Br nbr cbr, .slice Bs nbs cbs, .slice Bw nbw cbw] #[.slice Cr ncr ccr, .slice Cs ncs ccs, .slice Cw ncw ccw] W)) (by kernel_rfl) (OrB.next hS5 below_drewU) (fun hH => ?_)
      refine Rg.take (i := 0) (d := 30) (v := .agg #[.slice Ar nar car, .slice As nas cas, .slice Aw naw caw]) rfl rfl (by kernel_rfl) (by kernel_rfl) (by kernel_rfl) (fun _ _ _ h => h) (by kernel_rfl) (fun W hSW => ?_) hH ?_
      · obtain ⟨q0, q1, q2, -, -, -, -, -, -⟩ := OrB.cells hSW
        go_simp
      simp only [List.setIfInBounds_toArray, List.set_cons_zero, List.set_cons_succ]
      refine Rg.take (i := 2) (d := 32) (v := .agg #[.slice Br nbr cbr, .slice Bs nbs cbs, .slice Bw nbw cbw]) rfl rfl (by kernel_rfl) (by kernel_rfl) (by kernel_rfl) (fun _ _ _ h => h) (by kernel_rfl) (fun W hSW => ?_) hH ?_
      · obtain ⟨-, -, -, q3, q4, q5, -, -, -⟩ := OrB.cells hSW
        go_simp
      simp only [List.setIfInBounds_toArray, List.set_cons_zero, List.set_cons_succ]
      refine wpAnyH_ready (rs := [1]) (by kernel_rfl) (by simp) (AllReadyH.cons rfl (fun K hK => ?_) AllReadyH.nil)
      go_simp
      refine (hSha _ hH).mono ?_
      rintro e wx ⟨rfl, hb⟩
      go_simp
      refine hK.out _ _ (OrB.next hH hb) (fun hH => ?_)
      clear hK K hb
      refine wpAnyH_ready (rs := [3]) (by kernel_rfl) (by simp) (AllReadyH.cons rfl (fun K hK => ?_) AllReadyH.nil)
      go_simp
      refine (hShb _ hH).mono ?_
      rintro e wx ⟨rfl, hb⟩
      go_simp
      refine hK.out _ _ (OrB.next hH hb) (fun hH => ?_)
      clear hK K hb
      refine wpAnyH_ready (rs := [4]) (by kernel_rfl) (by simp) (AllReadyH.cons rfl (fun K hK => ?_) AllReadyH.nil)
      go_simp
      refine (hNab _ hH).mono ?_
      rintro e wx ⟨rfl, hb⟩
      go_simp
      refine hK.out _ _ (OrB.next hH hb) (fun hH => ?_)
      clear hK K hb
      refine Rg.take (i := 5) (d := 35) (v := .bool false) rfl rfl (by kernel_rfl) (by kernel_rfl) (by kernel_rfl) (fun _ _ _ h => h) (by kernel_rfl) (fun W hSW => ?_) hH ?_
      · clear hSW
        go_simp
      simp only [List.setIfInBounds_toArray, List.set_cons_zero, List.set_cons_succ]
      refine Rg.take (i := 6) (d := 36) (v := .bool false) rfl rfl (by kernel_rfl) (by kernel_rfl) (by kernel_rfl) (fun _ _ _ h => h) (by kernel_rfl) (fun W hSW => ?_) hH ?_
      · clear hSW
        go_simp
      simp only [List.setIfInBounds_toArray, List.set_cons_zero, List.set_cons_succ]
      refine Rg.skips_of (fuel' := 9) [7, 8, 9, 10, 11, 12] [37, 38, 39, 40, 41, 42] (by kernel_rfl) (fun _ _ _ _ _ h => h) hH rfl (by kernel_rfl) ?_
      simp only [Rg.puts, List.setIfInBounds_toArray, List.set_cons_zero, List.set_cons_succ]
      refine Rg.take (i := 13) (d := 43) (v := .bool false) rfl rfl (by kernel_rfl) (by kernel_rfl) (by kernel_rfl) (fun _ _ _ h => h) (by kernel_rfl) (fun W hSW => ?_) hH ?_
      · clear hSW
        go_simp
      simp only [List.setIfInBounds_toArray, List.set_cons_zero, List.set_cons_succ]
      refine Rg.take (i := 14) (d := 44) (v := .bool false) rfl rfl (by kernel_rfl) (by kernel_rfl) (by kernel_rfl) (fun _ _ _ h => h) (by kernel_rfl) (fun W hSW => ?_) hH ?_
      · clear hSW
        go_simp
      simp only [List.setIfInBounds_toArray, List.set_cons_zero, List.set_cons_succ]
      refine Rg.skips_of (fuel' := 1) [15, 16, 17, 18, 19, 20] [45, 46, 47, 48, 49, 50] (by kernel_rfl) (fun _ _ _ _ _ h => h) hH rfl (by kernel_rfl) ?_
      simp only [Rg.puts, List.setIfInBounds_toArray, List.set_cons_zero, List.set_cons_succ]
      refine Rg.take (i := 21) (d := 51) (v := .bool false) rfl rfl (by kernel_rfl) (by kernel_rfl) (by kernel_rfl) (fun _ _ _ h => h) (by kernel_rfl) (fun W hSW => ?_) hH ?_
      · clear hSW
        go_simp
      simp only [List.setIfInBounds_toArray, List.set_cons_zero, List.set_cons_succ]
      refine wpAnyH_done (by kernel_rfl) ?_ _
      go_wp2_with fail
      go_meet
      exact ⟨rfl, hH⟩
  obtain ⟨rfl, hS6⟩ := hcut
  have hC := hAw wc
  go_wp2_with fail
  refine hC.mono ?_
  rintro e wz ⟨rfl, hbz⟩
  have HBz := Lib.hid (HBV.out.next (hS6.gr.next hbz))
  clear hC hbz
  go_wp2_with fail
  go_ret
  exact ⟨rfl, HBz.out⟩
end P20
end Go.Proofs.YtajbchecjbddgaaDoor
