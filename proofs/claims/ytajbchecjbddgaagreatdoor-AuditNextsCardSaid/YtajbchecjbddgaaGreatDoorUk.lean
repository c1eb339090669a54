/- Audit: look, Check. -/
import Derived.Test.YtajbchecjbddgaaGreatDoorUi
import Derived.Test.YtajbchecjbddgaaGreatDoorUj
import Derived.Test.YtajbchecjbddgaaGreatDoorUh
import Derived.Test.YtajbchecjbddgaaGreatDoorT7g
import Derived.WideMake
namespace Go.Proofs.YtajbchecjbddgaaGreatDoor
open Go.RowKit
namespace P20
open P7

def askRow (bv : Nat) : Obj := .cells #[.func (.func 29) #[.pointer (some ⟨bv, 0, none⟩)] #[], .func (.func 30) #[.pointer (some ⟨bv, 0, none⟩)] #[], .func (.func 31) #[.pointer (some ⟨bv, 0, none⟩)] #[], .func (.func 32) #[.pointer (some ⟨bv, 0, none⟩)] #[]] 71 (0, 0)
/-- Between two questions. -/
def AskV (W2 : World) (bv bm br : Nat) (vr vs vw : Value) (s : Sh) (i : Value) (wr : World) : Prop :=
  ∃ j : Int, (j = 0 ∨ j = 1 ∨ j = 2 ∨ j = 3 ∨ j = 4) ∧ i = .int .i64 j ∧ (j = 0 → MapT wr bm 0 s) ∧ (0 < j → scOk s ∧ MapS wr bm s) ∧ (1 < j → numOk s) ∧ (2 < j → stOk s) ∧ (3 < j → clOk s) ∧ VwO wr bv bm vr vs vw br (askRow bv) ∧ Below W2.heap.size W2 wr
/-- What look answers. -/
def LookPost (w : World) (vr vs vw : Value) (s : Sh) (e : Ending) (w' : World) : Prop :=
  Below w.heap.size w w' ∧ ((chkS s ≠ 0 ∧ e = .returned (.tuple #[.pointer none, .int .i64 (chkS s)])) ∨ (chkS s = 0 ∧ Fine s ∧ ∃ bv bm, e = .returned (.tuple #[.pointer (some ⟨bv, 0, none⟩), .int .i64 0]) ∧ Vm w' bv bm vr vs vw s))
set_option maxRecDepth 100000 in
set_option maxHeartbeats 8000000 in
theorem look_any {w : World} {vr vs vw : Value} {s : Sh} (hS : Shm w vr vs vw s) (hf : FewS s) :
    Calls Tryz.prog 13 #[.agg #[vr, vs, vw]] w (LookPost w vr vs vw s) := by
  obtain ⟨Ar, cr, hvr, hncr, -⟩ := rows_open hS.rows.sl
  obtain ⟨A, c, hvs, hnc, -⟩ := scs_open hS.scs
  obtain ⟨Aw, cw, hvw, hncw, -⟩ := hS.wks.open_
  have hb1 : Below w.heap.size w (w.alloc (.cells #[vr, vs, vw] 31)) := by go_grown
  have hC := checkT_any (hS.next hb1).rows.sl hf.small
  have hblk := heap_alloc_last w (.cells #[vr, vs, vw] 31)
  obtain ⟨R, hR⟩ := name_of (chk (s.l.length + 1) s.l)
  rw [hR] at hC
  have HRR := Lib.hid hR
  have HF := Lib.hid hf
  have HS := Lib.hid hS
  have HB1 := Lib.hid hb1
  have HBLK := Lib.hid hblk
  obtain ⟨n, hn⟩ := name_of s.sc.length
  obtain ⟨nr, hnr⟩ := name_of s.l.length
  obtain ⟨nw, hnw⟩ := name_of s.ws.length
  rw [hn] at hvs
  rw [hnr] at hvr
  rw [hnw] at hvw
  have hmf : ∀ fn first cap w, (Instr.makeFunc fn first cap).run Tryz.prog w = .ok (.func fn first cap) w := fun _ _ _ _ => rfl
  clear hR hf hS hb1 hblk hn hnr hnw hncr hnc hncw
  subst hvr hvs hvw
  go_enter Tryz.func13, Tryz.ntmps13
  go_wp2_with fail
  refine hC.mono ?_
  rintro e w2 ⟨rfl, hb2⟩
  have hB2 := HB1.out.next hb2
  have hblk2 := blk_next HBLK.out hb2
  have y0 : w2.cell? ⟨w.heap.size, 0, none⟩ = some (.slice Ar nr cr) := by rw [cell_of_row _ _ _ _ _ _ hblk2]; rfl
  have y1 : w2.cell? ⟨w.heap.size, 1, none⟩ = some (.slice A n c) := by rw [cell_of_row _ _ _ _ _ _ hblk2]; rfl
  have y2 : w2.cell? ⟨w.heap.size, 2, none⟩ = some (.slice Aw nw cw) := by rw [cell_of_row _ _ _ _ _ _ hblk2]; rfl
  have HB2 := Lib.hid hB2
  clear hC hB2 hblk2 hb2
  by_cases hr0 : R = 0
  · subst hr0
    have HS2 := Lib.hid (HS.out.next HB2.out)
    go_wp2_with fail
    rw [run_makeMap_plain]
    go_wp2_with fail
    have h0 : chk (s.l.length + 1) s.l = 0 := HRR.out
    have HUP := Lib.hid (chk_up h0)
    have H0 := Lib.hid h0
    have hmt : MapT (((w2.alloc (.map #[] 0)).alloc (.cells #[.slice Ar nr cr, .slice A n c, .slice Aw nw cw, .map (some w2.heap.size)] 53)).alloc (askRow (w2.heap.size + 1))) w2.heap.size 0 s := by
      unfold MapT
      exact ((World.ownsMap_made w2 _ _ _).alloc _).alloc _
    have hvo : VwO (((w2.alloc (.map #[] 0)).alloc (.cells #[.slice Ar nr cr, .slice A n c, .slice Aw nw cw, .map (some w2.heap.size)] 53)).alloc (askRow (w2.heap.size + 1))) (w2.heap.size + 1) w2.heap.size (.slice Ar nr cr) (.slice A n c) (.slice Aw nw cw) (w2.heap.size + 1 + 1) (askRow (w2.heap.size + 1)) := by
      have h1 := heap_alloc_last (w2.alloc (.map #[] 0)) (.cells #[.slice Ar nr cr, .slice A n c, .slice Aw nw cw, .map (some w2.heap.size)] 53)
      have h2 := heap_alloc_last ((w2.alloc (.map #[] 0)).alloc (.cells #[.slice Ar nr cr, .slice A n c, .slice Aw nw cw, .map (some w2.heap.size)] 53)) (askRow (w2.heap.size + 1))
      rw [World.size_alloc] at h1
      rw [World.size_alloc, World.size_alloc] at h2
      exact ⟨blk_next h1 ((Below.refl _ _).alloc (Nat.le_refl _) _), h2⟩
    have hbb : Below w2.heap.size w2 (((w2.alloc (.map #[] 0)).alloc (.cells #[.slice Ar nr cr, .slice A n c, .slice Aw nw cw, .map (some w2.heap.size)] 53)).alloc (askRow (w2.heap.size + 1))) := (((Below.refl _ _).alloc (Nat.le_refl _) _).alloc (by rw [World.size_alloc]; omega) _).alloc (by rw [World.size_alloc, World.size_alloc]; omega) _
    have HMT := Lib.hid hmt
    have HVO := Lib.hid hvo
    have HBB := Lib.hid hbb
    clear h0 hmt hvo hbb y0 y1 y2
    unfold askRow at HMT HVO HBB
    go_loopw [29] (fun i wr => AskV w2 (w2.heap.size + 1) w2.heap.size (w2.heap.size + 1 + 1) (.slice Ar nr cr) (.slice A n c) (.slice Aw nw cw) s i wr) (fun i _ => 4 - (intOf i).toNat)
    case atStart => exact ⟨0, by decide, rfl, fun _ => HMT.out, fun h => absurd h (by decide), fun h => absurd h (by decide), fun h => absurd h (by decide), fun h => absurd h (by decide), HVO.out, HBB.out⟩
    case round =>
      clear HMT HVO HBB
      obtain ⟨j, hj, rfl, g0, g1, g2, g3, g4, hVO, hB⟩ := hrel
      have hrb := hVO.rb
      unfold askRow at hrb
      have HVO := Lib.hid hVO
      have HBW := Lib.hid hB
      rcases hj with rfl | rfl | rfl | rfl | rfl
      · -- scopes
        have q0 : wr.cell? ⟨w2.heap.size + 1 + 1, 0, none⟩ = some (.func (.func 29) #[.pointer (some ⟨w2.heap.size + 1, 0, none⟩)] #[]) := by rw [cell_of_row _ _ _ _ _ _ hrb]; rfl
        have hC := scopes_any HS2.out hB hVO (g0 rfl) HF.out HUP.out.1 (Nat.le_refl _) (by omega) (by omega)
        clear g0 g1 g2 g3 g4 hVO hB hrb
        go_wp2_with fail
        refine hC.mono ?_
        rintro e w5 ⟨hb5, ⟨hok, rfl, hms, hvo⟩ | ⟨hno, rfl⟩⟩
        · have HOK := Lib.hid (And.intro hok hms)
          have HV5 := Lib.hid hvo
          have HB5 := Lib.hid hb5
          clear hC hok hms hvo hb5
          go_wp2_with fail
          exact ⟨⟨1, by decide, rfl, fun h => absurd h (by decide), fun _ => HOK.out, fun h => absurd h (by decide), fun h => absurd h (by decide), fun h => absurd h (by decide), HV5.out, HB5.out⟩, by simp [intOf]⟩
        · have HV : Hid (chkS s = 15) := Lib.hid (chkS_sc H0.out hno)
          have HB5 := Lib.hid hb5
          clear hC hno hb5
          go_wp2_with fail
          go_ret2
          exact ⟨HB2.out.next HB5.out, .inl ⟨by rw [HV.out]; decide, by rw [HV.out]; rfl⟩⟩
      · -- numbers
        have q0 : wr.cell? ⟨w2.heap.size + 1 + 1, 1, none⟩ = some (.func (.func 30) #[.pointer (some ⟨w2.heap.size + 1, 0, none⟩)] #[]) := by rw [cell_of_row _ _ _ _ _ _ hrb]; rfl
        have hOK := g1 (by decide)
        have hVm : Vm wr (w2.heap.size + 1) w2.heap.size (.slice Ar nr cr) (.slice A n c) (.slice Aw nw cw) s := ⟨HS2.out.next hB, hVO.vb, hOK.2⟩
        have HVM := Lib.hid hVm
        have HOK := Lib.hid hOK
        clear g0 g1 g2 g3 g4 hVO hB hrb hVm hOK
        by_cases hq : numOk s
        · have hC := numbers_any HVM.out HF.out 0 (fun _ => rfl) (fun h => absurd hq h)
          have HQ := Lib.hid hq
          clear hq
          go_wp2_with fail
          refine hC.mono ?_
          rintro e w5 ⟨rfl, hb5⟩
          have HB5 := Lib.hid hb5
          clear hC hb5
          go_wp2_with fail
          exact ⟨⟨2, by decide, rfl, fun h => absurd h (by decide), fun _ => ⟨HOK.out.1, HVM.out.mp.next HB5.out⟩, fun _ => HQ.out, fun h => absurd h (by decide), fun h => absurd h (by decide), HVO.out.next HB5.out, HBW.out.next HB5.out⟩, by simp [intOf]⟩
        · have hC := numbers_any HVM.out HF.out 10 (fun h => absurd h hq) (fun _ => rfl)
          have HV : Hid (chkS s = 10) := Lib.hid (chkS_num H0.out HOK.out.1 hq)
          clear hq
          go_wp2_with fail
          refine hC.mono ?_
          rintro e w5 ⟨rfl, hb5⟩
          have HB5 := Lib.hid hb5
          clear hC hb5
          go_wp2_with fail
          go_ret2
          exact ⟨HB2.out.next (HBW.out.next HB5.out), .inl ⟨by rw [HV.out]; decide, by rw [HV.out]; rfl⟩⟩
      · -- states
        have q0 : wr.cell? ⟨w2.heap.size + 1 + 1, 2, none⟩ = some (.func (.func 31) #[.pointer (some ⟨w2.heap.size + 1, 0, none⟩)] #[]) := by rw [cell_of_row _ _ _ _ _ _ hrb]; rfl
        have hOK := g1 (by decide)
        have HN := Lib.hid (g2 (by decide))
        have hVm : Vm wr (w2.heap.size + 1) w2.heap.size (.slice Ar nr cr) (.slice A n c) (.slice Aw nw cw) s := ⟨HS2.out.next hB, hVO.vb, hOK.2⟩
        have HVM := Lib.hid hVm
        have HOK := Lib.hid hOK
        clear g0 g1 g2 g3 g4 hVO hB hrb hVm hOK
        by_cases hq : stOk s
        · have hC := states_any HVM.out HF.out HN.out 0 (fun _ => rfl) (fun h => absurd hq h)
          have HQ := Lib.hid hq
          clear hq
          go_wp2_with fail
          refine hC.mono ?_
          rintro e w5 ⟨rfl, hb5⟩
          have HB5 := Lib.hid hb5
          clear hC hb5
          go_wp2_with fail
          exact ⟨⟨3, by decide, rfl, fun h => absurd h (by decide), fun _ => ⟨HOK.out.1, HVM.out.mp.next HB5.out⟩, fun _ => HN.out, fun _ => HQ.out, fun h => absurd h (by decide), HVO.out.next HB5.out, HBW.out.next HB5.out⟩, by simp [intOf]⟩
        · have hC := states_any HVM.out HF.out HN.out 19 (fun h => absurd h hq) (fun _ => rfl)
          have HV : Hid (chkS s = 19) := Lib.hid (chkS_st H0.out HOK.out.1 HN.out hq)
          clear hq
          go_wp2_with fail
          refine hC.mono ?_
          rintro e w5 ⟨rfl, hb5⟩
          have HB5 := Lib.hid hb5
          clear hC hb5
          go_wp2_with fail
          go_ret2
          exact ⟨HB2.out.next (HBW.out.next HB5.out), .inl ⟨by rw [HV.out]; decide, by rw [HV.out]; rfl⟩⟩
      · -- closed
        have q0 : wr.cell? ⟨w2.heap.size + 1 + 1, 3, none⟩ = some (.func (.func 32) #[.pointer (some ⟨w2.heap.size + 1, 0, none⟩)] #[]) := by rw [cell_of_row _ _ _ _ _ _ hrb]; rfl
        have hOK := g1 (by decide)
        have HN := Lib.hid (g2 (by decide))
        have HT := Lib.hid (g3 (by decide))
        have hVm : Vm wr (w2.heap.size + 1) w2.heap.size (.slice Ar nr cr) (.slice A n c) (.slice Aw nw cw) s := ⟨HS2.out.next hB, hVO.vb, hOK.2⟩
        have HVM := Lib.hid hVm
        have HOK := Lib.hid hOK
        clear g0 g1 g2 g3 g4 hVO hB hrb hVm hOK
        by_cases hq : clOk s
        · have hC := closed_any HVM.out ⟨HF.out, HUP.out.2, HOK.out.1⟩ HN.out 0 (fun _ => rfl) (fun h => absurd hq h)
          have HQ := Lib.hid hq
          clear hq
          go_wp2_with fail
          refine hC.mono ?_
          rintro e w5 ⟨rfl, hb5⟩
          have HB5 := Lib.hid hb5
          clear hC hb5
          go_wp2_with fail
          exact ⟨⟨4, by decide, rfl, fun h => absurd h (by decide), fun _ => ⟨HOK.out.1, HVM.out.mp.next HB5.out⟩, fun _ => HN.out, fun _ => HT.out, fun _ => HQ.out, HVO.out.next HB5.out, HBW.out.next HB5.out⟩, by simp [intOf]⟩
        · have hC := closed_any HVM.out ⟨HF.out, HUP.out.2, HOK.out.1⟩ HN.out 26 (fun h => absurd h hq) (fun _ => rfl)
          have HV : Hid (chkS s = 26) := Lib.hid (chkS_cl H0.out HOK.out.1 HN.out HT.out hq)
          clear hq
          go_wp2_with fail
          refine hC.mono ?_
          rintro e w5 ⟨rfl, hb5⟩
          have HB5 := Lib.hid hb5
          clear hC hb5
          go_wp2_with fail
          go_ret2
          exact ⟨HB2.out.next (HBW.out.next HB5.out), .inl ⟨by rw [HV.out]; decide, by rw [HV.out]; rfl⟩⟩
      · have hOK := g1 (by decide)
        have HV : Hid (chkS s = 0) := Lib.hid (chkS_ok H0.out hOK.1 (g2 (by decide)) (g3 (by decide)) (g4 (by decide)))
        have HVM : Hid (Vm wr (w2.heap.size + 1) w2.heap.size (.slice Ar nr cr) (.slice A n c) (.slice Aw nw cw) s) := Lib.hid ⟨HS2.out.next hB, hVO.vb, hOK.2⟩
        have HOK := Lib.hid hOK
        clear g0 g1 g2 g3 g4 hVO hB hrb hOK
        go_wp2_with fail
        go_ret2
        exact ⟨HB2.out.next HBW.out, .inr ⟨HV.out, ⟨HF.out, HUP.out.2, HOK.out.1⟩, _, _, rfl, HVM.out⟩⟩
  · have f1 : (R != 0) = true := by simpa using hr0
    have HV : Hid (chkS s = R) := Lib.hid ((chkS_l (by rw [HRR.out]; exact hr0)).trans HRR.out)
    have HR0 := Lib.hid hr0
    clear hr0 y0 y1 y2
    go_wp2_with fail
    go_ret2
    exact ⟨HB2.out, .inl ⟨by rw [HV.out]; exact HR0.out, by rw [HV.out]; rfl⟩⟩
set_option maxRecDepth 100000 in
set_option maxHeartbeats 4000000 in
theorem checkS_any {w : World} {vr vs vw : Value} {s : Sh} (hS : Shm w vr vs vw s) (hf : FewS s) :
    Calls Tryz.prog 11 #[.agg #[vr, vs, vw]] w fun e w' => e = .returned (.int .i64 (chkS s)) ∧ Below w.heap.size w w' := by
  have hb1 : Below w.heap.size w (w.alloc (.cells #[vr, vs, vw] 31)) := by go_grown
  have hC := look_any (hS.next hb1) hf
  have hblk := heap_alloc_last w (.cells #[vr, vs, vw] 31)
  obtain ⟨Ar, cr, hvr, -, -⟩ := rows_open hS.rows.sl
  obtain ⟨A, c, hvs, -, -⟩ := scs_open hS.scs
  obtain ⟨Aw, cw, hvw, -, -⟩ := hS.wks.open_
  obtain ⟨n, hn⟩ := name_of s.sc.length
  obtain ⟨nr, hnr⟩ := name_of s.l.length
  obtain ⟨nw, hnw⟩ := name_of s.ws.length
  rw [hn] at hvs
  rw [hnr] at hvr
  rw [hnw] at hvw
  obtain ⟨R, hR⟩ := name_of (chkS s)
  have HRR := Lib.hid hR
  have HB1 := Lib.hid hb1
  rw [hR]
  subst hvr hvs hvw
  clear hn hnr hnw hS hb1 hf hR
  go_enter Tryz.func11, Tryz.ntmps11
  go_wp2_with fail
  refine hC.mono ?_
  rintro e w2 ⟨hb2, ⟨-, rfl⟩ | ⟨h0, -, bv, bm, rfl, -⟩⟩
  · have HB2 := Lib.hid (HB1.out.next hb2)
    rw [HRR.out]
    clear hC hb2 hblk
    go_wp2_with fail
    go_ret
    exact ⟨rfl, HB2.out⟩
  · have HB2 := Lib.hid (HB1.out.next hb2)
    have H0 := Lib.hid h0
    clear hC hb2 hblk h0
    go_wp2_with fail
    go_ret
    exact ⟨ret_i (H0.out.symm.trans HRR.out), HB2.out⟩
end P20
end Go.Proofs.YtajbchecjbddgaaGreatDoor
