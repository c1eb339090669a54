/- Audit: (view).scopes. -/
import Derived.Test.YtajbchecjbddgaaGreatDoorUb
import Derived.Test.YtajbchecjbddgaaGreatDoorU9
import Derived.Maps.OwnOps
import Derived.StillTailTactics
namespace Go.Proofs.YtajbchecjbddgaaGreatDoor
open Go.RowKit
namespace P20
open P7

/-- The view, and one more block that stays. -/
structure VwO (W : World) (bv bm : Nat) (vr vs vw : Value) (r : Nat) (o : Obj) : Prop where
  vb : VwB W bv bm vr vs vw
  rb : W.heap[r]? = some o
section
variable {W W' : World} {bv bm : Nat} {vr vs vw : Value} {r : Nat} {o : Obj}
theorem VwO.next (h : VwO W bv bm vr vs vw r o) (hb : Below W.heap.size W W') : VwO W' bv bm vr vs vw r o := ⟨h.vb.next hb, blk_next h.rb hb⟩
theorem VwO.lt (h : VwO W bv bm vr vs vw r o) : bv < W.heap.size := h.vb.lt
theorem VwO.c0 (h : VwO W bv bm vr vs vw r o) : W.cell? ⟨bv, 0, none⟩ = some vr := h.vb.c0
theorem VwO.c1 (h : VwO W bv bm vr vs vw r o) : W.cell? ⟨bv, 1, none⟩ = some vs := h.vb.c1
theorem VwO.c3 (h : VwO W bv bm vr vs vw r o) : W.cell? ⟨bv, 3, none⟩ = some (.map (some bm)) := h.vb.c3
end
/-- The map of the scopes ahead of a place. -/
def MapT (W : World) (b m : Nat) (s : Sh) : Prop := W.ownsMap Tryz.prog 55 (plainElem Tryz.prog 3) b m (mapD s.sc m)
theorem MapT.next {W W' : World} {b m : Nat} {s : Sh} (h : MapT W b m s) (hb : Below W.heap.size W W') : MapT W' b m s := by
  have hl := World.ownsMap.lt h
  obtain ⟨es, clock, h1, h2⟩ := h
  exact ⟨es, clock, (hb.block b hl).trans h1, h2⟩
theorem MapT.all {W : World} {b : Nat} {s : Sh} (h : MapT W b s.sc.length s) : MapS W b s := ⟨_, h⟩
/-- What scopes leaves. -/
def ScoPost (w0 : World) (bv bm : Nat) (vr vs vw : Value) (s : Sh) (r : Nat) (o : Obj) (e : Ending) (w' : World) : Prop :=
  Below w0.heap.size w0 w' ∧ ((scOk s ∧ e = .returned (.int .i64 0) ∧ MapS w' bm s ∧ VwO w' bv bm vr vs vw r o) ∨ (¬ scOk s ∧ e = .returned (.int .i64 15)))
set_option maxRecDepth 100000 in
set_option maxHeartbeats 8000000 in
theorem scopes_any {w0 w : World} {bv bm r : Nat} {o : Obj} {vr vs vw : Value} {s : Sh} (hS : Shm w0 vr vs vw s) (hB0 : Below w0.heap.size w0 w) (hVB : VwO w bv bm vr vs vw r o) (hM : MapT w bm 0 s) (hf : FewS s) (hl0 : 0 < s.l.length) (hbm : w0.heap.size ≤ bm) (hbv : bv ≠ bm) (hrm : r ≠ bm) :
    Calls Tryz.prog 29 #[.pointer (some ⟨bv, 0, none⟩)] w (ScoPost w0 bv bm vr vs vw s r o) := by
  have HS := Lib.hid hS
  have HFW := Lib.hid hf
  have h60 := hf.sc
  have hl40 := hf.l
  obtain ⟨Ar, cr, hvr, hncr, hAr⟩ := rows_open hS.rows.sl
  obtain ⟨A, c, hvs, hnc, hA⟩ := scs_open hS.scs
  have HA := Lib.hid hA
  have HAR := Lib.hid hAr
  have HWF := Lib.hid hS.scf
  have HVB := Lib.hid hVB
  have hvb := hVB
  rw [hvr, hvs] at hvb
  obtain ⟨n, hn⟩ := name_of s.sc.length
  obtain ⟨nr, hnr⟩ := name_of s.l.length
  have HN := Lib.hid hn
  have HNR := Lib.hid hnr
  have HVR := Lib.hid hvr
  have HVS := Lib.hid hvs
  rw [hn] at hnc hvb h60
  rw [hnr] at hncr hl40 hl0 hvb
  have q0 := hvb.c0
  have q1 := hvb.c1
  have HM := Lib.hid hM
  have HBB := Lib.hid hB0
  clear hA hAr hS hf hvr hvs hVB hvb hn hnr hM hB0
  go_enter Tryz.func29, Tryz.ntmps29
  go_wp2_with fail
  go_loopw [15] (fun x wr => ∃ j : Nat, j ≤ n ∧ x = .int .i64 j ∧ Hid (toldTo s j) ∧ Hid (MapT wr bm j s) ∧ Hid (VwO wr bv bm vr vs vw r o) ∧ Below w0.heap.size w0 wr) (fun x _ => n - (intOf x).toNat)
  case atStart => exact ⟨0, Nat.zero_le _, rfl, Lib.hid (fun m hm => by omega), HM, HVB, HBB.out⟩
  case round =>
    clear HM HVB HBB q0 q1
    obtain ⟨j, hj, rfl, HTO, HM, HVB, hB⟩ := hrel
    by_cases hlt : j < n
    · obtain ⟨g, off, rfl, hg, c0, c1, c2, c3, c4, c5⟩ := HA.out j (by rw [HN.out]; exact hlt)
      have hwf := sA_wf HWF.out (i := j) (by rw [HN.out]; exact hlt)
      have hT := fun W hW b hb => told_any ((HS.out.next hB).next (w' := W) hW) (HVB.out.next hW).vb (by rw [HN.out]; omega) j (by rw [HN.out]; exact hlt) HTO.out b hb
      have HBADV : Hid (¬ 0 ≤ (sA s.sc j).v → ¬ scOk s) := Lib.hid (fun h hs => h (hs.1 j (by rw [HN.out]; exact hlt)).2)
      have HBADT : Hid (¬ told s j → ¬ scOk s) := Lib.hid (fun h hs => h (hs.1 j (by rw [HN.out]; exact hlt)).1)
      have HSN : Hid (told s j → 0 ≤ (sA s.sc j).v → toldTo s (j + 1)) := Lib.hid (fun h1 h2 => HTO.out.snoc h1 h2)
      have HMD : Hid (mapD s.sc (j + 1) = (mapD s.sc j).put (plK (sA s.sc j).r (sA s.sc j).k) (.lit (.int .i64 j))) := Lib.hid rfl
      obtain ⟨⟨xr, xk, xn, xa, xc, xv⟩, hx⟩ := name_of (sA s.sc j)
      rw [hx] at c0 c1 c2 c3 c4 c5 hwf HBADV HSN HMD
      dsimp only at c0 c1 c2 c3 c4 c5 HBADV HSN HMD
      have d0 := (hB.cell (p := ⟨g, _, none⟩) hg).trans c0
      have d1 := (hB.cell (p := ⟨g, _, none⟩) hg).trans c1
      have d2 := (hB.cell (p := ⟨g, _, none⟩) hg).trans c2
      have d3 := (hB.cell (p := ⟨g, _, none⟩) hg).trans c3
      have d4 := (hB.cell (p := ⟨g, _, none⟩) hg).trans c4
      have d5 := (hB.cell (p := ⟨g, _, none⟩) hg).trans c5
      have hb1 : Below wr.heap.size wr (wr.alloc (.cells #[.int .i64 xr, .int .i64 xk, .int .i64 xn, .bool xa, .bool xc, .int .i64 xv] 49)) := (Below.refl _ _).alloc (Nat.le_refl _) _
      have hT2 := hT _ hb1
      have hkr := plK_of hwf.r hwf.k
      have HKR := Lib.hid hkr
      clear c0 c1 c2 c3 c4 c5 hx hT hkr hwf
      by_cases ht : told s j
      · have hT3 := hT2 true (by simp [ht])
        have HT := Lib.hid ht
        clear hT2 ht
        by_cases hv : xv < 0
        · have f1 : decide (xv < 0) = true := decide_eq_true hv
          have HR := Lib.hid (HBADV.out (by omega))
          have HB1 := Lib.hid (hB.next hb1)
          clear hv hb1 hB
          go_wp2_with ((with_reducible (show wpList _ _ _ (Oper.mk _ (Op.store _ _ _) _ _ _ _ :: _) _ _)); refine wpList_store_new rfl 49 49 (.tmp 4) (.tmp 19) rfl _ _ wr.heap.size rfl rfl rfl (by kernel_rfl) rfl (by kernel_rfl) ?_)
          refine hT3.mono ?_
          rintro e w3 ⟨rfl, hb3⟩
          have hy : w3.cell? ⟨wr.heap.size, 5, none⟩ = some (.int .i64 xv) := by rw [cell_of_row _ _ _ _ _ _ (blk_next (heap_alloc_last wr (.cells #[.int .i64 xr, .int .i64 xk, .int .i64 xn, .bool xa, .bool xc, .int .i64 xv] 49)) hb3)]; rfl
          have HBE := Lib.hid (HB1.out.next hb3)
          clear hb3
          go_wp2_with fail
          go_ret
          exact ⟨HBE.out, .inr ⟨HR.out, rfl⟩⟩
        · have f1 : decide (xv < 0) = false := decide_eq_false hv
          have HTJ := Lib.hid (HSN.out HT.out (by omega))
          have HB1 := Lib.hid (hB.next hb1)
          have HM1 := Lib.hid (HM.out.next hb1)
          have HV1 := Lib.hid (HVB.out.next hb1)
          clear hv hb1 hB
          go_wp2_with ((with_reducible (show wpList _ _ _ (Oper.mk _ (Op.store _ _ _) _ _ _ _ :: _) _ _)); refine wpList_store_new rfl 49 49 (.tmp 4) (.tmp 19) rfl _ _ wr.heap.size rfl rfl rfl (by kernel_rfl) rfl (by kernel_rfl) ?_)
          refine hT3.mono ?_
          rintro e w3 ⟨rfl, hb3⟩
          have hblk3 := blk_next (heap_alloc_last wr (.cells #[.int .i64 xr, .int .i64 xk, .int .i64 xn, .bool xa, .bool xc, .int .i64 xv] 49)) hb3
          have hy0 : w3.cell? ⟨wr.heap.size, 0, none⟩ = some (.int .i64 xr) := by rw [cell_of_row _ _ _ _ _ _ hblk3]; rfl
          have hy1 : w3.cell? ⟨wr.heap.size, 1, none⟩ = some (.int .i64 xk) := by rw [cell_of_row _ _ _ _ _ _ hblk3]; rfl
          have hy5 : w3.cell? ⟨wr.heap.size, 5, none⟩ = some (.int .i64 xv) := by rw [cell_of_row _ _ _ _ _ _ hblk3]; rfl
          have HBE := Lib.hid (HB1.out.next hb3)
          have HME := Lib.hid (HM1.out.next hb3)
          have HVE := Lib.hid (HV1.out.next hb3)
          have q3 := HVE.out.c3
          clear hb3 hblk3 hT3 d0 d1 d2 d3 d4 d5
          go_wp2_with fail
          go_still_tail 10, (by kernel_rfl)
          change wpList _ _ _ _ _ w3.drew
          have hm4 := HME.out.next (below_drewU (w := w3))
          have hv4 := HVE.out.next (below_drewU (w := w3))
          have hb4 := HBE.out.next (below_drewU (w := w3))
          obtain ⟨w4, hw4⟩ := name_of w3.drew
          rw [hw4] at hm4 hv4 hb4 ⊢
          have HM4 := Lib.hid hm4
          have HV4 := Lib.hid hv4
          have HB4 := Lib.hid hb4
          clear hm4 hv4 hb4 hw4 hy0 hy1 hy5 q3
          go_wp2_with (at_mapUpdate; refine wpList_mapUpdate_own _ rfl _ _ _ 51 rfl 55 3 placeLaw Tryz.underlying51 _ bm j _ rfl HM4.out (by unfold maxLen; omega) _ _ _ rfl rfl HKR.out _ [] (plainElem_int Tryz.underlying3 (wf_i64 ⟨by omega, by omega⟩)) ?_; intro w5 hown5 hgrow5)
          have hm5 : MapT w5 bm (j + 1) s := by
            unfold MapT
            rw [HMD.out]
            exact hown5
          have hv5 : VwO w5 bv bm vr vs vw r o := ⟨(hgrow5.block bv HV4.out.lt (fun e => hbv (by injection e))).trans HV4.out.vb, (hgrow5.block r (lt_of_block HV4.out.rb) (fun e => hrm (by injection e))).trans HV4.out.rb⟩
          have hb5 : Below w0.heap.size w0 w5 := HB4.out.grown hgrow5 HB4.out.size (fun k e => by injection e with e; omega)
          exact ⟨⟨j + 1, by omega, by go_num, HTJ, Lib.hid hm5, Lib.hid hv5, hb5⟩, by simp [intOf]; omega⟩
      · have hT3 := hT2 false (by simp [ht])
        have HR := Lib.hid (HBADT.out ht)
        have HB1 := Lib.hid (hB.next hb1)
        clear hT2 ht hb1 hB
        go_wp2_with ((with_reducible (show wpList _ _ _ (Oper.mk _ (Op.store _ _ _) _ _ _ _ :: _) _ _)); refine wpList_store_new rfl 49 49 (.tmp 4) (.tmp 19) rfl _ _ wr.heap.size rfl rfl rfl (by kernel_rfl) rfl (by kernel_rfl) ?_)
        refine hT3.mono ?_
        rintro e w3 ⟨rfl, hb3⟩
        have HBE := Lib.hid (HB1.out.next hb3)
        clear hb3
        go_wp2_with fail
        go_ret
        exact ⟨HBE.out, .inr ⟨HR.out, rfl⟩⟩
    · obtain rfl : j = n := by omega
      have HMA : Hid (MapS wr bm s) := Lib.hid (by
        have h := HM.out
        rw [← HN.out] at h
        exact h.all)
      have HTA : Hid (toldTo s s.sc.length) := Lib.hid (by rw [HN.out]; exact HTO.out)
      have hvb := HVB.out
      rw [HVR.out, HVS.out, HN.out, HNR.out] at hvb
      have q0 := hvb.c0
      clear hvb HM HTO
      go_wp2_with fail
      go_loopw [46] (fun x wr => ∃ i : Nat, i ≤ nr ∧ x = .int .i64 i ∧ Hid (∀ m, m < i → ofN s m ≠ none) ∧ Hid (MapS wr bm s) ∧ Hid (VwO wr bv bm vr vs vw r o) ∧ Below w0.heap.size w0 wr) (fun x _ => nr - (intOf x).toNat)
      case atStart => exact ⟨0, Nat.zero_le _, rfl, Lib.hid (fun m hm => by omega), HMA, HVB, hB⟩
      case round =>
        clear HMA HVB hB q0
        obtain ⟨i, hi, rfl, hno, HM, HVB, hB⟩ := hrel
        by_cases hlt2 : i < nr
        · obtain ⟨g, off, rfl, hg, c0, c1, c2, c3, c4, c5, c6⟩ := HAR.out i (by rw [HNR.out]; exact hlt2)
          have hwf := HS.out.rows.wfAt (k := i) (by rw [HNR.out]; exact hlt2)
          have HO : Hid (ofN s i = fnd s.sc (at_ s.l i).p (at_ s.l i).i) := Lib.hid rfl
          obtain ⟨⟨rp, ri, rf, rk, rv, rs, rc⟩, hr⟩ := name_of (at_ s.l i)
          rw [hr] at c0 c1 c2 c3 c4 c5 c6 hwf HO
          dsimp only at c0 c1 c2 c3 c4 c5 c6 HO
          have d0 := (hB.cell (p := ⟨g, _, none⟩) hg).trans c0
          have d1 := (hB.cell (p := ⟨g, _, none⟩) hg).trans c1
          have d2 := (hB.cell (p := ⟨g, _, none⟩) hg).trans c2
          have d3 := (hB.cell (p := ⟨g, _, none⟩) hg).trans c3
          have d4 := (hB.cell (p := ⟨g, _, none⟩) hg).trans c4
          have d5 := (hB.cell (p := ⟨g, _, none⟩) hg).trans c5
          have d6 := (hB.cell (p := ⟨g, _, none⟩) hg).trans c6
          have hb1 : Below wr.heap.size wr (wr.alloc (.cells #[.int .i64 rp, .int .i64 ri, .int .i64 rf, .int .i64 rk, .int .i64 rv, .int .i64 rs, .string rc] 69)) := (Below.refl _ _).alloc (Nat.le_refl _) _
          have hblk := heap_alloc_last wr (.cells #[.int .i64 rp, .int .i64 ri, .int .i64 rf, .int .i64 rk, .int .i64 rv, .int .i64 rs, .string rc] 69)
          have hL : ∀ N, (Instr.lookup 51 (.map (some bm)) (.agg #[.int .i64 rp, .int .i64 ri]) true).run Tryz.prog ((wr.alloc (.cells #[.int .i64 rp, .int .i64 ri, .int .i64 rf, .int .i64 rk, .int .i64 rv, .int .i64 rs, .string rc] 69)).drewN N) = .ok (.tuple #[.int .i64 (((fnd s.sc rp ri).getD 0 : Nat) : Int), .bool (fnd s.sc rp ri).isSome]) ((wr.alloc (.cells #[.int .i64 rp, .int .i64 ri, .int .i64 rf, .int .i64 rk, .int .i64 rv, .int .i64 rs, .string rc] 69)).drewN N) := fun N =>
            (((HM.out.next hb1).next (below_drewN N)).look HTA.out HWF.out hwf.p hwf.i).2
          have HB1 := Lib.hid (hB.next hb1)
          have HM1 := Lib.hid (HM.out.next hb1)
          have HV1 := Lib.hid (HVB.out.next hb1)
          clear c0 c1 c2 c3 c4 c5 c6 hr hb1 hB hwf HM HVB
          go_wp2_with ((with_reducible (show wpList _ _ _ (Oper.mk _ (Op.store _ _ _) _ _ _ _ :: _) _ _)); refine wpList_store_new rfl 69 69 (.tmp 6) (.tmp 49) rfl _ _ wr.heap.size rfl rfl rfl (by kernel_rfl) rfl rfl ?_)
          obtain ⟨K, hK⟩ := name_of (((fnd s.sc rp ri).getD 0 : Nat) : Int)
          obtain ⟨T, hT⟩ := name_of (fnd s.sc rp ri).isSome
          rw [hK, hT] at hL
          have HT := Lib.hid hT
          have q3 := HV1.out.c3
          have y0 : (wr.alloc (.cells #[.int .i64 rp, .int .i64 ri, .int .i64 rf, .int .i64 rk, .int .i64 rv, .int .i64 rs, .string rc] 69)).cell? ⟨wr.heap.size, 0, none⟩ = some (.int .i64 rp) := by rw [cell_of_row _ _ _ _ _ _ hblk]; rfl
          have y1 : (wr.alloc (.cells #[.int .i64 rp, .int .i64 ri, .int .i64 rf, .int .i64 rk, .int .i64 rv, .int .i64 rs, .string rc] 69)).cell? ⟨wr.heap.size, 1, none⟩ = some (.int .i64 ri) := by rw [cell_of_row _ _ _ _ _ _ hblk]; rfl
          obtain ⟨V, hV⟩ := name_of (wr.alloc (.cells #[.int .i64 rp, .int .i64 ri, .int .i64 rf, .int .i64 rk, .int .i64 rv, .int .i64 rs, .string rc] 69))
          rw [hV] at hL HB1 HM1 HV1 q3 y0 y1 ⊢
          clear hK hT hV hblk d0 d1 d2 d3 d4 d5 d6
          cases T with
          | false =>
            have HR : Hid (¬ scOk s) := Lib.hid (fun hs => hs.2 i (by rw [HNR.out]; exact hlt2) (by
              rw [HO.out]
              cases h : fnd s.sc rp ri with
              | none => rfl
              | some k => have := HT.out; rw [h] at this; cases this))
            go_quiet (fail)
            go_wp2_with fail
            go_ret
            exact ⟨HB1.out.next (below_drewN _), .inr ⟨HR.out, rfl⟩⟩
          | true =>
            have HR : Hid (∀ m, m < i + 1 → ofN s m ≠ none) := Lib.hid fun m hm => by
              by_cases e : m = i
              · rw [e, HO.out]
                intro h
                have := HT.out
                rw [h] at this
                cases this
              · exact hno.out m (by omega)
            go_quiet (fail)
            go_wp2_with fail
            exact ⟨⟨i + 1, by omega, by go_num, HR, Lib.hid (HM1.out.next (below_drewN _)), Lib.hid (HV1.out.next (below_drewN _)), HB1.out.next (below_drewN _)⟩, by simp [intOf]; omega⟩
        · obtain rfl : i = nr := by omega
          have HR : Hid (scOk s) := Lib.hid ⟨HTA.out, by rw [HNR.out]; exact hno.out⟩
          go_wp2_with fail
          go_ret
          exact ⟨hB, .inl ⟨HR.out, rfl, HM.out, HVB.out⟩⟩
end P20
end Go.Proofs.YtajbchecjbddgaaGreatDoor
