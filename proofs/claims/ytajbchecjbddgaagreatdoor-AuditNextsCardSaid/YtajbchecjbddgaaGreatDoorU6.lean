/- Audit: the reference's scopes. -/
import Derived.Test.YtajbchecjbddgaaGreatDoorU5
import Derived.Deep.DeepCutAuto
namespace Go.Proofs.YtajbchecjbddgaaGreatDoor
open Go.RowKit
namespace P20
open P7

theorem not_told {s : Sh} {m j : Nat} (hj : j < m) (h : ¬ told s j) : ¬ toldTo s m := fun h2 => h (h2 j hj).1
theorem toldTo.snoc {s : Sh} {m : Nat} (h : toldTo s m) (h1 : told s m) (h2 : 0 ≤ (sA s.sc m).v) : toldTo s (m + 1) := fun i hi => by
  by_cases e : i = m
  · rw [e]; exact ⟨h1, h2⟩
  · exact h i (by omega)
set_option maxRecDepth 100000 in
set_option maxHeartbeats 8000000 in
theorem refScopes_any {w : World} {vr vs vw : Value} {s : Sh} (h : Shm w vr vs vw s) (hlen : s.sc.length ≤ 1000) (hll : s.l.length ≤ 1000) (hl0 : 0 < s.l.length) (b : Bool) (hb : b = true ↔ scOk s) :
    Calls Tryz.prog 40 #[.agg #[vr, vs, vw]] w fun e w' => e = .returned (.bool b) ∧ Below w.heap.size w w' := by
  have HO := Lib.hid (refOf_next h hlen)
  have HWF := Lib.hid h.scf
  obtain ⟨A, c, rfl, hnc, hA⟩ := scs_open h.scs
  obtain ⟨Ar, cr, rfl, hncr, -⟩ := rows_open h.rows.sl
  obtain ⟨Aw, cw, rfl, -⟩ := h.wks.open_
  have HA := Lib.hid hA
  have HB := Lib.hid hb
  obtain ⟨n, hn⟩ := name_of s.sc.length
  obtain ⟨nr, hnr⟩ := name_of s.l.length
  obtain ⟨nw, hnw⟩ := name_of s.ws.length
  have HN := Lib.hid hn
  have HNR := Lib.hid hnr
  rw [hn, hnr, hnw] at HO
  rw [hn] at hnc hlen
  rw [hnr] at hl0 hll
  rw [hn, hnr, hnw]
  have hfalse : ¬ scOk s → Hid (b = false) := fun h => Lib.hid (by
    cases b with
    | false => rfl
    | true => exact absurd (HB.out.1 rfl) h)
  have HF := Lib.hid hfalse
  clear hA h hn hnr hnw hb hfalse
  have hB0 : Below w.heap.size w (w.alloc (.cells #[.slice Ar nr cr, .slice A n c, .slice Aw nw cw] 26)) := by go_grown
  have hG0 := heap_alloc_last w (.cells #[.slice Ar nr cr, .slice A n c, .slice Aw nw cw] 26)
  by_cases h0 : n = 0
  · have e0 : ((n : Int) == 0) = true := by rw [beq_iff_eq]; omega
    have HR := HF.out (fun hs => by
      refine hs.2 0 (by rw [HNR.out]; exact hl0) (fnd_none.2 fun m hm => ?_)
      rw [HN.out] at hm
      omega)
    clear h0 hG0
    go_enter Tryz.func40, Tryz.ntmps40
    go_wp2_with fail
    go_ret
    exact ⟨ret_bool HR.out.symm, hB0⟩
  · have e0 : ((n : Int) == 0) = false := by rw [beq_eq_false_iff_ne]; omega
    obtain ⟨g, off, rfl, hg, HC⟩ : ∃ g off, A = some ⟨g, off, none⟩ ∧ g < w.heap.size ∧ ∀ j, j < n → ScAt w g (off + j * 6) (sA s.sc j) := by
      obtain ⟨g, off, e, hg, -⟩ := HA.out 0 (by rw [HN.out]; omega)
      refine ⟨g, off, e, hg, fun j hj => ?_⟩
      obtain ⟨g', off', e', -, h'⟩ := HA.out j (by rw [HN.out]; exact hj)
      rw [e] at e'
      injection e' with e'
      injection e' with e1 e2
      subst e1 e2
      exact h'
    have HC := Lib.hid HC
    obtain ⟨p0, p1, p2, -⟩ := HC.out 0 (by omega)
    have HT0 : Hid (told s 0 ↔ (sA s.sc 0).r = -1 ∧ (sA s.sc 0).k = 0 ∧ (sA s.sc 0).n = 0) := Lib.hid ⟨fun h => h.1 rfl, fun h => ⟨fun _ => h, fun h => absurd rfl h⟩⟩
    obtain ⟨⟨zr, zk, zn, za, zc, zv⟩, hz⟩ := name_of (sA s.sc 0)
    rw [hz] at p0 p1 p2 HT0
    dsimp only at p0 p1 p2 HT0
    have hnp : 0 < n := by omega
    clear hz h0
    have hx0 : (off + 0 * 6) = off := by omega
    rw [hx0] at p0 p1 p2
    clear hx0
    have hng : decide (0 < n) = true := decide_eq_true hnp
    by_cases h1 : zr = -1
    rotate_left
    · have e1 : (zr != -1) = true := bne_iff_ne.2 h1
      have HR := HF.out (fun hs => h1 (HT0.out.1 (hs.1 0 (by rw [HN.out]; exact hnp)).1).1)
      clear h1 hG0
      go_enter Tryz.func40, Tryz.ntmps40
      go_wp2_with fail
      go_ret
      exact ⟨ret_bool HR.out.symm, hB0⟩
    have e1 : (zr != -1) = false := bne_eq_false_iff_eq.2 h1
    by_cases h2 : zk = 0
    rotate_left
    · have e2 : (zk != 0) = true := bne_iff_ne.2 h2
      have HR := HF.out (fun hs => h2 (HT0.out.1 (hs.1 0 (by rw [HN.out]; exact hnp)).1).2.1)
      clear h1 h2 hG0
      go_enter Tryz.func40, Tryz.ntmps40
      go_wp2_with fail
      go_ret
      exact ⟨ret_bool HR.out.symm, hB0⟩
    have e2 : (zk != 0) = false := bne_eq_false_iff_eq.2 h2
    by_cases h3 : zn = 0
    rotate_left
    · have e3 : (zn != 0) = true := bne_iff_ne.2 h3
      have HR := HF.out (fun hs => h3 (HT0.out.1 (hs.1 0 (by rw [HN.out]; exact hnp)).1).2.2)
      clear h1 h2 h3 hG0
      go_enter Tryz.func40, Tryz.ntmps40
      go_wp2_with fail
      go_ret
      exact ⟨ret_bool HR.out.symm, hB0⟩
    have e3 : (zn != 0) = false := bne_eq_false_iff_eq.2 h3
    have HT : Hid (told s 0) := Lib.hid (HT0.out.2 ⟨h1, h2, h3⟩)
    clear h1 h2 h3 HT0
    go_enter Tryz.func40, Tryz.ntmps40
    go_wp2_with fail
    go_loopw [3] (fun x wr => ∃ j : Nat, j ≤ n ∧ x = .int .i64 j ∧ Hid (toldTo s j) ∧ Below w.heap.size w wr ∧ Hid (wr.heap[w.heap.size]? = some (.cells #[.slice Ar nr cr, .slice (some ⟨g, off, none⟩) n c, .slice Aw nw cw] 26 (0, 0)))) (fun x _ => n - (intOf x).toNat)
    case atStart => exact ⟨0, Nat.zero_le _, rfl, Lib.hid (fun m hm => by omega), hB0, Lib.hid hG0⟩
    case round =>
      clear hB0 hG0 p0 p1 p2 e0 e1 e2 e3 hng
      obtain ⟨j, hj, rfl, hto, hB, hblk⟩ := hrel
      have q0 : wr.cell? ⟨w.heap.size, 0, none⟩ = some (.slice Ar nr cr) := by rw [cell_of_row _ _ _ _ _ _ hblk.out]; rfl
      have q1 : wr.cell? ⟨w.heap.size, 1, none⟩ = some (.slice (some ⟨g, off, none⟩) n c) := by rw [cell_of_row _ _ _ _ _ _ hblk.out]; rfl
      have q2 : wr.cell? ⟨w.heap.size, 2, none⟩ = some (.slice Aw nw cw) := by rw [cell_of_row _ _ _ _ _ _ hblk.out]; rfl
      have hws : w.heap.size < wr.heap.size := lt_of_block hblk.out
      by_cases hlt : j < n
      · obtain ⟨c0, c1, c2, c3, c4, c5⟩ := HC.out j hlt
        have HWX := HWF.out (sA s.sc j) (by rw [sA_eq (by rw [HN.out]; exact hlt)]; exact List.getElem_mem _)
        have hkw := HWX.k
        unfold i64R at hkw
        have HTJ : Hid (told s j ↔ j = 0 ∨ (0 ≤ (sA s.sc j).r ∧ (sA s.sc j).r < nr ∧ (((sA s.sc j).r = (sA s.sc (j - 1)).r ∧ (sA s.sc j).k = (sA s.sc (j - 1)).k + 1 ∧ 0 ≤ (sA s.sc j).n ∧ (sA s.sc j).n < (sA s.sc j).k) ∨ ((sA s.sc (j - 1)).r < (sA s.sc j).r ∧ (sA s.sc j).k = 0 ∧ (sA s.sc j).n = 0)))) := Lib.hid (by
          by_cases e : j = 0
          · subst e; exact ⟨fun _ => .inl rfl, fun _ => HT.out⟩
          · constructor
            · intro h; have := h.2 e; rw [HNR.out] at this; exact .inr this
            · rintro (h | h)
              · exact absurd h e
              · exact ⟨fun h' => absurd h' e, fun _ => by rw [HNR.out]; exact h⟩)
        have HVJ : Hid (toldTo s s.sc.length → 0 ≤ (sA s.sc j).v) := Lib.hid (fun h => (h j (by rw [HN.out]; exact hlt)).2)
        have HSN : Hid (told s j → 0 ≤ (sA s.sc j).v → toldTo s (j + 1)) := Lib.hid (fun h1 h2 => hto.out.snoc h1 h2)
        obtain ⟨⟨xr, xk, xn, xa, xc, xv⟩, hx⟩ := name_of (sA s.sc j)
        rw [hx] at c0 c1 c2 c3 c4 c5 HTJ HVJ HSN hkw
        dsimp only at c0 c1 c2 c3 c4 c5 HTJ HVJ HSN hkw
        have d0 := (hB.cell (p := ⟨g, _, none⟩) hg).trans c0
        have d1 := (hB.cell (p := ⟨g, _, none⟩) hg).trans c1
        have d2 := (hB.cell (p := ⟨g, _, none⟩) hg).trans c2
        have d3 := (hB.cell (p := ⟨g, _, none⟩) hg).trans c3
        have d4 := (hB.cell (p := ⟨g, _, none⟩) hg).trans c4
        have d5 := (hB.cell (p := ⟨g, _, none⟩) hg).trans c5
        have hgw : g < wr.heap.size := by omega
        clear c0 c1 c2 c3 c4 c5 HWX hx
        have hbx : Below w.heap.size w (wr.alloc (.cells #[.int .i64 xr, .int .i64 xk, .int .i64 xn, .bool xa, .bool xc, .int .i64 xv] 49)) := hB.next ((Below.refl wr.heap.size wr).alloc (Nat.le_refl _) _)
        have hgx : (wr.alloc (.cells #[.int .i64 xr, .int .i64 xk, .int .i64 xn, .bool xa, .bool xc, .int .i64 xv] 49)).heap[w.heap.size]? = some (.cells #[.slice Ar nr cr, .slice (some ⟨g, off, none⟩) n c, .slice Aw nw cw] 26 (0, 0)) := blk_next hblk.out ((Below.refl wr.heap.size wr).alloc (Nat.le_refl _) _)
        by_cases hv : xv < 0
        · have f0 : decide (xv < 0) = true := decide_eq_true hv
          have HR := HF.out (fun hs => by have := HVJ.out hs.1; omega)
          clear hv hgx
          go_wp2_with ((with_reducible (show wpList _ _ _ (Oper.mk _ (Op.store _ _ _) _ _ _ _ :: _) _ _)); refine wpList_store_new rfl 49 49 (.tmp 4) (.tmp 48) rfl _ _ wr.heap.size rfl rfl rfl (by kernel_rfl) rfl (by kernel_rfl) ?_)
          go_ret
          exact ⟨ret_bool HR.out.symm, hbx⟩
        · have f0 : decide (xv < 0) = false := decide_eq_false hv
          have hv0 : 0 ≤ xv := by omega
          by_cases hj0 : j = 0
          · have f1 : decide (0 < j) = false := decide_eq_false (by omega)
            have f1' : decide (0 < (j : Int)) = false := decide_eq_false (by omega)
            have HR : Hid (toldTo s (j + 1)) := Lib.hid (HSN.out (HTJ.out.2 (.inl hj0)) hv0)
            have HGX := Lib.hid hgx
            clear hj0 hv hgx
            go_wp2_with ((with_reducible (show wpList _ _ _ (Oper.mk _ (Op.store _ _ _) _ _ _ _ :: _) _ _)); refine wpList_store_new rfl 49 49 (.tmp 4) (.tmp 48) rfl _ _ wr.heap.size rfl rfl rfl (by kernel_rfl) rfl (by kernel_rfl) ?_)
            exact ⟨⟨j + 1, by omega, by go_num, HR, hbx, HGX⟩, by simp [intOf]; omega⟩
          · have f1 : decide (0 < j) = true := decide_eq_true (by omega)
            have f1' : decide (0 < (j : Int)) = true := decide_eq_true (by omega)
            have hw1 : IntKind.i64.wrap ((j : Int) - 1) = ((j - 1 : Nat) : Int) := (IntWalk.i64_in _ (by omega)).trans (by omega)
            obtain ⟨i, rfl⟩ : ∃ i, j = i + 1 := ⟨j - 1, by omega⟩
            rw [Nat.add_sub_cancel] at HTJ hw1
            obtain ⟨c0, c1, c2, c3, c4, c5⟩ := HC.out i (by omega)
            have hyk := hto.out.k_bd i (by omega)
            obtain ⟨⟨yr, yk, yn, ya, yc, yv⟩, hy⟩ := name_of (sA s.sc i)
            rw [hy] at c0 c1 c2 c3 c4 c5 HTJ hyk
            dsimp only at c0 c1 c2 c3 c4 c5 HTJ hyk
            have b0 := (hB.cell (p := ⟨g, _, none⟩) hg).trans c0
            have b1 := (hB.cell (p := ⟨g, _, none⟩) hg).trans c1
            have b2 := (hB.cell (p := ⟨g, _, none⟩) hg).trans c2
            have b3 := (hB.cell (p := ⟨g, _, none⟩) hg).trans c3
            have b4 := (hB.cell (p := ⟨g, _, none⟩) hg).trans c4
            have b5 := (hB.cell (p := ⟨g, _, none⟩) hg).trans c5
            have hin : i < n := by omega
            clear c0 c1 c2 c3 c4 c5 hy hv hj0
            have hby : Below w.heap.size w ((wr.alloc (.cells #[.int .i64 xr, .int .i64 xk, .int .i64 xn, .bool xa, .bool xc, .int .i64 xv] 49)).alloc (.cells #[.int .i64 yr, .int .i64 yk, .int .i64 yn, .bool ya, .bool yc, .int .i64 yv] 49)) := hbx.next ((Below.refl _ _).alloc (Nat.le_refl _) _)
            have hgy : ((wr.alloc (.cells #[.int .i64 xr, .int .i64 xk, .int .i64 xn, .bool xa, .bool xc, .int .i64 xv] 49)).alloc (.cells #[.int .i64 yr, .int .i64 yk, .int .i64 yn, .bool ya, .bool yc, .int .i64 yv] 49)).heap[w.heap.size]? = some (.cells #[.slice Ar nr cr, .slice (some ⟨g, off, none⟩) n c, .slice Aw nw cw] 26 (0, 0)) := blk_next hgx ((Below.refl _ _).alloc (Nat.le_refl _) _)
            have HGY := Lib.hid hgy
            have hbad : ¬ (0 ≤ xr ∧ xr < nr ∧ ((xr = yr ∧ xk = yk + 1 ∧ 0 ≤ xn ∧ xn < xk) ∨ (yr < xr ∧ xk = 0 ∧ xn = 0))) → Hid (b = false) := fun hno => HF.out fun hs => hno (by
              rcases HTJ.out.1 (hs.1 (i + 1) (by rw [HN.out]; exact hlt)).1 with h | h
              · omega
              · exact h)
            have HBAD := Lib.hid hbad
            have hgood : (0 ≤ xr ∧ xr < nr ∧ ((xr = yr ∧ xk = yk + 1 ∧ 0 ≤ xn ∧ xn < xk) ∨ (yr < xr ∧ xk = 0 ∧ xn = 0))) → Hid (toldTo s (i + 1 + 1)) := fun h => Lib.hid (HSN.out (HTJ.out.2 (.inr h)) hv0)
            have HGOOD := Lib.hid hgood
            clear hgx hgy hbad hgood hv0
            by_cases g1 : xr < 0
            · skip
              have f2 : decide (xr < 0) = true := decide_eq_true g1
              have HR := HBAD.out (by omega)
              clear g1
              go_wp2_with (first | ((with_reducible (show wpList _ _ _ (Oper.mk _ (Op.store _ _ _) _ _ _ _ :: _) _ _)); refine wpList_store_new rfl 49 49 (.tmp 4) (.tmp 48) rfl _ _ wr.heap.size rfl rfl rfl (by kernel_rfl) rfl (by kernel_rfl) ?_) | ((with_reducible (show wpList _ _ _ (Oper.mk _ (Op.store _ _ _) _ _ _ _ :: _) _ _)); refine wpList_store_new rfl 49 49 (.tmp 5) (.tmp 59) rfl _ _ (wr.heap.size + 1) (by simp) rfl rfl (by kernel_rfl) rfl (by kernel_rfl) ?_))
              go_ret
              exact ⟨ret_bool HR.out.symm, hby⟩
            have f2 : decide (xr < 0) = false := decide_eq_false g1
            by_cases g2 : (nr : Int) ≤ xr
            · skip
              have f3 : decide ((nr : Int) ≤ xr) = true := decide_eq_true g2
              have HR := HBAD.out (by omega)
              clear g1 g2
              go_wp2_with (first | ((with_reducible (show wpList _ _ _ (Oper.mk _ (Op.store _ _ _) _ _ _ _ :: _) _ _)); refine wpList_store_new rfl 49 49 (.tmp 4) (.tmp 48) rfl _ _ wr.heap.size rfl rfl rfl (by kernel_rfl) rfl (by kernel_rfl) ?_) | ((with_reducible (show wpList _ _ _ (Oper.mk _ (Op.store _ _ _) _ _ _ _ :: _) _ _)); refine wpList_store_new rfl 49 49 (.tmp 5) (.tmp 59) rfl _ _ (wr.heap.size + 1) (by simp) rfl rfl (by kernel_rfl) rfl (by kernel_rfl) ?_))
              go_ret
              exact ⟨ret_bool HR.out.symm, hby⟩
            have f3 : decide ((nr : Int) ≤ xr) = false := decide_eq_false g2
            go_upto_region 13 with (first | ((with_reducible (show wpList _ _ _ (Oper.mk _ (Op.store _ _ _) _ _ _ _ :: _) _ _)); refine wpList_store_new rfl 49 49 (.tmp 4) (.tmp 48) rfl _ _ wr.heap.size rfl rfl rfl (by kernel_rfl) rfl (by kernel_rfl) ?_) | ((with_reducible (show wpList _ _ _ (Oper.mk _ (Op.store _ _ _) _ _ _ _ :: _) _ _)); refine wpList_store_new rfl 49 49 (.tmp 5) (.tmp 59) rfl _ _ (wr.heap.size + 1) (by simp) rfl rfl (by kernel_rfl) rfl (by kernel_rfl) ?_))
            have HBYH := Lib.hid hby
            clear d0 d1 d2 d3 d4 d5 b0 b1 b2 b3 b4 b5 q0 q1 q2 f0 f1 f1' f2 f3
            by_cases g3 : yr < xr
            · have f4 : decide (yr < xr) = true := decide_eq_true g3
              have f5 : (yr == xr) = false := by rw [beq_eq_false_iff_ne]; omega
              by_cases g4 : xk = 0
              · have f6 : (xk == 0) = true := by simpa using g4
                by_cases g5 : xn = 0
                · have f7 : (xn == 0) = true := by simpa using g5
                  have HR := HGOOD.out (by omega)
                  clear g1 g2 g3 g4 g5
                  go_wp2_with (first | ((with_reducible (show wpList _ _ _ (Oper.mk _ (Op.store _ _ _) _ _ _ _ :: _) _ _)); refine wpList_store_new rfl 49 49 (.tmp 4) (.tmp 48) rfl _ _ wr.heap.size rfl rfl rfl (by kernel_rfl) rfl (by kernel_rfl) ?_) | ((with_reducible (show wpList _ _ _ (Oper.mk _ (Op.store _ _ _) _ _ _ _ :: _) _ _)); refine wpList_store_new rfl 49 49 (.tmp 5) (.tmp 59) rfl _ _ (wr.heap.size + 1) (by simp) rfl rfl (by kernel_rfl) rfl (by kernel_rfl) ?_))
                  exact ⟨⟨i + 1 + 1, by omega, by go_num, HR, hby, HGY⟩, by simp [intOf]; omega⟩
                · have f7 : (xn == 0) = false := by simpa using g5
                  have HR := HBAD.out (by omega)
                  clear g1 g2 g3 g4 g5
                  go_wp2_with (first | ((with_reducible (show wpList _ _ _ (Oper.mk _ (Op.store _ _ _) _ _ _ _ :: _) _ _)); refine wpList_store_new rfl 49 49 (.tmp 4) (.tmp 48) rfl _ _ wr.heap.size rfl rfl rfl (by kernel_rfl) rfl (by kernel_rfl) ?_) | ((with_reducible (show wpList _ _ _ (Oper.mk _ (Op.store _ _ _) _ _ _ _ :: _) _ _)); refine wpList_store_new rfl 49 49 (.tmp 5) (.tmp 59) rfl _ _ (wr.heap.size + 1) (by simp) rfl rfl (by kernel_rfl) rfl (by kernel_rfl) ?_))
                  go_ret
                  exact ⟨ret_bool HR.out.symm, hby⟩
              · have f6 : (xk == 0) = false := by simpa using g4
                have HR := HBAD.out (by omega)
                clear g1 g2 g3 g4
                go_wp2_with (first | ((with_reducible (show wpList _ _ _ (Oper.mk _ (Op.store _ _ _) _ _ _ _ :: _) _ _)); refine wpList_store_new rfl 49 49 (.tmp 4) (.tmp 48) rfl _ _ wr.heap.size rfl rfl rfl (by kernel_rfl) rfl (by kernel_rfl) ?_) | ((with_reducible (show wpList _ _ _ (Oper.mk _ (Op.store _ _ _) _ _ _ _ :: _) _ _)); refine wpList_store_new rfl 49 49 (.tmp 5) (.tmp 59) rfl _ _ (wr.heap.size + 1) (by simp) rfl rfl (by kernel_rfl) rfl (by kernel_rfl) ?_))
                go_ret
                exact ⟨ret_bool HR.out.symm, hby⟩
            · have f4 : decide (yr < xr) = false := decide_eq_false g3
              by_cases g4 : yr = xr
              · have f5 : (yr == xr) = true := by simpa using g4
                by_cases g5 : 1 ≤ xk
                · have f6 : decide (1 ≤ xk) = true := decide_eq_true g5
                  have hw2 : IntKind.i64.wrap (xk - 1) = xk - 1 := IntWalk.i64_in _ (by omega)
                  by_cases g6 : yk = xk - 1
                  · have f7 : (yk == xk - 1) = true := by simpa using g6
                    by_cases g7 : 0 ≤ xn
                    · have f8 : decide (0 ≤ xn) = true := decide_eq_true g7
                      by_cases g8 : xn < xk
                      · have f9 : decide (xn < xk) = true := decide_eq_true g8
                        have HR := HGOOD.out (by omega)
                        clear g1 g2 g3 g4 g6 g7 g8
                        go_wp2_with (first | ((with_reducible (show wpList _ _ _ (Oper.mk _ (Op.store _ _ _) _ _ _ _ :: _) _ _)); refine wpList_store_new rfl 49 49 (.tmp 4) (.tmp 48) rfl _ _ wr.heap.size rfl rfl rfl (by kernel_rfl) rfl (by kernel_rfl) ?_) | ((with_reducible (show wpList _ _ _ (Oper.mk _ (Op.store _ _ _) _ _ _ _ :: _) _ _)); refine wpList_store_new rfl 49 49 (.tmp 5) (.tmp 59) rfl _ _ (wr.heap.size + 1) (by simp) rfl rfl (by kernel_rfl) rfl (by kernel_rfl) ?_))
                        exact ⟨⟨i + 1 + 1, by omega, by go_num, HR, hby, HGY⟩, by simp [intOf]; omega⟩
                      · have f9 : decide (xn < xk) = false := decide_eq_false g8
                        have HR := HBAD.out (by omega)
                        clear g1 g2 g3 g4 g6 g7 g8
                        go_wp2_with (first | ((with_reducible (show wpList _ _ _ (Oper.mk _ (Op.store _ _ _) _ _ _ _ :: _) _ _)); refine wpList_store_new rfl 49 49 (.tmp 4) (.tmp 48) rfl _ _ wr.heap.size rfl rfl rfl (by kernel_rfl) rfl (by kernel_rfl) ?_) | ((with_reducible (show wpList _ _ _ (Oper.mk _ (Op.store _ _ _) _ _ _ _ :: _) _ _)); refine wpList_store_new rfl 49 49 (.tmp 5) (.tmp 59) rfl _ _ (wr.heap.size + 1) (by simp) rfl rfl (by kernel_rfl) rfl (by kernel_rfl) ?_))
                        go_ret
                        exact ⟨ret_bool HR.out.symm, hby⟩
                    · have f8 : decide (0 ≤ xn) = false := decide_eq_false g7
                      have HR := HBAD.out (by omega)
                      clear g1 g2 g3 g4 g6 g7
                      go_wp2_with (first | ((with_reducible (show wpList _ _ _ (Oper.mk _ (Op.store _ _ _) _ _ _ _ :: _) _ _)); refine wpList_store_new rfl 49 49 (.tmp 4) (.tmp 48) rfl _ _ wr.heap.size rfl rfl rfl (by kernel_rfl) rfl (by kernel_rfl) ?_) | ((with_reducible (show wpList _ _ _ (Oper.mk _ (Op.store _ _ _) _ _ _ _ :: _) _ _)); refine wpList_store_new rfl 49 49 (.tmp 5) (.tmp 59) rfl _ _ (wr.heap.size + 1) (by simp) rfl rfl (by kernel_rfl) rfl (by kernel_rfl) ?_))
                      go_ret
                      exact ⟨ret_bool HR.out.symm, hby⟩
                  · have f7 : (yk == xk - 1) = false := by simpa using g6
                    have HR := HBAD.out (by omega)
                    clear g1 g2 g3 g4 g6
                    go_wp2_with (first | ((with_reducible (show wpList _ _ _ (Oper.mk _ (Op.store _ _ _) _ _ _ _ :: _) _ _)); refine wpList_store_new rfl 49 49 (.tmp 4) (.tmp 48) rfl _ _ wr.heap.size rfl rfl rfl (by kernel_rfl) rfl (by kernel_rfl) ?_) | ((with_reducible (show wpList _ _ _ (Oper.mk _ (Op.store _ _ _) _ _ _ _ :: _) _ _)); refine wpList_store_new rfl 49 49 (.tmp 5) (.tmp 59) rfl _ _ (wr.heap.size + 1) (by simp) rfl rfl (by kernel_rfl) rfl (by kernel_rfl) ?_))
                    go_ret
                    exact ⟨ret_bool HR.out.symm, hby⟩
                · have f6 : decide (1 ≤ xk) = false := decide_eq_false g5
                  have HR := HBAD.out (by omega)
                  clear g1 g2 g3 g4 g5
                  go_wp2_with (first | ((with_reducible (show wpList _ _ _ (Oper.mk _ (Op.store _ _ _) _ _ _ _ :: _) _ _)); refine wpList_store_new rfl 49 49 (.tmp 4) (.tmp 48) rfl _ _ wr.heap.size rfl rfl rfl (by kernel_rfl) rfl (by kernel_rfl) ?_) | ((with_reducible (show wpList _ _ _ (Oper.mk _ (Op.store _ _ _) _ _ _ _ :: _) _ _)); refine wpList_store_new rfl 49 49 (.tmp 5) (.tmp 59) rfl _ _ (wr.heap.size + 1) (by simp) rfl rfl (by kernel_rfl) rfl (by kernel_rfl) ?_))
                  go_ret
                  exact ⟨ret_bool HR.out.symm, hby⟩
              · have f5 : (yr == xr) = false := by simpa using g4
                have HR := HBAD.out (by omega)
                clear g1 g2 g3 g4
                go_wp2_with (first | ((with_reducible (show wpList _ _ _ (Oper.mk _ (Op.store _ _ _) _ _ _ _ :: _) _ _)); refine wpList_store_new rfl 49 49 (.tmp 4) (.tmp 48) rfl _ _ wr.heap.size rfl rfl rfl (by kernel_rfl) rfl (by kernel_rfl) ?_) | ((with_reducible (show wpList _ _ _ (Oper.mk _ (Op.store _ _ _) _ _ _ _ :: _) _ _)); refine wpList_store_new rfl 49 49 (.tmp 5) (.tmp 59) rfl _ _ (wr.heap.size + 1) (by simp) rfl rfl (by kernel_rfl) rfl (by kernel_rfl) ?_))
                go_ret
                exact ⟨ret_bool HR.out.symm, hby⟩
      · obtain rfl : j = n := by omega
        go_wp2_with fail
        go_loopw [8] (fun x wx => ∃ i : Nat, i ≤ nr ∧ x = .int .i64 i ∧ Hid (∀ m, m < i → ofN s m ≠ none) ∧ Below w.heap.size w wx ∧ Hid (wx.heap[w.heap.size]? = some (.cells #[.slice Ar nr cr, .slice (some ⟨g, off, none⟩) j c, .slice Aw nw cw] 26 (0, 0)))) (fun x _ => nr - (intOf x).toNat)
        case atStart => exact ⟨0, Nat.zero_le _, rfl, Lib.hid (fun m hm => by omega), hB, hblk⟩
        case round =>
          obtain ⟨i, hi, rfl, hno, hBx, hblkx⟩ := hrel
          have q0 : wr.cell? ⟨w.heap.size, 0, none⟩ = some (.slice Ar nr cr) := by rw [cell_of_row _ _ _ _ _ _ hblkx.out]; rfl
          have q1 : wr.cell? ⟨w.heap.size, 1, none⟩ = some (.slice (some ⟨g, off, none⟩) j c) := by rw [cell_of_row _ _ _ _ _ _ hblkx.out]; rfl
          have q2 : wr.cell? ⟨w.heap.size, 2, none⟩ = some (.slice Aw nw cw) := by rw [cell_of_row _ _ _ _ _ _ hblkx.out]; rfl
          by_cases hlt2 : i < nr
          · have hO := HO.out i hlt2 wr hBx
            cases hof : ofN s i with
            | none =>
              have HR := HF.out (fun hs => hs.2 i (by rw [HNR.out]; exact hlt2) hof)
              rw [hof] at hO
              simp only [inI] at hO
              clear hof
              go_wp2_with fail
              refine hO.mono ?_
              rintro e w3 ⟨rfl, hb3⟩
              go_wp2_with fail
              go_ret
              exact ⟨ret_bool HR.out.symm, hBx.next hb3⟩
            | some k =>
              have HR : Hid (∀ m, m < i + 1 → ofN s m ≠ none) := Lib.hid fun m hm => by
                by_cases e : m = i
                · rw [e, hof]; simp
                · exact hno.out m (by omega)
              rw [hof] at hO
              simp only [inI] at hO
              have e9 : decide ((k : Int) < 0) = false := decide_eq_false (by omega)
              clear hof
              go_wp2_with fail
              refine hO.mono ?_
              rintro e w3 ⟨rfl, hb3⟩
              go_wp2_with fail
              exact ⟨⟨i + 1, by omega, by go_num, HR, hBx.next hb3, Lib.hid (blk_next hblkx.out hb3)⟩, by simp [intOf]; omega⟩
          · obtain rfl : i = nr := by omega
            have HR : Hid (b = true) := Lib.hid (HB.out.2 ⟨by rw [HN.out]; exact hto.out, by rw [HNR.out]; exact hno.out⟩)
            go_wp2_with fail
            go_ret
            exact ⟨ret_bool HR.out.symm, hBx⟩
end P20
end Go.Proofs.YtajbchecjbddgaaGreatDoor
