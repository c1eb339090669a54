/- Audit: See at the first shot. -/
import Derived.Test.YtajbchecjbddgaaDoorVk
namespace Go.Proofs.YtajbchecjbddgaaDoor
open Go.RowKit
namespace P20
open P7

theorem OwnS.wks_slice {base : Nat} {W : World} {vr vs vw : Value} {s : Sh} (h : OwnS base W vr vs vw s) : ∃ A n c, vw = .slice A n c := by
  obtain ⟨cv, _, h2, _⟩ := h.wks
  exact PC.own_slice h2
theorem au_low {w : World} {g : Nat} {a0 a1 a2 a3 a4 : Value} {t : TypeId} {fr : Nat × Nat} (h : w.heap[g]? = some (.cells #[a0, a1, a2, a3, a4] t fr)) (u0 u1 u2 : Value) : (w.setCells g 0 [u0, u1, u2]).heap[g]? = some (.cells #[u0, u1, u2, a3, a4] t fr) ∧ (∀ k, k ≠ g → (w.setCells g 0 [u0, u1, u2]).heap[k]? = w.heap[k]?) ∧ Below g w (w.setCells g 0 [u0, u1, u2]) := by
  have e : w.setCells g 0 [u0, u1, u2] = ((w.setCell ⟨g, 0, none⟩ u0).setCell ⟨g, 1, none⟩ u1).setCell ⟨g, 2, none⟩ u2 := rfl
  rw [e]
  refine ⟨by simp [World.setCell, Array.getElem?_modify, h], fun k hk => ?_, ?_⟩
  · exact (setCell_away _ ⟨g, 2, none⟩ _ hk).trans ((setCell_away _ ⟨g, 1, none⟩ _ hk).trans (setCell_away _ ⟨g, 0, none⟩ _ hk))
  · exact (((Below.refl g w).setCell (p := ⟨g, 0, none⟩) (Nat.le_refl _) _).setCell (p := ⟨g, 1, none⟩) (Nat.le_refl _) _).setCell (p := ⟨g, 2, none⟩) (Nat.le_refl _) _
set_option maxRecDepth 100000 in
set_option maxHeartbeats 16000000 in
/-- See at the first shot. -/
theorem seeFirst_any {w : World} {g : Nat} {A B C : Option Addr} {m c k d j q : Nat} {vr vs vw : Value} {s : Sh} (h : w.heap[g]? = some (.cells (auC (.slice A m c) (.slice B k d) (.slice C j q) 0 0) 83 (0, 0))) {base : Nat} (hA : OwnS base w vr vs vw s) (hf : FewS s) :
    Calls Tryd.prog 22 #[.pointer (some ⟨g, 0, none⟩), .agg #[vr, vs, vw]] w fun e w' => e = .returned (.int .i64 (chkS s)) ∧ SeeP w g 0 (chkS s) false (.slice A m c) (.slice B k d) (.slice C j q) s w' := by
  have hg := lt_of_block h
  obtain ⟨V, hV⟩ := name_of (w.alloc (.cells #[vr, vs, vw] 31))
  have hbV : Below w.heap.size w V := by rw [← hV]; exact (Below.refl _ _).alloc (Nat.le_refl _) _
  have hgV := blk_next h hbV
  have hbx : V.heap[w.heap.size]? = some (.cells #[vr, vs, vw] 31 (0, 0)) := by rw [← hV]; exact heap_alloc_last _ _
  have q3 : V.cell? ⟨g, 3, none⟩ = some (.int .i64 0) := (cell_of_row _ _ _ _ _ _ hgV).trans rfl
  have q4 : V.cell? ⟨g, 4, none⟩ = some (.int .i64 0) := (cell_of_row _ _ _ _ _ _ hgV).trans rfl
  have z3 : V.frozen? ⟨g, 3, none⟩ = false := by simp [World.frozen?, hgV]
  obtain ⟨W1, hW1⟩ := name_of (V.setCell ⟨g, 3, none⟩ (.int .i64 1))
  have b1 : Below g w W1 := by rw [← hW1]; exact (Below.mono hbV (Nat.le_of_lt hg)).setCell (p := ⟨g, 3, none⟩) (Nat.le_refl _) _
  have hg1 : W1.heap[g]? = some (.cells (auC (.slice A m c) (.slice B k d) (.slice C j q) 1 0) 83 (0, 0)) := by rw [← hW1]; simp [World.setCell, Array.getElem?_modify, hgV, auC]
  have hoff : ∀ k, k ≠ g → W1.heap[k]? = V.heap[k]? := fun k hk => by rw [← hW1]; exact setCell_away V ⟨g, 3, none⟩ _ hk
  have hA1 := (hA.next hbV).off hgV (by decide) (by decide) (by decide) (by decide) hoff
  have hbx1 : W1.heap[w.heap.size]? = some (.cells #[vr, vs, vw] 31 (0, 0)) := (hoff _ (by omega)).trans hbx
  have p4 : W1.cell? ⟨g, 4, none⟩ = some (.int .i64 0) := (cell_of_row _ _ _ _ _ _ hg1).trans rfl
  have r0 : W1.cell? ⟨w.heap.size, 0, none⟩ = some vr := (cell_of_row _ _ _ _ _ _ hbx1).trans rfl
  have r1 : W1.cell? ⟨w.heap.size, 1, none⟩ = some vs := (cell_of_row _ _ _ _ _ _ hbx1).trans rfl
  have r2 : W1.cell? ⟨w.heap.size, 2, none⟩ = some vw := (cell_of_row _ _ _ _ _ _ hbx1).trans rfl
  have p3 : W1.cell? ⟨g, 3, none⟩ = some (.int .i64 1) := (cell_of_row _ _ _ _ _ _ hg1).trans rfl
  have hC := checkS_any hA1.shm hf
  go_enter Tryd.func22, Tryd.ntmps22
  go_upto_region 8 with fail
  go_wp2_with fail
  refine hC.mono ?_
  clear hC r0 r1 r2 p3 p4 q3 q4 z3 hW1 hV
  rintro e W2 ⟨rfl, hb2⟩
  have hg2 := blk_next hg1 hb2
  have hA2 := hA1.next hb2
  have hbx2 := blk_next hbx1 hb2
  have p4 : W2.cell? ⟨g, 4, none⟩ = some (.int .i64 0) := (cell_of_row _ _ _ _ _ _ hg2).trans rfl
  have z4 : W2.frozen? ⟨g, 4, none⟩ = false := by simp [World.frozen?, hg2]
  obtain ⟨E, hE⟩ := name_of (chkS s)
  rw [hE]
  have HE := Lib.hid hE
  clear hE
  obtain ⟨W3, hW3⟩ := name_of (W2.setCell ⟨g, 4, none⟩ (.int .i64 E))
  go_upto_region 9 with fail
  have b3 : Below g w W3 := by rw [← hW3]; exact (b1.trans (Below.mono hb2 (Nat.le_trans (Nat.le_of_lt hg) b1.size))).setCell (p := ⟨g, 4, none⟩) (Nat.le_refl _) _
  have hoff3 : ∀ k, k ≠ g → W3.heap[k]? = W2.heap[k]? := fun k hk => by rw [← hW3]; exact setCell_away W2 ⟨g, 4, none⟩ _ hk
  have hg3 : W3.heap[g]? = some (.cells (auC (.slice A m c) (.slice B k d) (.slice C j q) 1 E) 83 (0, 0)) := by rw [← hW3]; simp [World.setCell, Array.getElem?_modify, hg2, auC]
  have hA3 := hA2.off hg2 (by decide) (by decide) (by decide) (by decide) hoff3
  have hbx3 : W3.heap[w.heap.size]? = some (.cells #[vr, vs, vw] 31 (0, 0)) := (hoff3 _ (by omega)).trans hbx2
  have r0 : W3.cell? ⟨w.heap.size, 0, none⟩ = some vr := (cell_of_row _ _ _ _ _ _ hbx3).trans rfl
  have r1 : W3.cell? ⟨w.heap.size, 1, none⟩ = some vs := (cell_of_row _ _ _ _ _ _ hbx3).trans rfl
  have r2 : W3.cell? ⟨w.heap.size, 2, none⟩ = some vw := (cell_of_row _ _ _ _ _ _ hbx3).trans rfl
  have hC := own_any hA3.shm hf
  have hold3 : ∀ i, i ≠ g → i < w.heap.size → W3.heap[i]? = w.heap[i]? := fun i hi hw => (hoff3 i hi).trans ((hb2.block i (Nat.lt_of_lt_of_le hw b1.size)).trans ((hoff i hi).trans (hbV.block i hw)))
  clear hW3 p4 z4
  go_wp2_with fail
  refine hC.mono ?_
  clear hC r0 r1 r2
  rintro e W4 ⟨⟨ur, us, uw, rfl, hO⟩, hb4⟩
  obtain ⟨A1, m1, c1, rfl⟩ := PC.own_slice hO.rows
  obtain ⟨A2, m2, c2, rfl⟩ := PC.own_slice hO.scs
  obtain ⟨A3, m3, c3, rfl⟩ := hO.wks_slice
  have hg4 := blk_next hg3 hb4
  obtain ⟨w1, w2, w3⟩ := au_low hg4 (.slice A1 m1 c1) (.slice A2 m2 c2) (.slice A3 m3 c3)
  have ht : W4.there g 0 3 := fun i hi => by
    have hc := cell_of_row W4 g (0 + i) _ _ _ hg4
    refine ⟨?_, by simp [World.frozen?, hg4]⟩
    rw [hc]
    have : i = 0 ∨ i = 1 ∨ i = 2 := by omega
    rcases this with rfl | rfl | rfl <;> rfl
  obtain ⟨W5, hW5⟩ := name_of (W4.setCells g 0 [.slice A1 m1 c1, .slice A2 m2 c2, .slice A3 m3 c3])
  rw [hW5] at w1 w2 w3
  have y4 : W5.cell? ⟨g, 4, none⟩ = some (.int .i64 E) := (cell_of_row _ _ _ _ _ _ w1).trans rfl
  go_wp2_with ((with_reducible (show wpList _ _ _ (Oper.mk _ (Op.store _ _ _) _ _ _ _ :: _) _ _)); go_loud (refine wpList_store_mid rfl 31 (.tmp 48) (.tmp 46) rfl g 0 #[.slice A1 m1 c1, .slice A2 m2 c2, .slice A3 m3 c3] rfl rfl ht (by kernel_rfl) (by simp [Value.oneCell']) ?_; rw [hW5]))
  go_ret
  have hls : g ≤ W3.heap.size := Nat.le_trans (Nat.le_of_lt hg) b3.size
  rw [HE.out]
  refine ⟨rfl, ⟨⟨_, _, _, w1, ⟨A1, m1, c1, A2, m2, c2, A3, m3, c3, rfl, rfl, rfl⟩, fun _ => (hO.off hg4 (by decide) (by decide) (by decide) (by decide) w2).mono b3.size⟩, fun i hi hw => ?_, ?_⟩⟩
  · exact (w2 i hi).trans ((hb4.block i (Nat.lt_of_lt_of_le hw b3.size)).trans (hold3 i hi hw))
  · exact (b3.trans (Below.mono hb4 hls)).trans w3
end P20
end Go.Proofs.YtajbchecjbddgaaDoor
