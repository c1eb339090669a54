/- Audit: See at a later shot. -/
import Derived.Test.YtajbchecjbddgaaDoorVo
namespace Go.Proofs.YtajbchecjbddgaaDoor
open Go.RowKit
namespace P20
open P7

/-- Six cells: the last shot's three, and the box's. -/
def SnC (g b : Nat) (a0 a1 a2 r0 r1 r2 : Value) (W : World) : Prop :=
  W.cell? ⟨g, 0, none⟩ = some a0 ∧ W.cell? ⟨g, 1, none⟩ = some a1 ∧ W.cell? ⟨g, 2, none⟩ = some a2 ∧ W.cell? ⟨b, 0, none⟩ = some r0 ∧ W.cell? ⟨b, 1, none⟩ = some r1 ∧ W.cell? ⟨b, 2, none⟩ = some r2
theorem SnC.of {g b : Nat} {a0 a1 a2 a3 a4 r0 r1 r2 : Value} {W : World} {t t' : TypeId} {fr fr' : Nat × Nat} (h1 : W.heap[g]? = some (.cells #[a0, a1, a2, a3, a4] t fr)) (h2 : W.heap[b]? = some (.cells #[r0, r1, r2] t' fr')) : SnC g b a0 a1 a2 r0 r1 r2 W :=
  ⟨(cell_of_row _ _ _ _ _ _ h1).trans rfl, (cell_of_row _ _ _ _ _ _ h1).trans rfl, (cell_of_row _ _ _ _ _ _ h1).trans rfl, (cell_of_row _ _ _ _ _ _ h2).trans rfl, (cell_of_row _ _ _ _ _ _ h2).trans rfl, (cell_of_row _ _ _ _ _ _ h2).trans rfl⟩
set_option maxRecDepth 100000 in
set_option maxHeartbeats 16000000 in
/-- See at a later shot. -/
theorem seeNext_any {w : World} {g : Nat} {A B C : Option Addr} {m c k d j q : Nat} {vr vs vw : Value} {n : Nat} {s a : Sh} (hn1 : 1 ≤ n) (hn2 : n ≤ 1000) (h : w.heap[g]? = some (.cells (auC (.slice A m c) (.slice B k d) (.slice C j q) n 0) 83 (0, 0))) {base base2 : Nat} (hA : OwnS base w vr vs vw s) (hf : FewS s) (hL : OwnS base2 w (.slice A m c) (.slice B k d) (.slice C j q) a) (hfa : FewS a) :
    Calls Tryd.prog 22 #[.pointer (some ⟨g, 0, none⟩), .agg #[vr, vs, vw]] w fun e w' => e = .returned (.int .i64 (nxt a s)) ∧ SeeP w g n (nxt a s) false (.slice A m c) (.slice B k d) (.slice C j q) s w' := by
  have hg := lt_of_block h
  obtain ⟨V, hV⟩ := name_of (w.alloc (.cells #[vr, vs, vw] 31))
  have hbV : Below w.heap.size w V := by rw [← hV]; exact (Below.refl _ _).alloc (Nat.le_refl _) _
  have hgV := blk_next h hbV
  have hbx : V.heap[w.heap.size]? = some (.cells #[vr, vs, vw] 31 (0, 0)) := by rw [← hV]; exact heap_alloc_last _ _
  have q3 : V.cell? ⟨g, 3, none⟩ = some (.int .i64 n) := (cell_of_row _ _ _ _ _ _ hgV).trans rfl
  have q4 : V.cell? ⟨g, 4, none⟩ = some (.int .i64 0) := (cell_of_row _ _ _ _ _ _ hgV).trans rfl
  have z3 : V.frozen? ⟨g, 3, none⟩ = false := by simp [World.frozen?, hgV]
  obtain ⟨W1, hW1⟩ := name_of (V.setCell ⟨g, 3, none⟩ (.int .i64 ((n : Int) + 1)))
  have b1 : Below g w W1 := by rw [← hW1]; exact (Below.mono hbV (Nat.le_of_lt hg)).setCell (p := ⟨g, 3, none⟩) (Nat.le_refl _) _
  have hg1 : W1.heap[g]? = some (.cells (auC (.slice A m c) (.slice B k d) (.slice C j q) ((n : Int) + 1) 0) 83 (0, 0)) := by rw [← hW1]; simp [World.setCell, Array.getElem?_modify, hgV, auC]
  have hoff : ∀ k, k ≠ g → W1.heap[k]? = V.heap[k]? := fun k hk => by rw [← hW1]; exact setCell_away V ⟨g, 3, none⟩ _ hk
  have hA1 := (hA.next hbV).off hgV (by decide) (by decide) (by decide) (by decide) hoff
  have hbx1 : W1.heap[w.heap.size]? = some (.cells #[vr, vs, vw] 31 (0, 0)) := (hoff _ (by omega)).trans hbx
  have p4 : W1.cell? ⟨g, 4, none⟩ = some (.int .i64 0) := (cell_of_row _ _ _ _ _ _ hg1).trans rfl
  have p3 : W1.cell? ⟨g, 3, none⟩ = some (.int .i64 ((n : Int) + 1)) := (cell_of_row _ _ _ _ _ _ hg1).trans rfl
  have hL1 := (hL.next hbV).off hgV (by decide) (by decide) (by decide) (by decide) hoff
  have f5 : ((n : Int) + 1 == 1) = false := by rw [beq_eq_false_iff_ne]; omega
  go_enter Tryd.func22, Tryd.ntmps22
  go_upto_region 4 with fail
  refine wp_region_held_drew (S := (fun W => SnC g w.heap.size (.slice A m c) (.slice B k d) (.slice C j q) vr vs vw W)) (by kernel_rfl) (SnC.of (blk_next hg1 below_drewU) (blk_next hbx1 below_drewU)) (fun hH => ?_)
  have b10 : Below W1.heap.size W1 W1.drew := below_drewU
  obtain ⟨W0, hW0⟩ := name_of W1.drew
  rw [hW0] at hH b10 ⊢
  have hL0 := hL1.next b10
  have hA0 := hA1.next b10
  have hg0 := blk_next hg1 b10
  have hbx0 := blk_next hbx1 b10
  have hC := next_any hL0.shm hA0.shm hfa hf
  obtain ⟨E, hE⟩ := name_of (nxt a s)
  rw [hE] at hC
  have HE := Lib.hid hE
  clear hE hL hL1 hL0 p3 p4 q3 q4 z3 hW1 hV hW0
  refine Rg.take (i := 0) (d := 14) (v := .pointer (some ⟨g, 0, none⟩)) rfl rfl (by kernel_rfl) (by kernel_rfl) (by kernel_rfl) (fun _ _ _ h => h) (by kernel_rfl) (fun W hSW => ?_) hH ?_
  · clear hSW
    go_simp
  simp only [List.setIfInBounds_toArray, List.set_cons_zero, List.set_cons_succ]
  refine Rg.take (i := 1) (d := 15) (v := .pointer (some ⟨g, 0, none⟩)) rfl rfl (by kernel_rfl) (by kernel_rfl) (by kernel_rfl) (fun _ _ _ h => h) (by kernel_rfl) (fun W hSW => ?_) hH ?_
  · clear hSW
    go_simp
  simp only [List.setIfInBounds_toArray, List.set_cons_zero, List.set_cons_succ]
  refine Rg.take (i := 2) (d := 16) (v := .pointer (some ⟨g, 0, none⟩)) rfl rfl (by kernel_rfl) (by kernel_rfl) (by kernel_rfl) (fun _ _ _ h => h) (by kernel_rfl) (fun W hSW => ?_) hH ?_
  · clear hSW
    go_simp
  simp only [List.setIfInBounds_toArray, List.set_cons_zero, List.set_cons_succ]
  refine Rg.take (i := 3) (d := 17) (v := .pointer (some ⟨g, 0, none⟩)) rfl rfl (by kernel_rfl) (by kernel_rfl) (by kernel_rfl) (fun _ _ _ h => h) (by kernel_rfl) (fun W hSW => ?_) hH ?_
  · clear hSW
    go_simp
  simp only [List.setIfInBounds_toArray, List.set_cons_zero, List.set_cons_succ]
  refine Rg.take (i := 4) (d := 18) (v := .agg #[.slice A m c, .slice B k d, .slice C j q]) rfl rfl (by kernel_rfl) (by kernel_rfl) (by kernel_rfl) (fun _ _ _ h => h) (by kernel_rfl) (fun W hSW => ?_) hH ?_
  · obtain ⟨h0, h1, h2, -, -, -⟩ := hSW
    go_simp
  simp only [List.setIfInBounds_toArray, List.set_cons_zero, List.set_cons_succ]
  refine Rg.take (i := 5) (d := 19) (v := .agg #[vr, vs, vw]) rfl rfl (by kernel_rfl) (by kernel_rfl) (by kernel_rfl) (fun _ _ _ h => h) (by kernel_rfl) (fun W hSW => ?_) hH ?_
  · obtain ⟨-, -, -, h0, h1, h2⟩ := hSW
    go_simp
  simp only [List.setIfInBounds_toArray, List.set_cons_zero, List.set_cons_succ]
  refine wpAnyH_ready (rs := [6]) (by kernel_rfl) (by simp) (AllReadyH.cons rfl (fun K hK => ?_) AllReadyH.nil)
  go_simp
  refine hC.mono ?_
  rintro e W2 ⟨rfl, hb2⟩
  go_simp
  have hg2 := blk_next hg0 hb2
  have hbx2 := blk_next hbx0 hb2
  have hA2 := hA0.next hb2
  refine hK.out _ _ (SnC.of hg2 hbx2) (fun hH => ?_)
  clear hK K hC
  refine Rg.take (i := 7) (d := 21) (v := .pointer (some ⟨g, 0, none⟩)) rfl rfl (by kernel_rfl) (by kernel_rfl) (by kernel_rfl) (fun _ _ _ h => h) (by kernel_rfl) (fun W hSW => ?_) hH ?_
  · clear hSW
    go_simp
  simp only [List.setIfInBounds_toArray, List.set_cons_zero, List.set_cons_succ]
  refine Rg.take (i := 8) (d := 22) (v := .pointer (some ⟨g, 4, none⟩)) rfl rfl (by kernel_rfl) (by kernel_rfl) (by kernel_rfl) (fun _ _ _ h => h) (by kernel_rfl) (fun W hSW => ?_) hH ?_
  · clear hSW
    go_simp
  simp only [List.setIfInBounds_toArray, List.set_cons_zero, List.set_cons_succ]
  refine wpAnyH_ready (rs := [9]) (by kernel_rfl) (by simp) (AllReadyH.cons rfl (fun K hK => ?_) AllReadyH.nil)
  rw [if_pos (by rfl)]
  refine wp_store_cellb 29 (.tmp 22) (.tmp 20) rfl g 4 rfl (.int .i64 E) rfl _ 83 hg2 (by show 4 < 5; decide) (by kernel_rfl) rfl ?_
  intro W3 hg3 hoff3 hsz3 hb3
  go_simp
  have hbx3 : W3.heap[w.heap.size]? = some (.cells #[vr, vs, vw] 31 (0, 0)) := (hoff3 _ (by omega)).trans hbx2
  refine hK.out _ _ (SnC.of hg3 hbx3) (fun hH => ?_)
  clear hK K hH
  refine wpAnyH_done (by kernel_rfl) ?_ _
  have b3 : Below g w W3 := (b1.trans (Below.mono (b10.next hb2) (Nat.le_trans (Nat.le_of_lt hg) b1.size))).trans hb3
  have hA3 := hA2.off hg2 (by decide) (by decide) (by decide) (by decide) hoff3
  have hg3 : W3.heap[g]? = some (.cells (auC (.slice A m c) (.slice B k d) (.slice C j q) ((n : Int) + 1) E) 83 (0, 0)) := hg3
  go_upto_region 9 with fail
  have r0 : W3.cell? ⟨w.heap.size, 0, none⟩ = some vr := (cell_of_row _ _ _ _ _ _ hbx3).trans rfl
  have r1 : W3.cell? ⟨w.heap.size, 1, none⟩ = some vs := (cell_of_row _ _ _ _ _ _ hbx3).trans rfl
  have r2 : W3.cell? ⟨w.heap.size, 2, none⟩ = some vw := (cell_of_row _ _ _ _ _ _ hbx3).trans rfl
  have hC := own_any hA3.shm hf
  have hold3 : ∀ i, i ≠ g → i < w.heap.size → W3.heap[i]? = w.heap[i]? := fun i hi hw => (hoff3 i hi).trans (((b10.next hb2).block i (Nat.lt_of_lt_of_le hw b1.size)).trans ((hoff i hi).trans (hbV.block i hw)))
  go_wp2_with fail
  refine hC.mono ?_
  clear hC r0 r1 r2
  rintro e W4 ⟨⟨ur, us, uw, rfl, hO⟩, hb4⟩
  obtain ⟨A1, m1, c1, rfl⟩ := PC.own_slice hO.rows
  obtain ⟨A2, m2, c2, rfl⟩ := PC.own_slice hO.scs
  obtain ⟨A3, m3, c3, rfl⟩ := hO.wks_slice
  have hg4 := blk_next hg3 hb4
  obtain ⟨w1, w2, w3⟩ := au_low hg4 (.slice A1 m1 c1) (.slice A2 m2 c2) (.slice A3 m3 c3)
  have ht : W4.there g 0 3 := fun i hi => by
    have hc := cell_of_row W4 g (0 + i) _ _ _ hg4
    refine ⟨?_, by simp [World.frozen?, hg4]⟩
    rw [hc]
    have : i = 0 ∨ i = 1 ∨ i = 2 := by omega
    rcases this with rfl | rfl | rfl <;> rfl
  obtain ⟨W5, hW5⟩ := name_of (W4.setCells g 0 [.slice A1 m1 c1, .slice A2 m2 c2, .slice A3 m3 c3])
  rw [hW5] at w1 w2 w3
  have y4 : W5.cell? ⟨g, 4, none⟩ = some (.int .i64 E) := (cell_of_row _ _ _ _ _ _ w1).trans rfl
  go_wp2_with ((with_reducible (show wpList _ _ _ (Oper.mk _ (Op.store _ _ _) _ _ _ _ :: _) _ _)); go_loud (refine wpList_store_mid rfl 31 (.tmp 48) (.tmp 46) rfl g 0 #[.slice A1 m1 c1, .slice A2 m2 c2, .slice A3 m3 c3] rfl rfl ht (by kernel_rfl) (by simp [Value.oneCell']) ?_; rw [hW5]))
  go_ret
  have hls : g ≤ W3.heap.size := Nat.le_trans (Nat.le_of_lt hg) b3.size
  rw [HE.out]
  refine ⟨rfl, ⟨⟨_, _, _, w1, ⟨A1, m1, c1, A2, m2, c2, A3, m3, c3, rfl, rfl, rfl⟩, fun _ => (hO.off hg4 (by decide) (by decide) (by decide) (by decide) w2).mono b3.size⟩, fun i hi hw => ?_, ?_⟩⟩
  · exact (w2 i hi).trans ((hb4.block i (Nat.lt_of_lt_of_le hw b3.size)).trans (hold3 i hi hw))
  · exact (b3.trans (Below.mono hb4 hls)).trans w3
end P20
end Go.Proofs.YtajbchecjbddgaaDoor
