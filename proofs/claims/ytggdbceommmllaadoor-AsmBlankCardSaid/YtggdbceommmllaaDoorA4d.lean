/- Walk: AsmBlank. -/
import Derived.Test.YtggdbceommmllaaDoorA4b
namespace Go.Proofs.YtggdbceommmllaaDoor
open Go.RowKit
namespace P3
open P2 PC NumL CutL

set_option maxRecDepth 10000 in
set_option maxHeartbeats 8000000 in
theorem asmBlank_any (i : Ins) (at_ : Int) (h0 : -9223372036854775808 ≤ at_ ∧ at_ ≤ 9223372036854775807) (w : World) (hp : Lb w) : Calls Tryd.prog 7 #[insV i, .int .i64 at_] w fun e w' => e = .returned (.bool true) ∧ Below w.heap.size w w' := by
  have HP := Lib.hid hp
  have hA := fun W (hW : Below w.heap.size w W) => awake_any W (HP.out.next hW)
  have hL0 := fun W (hW : Below w.heap.size w W) => line_any i W (HP.out.next hW)
  by_cases hc : chk i = 0
  · rw [hc, if_pos rfl] at hL0
    have hlen := line_short hc
    have hbl := blank_line hc
    obtain ⟨l, hl⟩ := name_of (lineA i)
    rw [hl] at hL0 hlen hbl
    obtain ⟨x, hx⟩ := name_of (⟨l.toArray⟩ : ByteArray)
    have hxs : x.size = l.length := by rw [← hx]; rfl
    have hxd : x.data.toList = l := by rw [← hx]
    rw [hx] at hL0
    clear hc hl hx hp
    obtain ⟨o, a, b, c, n⟩ := i
    have hI := HasI.new w o a b c n
    unfold insV at hL0 ⊢
    simp only at hL0 ⊢
    by_cases hneg : at_ < 0
    · have z1 : decide (at_ < 0) = true := decide_eq_true hneg
      clear hneg hxs
      go_enter Tryd.func7, Tryd.ntmps7
      go_wp2_with fail
      refine (hL0 _ hI.2.2.2.2.2).mono ?_
      rintro e w1 ⟨rfl, hb1⟩
      have hB1 := hI.2.2.2.2.2.next hb1
      have hAw := hA _ hB1
      clear hI hb1 hL0
      go_wp2_with fail
      refine hAw.mono ?_
      rintro e w8 ⟨rfl, hb8⟩
      go_wp2_with fail
      go_ret
      exact ⟨rfl, hB1.next hb8⟩
    · have z1 : decide (at_ < 0) = false := decide_eq_false hneg
      obtain ⟨m, rfl⟩ : ∃ m : Nat, at_ = (m : Int) := ⟨at_.toNat, by omega⟩
      by_cases hbig : x.size < m
      · have z2 : decide ((x.size : Int) < (m : Int)) = true := decide_eq_true (by omega)
        clear hneg hxs hlen hbl hxd
        go_enter Tryd.func7, Tryd.ntmps7
        go_wp2_with fail
        refine (hL0 _ hI.2.2.2.2.2).mono ?_
        rintro e w1 ⟨rfl, hb1⟩
        have hB1 := hI.2.2.2.2.2.next hb1
        have hAw := hA _ hB1
        clear hI hb1 hL0
        go_wp2_with fail
        refine hAw.mono ?_
        rintro e w8 ⟨rfl, hb8⟩
        go_wp2_with fail
        go_ret
        exact ⟨rfl, hB1.next hb8⟩
      · have z2 : decide ((x.size : Int) < (m : Int)) = false := decide_eq_false (by omega)
        have hb := hbl m (by omega)
        have hmx : m ≤ x.size := by omega
        obtain ⟨p, hp1⟩ := name_of (x.extract 0 m)
        obtain ⟨q, hq1⟩ := name_of (x.extract m x.size)
        have hps : p.size ≤ 30 := by rw [← hp1]; simp; omega
        have hqs : q.size ≤ 30 := by rw [← hq1]; simp; omega
        obtain ⟨y, hy, hys⟩ := cat_ p ⟨#[32]⟩ 30 1 hps (by decide)
        obtain ⟨z, hz, hzs⟩ := cat_ y q 31 30 hys hqs
        have hzd : z.data.toList = l.take m ++ 32 :: l.drop m := by
          rw [← hz, ← hy, ByteArray.data_append, ByteArray.data_append, Array.toList_append, Array.toList_append, ← hp1, ← hq1, ext_list, ext_list, hxd]
          rw [show x.size = l.length from hxs]
          simp
          rw [List.take_of_length_le (by simp)]
        have n1 : ¬ (9223372036854775807 < p.size + 1) := by omega
        have n2 : ¬ (9223372036854775807 < y.size + q.size) := by omega
        have hR := fun W (hW : Below w.heap.size w W) => read_any z (by omega) W (HP.out.next hW)
        rw [hzd] at hR
        unfold InsPost at hR
        obtain ⟨f, hf, hR1⟩ : ∃ f : Int, (f = 14 ∨ f = 11) ∧ ∀ W, Below w.heap.size w W → Calls Tryd.prog 16 #[.string z] W fun e w' => e = .returned (.tuple #[.agg #[.int .i64 0, .int .i64 0, .int .i64 0, .int .i64 0, .int .i64 0], .int .i64 f]) ∧ Below W.heap.size W w' := by
          rcases hb with hb | hb <;> rw [hb] at hR
          · exact ⟨14, .inl rfl, hR⟩
          · exact ⟨11, .inr rfl, hR⟩
        clear hR hb hbl hzd hneg hbig hxd hxs hlen
        go_enter Tryd.func7, Tryd.ntmps7
        go_wp2_with fail
        refine (hL0 _ hI.2.2.2.2.2).mono ?_
        rintro e w1 ⟨rfl, hb1⟩
        have hB1 := hI.2.2.2.2.2.next hb1
        clear hI hb1 hL0
        go_wp2_with fail
        have hBd := hB1.next (below_drew' (w := w1))
        refine wp_region_held_drew (S := (fun V => Below w.heap.size w V)) (by kernel_rfl) hBd (fun hH => ?_)
        refine Rg.take (i := 0) (d := 28) (v := .string x) rfl rfl (by kernel_rfl) (by kernel_rfl) (by kernel_rfl) (fun _ _ _ h => h) (by kernel_rfl) (fun W hSW => ?_) hH ?_
        · clear hSW
          go_simp
        simp only [List.setIfInBounds_toArray, List.set_cons_zero, List.set_cons_succ]
        refine Rg.take (i := 1) (d := 29) (v := .int .i64 m) rfl rfl (by kernel_rfl) (by kernel_rfl) (by kernel_rfl) (fun _ _ _ h => h) (by kernel_rfl) (fun W hSW => ?_) hH ?_
        · clear hSW
          go_simp
        simp only [List.setIfInBounds_toArray, List.set_cons_zero, List.set_cons_succ]
        refine Rg.take (i := 2) (d := 30) (v := .string p) rfl rfl (by kernel_rfl) (by kernel_rfl) (by kernel_rfl) (fun _ _ _ h => h) (by kernel_rfl) (fun W hSW => ?_) hH ?_
        · clear hSW
          go_simp
        simp only [List.setIfInBounds_toArray, List.set_cons_zero, List.set_cons_succ]
        refine Rg.take (i := 3) (d := 31) (v := .string y) rfl rfl (by kernel_rfl) (by kernel_rfl) (by kernel_rfl) (fun _ _ _ h => h) (by kernel_rfl) (fun W hSW => ?_) hH ?_
        · clear hSW
          go_simp
        simp only [List.setIfInBounds_toArray, List.set_cons_zero, List.set_cons_succ]
        refine Rg.take (i := 4) (d := 32) (v := .string x) rfl rfl (by kernel_rfl) (by kernel_rfl) (by kernel_rfl) (fun _ _ _ h => h) (by kernel_rfl) (fun W hSW => ?_) hH ?_
        · clear hSW
          go_simp
        simp only [List.setIfInBounds_toArray, List.set_cons_zero, List.set_cons_succ]
        refine Rg.take (i := 5) (d := 33) (v := .int .i64 m) rfl rfl (by kernel_rfl) (by kernel_rfl) (by kernel_rfl) (fun _ _ _ h => h) (by kernel_rfl) (fun W hSW => ?_) hH ?_
        · clear hSW
          go_simp
        simp only [List.setIfInBounds_toArray, List.set_cons_zero, List.set_cons_succ]
        refine Rg.take (i := 6) (d := 34) (v := .string q) rfl rfl (by kernel_rfl) (by kernel_rfl) (by kernel_rfl) (fun _ _ _ h => h) (by kernel_rfl) (fun W hSW => ?_) hH ?_
        · clear hSW
          go_simp
        simp only [List.setIfInBounds_toArray, List.set_cons_zero, List.set_cons_succ]
        refine Rg.take (i := 7) (d := 35) (v := .string z) rfl rfl (by kernel_rfl) (by kernel_rfl) (by kernel_rfl) (fun _ _ _ h => h) (by kernel_rfl) (fun W hSW => ?_) hH ?_
        · clear hSW
          go_simp
        simp only [List.setIfInBounds_toArray, List.set_cons_zero, List.set_cons_succ]
        refine wpAnyH_ready (rs := [8, 12]) (by kernel_rfl) (by simp) (AllReadyH.cons rfl (fun K hK => ?_) (AllReadyH.cons rfl (fun K hK => ?_) AllReadyH.nil))
        · go_simp
          refine (hR1 _ hH).mono ?_
          rintro e w2 ⟨rfl, hb2⟩
          go_simp
          refine hK.out _ _ (hH.next hb2) (fun hH => ?_)
          clear hK K
          refine Rg.take (i := 9) (d := 27) (v := .tuple #[.agg #[.int .i64 0, .int .i64 0, .int .i64 0, .int .i64 0, .int .i64 0], .int .i64 f]) rfl rfl (by kernel_rfl) (by kernel_rfl) (by kernel_rfl) (fun _ _ _ h => h) (by kernel_rfl) (fun W hSW => ?_) hH ?_
          · clear hSW
            go_simp
          simp only [List.setIfInBounds_toArray, List.set_cons_zero, List.set_cons_succ]
          refine Rg.take (i := 10) (d := 37) (v := .agg #[.int .i64 0, .int .i64 0, .int .i64 0, .int .i64 0, .int .i64 0]) rfl rfl (by kernel_rfl) (by kernel_rfl) (by kernel_rfl) (fun _ _ _ h => h) (by kernel_rfl) (fun W hSW => ?_) hH ?_
          · clear hSW
            go_simp
          simp only [List.setIfInBounds_toArray, List.set_cons_zero, List.set_cons_succ]
          refine Rg.take (i := 11) (d := 38) (v := .int .i64 f) rfl rfl (by kernel_rfl) (by kernel_rfl) (by kernel_rfl) (fun _ _ _ h => h) (by kernel_rfl) (fun W hSW => ?_) hH ?_
          · clear hSW
            go_simp
          simp only [List.setIfInBounds_toArray, List.set_cons_zero, List.set_cons_succ]
          refine wpAnyH_ready (rs := [12]) (by kernel_rfl) (by simp) (AllReadyH.cons rfl (fun K hK => ?_) AllReadyH.nil)
          go_simp
          have HG := heap_alloc_last w2 (.cells #[.int .i64 0, .int .i64 0, .int .i64 0, .int .i64 0, .int .i64 0] 33)
          refine hK.out _ _ (hH.alloc hH.size _) (fun hH => ?_)
          clear hK K
          obtain ⟨G, hG⟩ := name_of w2.heap.size
          have hGw : w.heap.size ≤ G := by rw [← hG]; exact Nat.le_trans hB1.size (Nat.le_trans below_drew'.size hb2.size)
          rw [hG] at HG ⊢
          obtain ⟨W5, hW5⟩ := name_of (w2.alloc (.cells #[.int .i64 0, .int .i64 0, .int .i64 0, .int .i64 0, .int .i64 0] 33))
          rw [hW5] at HG hH ⊢
          clear hW5 hG
          refine wpAnyH_ready (rs := [13]) (by kernel_rfl) (by simp) (AllReadyH.cons rfl (fun K hK => ?_) AllReadyH.nil)
          refine wp_store_mid _ _ _ rfl G 0 #[.int .i64 0, .int .i64 0, .int .i64 0, .int .i64 0, .int .i64 0] rfl rfl (there_five HG) (by kernel_rfl) (by simp [Value.oneCell']) ?_
          have hB6 : Below w.heap.size w (W5.setCells G 0 (#[.int .i64 0, .int .i64 0, .int .i64 0, .int .i64 0, .int .i64 0] : Array Value).toList) := by
            rw [show (#[.int .i64 0, .int .i64 0, .int .i64 0, .int .i64 0, .int .i64 0] : Array Value).toList = [.int .i64 0, .int .i64 0, .int .i64 0, .int .i64 0, .int .i64 0] from rfl, setCells_five]
            exact ((((hH.setCell (p := ⟨G, 0, none⟩) hGw _).setCell (p := ⟨G, 1, none⟩) hGw _).setCell (p := ⟨G, 2, none⟩) hGw _).setCell (p := ⟨G, 3, none⟩) hGw _).setCell (p := ⟨G, 4, none⟩) hGw _
          obtain ⟨w6, hw6⟩ := name_of (W5.setCells G 0 (#[.int .i64 0, .int .i64 0, .int .i64 0, .int .i64 0, .int .i64 0] : Array Value).toList)
          rw [hw6] at hB6 ⊢
          clear hw6 HG
          refine hK.out _ _ hB6 (fun hH => ?_)
          clear hK K
          dsimp only [Act.put]
          refine Rg.take (i := 14) (d := 8) (v := .int .i64 f) rfl rfl (by kernel_rfl) (by kernel_rfl) (by kernel_rfl) (fun _ _ _ h => h) (by kernel_rfl) (fun W hSW => ?_) hH ?_
          · clear hSW
            go_simp
          simp only [List.setIfInBounds_toArray, List.set_cons_zero, List.set_cons_succ]
          refine wpAnyH_done (by kernel_rfl) ?_ _
          have hAw := hA _ hB6
          clear hA
          rcases hf with rfl | rfl
          · go_wp2_with fail
            refine hAw.mono ?_
            rintro e w8 ⟨rfl, hb8⟩
            go_wp2_with fail
            go_ret
            exact ⟨rfl, hB6.next hb8⟩
          · go_wp2_with fail
            refine hAw.mono ?_
            rintro e w8 ⟨rfl, hb8⟩
            go_wp2_with fail
            go_ret
            exact ⟨rfl, hB6.next hb8⟩
        · go_simp
          have HG0 := heap_alloc_last w1.drew (.cells #[.int .i64 0, .int .i64 0, .int .i64 0, .int .i64 0, .int .i64 0] 33)
          refine hK.out _ _ (hH.alloc hH.size _) (fun hH => ?_)
          clear hK K
          obtain ⟨G, hG⟩ := name_of w1.drew.heap.size
          have hGw : w.heap.size ≤ G := by rw [← hG]; exact Nat.le_trans hB1.size below_drew'.size
          refine wpAnyH_ready (rs := [8]) (by kernel_rfl) (by simp) (AllReadyH.cons rfl (fun K hK => ?_) AllReadyH.nil)
          go_simp
          refine (hR1 _ hH).mono ?_
          rintro e w2 ⟨rfl, hb2⟩
          have HG := blk_next HG0 hb2
          go_simp
          refine hK.out _ _ (hH.next hb2) (fun hH => ?_)
          clear hK K HG0
          rw [hG] at HG
          try rw [show w1.heap.size = G from hG]
          refine Rg.take (i := 9) (d := 27) (v := .tuple #[.agg #[.int .i64 0, .int .i64 0, .int .i64 0, .int .i64 0, .int .i64 0], .int .i64 f]) rfl rfl (by kernel_rfl) (by kernel_rfl) (by kernel_rfl) (fun _ _ _ h => h) (by kernel_rfl) (fun W hSW => ?_) hH ?_
          · clear hSW
            go_simp
          simp only [List.setIfInBounds_toArray, List.set_cons_zero, List.set_cons_succ]
          refine Rg.take (i := 10) (d := 37) (v := .agg #[.int .i64 0, .int .i64 0, .int .i64 0, .int .i64 0, .int .i64 0]) rfl rfl (by kernel_rfl) (by kernel_rfl) (by kernel_rfl) (fun _ _ _ h => h) (by kernel_rfl) (fun W hSW => ?_) hH ?_
          · clear hSW
            go_simp
          simp only [List.setIfInBounds_toArray, List.set_cons_zero, List.set_cons_succ]
          refine Rg.take (i := 11) (d := 38) (v := .int .i64 f) rfl rfl (by kernel_rfl) (by kernel_rfl) (by kernel_rfl) (fun _ _ _ h => h) (by kernel_rfl) (fun W hSW => ?_) hH ?_
          · clear hSW
            go_simp
          simp only [List.setIfInBounds_toArray, List.set_cons_zero, List.set_cons_succ]
          refine wpAnyH_ready (rs := [13]) (by kernel_rfl) (by simp) (AllReadyH.cons rfl (fun K hK => ?_) AllReadyH.nil)
          refine wp_store_mid _ _ _ rfl G 0 #[.int .i64 0, .int .i64 0, .int .i64 0, .int .i64 0, .int .i64 0] rfl rfl (there_five HG) (by kernel_rfl) (by simp [Value.oneCell']) ?_
          have hB6 : Below w.heap.size w (w2.setCells G 0 (#[.int .i64 0, .int .i64 0, .int .i64 0, .int .i64 0, .int .i64 0] : Array Value).toList) := by
            rw [show (#[.int .i64 0, .int .i64 0, .int .i64 0, .int .i64 0, .int .i64 0] : Array Value).toList = [.int .i64 0, .int .i64 0, .int .i64 0, .int .i64 0, .int .i64 0] from rfl, setCells_five]
            exact ((((hH.setCell (p := ⟨G, 0, none⟩) hGw _).setCell (p := ⟨G, 1, none⟩) hGw _).setCell (p := ⟨G, 2, none⟩) hGw _).setCell (p := ⟨G, 3, none⟩) hGw _).setCell (p := ⟨G, 4, none⟩) hGw _
          obtain ⟨w6, hw6⟩ := name_of (w2.setCells G 0 (#[.int .i64 0, .int .i64 0, .int .i64 0, .int .i64 0, .int .i64 0] : Array Value).toList)
          rw [hw6] at hB6 ⊢
          clear hw6 HG
          refine hK.out _ _ hB6 (fun hH => ?_)
          clear hK K
          dsimp only [Act.put]
          refine Rg.take (i := 14) (d := 8) (v := .int .i64 f) rfl rfl (by kernel_rfl) (by kernel_rfl) (by kernel_rfl) (fun _ _ _ h => h) (by kernel_rfl) (fun W hSW => ?_) hH ?_
          · clear hSW
            go_simp
          simp only [List.setIfInBounds_toArray, List.set_cons_zero, List.set_cons_succ]
          refine wpAnyH_done (by kernel_rfl) ?_ _
          have hAw := hA _ hB6
          clear hA
          rcases hf with rfl | rfl
          · go_wp2_with fail
            refine hAw.mono ?_
            rintro e w8 ⟨rfl, hb8⟩
            go_wp2_with fail
            go_ret
            exact ⟨rfl, hB6.next hb8⟩
          · go_wp2_with fail
            refine hAw.mono ?_
            rintro e w8 ⟨rfl, hb8⟩
            go_wp2_with fail
            go_ret
            exact ⟨rfl, hB6.next hb8⟩
  · have hbc : (chk i != 0) = true := bne_iff_ne.2 hc
    rw [if_neg hc] at hL0
    obtain ⟨c0, hc0⟩ := name_of (chk i)
    rw [hc0] at hL0 hbc
    clear hc hc0 hp
    obtain ⟨o, a, b, c, n⟩ := i
    have hI := HasI.new w o a b c n
    unfold insV at hL0 ⊢
    simp only at hL0 ⊢
    go_enter Tryd.func7, Tryd.ntmps7
    go_wp2_with fail
    refine (hL0 _ hI.2.2.2.2.2).mono ?_
    rintro e w1 ⟨rfl, hb1⟩
    have hB1 := hI.2.2.2.2.2.next hb1
    have hAw := hA _ hB1
    clear hI hb1 hL0
    go_wp2_with fail
    refine hAw.mono ?_
    rintro e w8 ⟨rfl, hb8⟩
    go_wp2_with fail
    go_ret
    exact ⟨rfl, hB1.next hb8⟩
end P3
end Go.Proofs.YtggdbceommmllaaDoor
