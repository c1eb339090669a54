/- Walk: the reference's Decode. -/
import Derived.Test.YtjpnbjlhjlddbaaDoorU02
namespace Go.Proofs.YtjpnbjlhjlddbaaDoor
open Go.RowKit
namespace P2

theorem s32_small {n : Int} (h : n < 2147483648) : s32 n = n := by rw [s32, if_pos h]
theorem s32_great {n : Int} (h : ¬ n < 2147483648) : s32 n = n - 4294967296 := by rw [s32, if_neg h]
theorem name_of {α : Type} (a : α) : ∃ x, a = x := ⟨a, rfl⟩
theorem wrap_nat {a k p : Nat} (h : a + k = p) (hp : p ≤ 9223372036854775807) : IntKind.i64.wrap ((a : Int) + (k : Int)) = (p : Int) := (IntWalk.i64_in _ (by omega)).trans (by omega)
theorem lt_at {a k p n : Nat} (hn : a + 8 ≤ n) (h : a + k = p) (hk : k < 8) : p < n := by omega
theorem wrap_b {b : Int} (h : 0 ≤ b ∧ b ≤ 255) : IntKind.i64.wrap b = b := IntWalk.i64_in _ (by omega)
/-- The word of four bytes, step by step, each step under a name. -/
theorem word_steps {b4 b5 b6 b7 : Int} (h4 : 0 ≤ b4 ∧ b4 ≤ 255) (h5 : 0 ≤ b5 ∧ b5 ≤ 255) (h6 : 0 ≤ b6 ∧ b6 ≤ 255) (h7 : 0 ≤ b7 ∧ b7 ≤ 255) :
    ∃ m4 m5 m6 u5 u6 u7 : Int, IntKind.i64.wrap (b4 * 16777216) = m4 ∧ IntKind.i64.wrap (b5 * 65536) = m5 ∧ IntKind.i64.wrap (b6 * 256) = m6 ∧ IntKind.i64.wrap (m4 + m5) = u5 ∧ IntKind.i64.wrap (u5 + m6) = u6 ∧ IntKind.i64.wrap (u6 + b7) = u7 ∧
      Hid (u7 = word b4 b5 b6 b7) ∧ 0 ≤ u7 ∧ u7 < 4294967296 :=
  ⟨b4 * 16777216, b5 * 65536, b6 * 256, b4 * 16777216 + b5 * 65536, b4 * 16777216 + b5 * 65536 + b6 * 256, b4 * 16777216 + b5 * 65536 + b6 * 256 + b7,
    IntWalk.i64_in _ (by omega), IntWalk.i64_in _ (by omega), IntWalk.i64_in _ (by omega), IntWalk.i64_in _ (by omega), IntWalk.i64_in _ (by omega), IntWalk.i64_in _ (by omega),
    (by show _ = word b4 b5 b6 b7; unfold word; omega), by omega, by omega⟩
theorem heap_alloc_at {w : World} {k : Nat} (o : Obj) (h : k = w.heap.size) : (w.alloc o).heap[k]? = some o := by subst h; exact heap_alloc_last w o
def RefDecPost (i : Ins) (w : World) (e : Ending) (w' : World) : Prop := e = .returned (.tuple #[insV (if chk i = 0 then i else (0, 0, 0, 0, 0)), .int .i64 (chk i)]) ∧ Below w.heap.size w w'

set_option maxHeartbeats 4000000 in
theorem refDecode_p {w : World} {b off n c at_ p1 p2 p3 p4 p5 p6 p7 : Nat} {b0 b1 b2 b3 b4 b5 b6 b7 : Int} (hn : at_ + 8 ≤ n) (hmax : n ≤ 1000000000)
    (e1 : at_ + 1 = p1) (e2 : at_ + 2 = p2) (e3 : at_ + 3 = p3) (e4 : at_ + 4 = p4) (e5 : at_ + 5 = p5) (e6 : at_ + 6 = p6) (e7 : at_ + 7 = p7)
    (c0 : w.cell? ⟨b, off + at_, none⟩ = some (.int .u8 b0)) (c1 : w.cell? ⟨b, off + p1, none⟩ = some (.int .u8 b1)) (c2 : w.cell? ⟨b, off + p2, none⟩ = some (.int .u8 b2)) (c3 : w.cell? ⟨b, off + p3, none⟩ = some (.int .u8 b3))
    (c4 : w.cell? ⟨b, off + p4, none⟩ = some (.int .u8 b4)) (c5 : w.cell? ⟨b, off + p5, none⟩ = some (.int .u8 b5)) (c6 : w.cell? ⟨b, off + p6, none⟩ = some (.int .u8 b6)) (c7 : w.cell? ⟨b, off + p7, none⟩ = some (.int .u8 b7))
    (h0 : 0 ≤ b0 ∧ b0 ≤ 255) (h1 : 0 ≤ b1 ∧ b1 ≤ 255) (h2 : 0 ≤ b2 ∧ b2 ≤ 255) (h3 : 0 ≤ b3 ∧ b3 ≤ 255) (h4 : 0 ≤ b4 ∧ b4 ≤ 255) (h5 : 0 ≤ b5 ∧ b5 ≤ 255) (h6 : 0 ≤ b6 ∧ b6 ≤ 255) (h7 : 0 ≤ b7 ∧ b7 ≤ 255) :
    Calls Tryd.prog 23 #[.slice (some ⟨b, off, none⟩) n c, .int .i64 at_] w (RefDecPost (b0, b1, b2, b3, s32 (word b4 b5 b6 b7)) w) := by
  have hlt : b < w.heap.size := World.block_lt_of_cell? w _ c0
  have q1 : IntKind.i64.wrap ((at_ : Int) + 1) = (p1 : Int) := wrap_nat e1 (by have := lt_at hn e1 (by decide); exact Nat.le_trans (Nat.le_of_lt this) (Nat.le_trans hmax (by decide)))
  have q2 : IntKind.i64.wrap ((at_ : Int) + 2) = (p2 : Int) := wrap_nat e2 (by have := lt_at hn e2 (by decide); exact Nat.le_trans (Nat.le_of_lt this) (Nat.le_trans hmax (by decide)))
  have q3 : IntKind.i64.wrap ((at_ : Int) + 3) = (p3 : Int) := wrap_nat e3 (by have := lt_at hn e3 (by decide); exact Nat.le_trans (Nat.le_of_lt this) (Nat.le_trans hmax (by decide)))
  have q4 : IntKind.i64.wrap ((at_ : Int) + 4) = (p4 : Int) := wrap_nat e4 (by have := lt_at hn e4 (by decide); exact Nat.le_trans (Nat.le_of_lt this) (Nat.le_trans hmax (by decide)))
  have q5 : IntKind.i64.wrap ((at_ : Int) + 5) = (p5 : Int) := wrap_nat e5 (by have := lt_at hn e5 (by decide); exact Nat.le_trans (Nat.le_of_lt this) (Nat.le_trans hmax (by decide)))
  have q6 : IntKind.i64.wrap ((at_ : Int) + 6) = (p6 : Int) := wrap_nat e6 (by have := lt_at hn e6 (by decide); exact Nat.le_trans (Nat.le_of_lt this) (Nat.le_trans hmax (by decide)))
  have q7 : IntKind.i64.wrap ((at_ : Int) + 7) = (p7 : Int) := wrap_nat e7 (by have := lt_at hn e7 (by decide); exact Nat.le_trans (Nat.le_of_lt this) (Nat.le_trans hmax (by decide)))
  have t1 : p1 < n := lt_at hn e1 (by decide)
  have t2 : p2 < n := lt_at hn e2 (by decide)
  have t3 : p3 < n := lt_at hn e3 (by decide)
  have t4 : p4 < n := lt_at hn e4 (by decide)
  have t5 : p5 < n := lt_at hn e5 (by decide)
  have t6 : p6 < n := lt_at hn e6 (by decide)
  have t7 : p7 < n := lt_at hn e7 (by decide)
  have t0 : at_ < n := lt_at hn (Nat.add_zero _) (by decide)
  have r0 := wrap_b h0
  have r1 := wrap_b h1
  have r2 := wrap_b h2
  have r3 := wrap_b h3
  have r4 := wrap_b h4
  have r5 := wrap_b h5
  have r6 := wrap_b h6
  have r7 := wrap_b h7
  obtain ⟨m4, m5, m6, u5, u6, u7, k4, k5, k6, k7, k8, k9, hu, hu0, hu1⟩ := word_steps h4 h5 h6 h7
  clear e1 e2 e3 e4 e5 e6 e7 h0 h1 h2 h3 h4 h5 h6 h7 hn hmax
  go_enter Tryd.func23, Tryd.ntmps23
  go_wp2_with fail
  go_quiet (fail)
  by_cases hs : u7 < 2147483648
  · have hv : Hid (u7 = s32 (word b4 b5 b6 b7)) := by rw [hu.out] at hs ⊢; exact (s32_small hs).symm
    go_wp2_with fail
    go_region_held3 (fun W => W.cell? ⟨b, off + at_, none⟩ = some (.int .u8 b0) ∧ W.cell? ⟨b, off + p1, none⟩ = some (.int .u8 b1) ∧ W.cell? ⟨b, off + p2, none⟩ = some (.int .u8 b2) ∧ W.cell? ⟨b, off + p3, none⟩ = some (.int .u8 b3)) (go_keep) (fail)
    clear q1 q2 q3 q4 q5 q6 q7 r0 r1 r2 r3 r4 r5 r6 r7 t0 t1 t2 t3 t4 t5 t6 t7 k4 k5 k6 k7 k8 k9 c0 c1 c2 c3 c4 c5 c6 c7
    go_wp2_with fail
    refine (refCheck_any (b0, b1, b2, b3, u7) _).mono ?_
    rintro e w3 ⟨rfl, hb3⟩
    have hk0 := (hb3.block w.heap.size (by simp <;> omega)).trans ((Below.heap_alloc _ _ _ (by simp)).trans (heap_alloc_last w _))
    have hk1 := (hb3.block (w.heap.size + 1) (by simp <;> omega)).trans (heap_alloc_at _ (by simp))
    have hB3 : Below w.heap.size w w3 := ((below_drewN ((Below.refl _ w).alloc (Nat.le_refl _) _) _).alloc (by simp) _).trans (hb3.mono (by simp <;> omega))
    have i1 := fun j => cell_of_row w3 (w.heap.size + 1) j _ _ _ hk1
    have hz : w.heap.size + 1 < w3.heap.size := lt_of_block hk1
    have HK0 := Lib.hid hk0
    clear hk0 hk1 hb3
    by_cases hk : chk (b0, b1, b2, b3, u7) = 0
    · have e1 : (chk (b0, b1, b2, b3, u7) != 0) = false := by simpa using hk
      have HK := Lib.hid hk
      clear hk
      go_wp2_with (refine wpList_store_blk rfl 23 23 (.tmp 4) _ rfl w.heap.size rfl _ rfl _ HK0.out (by kernel_rfl) rfl (by kernel_rfl) ?_; intro w4 hg4 ho4 hz4 hb4)
      refine bodyPost_ret (results_cell_tmp rfl _ _ w.heap.size 23 _ _ _ rfl hg4 Tryd.underlying23 rfl (by kernel_rfl)) rfl ?_
      refine ⟨?_, hB3.trans hb4⟩
      rw [← hv.out, if_pos HK.out]
      rfl
    · have e1 : (chk (b0, b1, b2, b3, u7) != 0) = true := by simpa using hk
      have HK := Lib.hid hk
      clear hk
      go_wp2_with (refine wpList_store_blk rfl 23 23 (.tmp 4) _ rfl w.heap.size rfl _ rfl _ HK0.out (by kernel_rfl) rfl (by kernel_rfl) ?_; intro w4 hg4 ho4 hz4 hb4)
      refine bodyPost_ret (results_cell_tmp rfl _ _ w.heap.size 23 _ _ _ rfl hg4 Tryd.underlying23 rfl (by kernel_rfl)) rfl ?_
      refine ⟨?_, hB3.trans hb4⟩
      rw [← hv.out, if_neg HK.out]
      rfl
  · have hv : Hid (u7 - 4294967296 = s32 (word b4 b5 b6 b7)) := by rw [hu.out] at hs ⊢; exact (s32_great hs).symm
    go_wp2_with fail
    go_region_held3 (fun W => W.cell? ⟨b, off + at_, none⟩ = some (.int .u8 b0) ∧ W.cell? ⟨b, off + p1, none⟩ = some (.int .u8 b1) ∧ W.cell? ⟨b, off + p2, none⟩ = some (.int .u8 b2) ∧ W.cell? ⟨b, off + p3, none⟩ = some (.int .u8 b3)) (go_keep) (fail)
    clear q1 q2 q3 q4 q5 q6 q7 r0 r1 r2 r3 r4 r5 r6 r7 t0 t1 t2 t3 t4 t5 t6 t7 k4 k5 k6 k7 k8 k9 c0 c1 c2 c3 c4 c5 c6 c7
    go_wp2_with fail
    refine (refCheck_any (b0, b1, b2, b3, u7 - 4294967296) _).mono ?_
    rintro e w3 ⟨rfl, hb3⟩
    have hk0 := (hb3.block w.heap.size (by simp <;> omega)).trans ((Below.heap_alloc _ _ _ (by simp)).trans (heap_alloc_last w _))
    have hk1 := (hb3.block (w.heap.size + 1) (by simp <;> omega)).trans (heap_alloc_at _ (by simp))
    have hB3 : Below w.heap.size w w3 := ((below_drewN ((Below.refl _ w).alloc (Nat.le_refl _) _) _).alloc (by simp) _).trans (hb3.mono (by simp <;> omega))
    have i1 := fun j => cell_of_row w3 (w.heap.size + 1) j _ _ _ hk1
    have hz : w.heap.size + 1 < w3.heap.size := lt_of_block hk1
    have HK0 := Lib.hid hk0
    clear hk0 hk1 hb3
    by_cases hk : chk (b0, b1, b2, b3, u7 - 4294967296) = 0
    · have e1 : (chk (b0, b1, b2, b3, u7 - 4294967296) != 0) = false := by simpa using hk
      have HK := Lib.hid hk
      clear hk
      go_wp2_with (refine wpList_store_blk rfl 23 23 (.tmp 4) _ rfl w.heap.size rfl _ rfl _ HK0.out (by kernel_rfl) rfl (by kernel_rfl) ?_; intro w4 hg4 ho4 hz4 hb4)
      refine bodyPost_ret (results_cell_tmp rfl _ _ w.heap.size 23 _ _ _ rfl hg4 Tryd.underlying23 rfl (by kernel_rfl)) rfl ?_
      refine ⟨?_, hB3.trans hb4⟩
      rw [← hv.out, if_pos HK.out]
      rfl
    · have e1 : (chk (b0, b1, b2, b3, u7 - 4294967296) != 0) = true := by simpa using hk
      have HK := Lib.hid hk
      clear hk
      go_wp2_with (refine wpList_store_blk rfl 23 23 (.tmp 4) _ rfl w.heap.size rfl _ rfl _ HK0.out (by kernel_rfl) rfl (by kernel_rfl) ?_; intro w4 hg4 ho4 hz4 hb4)
      refine bodyPost_ret (results_cell_tmp rfl _ _ w.heap.size 23 _ _ _ rfl hg4 Tryd.underlying23 rfl (by kernel_rfl)) rfl ?_
      refine ⟨?_, hB3.trans hb4⟩
      rw [← hv.out, if_neg HK.out]
      rfl

theorem refDecode_any {w : World} {B at_ : Nat} {v : Value} {l : List Int} (hs : Sl w B 1 v (bv l)) (hat : at_ + 8 ≤ l.length) (hmax : l.length ≤ 1000000000) (hr : ∀ z ∈ l, 0 ≤ z ∧ z ≤ 255) :
    Calls Tryd.prog 23 #[v, .int .i64 at_] w (RefDecPost (decI ((l.drop at_).take 8)) w) := by
  obtain ⟨A, n, c, rfl, hnc, hn, hA⟩ := hs
  simp only [bv_length, Nat.mul_one] at hn
  subst hn
  obtain ⟨b, off, rfl, _, hr'⟩ := hA (by omega)
  have g : ∀ j, j < 8 → w.cell? ⟨b, off + (at_ + j), none⟩ = some (.int .u8 (l.getD (at_ + j) 0)) := fun j hj => range_bv hr' (at_ + j) (by omega)
  have hb : ∀ j, j < 8 → 0 ≤ l.getD (at_ + j) 0 ∧ l.getD (at_ + j) 0 ≤ 255 := fun j hj => by
    rw [List.getD_eq_getElem?_getD, List.getElem?_eq_getElem (by omega)]
    exact hr _ (List.getElem_mem _)
  have he : (l.drop at_).take 8 = [l.getD (at_ + 0) 0, l.getD (at_ + 1) 0, l.getD (at_ + 2) 0, l.getD (at_ + 3) 0, l.getD (at_ + 4) 0, l.getD (at_ + 5) 0, l.getD (at_ + 6) 0, l.getD (at_ + 7) 0] := by
    apply List.ext_getElem?
    intro j
    by_cases hj : j < 8
    · rw [List.getElem?_take, if_pos hj, List.getElem?_drop, List.getElem?_eq_getElem (by omega : at_ + j < l.length)]
      have hg : l[at_ + j]'(by omega) = l.getD (at_ + j) 0 := by
        rw [List.getD_eq_getElem?_getD, List.getElem?_eq_getElem (by omega : at_ + j < l.length)]; rfl
      rw [hg]
      match j, hj with
      | 0, _ | 1, _ | 2, _ | 3, _ | 4, _ | 5, _ | 6, _ | 7, _ => rfl
      | n + 8, h => omega
    · rw [List.getElem?_take, if_neg hj, List.getElem?_eq_none (by simp; omega)]
  rw [he]
  exact refDecode_p hat hmax rfl rfl rfl rfl rfl rfl rfl (g 0 (by omega)) (g 1 (by omega)) (g 2 (by omega)) (g 3 (by omega)) (g 4 (by omega)) (g 5 (by omega)) (g 6 (by omega)) (g 7 (by omega))
    (hb 0 (by omega)) (hb 1 (by omega)) (hb 2 (by omega)) (hb 3 (by omega)) (hb 4 (by omega)) (hb 5 (by omega)) (hb 6 (by omega)) (hb 7 (by omega))

end P2
end Go.Proofs.YtjpnbjlhjlddbaaDoor
