/- Asm: the reference's head. -/
import Derived.Test.YtggdbceommmllaaDoorA3s
import Derived.Test.YtggdbceommmllaaDoorA3k
namespace Go.Proofs.YtggdbceommmllaaDoor
open Go.RowKit
namespace P3
open P2 PC NumL CutL

/-- What a head line is, behind so many functions, of which the last has so many instructions. -/
def headN (ws : List (List UInt8)) (n l : Nat) : Int ⊕ Int :=
  if ws.length ≠ 4 ∨ ws.getD 2 [] ≠ needsL then .inl 11 else match numA (ws.getD 1 []), numA (ws.getD 3 []) with
  | some k, some m => if 32 ≤ n ∨ (0 < n ∧ l = 0) then .inl 12 else if k ≠ n ∨ 255 < m then .inl 10 else .inr m
  | _, _ => .inl 11
theorem headT_N (ws : List (List UInt8)) (p : List Fn) : headT ws p = headN ws p.length (lastN p) := rfl
theorem headN_len {ws : List (List UInt8)} {n l : Nat} (h : ws.length ≠ 4) : headN ws n l = .inl 11 := by unfold headN; rw [if_pos (.inl h)]
theorem headN_four {a b c d : List UInt8} {n l : Nat} : headN [a, b, c, d] n l = if c ≠ needsL then .inl 11 else match numA b, numA d with
    | some k, some m => if 32 ≤ n ∨ (0 < n ∧ l = 0) then .inl 12 else if k ≠ n ∨ 255 < m then .inl 10 else .inr m
    | _, _ => .inl 11 := by
  unfold headN
  simp only [List.length_cons, List.length_nil, List.getD_cons_succ, List.getD_cons_zero]
  by_cases hc : c = needsL
  · rw [if_neg (by simp [hc]), if_neg (by simp [hc])]
  · rw [if_pos (.inr hc), if_pos hc]
def HeadPost (r : Int ⊕ Int) (w : World) (e : Ending) (w' : World) : Prop := (match r with
  | .inl c => e = .returned (.tuple #[.agg #[.int .i64 0, .slice none 0 0], .int .i64 c])
  | .inr m => e = .returned (.tuple #[.agg #[.int .i64 m, .slice none 0 0], .int .i64 0])) ∧ Below w.heap.size w w'
theorem hp_inl {r : Int ⊕ Int} {c : Int} {w w' : World} {e : Ending} (h : r = .inl c) (he : e = .returned (.tuple #[.agg #[.int .i64 0, .slice none 0 0], .int .i64 c])) (hb : Below w.heap.size w w') : HeadPost r w e w' := by
  unfold HeadPost; rw [h]; exact ⟨he, hb⟩
theorem hp_inr {r : Int ⊕ Int} {m : Int} {w w' : World} {e : Ending} (h : r = .inr m) (he : e = .returned (.tuple #[.agg #[.int .i64 m, .slice none 0 0], .int .i64 0])) (hb : Below w.heap.size w w') : HeadPost r w e w' := by
  unfold HeadPost; rw [h]; exact ⟨he, hb⟩
set_option maxRecDepth 10000 in
set_option maxHeartbeats 8000000 in
theorem refHead_any {w : World} {sv : Value} {ws : List (List UInt8)} (N L : Nat) (hN : N ≤ 1000) (hs : Sl w w.heap.size 1 sv (wv ws)) (hws : ∀ x ∈ ws, x.length ≤ 200000) (hn : ws.length ≤ 200001) :
    Calls Tryd.prog 41 #[sv, .int .i64 N, .int .i64 L] w (HeadPost (headN ws N L) w) := by
  obtain ⟨R, hR⟩ := name_of (headN ws N L)
  have HR := Lib.hid hR
  rw [hR]
  obtain ⟨A, n, c, rfl, hnc, hnl, hA⟩ := hs
  simp only [wv_length, Nat.mul_one] at hnl
  have h6 := heap_alloc2_old w (.cells #[.int .i64 0, .slice none 0 0] 46) (.cells #[.int .i64 0, .slice none 0 0] 46)
  have h8 := heap_alloc2_new w (.cells #[.int .i64 0, .slice none 0 0] 46) (.cells #[.int .i64 0, .slice none 0 0] 46)
  have hB0 : Below w.heap.size w ((w.alloc (.cells #[.int .i64 0, .slice none 0 0] 46)).alloc (.cells #[.int .i64 0, .slice none 0 0] 46)) := by go_grown
  have H6 := Lib.hid h6
  have H8 := Lib.hid h8
  have hs0 : w.heap.size + 1 < ((w.alloc (.cells #[.int .i64 0, .slice none 0 0] 46)).alloc (.cells #[.int .i64 0, .slice none 0 0] 46)).heap.size := by simp
  by_cases h4 : ws.length = 4
  · obtain ⟨a, b, d, e, rfl⟩ : ∃ a b d e, ws = [a, b, d, e] := by
      match ws, h4 with
      | [a, b, d, e], _ => exact ⟨a, b, d, e, rfl⟩
    obtain rfl : n = 4 := by omega
    obtain ⟨g0, off, rfl, hg0, hr⟩ := hA (by omega)
    have k1 : w.cell? ⟨g0, off + 1, none⟩ = some (.string ⟨b.toArray⟩) := hr 1 _ rfl
    have k2 : w.cell? ⟨g0, off + 2, none⟩ = some (.string ⟨d.toArray⟩) := hr 2 _ rfl
    have k3 : w.cell? ⟨g0, off + 3, none⟩ = some (.string ⟨e.toArray⟩) := hr 3 _ rfl
    have hbl := hws b (by simp)
    have hel := hws e (by simp)
    obtain ⟨bs, hbs, hbz⟩ := let_ b 200000 hbl
    obtain ⟨es, hes, hez⟩ := let_ e 200000 hel
    rw [hbs] at k1
    rw [hes] at k3
    rw [headN_four] at hR
    have HR := Lib.hid hR
    clear hR hA hnl hr hws hn hbl hel h4 h6 h8
    by_cases hd : d = needsL
    · have z0 := list_beq hd
      have HR1 : Hid ((match numA b, numA e with
        | some k, some m => if 32 ≤ N ∨ (0 < N ∧ L = 0) then .inl 12 else if k ≠ N ∨ 255 < m then .inl 10 else .inr m
        | _, _ => .inl 11) = R) := Lib.hid (by rw [← HR.out, if_neg (fun e => e hd)])
      obtain ⟨ds, hds⟩ := name_of (⟨d.toArray⟩ : ByteArray)
      rw [hds] at z0 k2
      have hNb := fun W => refValue_any bs hbz W
      have hNe := fun W => refValue_any es hez W
      have HBS : Hid (bs.data.toList = b) := Lib.hid (by rw [← hbs])
      have HES : Hid (es.data.toList = e) := Lib.hid (by rw [← hes])
      rw [HBS.out] at hNb
      rw [HES.out] at hNe
      unfold needsL at z0
      have k3' := (hB0.cell (p := ⟨g0, off + 3, none⟩) hg0).trans k3
      have hk3s : g0 < ((w.alloc (.cells #[.int .i64 0, .slice none 0 0] 46)).alloc (.cells #[.int .i64 0, .slice none 0 0] 46)).heap.size := Nat.lt_of_lt_of_le hg0 hB0.size
      clear HR hds hd hbs hes
      go_enter Tryd.func41, Tryd.ntmps41
      go_wp2_with fail
      cases hnb : numA b with
      | none =>
        have HR2 : Hid (R = .inl 11) := Lib.hid (by rw [← HR1.out, hnb])
        refine (np_of_none (hNb _) hnb).mono ?_
        rintro e1 w1 ⟨rfl, hb1⟩
        have k3' := (hb1.cell (p := ⟨g0, off + 3, none⟩) hk3s).trans k3'
        have G6 := blk_next H6.out hb1
        have G8 := blk_next H8.out hb1
        have hB1 := hB0.next hb1
        have hg1 := Nat.lt_of_lt_of_le hk3s hb1.size
        clear hNb hnb HR1 k1 k2 k3 hb1
        go_wp2_with fail
        refine (hNe w1).mono ?_
        intro e2 w2 hp2
        unfold NumPost at hp2
        have hB2 := hB1.next hp2.2
        have G6 := blk_next G6 hp2.2
        have G8 := blk_next G8 hp2.2
        obtain ⟨hp2, -⟩ := hp2
        clear k3' hNe
        cases hne : numA e with
        | none =>
          rw [hne] at hp2
          subst hp2
          clear hne
          go_wp2_with (first | (refine wpList_load_blk rfl 46 46 (.tmp 8) rfl (w.heap.size + 1) rfl _ _ G8 _ Tryd.underlying46 rfl (by kernel_rfl) ?_) | (refine wpList_store_blk rfl 46 46 (.tmp 6) _ rfl w.heap.size rfl _ rfl _ G6 (by kernel_rfl) rfl (by kernel_rfl) ?_; intro w9 hg9 ho9 hz9 hb9))
          refine bodyPost_ret (results_cell_tmp rfl _ _ w.heap.size 46 _ _ _ rfl hg9 Tryd.underlying46 rfl (by kernel_rfl)) rfl ?_
          exact hp_inl HR2.out rfl (hB2.trans hb9)
        | some m =>
          rw [hne] at hp2
          subst hp2
          clear hne
          go_wp2_with (first | (refine wpList_load_blk rfl 46 46 (.tmp 8) rfl (w.heap.size + 1) rfl _ _ G8 _ Tryd.underlying46 rfl (by kernel_rfl) ?_) | (refine wpList_store_blk rfl 46 46 (.tmp 6) _ rfl w.heap.size rfl _ rfl _ G6 (by kernel_rfl) rfl (by kernel_rfl) ?_; intro w9 hg9 ho9 hz9 hb9))
          refine bodyPost_ret (results_cell_tmp rfl _ _ w.heap.size 46 _ _ _ rfl hg9 Tryd.underlying46 rfl (by kernel_rfl)) rfl ?_
          exact hp_inl HR2.out rfl (hB2.trans hb9)
      | some k =>
        have hkr := numA_range hnb
        refine (np_of_some (hNb _) hnb).mono ?_
        rintro e1 w1 ⟨rfl, hb1⟩
        have k3' := (hb1.cell (p := ⟨g0, off + 3, none⟩) hk3s).trans k3'
        have G6 := blk_next H6.out hb1
        have G8 := blk_next H8.out hb1
        have hB1 := hB0.next hb1
        have hg1 := Nat.lt_of_lt_of_le hk3s hb1.size
        clear hNb k1 k2 k3 hb1
        go_wp2_with fail
        cases hne : numA e with
        | none =>
          have HR2 : Hid (R = .inl 11) := Lib.hid (by rw [← HR1.out, hnb, hne])
          refine (np_of_none (hNe w1) hne).mono ?_
          rintro e2 w2 ⟨rfl, hb2⟩
          have G6 := blk_next G6 hb2
          have G8 := blk_next G8 hb2
          have hB2 := hB1.next hb2
          clear hNe hne hnb HR1 k3' hb2
          go_wp2_with (first | (refine wpList_load_blk rfl 46 46 (.tmp 8) rfl (w.heap.size + 1) rfl _ _ G8 _ Tryd.underlying46 rfl (by kernel_rfl) ?_) | (refine wpList_store_blk rfl 46 46 (.tmp 6) _ rfl w.heap.size rfl _ rfl _ G6 (by kernel_rfl) rfl (by kernel_rfl) ?_; intro w9 hg9 ho9 hz9 hb9))
          refine bodyPost_ret (results_cell_tmp rfl _ _ w.heap.size 46 _ _ _ rfl hg9 Tryd.underlying46 rfl (by kernel_rfl)) rfl ?_
          exact hp_inl HR2.out rfl (hB2.trans hb9)
        | some m =>
          have hmr := numA_range hne
          have HR2 : Hid ((if 32 ≤ N ∨ (0 < N ∧ L = 0) then .inl 12 else if k ≠ N ∨ 255 < m then .inl 10 else .inr m) = R) := Lib.hid (by rw [← HR1.out, hnb, hne])
          refine (np_of_some (hNe w1) hne).mono ?_
          rintro e2 w2 ⟨rfl, hb2⟩
          have G6 := blk_next G6 hb2
          have G8 := blk_next G8 hb2
          have hB2 := hB1.next hb2
          clear hNe hne hnb HR1 k3' hb2
          by_cases h32 : 32 ≤ N
          · have f1 : decide (32 ≤ (N : Int)) = true := decide_eq_true (by omega)
            have HR3 : Hid (R = .inl 12) := Lib.hid (by rw [← HR2.out, if_pos (.inl h32)])
            clear HR2 h32
            go_wp2_with (first | (refine wpList_load_blk rfl 46 46 (.tmp 8) rfl (w.heap.size + 1) rfl _ _ G8 _ Tryd.underlying46 rfl (by kernel_rfl) ?_) | (refine wpList_store_blk rfl 46 46 (.tmp 6) _ rfl w.heap.size rfl _ rfl _ G6 (by kernel_rfl) rfl (by kernel_rfl) ?_; intro w9 hg9 ho9 hz9 hb9))
            refine bodyPost_ret (results_cell_tmp rfl _ _ w.heap.size 46 _ _ _ rfl hg9 Tryd.underlying46 rfl (by kernel_rfl)) rfl ?_
            exact hp_inl HR3.out rfl (hB2.trans hb9)
          · have f1 : decide (32 ≤ (N : Int)) = false := decide_eq_false (by omega)
            have HC : (0 < N ∧ L = 0) ∨ ¬ (0 < N ∧ L = 0) := by omega
            rcases HC with hc | hc
            · obtain ⟨hz, hL0⟩ := hc
              have f2 : decide (0 < (N : Int)) = true := decide_eq_true (by omega)
              have f2' : decide (0 < N) = true := decide_eq_true (by omega)
              have f5 : ((L : Int) == 0) = true := by rw [beq_iff_eq]; omega
              have HR3 : Hid (R = .inl 12) := Lib.hid (by rw [← HR2.out, if_pos (.inr ⟨hz, hL0⟩)])
              clear HR2 h32 hz hL0
              go_wp2_with (first | (refine wpList_load_blk rfl 46 46 (.tmp 8) rfl (w.heap.size + 1) rfl _ _ G8 _ Tryd.underlying46 rfl (by kernel_rfl) ?_) | (refine wpList_store_blk rfl 46 46 (.tmp 6) _ rfl w.heap.size rfl _ rfl _ G6 (by kernel_rfl) rfl (by kernel_rfl) ?_; intro w9 hg9 ho9 hz9 hb9))
              refine bodyPost_ret (results_cell_tmp rfl _ _ w.heap.size 46 _ _ _ rfl hg9 Tryd.underlying46 rfl (by kernel_rfl)) rfl ?_
              exact hp_inl HR3.out rfl (hB2.trans hb9)
            · have HR3 : Hid ((if k ≠ N ∨ 255 < m then .inl 10 else .inr m) = R) := Lib.hid (by rw [← HR2.out, if_neg (show ¬ (32 ≤ N ∨ (0 < N ∧ L = 0)) by omega)])
              have HT : (decide (0 < (N : Int)) = false ∧ decide (0 < N) = false) ∨ (decide (0 < (N : Int)) = true ∧ decide (0 < N) = true ∧ ((L : Int) == 0) = false) := by
                rcases Nat.eq_zero_or_pos N with hz | hz
                · exact .inl ⟨decide_eq_false (by omega), decide_eq_false (by omega)⟩
                · exact .inr ⟨decide_eq_true (by omega), decide_eq_true (by omega), by rw [beq_eq_false_iff_ne]; omega⟩
              clear HR2 h32 hc
              by_cases hkn : k = (N : Int)
              · have f3 : (k != (N : Int)) = false := by simp [hkn]
                by_cases hm : 255 < m
                · have f4 : decide (255 < m) = true := decide_eq_true hm
                  have HR4 : Hid (R = .inl 10) := Lib.hid (by rw [← HR3.out, if_pos (.inr hm)])
                  clear HR3 hkn hm
                  rcases HT with ⟨f2, f2'⟩ | ⟨f2, f2', f5⟩
                  · go_wp2_with (first | (refine wpList_load_blk rfl 46 46 (.tmp 8) rfl (w.heap.size + 1) rfl _ _ G8 _ Tryd.underlying46 rfl (by kernel_rfl) ?_) | (refine wpList_store_blk rfl 46 46 (.tmp 6) _ rfl w.heap.size rfl _ rfl _ G6 (by kernel_rfl) rfl (by kernel_rfl) ?_; intro w9 hg9 ho9 hz9 hb9))
                    refine bodyPost_ret (results_cell_tmp rfl _ _ w.heap.size 46 _ _ _ rfl hg9 Tryd.underlying46 rfl (by kernel_rfl)) rfl ?_
                    exact hp_inl HR4.out rfl (hB2.trans hb9)
                  · go_wp2_with (first | (refine wpList_load_blk rfl 46 46 (.tmp 8) rfl (w.heap.size + 1) rfl _ _ G8 _ Tryd.underlying46 rfl (by kernel_rfl) ?_) | (refine wpList_store_blk rfl 46 46 (.tmp 6) _ rfl w.heap.size rfl _ rfl _ G6 (by kernel_rfl) rfl (by kernel_rfl) ?_; intro w9 hg9 ho9 hz9 hb9))
                    refine bodyPost_ret (results_cell_tmp rfl _ _ w.heap.size 46 _ _ _ rfl hg9 Tryd.underlying46 rfl (by kernel_rfl)) rfl ?_
                    exact hp_inl HR4.out rfl (hB2.trans hb9)
                · have f4 : decide (255 < m) = false := decide_eq_false hm
                  have HR4 : Hid (R = .inr m) := Lib.hid (by rw [← HR3.out, if_neg (by rintro (h | h); exact h hkn; exact hm h)])
                  clear HR3 hkn hm
                  rcases HT with ⟨f2, f2'⟩ | ⟨f2, f2', f5⟩
                  · go_wp2_with (first | (refine wpList_load_blk rfl 46 46 (.tmp 8) rfl (w.heap.size + 1) rfl _ _ G8 _ Tryd.underlying46 rfl (by kernel_rfl) ?_) | (refine wpList_store_blk rfl 46 46 (.tmp 6) _ rfl w.heap.size rfl _ rfl _ G6 (by kernel_rfl) rfl (by kernel_rfl) ?_; intro w9 hg9 ho9 hz9 hb9))
                    refine bodyPost_ret (results_cell_tmp rfl _ _ w.heap.size 46 _ _ _ rfl hg9 Tryd.underlying46 rfl (by kernel_rfl)) rfl ?_
                    exact hp_inr HR4.out rfl (hB2.trans hb9)
                  · go_wp2_with (first | (refine wpList_load_blk rfl 46 46 (.tmp 8) rfl (w.heap.size + 1) rfl _ _ G8 _ Tryd.underlying46 rfl (by kernel_rfl) ?_) | (refine wpList_store_blk rfl 46 46 (.tmp 6) _ rfl w.heap.size rfl _ rfl _ G6 (by kernel_rfl) rfl (by kernel_rfl) ?_; intro w9 hg9 ho9 hz9 hb9))
                    refine bodyPost_ret (results_cell_tmp rfl _ _ w.heap.size 46 _ _ _ rfl hg9 Tryd.underlying46 rfl (by kernel_rfl)) rfl ?_
                    exact hp_inr HR4.out rfl (hB2.trans hb9)
              · have f3 : (k != (N : Int)) = true := by simp [hkn]
                have HR4 : Hid (R = .inl 10) := Lib.hid (by rw [← HR3.out, if_pos (.inl hkn)])
                clear HR3 hkn
                rcases HT with ⟨f2, f2'⟩ | ⟨f2, f2', f5⟩
                · go_wp2_with (first | (refine wpList_load_blk rfl 46 46 (.tmp 8) rfl (w.heap.size + 1) rfl _ _ G8 _ Tryd.underlying46 rfl (by kernel_rfl) ?_) | (refine wpList_store_blk rfl 46 46 (.tmp 6) _ rfl w.heap.size rfl _ rfl _ G6 (by kernel_rfl) rfl (by kernel_rfl) ?_; intro w9 hg9 ho9 hz9 hb9))
                  refine bodyPost_ret (results_cell_tmp rfl _ _ w.heap.size 46 _ _ _ rfl hg9 Tryd.underlying46 rfl (by kernel_rfl)) rfl ?_
                  exact hp_inl HR4.out rfl (hB2.trans hb9)
                · go_wp2_with (first | (refine wpList_load_blk rfl 46 46 (.tmp 8) rfl (w.heap.size + 1) rfl _ _ G8 _ Tryd.underlying46 rfl (by kernel_rfl) ?_) | (refine wpList_store_blk rfl 46 46 (.tmp 6) _ rfl w.heap.size rfl _ rfl _ G6 (by kernel_rfl) rfl (by kernel_rfl) ?_; intro w9 hg9 ho9 hz9 hb9))
                  refine bodyPost_ret (results_cell_tmp rfl _ _ w.heap.size 46 _ _ _ rfl hg9 Tryd.underlying46 rfl (by kernel_rfl)) rfl ?_
                  exact hp_inl HR4.out rfl (hB2.trans hb9)
    · have z0 := list_bne hd
      have HR1 : Hid (R = .inl 11) := Lib.hid (by rw [← HR.out, if_pos hd])
      obtain ⟨ds, hds⟩ := name_of (⟨d.toArray⟩ : ByteArray)
      rw [hds] at z0 k2
      unfold needsL at z0
      clear HR hds hd hbs hes
      go_enter Tryd.func41, Tryd.ntmps41
      go_wp2_with (first | (refine wpList_load_blk rfl 46 46 (.tmp 8) rfl (w.heap.size + 1) rfl _ _ H8.out _ Tryd.underlying46 rfl (by kernel_rfl) ?_) | (refine wpList_store_blk rfl 46 46 (.tmp 6) _ rfl w.heap.size rfl _ rfl _ H6.out (by kernel_rfl) rfl (by kernel_rfl) ?_; intro w9 hg9 ho9 hz9 hb9))
      refine bodyPost_ret (results_cell_tmp rfl _ _ w.heap.size 46 _ _ _ rfl hg9 Tryd.underlying46 rfl (by kernel_rfl)) rfl ?_
      exact hp_inl HR1.out rfl (hB0.trans hb9)
  · have HR1 : Hid (R = .inl 11) := Lib.hid (by rw [← HR.out, headN_len h4])
    have z0 : ((n : Int) != 4) = true := by simp; omega
    clear HR hR hA hnl hws hn h4 h6 h8
    go_enter Tryd.func41, Tryd.ntmps41
    go_wp2_with (first | (refine wpList_load_blk rfl 46 46 (.tmp 8) rfl (w.heap.size + 1) rfl _ _ H8.out _ Tryd.underlying46 rfl (by kernel_rfl) ?_) | (refine wpList_store_blk rfl 46 46 (.tmp 6) _ rfl w.heap.size rfl _ rfl _ H6.out (by kernel_rfl) rfl (by kernel_rfl) ?_; intro w9 hg9 ho9 hz9 hb9))
    refine bodyPost_ret (results_cell_tmp rfl _ _ w.heap.size 46 _ _ _ rfl hg9 Tryd.underlying46 rfl (by kernel_rfl)) rfl ?_
    exact hp_inl HR1.out rfl (hB0.trans hb9)
end P3
end Go.Proofs.YtggdbceommmllaaDoor
