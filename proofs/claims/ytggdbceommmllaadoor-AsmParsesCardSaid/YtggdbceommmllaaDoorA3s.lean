/- Asm: the parser's method head. -/
import Derived.Test.YtggdbceommmllaaDoorA3r
namespace Go.Proofs.YtggdbceommmllaaDoor
open Go.RowKit
namespace P3
open P2 PC NumL CutL

theorem list_beq {c l : List UInt8} (h : c = l) : ((⟨c.toArray⟩ : ByteArray).toList == l) = true := by subst h; rw [ByteArray.toList_eq]; simp
theorem list_bne {c l : List UInt8} (h : c ≠ l) : ((⟨c.toArray⟩ : ByteArray).toList == l) = false := by
  rw [ByteArray.toList_eq, beq_eq_false_iff_ne]
  exact h
set_option maxRecDepth 10000 in
set_option maxHeartbeats 8000000 in
theorem head_any {w : World} {B pb : Nat} {v sv : Value} {p : List Fn} {cv : List Value} {ws : List (List UInt8)} (hBp : B ≤ pb) (hb : w.heap[pb]? = some (.cells #[v] 48 (0, 0))) (h : FnsD w B v p cv) (hP : Pf p)
    (hs : Sl w w.heap.size 1 sv (wv ws)) (hws : ∀ x ∈ ws, x.length ≤ 200000) (hn : ws.length ≤ 200001) :
    Calls Tryd.prog 43 #[.pointer (some ⟨pb, 0, none⟩), sv] w (LinePost B pb (headR ws p) w) := by
  have hpw := lt_of_block hb
  have hBw : B ≤ w.heap.size := by omega
  obtain ⟨R, hR⟩ := name_of (headR ws p)
  have HR := Lib.hid hR
  rw [hR]
  obtain ⟨A, n, c, rfl, hnc, hnl, hA⟩ := hs
  simp only [wv_length, Nat.mul_one] at hnl
  have HP := Lib.hid hP
  have HB := Lib.hid hb
  have HD := Lib.hid h
  by_cases h4 : ws.length = 4
  · obtain ⟨a, b, d, e, rfl⟩ : ∃ a b d e, ws = [a, b, d, e] := by
      match ws, h4 with
      | [a, b, d, e], _ => exact ⟨a, b, d, e, rfl⟩
    obtain rfl : n = 4 := by omega
    obtain ⟨g0, off, rfl, hg0, hr⟩ := hA (by omega)
    have k1 : w.cell? ⟨g0, off + 1, none⟩ = some (.string ⟨b.toArray⟩) := hr 1 _ rfl
    have k2 : w.cell? ⟨g0, off + 2, none⟩ = some (.string ⟨d.toArray⟩) := hr 2 _ rfl
    have k3 : w.cell? ⟨g0, off + 3, none⟩ = some (.string ⟨e.toArray⟩) := hr 3 _ rfl
    have hbl := hws b (by simp)
    have hel := hws e (by simp)
    obtain ⟨bs, hbs, hbz⟩ := let_ b 200000 hbl
    obtain ⟨es, hes, hez⟩ := let_ e 200000 hel
    rw [hbs] at k1
    rw [hes] at k3
    rw [headR_four] at hR
    have HR := Lib.hid hR
    clear hR hA hnl hr hws hn hbl hel hP hb h h4
    by_cases hd : d = needsL
    · have z0 := list_beq hd
      have HR1 : Hid ((match numA b, numA e with
        | some k, some m => if 32 ≤ p.length ∨ (0 < p.length ∧ lastN p = 0) then .inl 12 else if k ≠ p.length ∨ 255 < m then .inl 10 else .inr (p ++ [(m, [])])
        | _, _ => .inl 11) = R) := Lib.hid (by rw [← HR.out, if_neg (fun e => e hd)]; rfl)
      obtain ⟨ds, hds⟩ := name_of (⟨d.toArray⟩ : ByteArray)
      rw [hds] at z0 k2
      have hNb := numeral_any bs hbz w
      have hNe := fun W => numeral_any es hez W
      have HBS : Hid (bs.data.toList = b) := Lib.hid (by rw [← hbs])
      have HES : Hid (es.data.toList = e) := Lib.hid (by rw [← hes])
      rw [HBS.out] at hNb
      rw [HES.out] at hNe
      unfold needsL at z0
      clear HR hds hd hbs hes
      go_enter Tryd.func43, Tryd.ntmps43
      go_wp2_with fail
      cases hnb : numA b with
      | none =>
        have HR2 : Hid (R = .inl 11) := Lib.hid (by rw [← HR1.out, hnb])
        refine (np_of_none hNb hnb).mono ?_
        rintro e1 w1 ⟨rfl, hb1⟩
        have k3' := (hb1.cell (p := ⟨g0, off + 3, none⟩) hg0).trans k3
        have hx1 : w1.cell? ⟨pb, 0, none⟩ = some v := by rw [cell_of_row _ _ _ _ _ _ (blk_next HB.out hb1)]; rfl
        have hB1 : Below B w w1 := hb1.mono hBw
        obtain ⟨Av, cv', rfl⟩ := HD.out.slice
        have hlen := HP.out.len
        obtain ⟨N, hN⟩ := name_of p.length
        rw [hN] at hx1 hlen
        clear hNb hnb HR1 k1 k2 k3 hb1
        go_wp2_with fail
        refine (hNe w1).mono ?_
        intro e2 w2 hp2
        unfold NumPost at hp2
        have hx2 := (hp2.2.cell (p := ⟨pb, 0, none⟩) (World.block_lt_of_cell? _ _ hx1)).trans hx1
        have hB2 : Below B w w2 := hB1.trans (hp2.2.mono (Nat.le_trans hBw (Nat.le_of_lt_succ (by have := hB1.size; omega))))
        obtain ⟨hp2, -⟩ := hp2
        clear hx1 k3' hNe
        cases hne : numA e with
        | none =>
          rw [hne] at hp2
          subst hp2
          clear hne
          go_wp2_with fail
          go_ret
          exact lp_inl HR2.out rfl hB2
        | some m =>
          rw [hne] at hp2
          subst hp2
          clear hne
          go_wp2_with fail
          go_ret
          exact lp_inl HR2.out rfl hB2
      | some k =>
        have hkr := numA_range hnb
        refine (np_of_some hNb hnb).mono ?_
        rintro e1 w1 ⟨rfl, hb1⟩
        have k3' := (hb1.cell (p := ⟨g0, off + 3, none⟩) hg0).trans k3
        have hx1 : w1.cell? ⟨pb, 0, none⟩ = some v := by rw [cell_of_row _ _ _ _ _ _ (blk_next HB.out hb1)]; rfl
        have hB1 : Below B w w1 := hb1.mono hBw
        have HB1 := Lib.hid (blk_next HB.out hb1)
        have HD1 := Lib.hid (HD.out.below hb1)
        have hw1 := hb1.size
        obtain ⟨Av, cv', rfl⟩ := HD.out.slice
        have hlen := HP.out.len
        have HLN := Lib.hid (rfl : p.length = p.length)
        clear hNb HB HD k1 k2 k3 hb1
        go_wp2_with fail
        cases hne : numA e with
        | none =>
          have HR2 : Hid (R = .inl 11) := Lib.hid (by rw [← HR1.out, hnb, hne])
          refine (np_of_none (hNe w1) hne).mono ?_
          rintro e2 w2 ⟨rfl, hb2⟩
          have hx2 := (hb2.cell (p := ⟨pb, 0, none⟩) (World.block_lt_of_cell? _ _ hx1)).trans hx1
          have hB2 : Below B w w2 := hB1.trans (hb2.mono (by omega))
          obtain ⟨N, hN⟩ := name_of p.length
          rw [hN] at hx2 hlen
          clear hNe hne hnb HR1 hx1 k3' hb2
          go_wp2_with fail
          go_ret
          exact lp_inl HR2.out rfl hB2
        | some m =>
          have hmr := numA_range hne
          have HR2 : Hid ((if 32 ≤ p.length ∨ (0 < p.length ∧ lastN p = 0) then .inl 12 else if k ≠ p.length ∨ 255 < m then .inl 10 else .inr (p ++ [(m, [])])) = R) := Lib.hid (by rw [← HR1.out, hnb, hne])
          refine (np_of_some (hNe w1) hne).mono ?_
          rintro e2 w2 ⟨rfl, hb2⟩
          have hx2 := (hb2.cell (p := ⟨pb, 0, none⟩) (World.block_lt_of_cell? _ _ hx1)).trans hx1
          have hB2 : Below B w w2 := hB1.trans (hb2.mono (by omega))
          have HB2 := Lib.hid (blk_next HB1.out hb2)
          have HD2 := Lib.hid (HD1.out.below hb2)
          have hw2 := hb2.size
          clear hNe hne hnb HR1 hx1 k3' hb2 HB1 HD1
          have hLast := last_any HB2.out HD2.out HP.out
          have hL128 := lastN_le HP.out
          obtain ⟨L, hLL⟩ := name_of (lastN p)
          rw [hLL] at hLast hL128
          obtain ⟨N, hN⟩ := name_of p.length
          have HN := Lib.hid hN
          have HL := Lib.hid hLL
          rw [hN] at hx2 hlen
          clear hN hLL
          by_cases h32 : 32 ≤ N
          · have f1 : decide (32 ≤ (N : Int)) = true := decide_eq_true (by omega)
            have HR3 : Hid (R = .inl 12) := Lib.hid (by rw [← HR2.out, if_pos (.inl (by rw [HN.out]; exact h32))])
            clear HR2 hLast h32
            go_wp2_with fail
            go_ret
            exact lp_inl HR3.out rfl hB2
          · have f1 : decide (32 ≤ (N : Int)) = false := decide_eq_false (by omega)
            rcases Nat.eq_zero_or_pos N with hz | hz
            · have f2 : decide (0 < (N : Int)) = false := decide_eq_false (by omega)
              have f2' : decide (0 < N) = false := decide_eq_false (by omega)
              have HR3 : Hid ((if k ≠ p.length ∨ 255 < m then .inl 10 else .inr (p ++ [(m, [])])) = R) := Lib.hid (by rw [← HR2.out, if_neg (show ¬ (32 ≤ p.length ∨ (0 < p.length ∧ lastN p = 0)) by rw [HN.out]; omega)])
              clear HR2 hLast h32 hz
              by_cases hkn : k = (N : Int)
              · have f3 : (k != (N : Int)) = false := by simp [hkn]
                by_cases hm : 255 < m
                · have f4 : decide (255 < m) = true := decide_eq_true hm
                  have HR4 : Hid (R = .inl 10) := Lib.hid (by rw [← HR3.out, if_pos (.inr hm)])
                  clear HR3 hkn hm
                  go_wp2_with fail
                  go_ret
                  exact lp_inl HR4.out rfl hB2
                · have f4 : decide (255 < m) = false := decide_eq_false hm
                  have HR4 : Hid (R = .inr (p ++ [(m, [])])) := Lib.hid (by rw [← HR3.out, if_neg (by rintro (h | h); exact h (by rw [HN.out]; exact hkn); exact hm h)])
                  clear HR3 hkn hm
                  go_wp2_with (at_builtin; have HDX := Lib.hid (HD2.out.below ((Below.refl _ _).alloc (Nat.le_refl _) (.cells #[.int .i64 m, .slice none 0 0] 46))); have HBX := Lib.hid (blk_next HB2.out ((Below.refl _ _).alloc (Nat.le_refl _) (.cells #[.int .i64 m, .slice none 0 0] 46))); have hBX := hB2.alloc (show B ≤ w2.heap.size by omega) (.cells #[.int .i64 m, .slice none 0 0] 46); have hrow := HDX.out.row; rw [HN.out] at hrow HBX; have hsl := Sl.new w2 (size := 2) #[.int .i64 m, .slice none 0 0] 46 1 w2.heap.size rfl rfl rfl; refine wpList_append_sl rfl (.tmp 69) (.tmp 72) 23 rfl B 46 (.agg #[.int .i64 0, .slice none 0 0]) 2 32 Tryd.underlying23 info_fn rfl (by omega) _ N _ rfl hrow _ 1 _ _ rfl hsl rfl (by simp [Value.oneCell']) (by omega) (by omega) (Nat.le_trans hBw hBX.size) ?_; intro v6 w6 hown6 hg6 hat6; have hb6 := grown_block hg6 HBX.out (own_ne hrow HBX.out parser_ne.1); have c6 : w6.cell? ⟨pb, 0, none⟩ = some (.slice Av N cv') := (by rw [cell_of_row _ _ _ _ _ _ hb6]; rfl); have z6 := frozen_of_row _ _ 0 _ _ hb6; have hownN := hown6; rw [← HN.out] at hownN; have hgN := hg6; rw [← HN.out] at hgN; obtain ⟨A6, n6, c6', rfl⟩ := own_slice hown6; clear hown6 hat6 hsl)
                  go_ret
                  refine lp_inr HR4.out rfl (heap_setCell_same _ pb 0 _ _ _ hb6) ((HDX.out.head hgN hownN).kept (grownBy_setCell_at _ pb 0 _) fun g e => by injection e with e; subst e; exact ⟨_, _, _, hb6, parser_ne.1, parser_ne.2⟩) ?_
                  exact (hBX.grown hg6 (Nat.le_trans hBw hBX.size) fun k e => (hrow.lt k e).1).setCell (p := ⟨pb, 0, none⟩) hBp _
              · have f3 : (k != (N : Int)) = true := by simp [hkn]
                have HR4 : Hid (R = .inl 10) := Lib.hid (by rw [← HR3.out, if_pos (.inl (by rw [HN.out]; exact hkn))])
                clear HR3 hkn
                go_wp2_with fail
                go_ret
                exact lp_inl HR4.out rfl hB2
            · have f2 : decide (0 < (N : Int)) = true := decide_eq_true (by omega)
              have f2' : decide (0 < N) = true := decide_eq_true (by omega)
              by_cases hL0 : L = 0
              · have f5 : ((L : Int) == 0) = true := by rw [beq_iff_eq]; omega
                have HR3 : Hid (R = .inl 12) := Lib.hid (by rw [← HR2.out, if_pos (.inr ⟨by rw [HN.out]; exact hz, by rw [HL.out]; exact hL0⟩)])
                clear HR2 h32 hz hL0
                go_wp2_with (go_at_call 23; refine hLast.mono ?_; rintro e3 w3 ⟨rfl, q3, hw3⟩; clear hLast; have hb3 : Below w2.heap.size w2 w3 := (by rw [hw3]; exact below_drewn q3); have hB3 : Below B w w3 := hB2.trans (hb3.mono (by omega)); clear hw3 hb3 hx2)
                go_ret
                exact lp_inl HR3.out rfl hB3
              · have f5 : ((L : Int) == 0) = false := by rw [beq_eq_false_iff_ne]; omega
                have HR3 : Hid ((if k ≠ p.length ∨ 255 < m then .inl 10 else .inr (p ++ [(m, [])])) = R) := Lib.hid (by rw [← HR2.out, if_neg (show ¬ (32 ≤ p.length ∨ (0 < p.length ∧ lastN p = 0)) by rw [HN.out, HL.out]; omega)])
                clear HR2 h32 hz hL0
                by_cases hkn : k = (N : Int)
                · have f3 : (k != (N : Int)) = false := by simp [hkn]
                  by_cases hm : 255 < m
                  · have f4 : decide (255 < m) = true := decide_eq_true hm
                    have HR4 : Hid (R = .inl 10) := Lib.hid (by rw [← HR3.out, if_pos (.inr hm)])
                    clear HR3 hkn hm
                    go_wp2_with (go_at_call 23; refine hLast.mono ?_; rintro e3 w3 ⟨rfl, q3, hw3⟩; clear hLast; have hb3 : Below w2.heap.size w2 w3 := (by rw [hw3]; exact below_drewn q3); have hx3 := (hb3.cell (p := ⟨pb, 0, none⟩) (World.block_lt_of_cell? _ _ hx2)).trans hx2; have HB3 := Lib.hid (blk_next HB2.out hb3); have HD3 := Lib.hid (HD2.out.below hb3); have hB3 : Below B w w3 := hB2.trans (hb3.mono (by omega)); have hw3' := hb3.size; clear hw3 hb3 hx2)
                    go_ret
                    exact lp_inl HR4.out rfl hB3
                  · have f4 : decide (255 < m) = false := decide_eq_false hm
                    have HR4 : Hid (R = .inr (p ++ [(m, [])])) := Lib.hid (by rw [← HR3.out, if_neg (by rintro (h | h); exact h (by rw [HN.out]; exact hkn); exact hm h)])
                    clear HR3 hkn hm
                    go_wp2_with (first | (go_at_call 23; refine hLast.mono ?_; rintro e3 w3 ⟨rfl, q3, hw3⟩; clear hLast; have hb3 : Below w2.heap.size w2 w3 := (by rw [hw3]; exact below_drewn q3); have hx3 := (hb3.cell (p := ⟨pb, 0, none⟩) (World.block_lt_of_cell? _ _ hx2)).trans hx2; have HB3 := Lib.hid (blk_next HB2.out hb3); have HD3 := Lib.hid (HD2.out.below hb3); have hB3 : Below B w w3 := hB2.trans (hb3.mono (by omega)); have hw3' := hb3.size; clear hw3 hb3 hx2) | (at_builtin; have HDX := Lib.hid (HD3.out.below ((Below.refl _ _).alloc (Nat.le_refl _) (.cells #[.int .i64 m, .slice none 0 0] 46))); have HBX := Lib.hid (blk_next HB3.out ((Below.refl _ _).alloc (Nat.le_refl _) (.cells #[.int .i64 m, .slice none 0 0] 46))); have hBX := hB3.alloc (show B ≤ w3.heap.size by omega) (.cells #[.int .i64 m, .slice none 0 0] 46); have hrow := HDX.out.row; rw [HN.out] at hrow HBX; have hsl := Sl.new w3 (size := 2) #[.int .i64 m, .slice none 0 0] 46 1 w3.heap.size rfl rfl rfl; refine wpList_append_sl rfl (.tmp 69) (.tmp 72) 23 rfl B 46 (.agg #[.int .i64 0, .slice none 0 0]) 2 32 Tryd.underlying23 info_fn rfl (by omega) _ N _ rfl hrow _ 1 _ _ rfl hsl rfl (by simp [Value.oneCell']) (by omega) (by omega) (Nat.le_trans hBw hBX.size) ?_; intro v6 w6 hown6 hg6 hat6; have hb6 := grown_block hg6 HBX.out (own_ne hrow HBX.out parser_ne.1); have c6 : w6.cell? ⟨pb, 0, none⟩ = some (.slice Av N cv') := (by rw [cell_of_row _ _ _ _ _ _ hb6]; rfl); have z6 := frozen_of_row _ _ 0 _ _ hb6; have hownN := hown6; rw [← HN.out] at hownN; have hgN := hg6; rw [← HN.out] at hgN; obtain ⟨A6, n6, c6', rfl⟩ := own_slice hown6; clear hown6 hat6 hsl))
                    go_ret
                    refine lp_inr HR4.out rfl (heap_setCell_same _ pb 0 _ _ _ hb6) ((HDX.out.head hgN hownN).kept (grownBy_setCell_at _ pb 0 _) fun g e => by injection e with e; subst e; exact ⟨_, _, _, hb6, parser_ne.1, parser_ne.2⟩) ?_
                    exact (hBX.grown hg6 (Nat.le_trans hBw hBX.size) fun k e => (hrow.lt k e).1).setCell (p := ⟨pb, 0, none⟩) hBp _
                · have f3 : (k != (N : Int)) = true := by simp [hkn]
                  have HR4 : Hid (R = .inl 10) := Lib.hid (by rw [← HR3.out, if_pos (.inl (by rw [HN.out]; exact hkn))])
                  clear HR3 hkn
                  go_wp2_with (go_at_call 23; refine hLast.mono ?_; rintro e3 w3 ⟨rfl, q3, hw3⟩; clear hLast; have hb3 : Below w2.heap.size w2 w3 := (by rw [hw3]; exact below_drewn q3); have hx3 := (hb3.cell (p := ⟨pb, 0, none⟩) (World.block_lt_of_cell? _ _ hx2)).trans hx2; have HB3 := Lib.hid (blk_next HB2.out hb3); have HD3 := Lib.hid (HD2.out.below hb3); have hB3 : Below B w w3 := hB2.trans (hb3.mono (by omega)); have hw3' := hb3.size; clear hw3 hb3 hx2)
                  go_ret
                  exact lp_inl HR4.out rfl hB3
    · have z0 := list_bne hd
      have HR1 : Hid (R = .inl 11) := Lib.hid (by rw [← HR.out, if_pos hd])
      obtain ⟨ds, hds⟩ := name_of (⟨d.toArray⟩ : ByteArray)
      rw [hds] at z0 k2
      unfold needsL at z0
      clear HR hds hd hbs hes
      go_enter Tryd.func43, Tryd.ntmps43
      go_wp2_with fail
      go_ret
      exact lp_inl HR1.out rfl (Below.refl _ _)
  · have HR1 : Hid (R = .inl 11) := Lib.hid (by rw [← HR.out, headR_len h4])
    have z0 : ((n : Int) != 4) = true := by simp; omega
    clear HR hR hA hnl hws hn hP hb h h4
    go_enter Tryd.func43, Tryd.ntmps43
    go_wp2_with fail
    go_ret
    exact lp_inl HR1.out rfl (Below.refl _ _)
end P3
end Go.Proofs.YtggdbceommmllaaDoor
