/- Asm: Parse. -/
import Derived.Test.YtggdbceommmllaaDoorA3t
namespace Go.Proofs.YtggdbceommmllaaDoor
open Go.RowKit
namespace P3
open P2 PC NumL CutL

/-- What parsing leaves. -/
def ParsePost (r : List Fn × Nat × Int) (w : World) (e : Ending) (w' : World) : Prop := ∃ v, e = .returned (.tuple #[.agg #[v], .int .i64 (r.2.1 : Nat), .int .i64 r.2.2]) ∧ Fns w' w'.heap.size v r.1 ∧ Below w.heap.size w w'
theorem fns_nil (w : World) : Fns w w.heap.size (.slice none 0 0) [] := ⟨[], rfl, Sl.none_, fun k hk => absurd hk (by simp)⟩
theorem pp_err {r : List Fn × Nat × Int} {n : Nat} {c : Int} {w w' : World} {e : Ending} (h : r = ([], n, c)) (he : e = .returned (.tuple #[.agg #[.slice none 0 0], .int .i64 n, .int .i64 c])) (hb : Below w.heap.size w w') : ParsePost r w e w' := by
  subst h
  exact ⟨_, he, fns_nil w', hb⟩
theorem pp_ok {r : List Fn × Nat × Int} {p : List Fn} {v : Value} {w w' : World} {e : Ending} (h : r = (p, 0, 0)) (he : e = .returned (.tuple #[.agg #[v], .int .i64 0, .int .i64 0])) (hf : Fns w' w'.heap.size v p) (hb : Below w.heap.size w w') : ParsePost r w e w' := by
  subst h
  exact ⟨_, he, hf, hb⟩
theorem lineT_nz {x : List UInt8} {p : List Fn} {c : Int} (h : lineT x p = .inl c) : (c != 0) = true := by
  rw [bne_iff_ne]
  rintro rfl
  exact parse_inv.lineT_ne h
theorem parseL_end {n : Nat} {p : List Fn} : parseL (splitC 10 []) n p = if lastN p = 0 then ([], n + 1, 12) else (p, 0, 0) := by
  show parseL [[]] n p = _
  rw [parseL, if_neg (by simp)]
theorem parseL_torn {l : List UInt8} {n : Nat} {p : List Fn} (h : (10 : UInt8) ∉ l) (h0 : l ≠ []) : parseL (splitC 10 l) n p = ([], n + 1, 11) := by
  rw [splitC_miss 10 l h, parseL, if_pos h0]
theorem parseL_wrong {a b : List UInt8} {n : Nat} {p : List Fn} {c : Int} (h : (10 : UInt8) ∉ a) (ht : lineT a p = .inl c) : parseL (splitC 10 (a ++ 10 :: b)) n p = ([], n + 1, c) := by
  rw [splitC_hit 10 a b h]
  cases hs : splitC 10 b with
  | nil => exact absurd hs (splitC_ne 10 b)
  | cons y r => rw [parseL, ht]
theorem program_ne : (46 : Nat) ≠ 25 ∧ (33 : Nat) ≠ 25 := by decide
abbrev sizeOfV : Value → Nat
  | .string s => s.size
  | _ => 0
set_option maxRecDepth 10000 in
set_option maxHeartbeats 8000000 in
theorem parse_any (s : ByteArray) (hs : s.size ≤ 200000) (w : World) (hp : Lb w) : Calls Tryd.prog 11 #[.string s] w (ParsePost (parseA s.data.toList) w) := by
  obtain ⟨R, hR⟩ := name_of (parseA s.data.toList)
  have HR := Lib.hid hR
  rw [hR]
  clear hR
  have hgA := heap_alloc_last w (.cells #[.slice none 0 0] 25)
  have hbA := (Below.refl w.heap.size w).alloc (Nat.le_refl _) (.cells #[.slice none 0 0] 25)
  by_cases hl : 131072 < s.size
  · have z0 : decide (131072 < (s.size : Int)) = true := decide_eq_true (by omega)
    have HR1 : Hid (R = ([], 0, 12)) := Lib.hid (by rw [← HR.out]; unfold parseA; rw [if_pos (by rw [bs_len]; exact hl)])
    clear HR hl hp
    go_enter Tryd.func11, Tryd.ntmps11
    go_wp2_with fail
    go_step3
    go_wp2_with (refine wpList_store_blk rfl 25 25 (.tmp 2) _ rfl w.heap.size rfl _ rfl _ hgA (by kernel_rfl) rfl (by kernel_rfl) ?_; intro w9 hg9 ho9 hz9 hb9)
    try rw [Exit.noGoto_ret]
    refine bodyPost_ret (results_cell_tmp2 rfl _ _ w.heap.size 25 _ _ _ rfl hg9 Tryd.underlying25 rfl (by kernel_rfl)) rfl ?_
    exact pp_err HR1.out rfl (hbA.trans hb9)
  · have z0 : decide (131072 < (s.size : Int)) = false := decide_eq_false (by omega)
    have HR1 : Hid (parseL (splitC 10 s.data.toList) 0 [] = R) := Lib.hid (by rw [← HR.out]; unfold parseA; rw [if_neg (by rw [bs_len]; exact hl)])
    have hbB := hbA.alloc (by simp) (.cells #[.slice none 0 0] 48)
    have HG1 := Lib.hid (blk_next hgA ((Below.refl _ _).alloc (Nat.le_refl _) (.cells #[.slice none 0 0] 48)))
    have HP1 := Lib.hid (heap_alloc_last (w.alloc (.cells #[.slice none 0 0] 25)) (.cells #[.slice none 0 0] 48))
    have HLW := Lib.hid hp
    have hs1 : w.heap.size + 1 < ((w.alloc (.cells #[.slice none 0 0] 25)).alloc (.cells #[.slice none 0 0] 48)).heap.size := by simp
    rw [show (w.alloc (.cells #[.slice none 0 0] 25)).heap.size = w.heap.size + 1 by simp] at HP1
    clear HR hl hp hgA hbA
    go_enter Tryd.func11, Tryd.ntmps11
    go_wp2_with fail
    go_step3
    go_wp2_with fail
    go_step3
    go_wp2_with fail
    obtain ⟨W1, hW1⟩ := name_of ((w.alloc (.cells #[.slice none 0 0] 25)).alloc (.cells #[.slice none 0 0] 48))
    rw [hW1] at hbB HG1 HP1 hs1 ⊢
    have hw1 : w.heap.size < W1.heap.size := by omega
    clear hW1
    go_loopw [0, 6, 7] (fun t n e wr => ∃ (s' : ByteArray) (k : Nat) (p : List Fn) (v : Value) (cv : List Value), t = .string s' ∧ n = .int .i64 k ∧ e = .int .i64 0 ∧ k + s'.size ≤ s.size ∧ Hid (parseL (splitC 10 s'.data.toList) k p = R) ∧ Hid (Pf p) ∧ Hid (wr.heap[w.heap.size + 1]? = some (.cells #[v] 48 (0, 0))) ∧ Hid (FnsD wr (w.heap.size + 1) v p cv) ∧ Below (w.heap.size + 1) W1 wr) (fun t _ _ _ => sizeOfV t)
    case atStart => exact ⟨s, 0, [], .slice none 0 0, [], rfl, rfl, rfl, by omega, HR1, Lib.hid Pf.nil, HP1, Lib.hid FnsD.nil, Below.refl _ _⟩
    case round =>
      clear HR1 HP1
      obtain ⟨s', k, p, v, cv, rfl, rfl, rfl, hk, HR, HPF, HB, HD, hB⟩ := hrel
      have hgr := (hB.block _ (Nat.lt_succ_self _)).trans HG1.out
      have hBw := hbB.trans (hB.mono (Nat.le_succ _))
      have HL := Lib.hid (HLW.out.next hBw)
      have hpr : w.heap.size + 1 < wr.heap.size := lt_of_block HB.out
      have hk2 : k ≤ 200000 := by omega
      rcases Nat.eq_zero_or_pos s'.size with h0 | h0
      · have f1 : decide (0 < (s'.size : Int)) = false := decide_eq_false (by omega)
        have f1' : decide (0 < s'.size) = false := decide_eq_false (by omega)
        have HE : Hid ((if lastN p = 0 then ([], k + 1, 12) else (p, 0, 0)) = R) := Lib.hid (by rw [← HR.out, str_nil h0, parseL_end])
        have hLast := last_any HB.out HD.out HPF.out
        obtain ⟨L, hL⟩ := name_of (lastN p)
        rw [hL] at HE hLast
        clear HR hL h0
        by_cases hL0 : L = 0
        · have f2 : ((L : Int) == 0) = true := by rw [beq_iff_eq]; omega
          have HR2 : Hid (R = ([], k + 1, 12)) := Lib.hid (by rw [← HE.out, if_pos hL0])
          clear HE hL0
          go_wp2_with (first | (go_at_call 23; refine hLast.mono ?_; rintro e3 w4 ⟨rfl, q3, hw4⟩; clear hLast; have hb4 := (by rw [hw4]; exact below_drewn q3 : Below _ wr w4); have hg4 := blk_next hgr hb4; have hB4 := hBw.trans (hb4.mono (by omega)); clear hw4 hb4) | (refine wpList_store_blk rfl 25 25 (.tmp 2) _ rfl w.heap.size rfl _ rfl _ hg4 (by kernel_rfl) rfl (by kernel_rfl) ?_; intro w9 hg9 ho9 hz9 hb9))
          try rw [Exit.noGoto_ret]
          refine bodyPost_ret (results_cell_tmp2 rfl _ _ w.heap.size 25 _ _ _ rfl hg9 Tryd.underlying25 rfl (by kernel_rfl)) rfl ?_
          exact pp_err HR2.out (by go_num) (hB4.trans hb9)
        · have f2 : ((L : Int) == 0) = false := by rw [beq_eq_false_iff_ne]; omega
          have HR2 : Hid (R = (p, 0, 0)) := Lib.hid (by rw [← HE.out, if_neg hL0])
          obtain ⟨A, c, rfl⟩ := HD.out.slice
          obtain ⟨N, hN⟩ := name_of p.length
          rw [hN] at HB HD
          have HN := Lib.hid hN
          clear HE hL0 hN
          go_wp2_with (first | (go_at_call 23; refine hLast.mono ?_; rintro e3 w4 ⟨rfl, q3, hw4⟩; clear hLast; have hb4 := (by rw [hw4]; exact below_drewn q3 : Below _ wr w4); have hg4 := blk_next hgr hb4; have hx4 : w4.cell? ⟨w.heap.size + 1, 0, none⟩ = some (.slice A N c) := (by rw [cell_of_row _ _ _ _ _ _ (blk_next HB.out hb4)]; rfl); have HD4 := Lib.hid (HD.out.below hb4); have hB4 := hBw.trans (hb4.mono (by omega)); clear hw4 hb4) | (refine wpList_store_blk rfl 25 25 (.tmp 2) _ rfl w.heap.size rfl _ rfl _ hg4 (by kernel_rfl) rfl (by kernel_rfl) ?_; intro w9 hg9 ho9 hz9 hb9))
          try rw [Exit.noGoto_ret]
          refine bodyPost_ret (results_cell_tmp2 rfl _ _ w.heap.size 25 _ _ _ rfl hg9 Tryd.underlying25 rfl (by kernel_rfl)) rfl ?_
          exact pp_ok HR2.out rfl (HD4.out.kept (⟨hb9.os, hb9.tape, hb9.output, hb9.size, fun j _ hj => ho9 j (fun e => hj (by rw [e]))⟩ : w4.grownBy w9 (some w.heap.size)) (fun g e => by injection e with e; subst e; exact ⟨_, _, _, hg4, program_ne.1, program_ne.2⟩)).fns (hB4.trans hb9)
      · have f1 : decide (0 < (s'.size : Int)) = true := decide_eq_true (by omega)
        have f1' : decide (0 < s'.size) = true := decide_eq_true (by omega)
        have hne : s'.data.toList ≠ [] := fun e => by have := bs_len s'; rw [e] at this; simp at this; omega
        obtain ⟨m, hm⟩ := HL.out.max
        have hC := Tryd.strings_Cut s' ⟨#[10]⟩ m wr (by omega) hm
        rw [show (⟨#[10]⟩ : ByteArray).data.toList = [10] from rfl, cut_cutB] at hC
        rcases first_of 10 s'.data.toList with hno | ⟨a, b, hab, hno⟩
        · rw [cutB_miss 10 _ hno] at hC
          have HR2 : Hid (R = ([], k + 1, 11)) := Lib.hid (by rw [← HR.out, parseL_torn hno hne])
          clear HR hne hno hm
          go_wp2_with fail
          refine hC.mono ?_
          rintro e3 w4 ⟨rfl, q3, hw4⟩
          have hb4 := (by rw [hw4]; exact below_drewn q3 : Below _ wr w4)
          have hg4 := blk_next hgr hb4
          have hB4 := hBw.trans (hb4.mono (by omega))
          clear hC hw4 hb4
          go_wp2_with (refine wpList_store_blk rfl 25 25 (.tmp 2) _ rfl w.heap.size rfl _ rfl _ hg4 (by kernel_rfl) rfl (by kernel_rfl) ?_; intro w9 hg9 ho9 hz9 hb9)
          try rw [Exit.noGoto_ret]
          refine bodyPost_ret (results_cell_tmp2 rfl _ _ w.heap.size 25 _ _ _ rfl hg9 Tryd.underlying25 rfl (by kernel_rfl)) rfl ?_
          exact pp_err HR2.out (by go_num) (hB4.trans hb9)
        · rw [hab, cutB_hit 10 a b hno] at hC
          rw [hab] at HR
          have hlen : a.length + b.length + 1 = s'.size := by have := bs_len s'; rw [hab] at this; simp at this; omega
          obtain ⟨la, hla, haz⟩ := let_ a 200000 (by omega)
          obtain ⟨lb, hlb, hbz⟩ := let_ b (s'.size - 1) (by omega)
          simp only [hla, hlb] at hC
          have HAS : Hid (la.data.toList = a) := Lib.hid (by rw [← hla])
          have HBS : Hid (lb.data.toList = b) := Lib.hid (by rw [← hlb])
          have hbz2 : lb.size = b.length := by rw [← hlb]; rfl
          clear hne hla hlb hab hm
          cases hlt : lineT a p with
          | inl c =>
            have hc := lineT_nz hlt
            have hc2 : (c == 0) = false := by
              rw [bne_iff_ne] at hc
              rw [beq_eq_false_iff_ne]
              exact hc
            have HR2 : Hid (R = ([], k + 1, c)) := Lib.hid (by rw [← HR.out, parseL_wrong hno hlt])
            clear HR hno
            go_wp2_with fail
            refine hC.mono ?_
            rintro e3 w4 ⟨rfl, q3, hw4⟩
            have hb4 := (by rw [hw4]; exact below_drewn q3 : Below _ wr w4)
            have HB4 := Lib.hid (blk_next HB.out hb4)
            have HD4 := Lib.hid (HD.out.below hb4)
            have HL4 := Lib.hid (HL.out.next hb4)
            have hg4 := Lib.hid (blk_next hgr hb4)
            have hB4 := hBw.trans (hb4.mono (by omega))
            have hLi := pline_any (Nat.le_refl _) HB4.out HD4.out HPF.out la haz HL4.out
            rw [HAS.out, hlt] at hLi
            clear hC hw4 hb4 hlt hgr
            go_wp2_with fail
            refine hLi.mono ?_
            rintro e5 w5 ⟨rfl, hb5⟩
            have hg5 := (hb5.block _ (Nat.lt_succ_self _)).trans hg4.out
            have hB5 := hB4.trans (hb5.mono (Nat.le_succ _))
            clear hLi hb5
            go_wp2_with (refine wpList_store_blk rfl 25 25 (.tmp 2) _ rfl w.heap.size rfl _ rfl _ hg5 (by kernel_rfl) rfl (by kernel_rfl) ?_; intro w9 hg9 ho9 hz9 hb9)
            try rw [Exit.noGoto_ret]
            refine bodyPost_ret (results_cell_tmp2 rfl _ _ w.heap.size 25 _ _ _ rfl hg9 Tryd.underlying25 rfl (by kernel_rfl)) rfl ?_
            exact pp_err HR2.out (by go_num) (hB5.trans hb9)
          | inr q =>
            have HR2 : Hid (parseL (splitC 10 lb.data.toList) (k + 1) q = R) := Lib.hid (by rw [← HR.out, HBS.out, parse_step hno hlt])
            have HPQ := Lib.hid (pf_line HPF.out hlt).1
            clear HR hno
            go_wp2_with fail
            refine hC.mono ?_
            rintro e3 w4 ⟨rfl, q3, hw4⟩
            have hb4 := (by rw [hw4]; exact below_drewn q3 : Below _ wr w4)
            have HB4 := Lib.hid (blk_next HB.out hb4)
            have HD4 := Lib.hid (HD.out.below hb4)
            have HL4 := Lib.hid (HL.out.next hb4)
            have hB4 := hB.trans (hb4.mono (by omega))
            have hLi := pline_any (Nat.le_refl _) HB4.out HD4.out HPF.out la haz HL4.out
            rw [HAS.out, hlt] at hLi
            clear hC hw4 hb4 hlt hgr HB HD HL
            go_wp2_with fail
            refine hLi.mono ?_
            rintro e5 w5 ⟨⟨rfl, v5, cv5, h1, h2⟩, hb5⟩
            have H1 := Lib.hid h1
            have H2 := Lib.hid h2
            have hB5 := hB4.trans hb5
            clear hLi hb5 h1 h2
            go_wp2_with fail
            exact ⟨⟨lb, k + 1, q, v5, cv5, rfl, by go_num, rfl, by omega, HR2, HPQ, H1, H2, hB5⟩, by show lb.size < s'.size; omega⟩
end P3
end Go.Proofs.YtggdbceommmllaaDoor
