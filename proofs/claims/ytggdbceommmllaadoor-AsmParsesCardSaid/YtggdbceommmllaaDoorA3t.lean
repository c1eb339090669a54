/- Asm: the parser's method line. -/
import Derived.Test.YtggdbceommmllaaDoorA3s
import Derived.Deep.RegionLaw
namespace Go.Proofs.YtggdbceommmllaaDoor
open Go.RowKit
namespace P3
open P2 PC NumL CutL

theorem lineT_head {x : List UInt8} {p : List Fn} (h : (splitC 32 x).headD [] = fnL) : lineT x p = headR (splitC 32 x) p := by
  unfold lineT headR
  rw [if_pos h]
  rfl
theorem lineT_first {x : List UInt8} (h : (splitC 32 x).headD [] ≠ fnL) : lineT x [] = .inl 11 := by
  unfold lineT
  rw [if_neg h, if_pos rfl]
theorem lineT_more {x : List UInt8} {p : List Fn} (h : (splitC 32 x).headD [] ≠ fnL) (hp : p ≠ []) : lineT x p = match readA x with
    | .inl e => .inl e
    | .inr i => if 128 ≤ lastN p then .inl 12 else .inr (pushL p i) := by
  unfold lineT
  rw [if_neg h, if_neg hp]
  rfl
/-- The cells of the last function, behind a growing of its instructions. -/
theorem FnsD.after {w w' : World} {B : Nat} {r : List Fn} {f : Fn} {cr : List Value} {c : Value} {g cap : Nat} (h : FnsD w B (.slice (some ⟨g, 0, none⟩) (r.length + 1) cap) (r ++ [f]) (cr ++ [c])) (hg : w.grownBy w' c.ownBlock)
    (hc : w.ownsRow B 33 5 c f.2.length (P2.codeC f.2)) (h1 : w.cell? ⟨g, r.length * 2 + 1, none⟩ = some c) (h2 : ∀ j, w.frozen? ⟨g, j, none⟩ = false) :
    w'.cell? ⟨g, r.length * 2 + 1, none⟩ = some c ∧ w'.frozen? ⟨g, r.length * 2 + 1, none⟩ = false := by
  obtain ⟨cs, hgb⟩ := own_block h.row (g := g) rfl
  have hne : some g ≠ c.ownBlock := own_ne hc hgb types_ne.symm
  have hb := hg.block g (lt_of_block hgb) hne
  exact ⟨(World.cell?_of_block (a := ⟨g, _, none⟩) hb).trans h1, (World.frozen?_of_block (a := ⟨g, _, none⟩) hb).trans (h2 _)⟩
theorem FnsD.lastRow {w : World} {B : Nat} {v : Value} {r : List Fn} {f : Fn} {cr : List Value} {c : Value} (h : FnsD w B v (r ++ [f]) (cr ++ [c])) (hcr : cr.length = r.length) : w.ownsRow B 33 5 c f.2.length (P2.codeC f.2) := by
  have := h.code r.length (by simp) c (by rw [List.getElem?_append_right (by omega), hcr, Nat.sub_self]; rfl)
  simpa using this
set_option maxRecDepth 10000 in
set_option maxHeartbeats 8000000 in
theorem pline_any {w : World} {B pb : Nat} {v : Value} {p : List Fn} {cv : List Value} (hBp : B ≤ pb) (hb : w.heap[pb]? = some (.cells #[v] 48 (0, 0))) (h : FnsD w B v p cv) (hP : Pf p)
    (s : ByteArray) (hs : s.size ≤ 200000) (hp : Lb w) :
    Calls Tryd.prog 22 #[.pointer (some ⟨pb, 0, none⟩), .string s] w (LinePost B pb (lineT s.data.toList p) w) := by
  have hpw := lt_of_block hb
  have hBw : B ≤ w.heap.size := by omega
  obtain ⟨x, hx⟩ := name_of s.data.toList
  have HX := Lib.hid hx
  have hsp := split_any 32 s hs w hp
  have hwl := splitC_words 32 _ s.data.toList rfl
  have hnum := splitC_num 32 s.data.toList
  rw [bs_len] at hwl hnum
  rw [hx] at hsp hwl hnum ⊢
  obtain ⟨R, hR⟩ := name_of (lineT x p)
  have HR := Lib.hid hR
  rw [hR]
  obtain ⟨ws, hws⟩ := name_of (splitC 32 x)
  have HWS := Lib.hid hws
  rw [hws] at hsp hwl hnum
  obtain ⟨y, us, hyu⟩ : ∃ y us, ws = y :: us := by
    cases h : ws with
    | nil => exact absurd (hws.trans h) (splitC_ne 32 _)
    | cons y us => exact ⟨y, us, rfl⟩
  have HY : Hid ((splitC 32 x).headD [] = y) := Lib.hid (by rw [hws, hyu]; rfl)
  have HWL : Hid (∀ u ∈ ws, u.length ≤ 200000) := Lib.hid fun u hu => Nat.le_trans (hwl u hu) hs
  have hl2 : ws.length ≤ 200001 := by omega
  have hsl := Sl.words w ws
  have hbA := (Below.refl w.heap.size w).alloc (Nat.le_refl _) (.cells (wv ws).toArray 9)
  have HB1 := Lib.hid (blk_next hb hbA)
  have HD1 := Lib.hid (h.below hbA)
  have hp1 := Lib.hid (hp.next hbA)
  have hB1 := hbA.mono hBw
  have hcy : (w.alloc (.cells (wv ws).toArray 9)).cell? ⟨w.heap.size, 0, none⟩ = some (.string ⟨y.toArray⟩) := by
    rw [World.cell?_alloc_at _ _ _ _ rfl, hyu]
    rfl
  have hn0 : 0 < ws.length := by rw [hyu]; simp
  have hs1 : w.heap.size ≤ (w.alloc (.cells (wv ws).toArray 9)).heap.size := by simp
  obtain ⟨w1, hw1⟩ := name_of (w.alloc (.cells (wv ws).toArray 9))
  rw [hw1] at hsp hsl HB1 HD1 hp1 hB1 hcy hs1
  have HSL := Lib.hid hsl
  obtain ⟨n, hn⟩ := name_of ws.length
  have HN := Lib.hid hn
  rw [hn] at hsp hn0 hl2 HSL
  obtain ⟨ys, hys⟩ := name_of (⟨y.toArray⟩ : ByteArray)
  rw [hys] at hcy
  have HYS := Lib.hid hys
  have HP := Lib.hid hP
  clear hx hR hws hyu hwl hnum hsl hbA hb h hp hw1 hn hys hP
  by_cases hf : y = fnL
  · have z0 : (ys.toList == [102, 117, 110, 99]) = true := by rw [← HYS.out]; exact list_beq hf
    have hH := head_any hBp HB1.out HD1.out HP.out HSL.out HWL.out (by rw [HN.out]; exact hl2)
    have hRh : headR ws p = R := by rw [← HR.out, lineT_head (HY.out.trans hf), HWS.out]
    rw [hRh] at hH
    clear hf hRh HR
    go_enter Tryd.func22, Tryd.ntmps22
    go_wp2_with fail
    refine hsp.mono ?_
    rintro e w9 ⟨rfl, hw9⟩
    subst hw9
    clear hsp
    go_wp2_with fail
    refine hH.mono ?_
    clear hH
    intro e w2 hL
    unfold LinePost at hL
    obtain ⟨hL, hb2⟩ := hL
    cases R with
    | inl c =>
      simp only at hL
      subst hL
      go_wp2_with fail
      go_ret
      exact lp_inl rfl rfl (hB1.trans hb2)
    | inr q =>
      simp only at hL
      obtain ⟨rfl, v2, cv2, h1, h2⟩ := hL
      have H1 := Lib.hid h1
      have H2 := Lib.hid h2
      clear h1 h2
      go_wp2_with fail
      go_ret
      exact lp_inr rfl rfl H1.out H2.out (hB1.trans hb2)
  · have z0 : (ys.toList == [102, 117, 110, 99]) = false := by rw [← HYS.out]; exact list_bne hf
    have hx1 : w1.cell? ⟨pb, 0, none⟩ = some v := by rw [cell_of_row _ _ _ _ _ _ HB1.out]; rfl
    rcases List.eq_nil_or_concat p with rfl | ⟨r, f, rfl⟩
    · have HR1 : Hid (R = .inl 11) := Lib.hid (by rw [← HR.out, lineT_first (by rw [HY.out]; exact hf)])
      obtain ⟨A, c, rfl⟩ := HD1.out.slice
      rw [List.length_nil] at hx1
      clear HR hf
      go_enter Tryd.func22, Tryd.ntmps22
      go_wp2_with fail
      refine hsp.mono ?_
      rintro e w9 ⟨rfl, hw9⟩
      subst hw9
      clear hsp
      go_wp2_with fail
      go_ret
      exact lp_inl HR1.out rfl hB1
    · rw [List.concat_eq_append] at HD1 HP HR
      have HR1 : Hid ((match readA x with
        | .inl e => .inl e
        | .inr i => if 128 ≤ lastN (r ++ [f]) then .inl 12 else .inr (pushL (r ++ [f]) i)) = R) := Lib.hid (by rw [← HR.out, lineT_more (by rw [HY.out]; exact hf) (by simp)])
      have hRd := read_any s hs w1 hp1.out
      rw [HX.out] at hRd
      obtain ⟨cr, c, g, cap, rfl, hcr, rfl, hBg, hgl, hcap, hc0, hc1, hfz, hown⟩ := HD1.out.last
      have hlen := HP.out.len
      have HLT := Lib.hid (lastN_snoc r f)
      rw [List.length_append, List.length_singleton] at hlen
      obtain ⟨m, hm⟩ := name_of r.length
      have HM := Lib.hid hm
      rw [hm] at hc0 hc1 hcr hlen
      obtain ⟨N, hN⟩ := name_of (r.length + 1)
      have HNN := Lib.hid hN
      rw [hN] at hx1 hcap
      have hNm : N = m + 1 := by omega
      have z1 : ((N : Int) == 0) = false := by rw [beq_eq_false_iff_ne]; omega
      have HFZ := Lib.hid hfz
      have HC1 := Lib.hid hc1
      have HCR := Lib.hid hcr
      clear HR hf hm hN hc0 hown hfz hcap hcr
      cases hri : readA x with
      | inl e0 =>
        have hne : (e0 != 0) = true := by
          rw [bne_iff_ne]
          rintro rfl
          exact parse_inv.readA_ne hri
        have HR2 : Hid (R = .inl e0) := Lib.hid (by rw [← HR1.out, hri])
        rw [hri] at hRd
        unfold InsPost at hRd
        rw [resI_inl] at hRd
        clear hri HR1
        go_enter Tryd.func22, Tryd.ntmps22
        go_wp2_with fail
        refine hsp.mono ?_
        rintro e w9 ⟨rfl, hw9⟩
        subst hw9
        clear hsp
        go_wp2_with fail
        refine hRd.mono ?_
        rintro e w2 ⟨rfl, hb2⟩
        have hB2 := hB1.trans (hb2.mono (Nat.le_trans hBw hs1))
        clear hRd hx1 hc1 hcy
        go_wp2_with (refine wpList_store_new rfl 33 33 (.tmp 6) (.tmp 27) rfl _ _ w2.heap.size rfl rfl rfl (by kernel_rfl) rfl (by kernel_rfl) ?_)
        go_ret
        exact lp_inl HR2.out rfl (hB2.alloc (Nat.le_trans (Nat.le_trans hBw hs1) hb2.size) _)
      | inr i =>
        obtain ⟨o, a, b, d, e5⟩ := i
        have HR2 : Hid ((if 128 ≤ f.2.length then .inl 12 else .inr (r ++ [(f.1, f.2 ++ [(o, a, b, d, e5)])])) = R) := Lib.hid (by rw [← HR1.out, hri, ← HLT.out, ← pushL_snoc])
        rw [hri] at hRd
        unfold InsPost at hRd
        rw [resI_inr] at hRd
        have hf128 := (HP.out.head f (by simp)).2.2.1
        obtain ⟨L, hL⟩ := name_of f.2.length
        have HL := Lib.hid hL
        rw [hL] at HR2 hf128
        clear hri HR1 hL
        go_enter Tryd.func22, Tryd.ntmps22
        go_wp2_with fail
        refine hsp.mono ?_
        rintro e w9 ⟨rfl, hw9⟩
        subst hw9
        clear hsp
        go_wp2_with fail
        refine hRd.mono ?_
        rintro e w2 ⟨rfl, hb2⟩
        have hbA := hb2.next ((Below.refl _ _).alloc (Nat.le_refl _) (.cells #[.int .i64 o, .int .i64 a, .int .i64 b, .int .i64 d, .int .i64 e5] 33))
        have HB3 := Lib.hid (blk_next HB1.out hbA)
        have HD3 := Lib.hid (HD1.out.below hbA)
        have HI3 := Lib.hid (heap_alloc_last w2 (.cells #[.int .i64 o, .int .i64 a, .int .i64 b, .int .i64 d, .int .i64 e5] 33))
        have hB3 := hB1.trans (hbA.mono (Nat.le_trans hBw hs1))
        have hLast := last_any HB3.out HD3.out HP.out
        rw [HLT.out, HL.out] at hLast
        have hs3 := hbA.size
        clear hRd hx1 hc1 hcy hb2
        by_cases h128 : 128 ≤ L
        · have z2 : decide (128 ≤ (L : Int)) = true := decide_eq_true (by omega)
          have HR3 : Hid (R = .inl 12) := Lib.hid (by rw [← HR2.out, if_pos h128])
          clear HR2 h128
          go_wp2_with (first | (refine wpList_store_new rfl 33 33 (.tmp 6) (.tmp 27) rfl _ _ w2.heap.size rfl rfl rfl (by kernel_rfl) rfl (by kernel_rfl) ?_) | (go_at_call 23; refine hLast.mono ?_; rintro e3 w4 ⟨rfl, q3, hw4⟩; clear hLast; have hB4 := hB3.trans ((by rw [hw4]; exact below_drewn q3 : Below _ _ w4).mono (Nat.le_trans (Nat.le_trans hBw hs1) hs3)); clear hw4))
          go_ret
          exact lp_inl HR3.out rfl hB4
        · have z2 : decide (128 ≤ (L : Int)) = false := decide_eq_false (by omega)
          have HR3 : Hid (R = .inr (r ++ [(f.1, f.2 ++ [(o, a, b, d, e5)])])) := Lib.hid (by rw [← HR2.out, if_neg h128])
          have hw : IntKind.i64.wrap ((N : Int) - 1) = (m : Int) := (IntWalk.i64_in _ (by omega)).trans (by omega)
          have hmN : m < N := by omega
          have hL2 : L < 128 := by omega
          clear HR2 h128 hNm
          go_wp2_with (first | (refine wpList_store_new rfl 33 33 (.tmp 6) (.tmp 27) rfl _ _ w2.heap.size rfl rfl rfl (by kernel_rfl) rfl (by kernel_rfl) ?_) | (go_at_call 23; refine hLast.mono ?_; rintro e3 w4 ⟨rfl, q3, hw4⟩; clear hLast; have hb4 := (by rw [hw4]; exact below_drewn q3 : Below _ (w2.alloc (.cells #[.int .i64 o, .int .i64 a, .int .i64 b, .int .i64 d, .int .i64 e5] 33)) w4); have hB4 := hB3.trans (hb4.mono (Nat.le_trans (Nat.le_trans hBw hs1) hs3)); have HB4 := Lib.hid (blk_next HB3.out hb4); have HD4 := Lib.hid (HD3.out.below hb4); have HI4 := Lib.hid (blk_next HI3.out hb4); have hb14 := hbA.next hb4; have hx4 : w4.cell? ⟨pb, 0, none⟩ = some (.slice (some ⟨g, 0, none⟩) N cap) := (by rw [cell_of_row _ _ _ _ _ _ HB4.out]; rw [HNN.out]; rfl); have hs4 := hb4.size; clear hw4 hb4 HB3 HD3 HI3 hB3))
          go_quiet (fail)
          go_wp2_with fail
          have hbV := below_drewn (w := w4) nq
          have hb1V := hb14.next hbV
          have HBV := Lib.hid (blk_next HB4.out hbV)
          have HDV := Lib.hid (HD4.out.below hbV)
          have HIV := blk_next HI4.out hbV
          have hBV := hB4.trans (hbV.mono (Nat.le_trans (Nat.le_trans (Nat.le_trans hBw hs1) hs3) hs4))
          have hcV := (hb1V.cell (p := ⟨g, m * 2 + 1, none⟩) hgl).trans HC1.out
          have hfV := fun j => (hb1V.frozen (p := ⟨g, j, none⟩) hgl).trans (HFZ.out j)
          have HFV := Lib.hid hfV
          have hIV := fun j => cell_of_row _ w2.heap.size j _ _ _ HIV
          have i0 := hIV 0
          have i1 := hIV 1
          have i2 := hIV 2
          have i3 := hIV 3
          have i4 := hIV 4
          simp only [List.getElem?_toArray, List.getElem?_cons_zero, List.getElem?_cons_succ] at i0 i1 i2 i3 i4
          obtain ⟨V, hV⟩ := name_of (w4.drewN nq)
          rw [hV] at hbV hb1V HBV HDV HIV hBV hcV hfV HFV hIV i0 i1 i2 i3 i4 ⊢
          have hBVs : B ≤ V.heap.size := Nat.le_trans (Nat.le_trans hBw hs1) hb1V.size
          have hbX : Below V.heap.size V (V.drew.alloc (.cells #[.int .i64 o, .int .i64 a, .int .i64 b, .int .i64 d, .int .i64 e5] 33)) := below_drew'.next ((Below.refl _ _).alloc (Nat.le_refl _) _)
          have HDX := Lib.hid (HDV.out.below hbX)
          have HBX := Lib.hid (blk_next HBV.out hbX)
          have hBX := hBV.trans (hbX.mono hBVs)
          have hrX : (V.drew.alloc (.cells #[.int .i64 o, .int .i64 a, .int .i64 b, .int .i64 d, .int .i64 e5] 33)).rangeAt V.heap.size 0 (P2.insC (o, a, b, d, e5)) := fun j u hj => by
            rw [World.cell?_alloc_at _ _ _ _ (show V.heap.size = V.drew.heap.size from rfl), Nat.zero_add]
            simpa [P2.insC] using hj
          have hownX := HDX.out.lastRow (by rw [HCR.out, HM.out])
          rw [HL.out] at hownX
          have hcX := (hbX.cell (p := ⟨g, m * 2 + 1, none⟩) (World.block_lt_of_cell? _ _ hcV)).trans hcV
          have hgV : g < V.heap.size := World.block_lt_of_cell? _ _ hcV
          have hfX := fun j => (hbX.frozen (p := ⟨g, j, none⟩) hgV).trans (HFV.out j)
          have HCX := Lib.hid hcX
          have HFX := Lib.hid hfX
          have HRX := Lib.hid hrX
          have HOX := Lib.hid hownX
          have hXs : B ≤ (V.drew.alloc (.cells #[.int .i64 o, .int .i64 a, .int .i64 b, .int .i64 d, .int .i64 e5] 33)).heap.size := Nat.le_trans hBVs hbX.size
          have HBXs := Lib.hid hXs
          clear hV hIV hfV hbV hb1V hb14 HIV HI4 HB4 HD4 hBV hx4 hs4 HFV hcX hfX hrX hownX hbX hBVs hXs hB4 hbA
          go_region_law ((rw [if_pos (by rfl)]; refine wp_append_sl (.tmp 50) (.tmp 52) 44 rfl B 33 (.agg #[.int .i64 0, .int .i64 0, .int .i64 0, .int .i64 0, .int .i64 0]) 5 40 Tryd.underlying44 info_ins rfl (by omega) c L _ rfl HOX.out V.heap.size 0 1 1 (P2.insC (o, a, b, d, e5)) rfl HRX.out rfl (by simp [P2.insC, Value.oneCell']) (by omega) (by omega) HBXs.out ?_; intro v6 w6 hown6 hg6 hat6; obtain ⟨e6, z6⟩ := FnsD.after HDX.out hg6 (by rw [HL.out]; exact HOX.out) (by rw [HM.out]; exact HCX.out) HFX.out; rw [HM.out] at e6 z6; have HO6 := Lib.hid hown6; have HG6 := Lib.hid hg6; have HA6 := Lib.hid hat6; have ho6 := own_one hown6; obtain ⟨A6, m6, c6, rfl⟩ := own_slice hown6; clear hown6 hg6 hat6))
          all_goals
            go_wp2_with fail
            go_ret
            have hb6 := grown_block HG6.out HBX.out (own_ne HOX.out HBX.out parser_ne.2)
            have hne : pb ≠ g := fun e => own_ne HDX.out.row HBX.out parser_ne.1 (by rw [e]; rfl)
            have hpu := HDX.out.push (i := (o, a, b, d, e5)) (by rw [HCR.out, HM.out]) HG6.out (by rw [HL.out]; exact HO6.out) HA6.out
            rw [HM.out] at hpu hb6
            exact lp_inr HR3.out rfl (blk_set_other hb6 hne _) hpu ((hBX.grown HG6.out HBXs.out fun k e => (HOX.out.lt k e).1).setCell (p := ⟨g, m * 2 + 1, none⟩) hBg _)
end P3
end Go.Proofs.YtggdbceommmllaaDoor
