/- Asm: the reference's Parse. -/
import Derived.Test.YtggdbceommmllaaDoorA3u
import Derived.Test.YtggdbceommmllaaDoorA3v
import Derived.Test.YtggdbceommmllaaDoorA3p
namespace Go.Proofs.YtggdbceommmllaaDoor
open Go.RowKit
namespace P3
open P2 PC NumL CutL

theorem parseL_more {x : List UInt8} {l : List (List UInt8)} {n : Nat} {p : List Fn} (h : l ≠ []) : parseL (x :: l) n p = match lineT x p with
    | .inl e => ([], n + 1, e)
    | .inr q => parseL l (n + 1) q := by
  cases l with
  | nil => exact absurd rfl h
  | cons y r => rfl
theorem parseL_one {x : List UInt8} {n : Nat} {p : List Fn} : parseL [x] n p = if x ≠ [] then ([], n + 1, 11) else if lastN p = 0 then ([], n + 1, 12) else (p, 0, 0) := rfl
/-- What a head line leaves, by the reference. -/
theorem headR_N {ws : List (List UInt8)} {p : List Fn} : headR ws p = match headN ws p.length (lastN p) with
    | .inl e => .inl e
    | .inr m => .inr (p ++ [(m, [])]) := rfl
theorem headN_nz {ws : List (List UInt8)} {n l : Nat} {c : Int} (h : headN ws n l = .inl c) : (c != 0) = true := by
  rw [bne_iff_ne]
  rintro rfl
  unfold headN at h
  split at h
  · cases h
  · split at h
    · split at h
      · cases h
      · split at h <;> cases h
    · cases h
set_option maxRecDepth 10000 in
set_option maxHeartbeats 200000000 in
theorem refParse_any (s : ByteArray) (hs : s.size ≤ 200000) (w : World) : Calls Tryd.prog 18 #[.string s] w (ParsePost (parseA s.data.toList) w) := by
  obtain ⟨R, hR⟩ := name_of (parseA s.data.toList)
  have HR := Lib.hid hR
  rw [hR]
  clear hR
  have h2 := heap_alloc2_old w (.cells #[.slice none 0 0] 25) (.cells #[.slice none 0 0] 25)
  have h5 := heap_alloc2_new w (.cells #[.slice none 0 0] 25) (.cells #[.slice none 0 0] 25)
  have hB0 : Below w.heap.size w ((w.alloc (.cells #[.slice none 0 0] 25)).alloc (.cells #[.slice none 0 0] 25)) := by go_grown
  have H2 := Lib.hid h2
  have H5 := Lib.hid h5
  clear h2 h5
  by_cases hl : 131072 < s.size
  · have z0 : decide (131072 < (s.size : Int)) = true := decide_eq_true (by omega)
    have HR1 : Hid (R = ([], 0, 12)) := Lib.hid (by rw [← HR.out]; unfold parseA; rw [if_pos (by rw [bs_len]; exact hl)])
    clear HR hl
    go_enter Tryd.func18, Tryd.ntmps18
    go_wp2_with (first | ((with_reducible (show wpList _ _ _ (Oper.mk _ (Op.load _ _) _ _ _ _ :: _) _ _)); refine wpList_load_blk rfl 25 25 (.tmp 5) rfl (w.heap.size + 1) rfl _ _ H5.out _ Tryd.underlying25 rfl (by kernel_rfl) ?_) | ((with_reducible (show wpList _ _ _ (Oper.mk _ (Op.store _ _ _) _ _ _ _ :: _) _ _)); refine wpList_store_blk rfl 25 25 (.tmp 2) _ rfl w.heap.size rfl _ rfl _ H2.out (by kernel_rfl) rfl (by kernel_rfl) ?_; intro w9 hg9 ho9 hz9 hb9))
    refine bodyPost_ret (results_cell_tmp2 rfl _ _ w.heap.size 25 _ _ _ rfl hg9 Tryd.underlying25 rfl (by kernel_rfl)) rfl ?_
    exact pp_err HR1.out rfl (hB0.trans hb9)
  · have z0 : decide (131072 < (s.size : Int)) = false := decide_eq_false (by omega)
    have HR1 : Hid (parseL (splitC 10 s.data.toList) 0 [] = R) := Lib.hid (by rw [← HR.out]; unfold parseA; rw [if_neg (by rw [bs_len]; exact hl)])
    have hcu : ∀ W, Calls Tryd.prog 39 #[.string s, .int .u8 10] W (WordsPost (splitC 10 s.data.toList) W) := fun W => refCut_any 10 (by decide) s hs W
    have hwl := splitC_words 10 _ s.data.toList rfl
    have hnum := splitC_num 10 s.data.toList
    have hne := splitC_ne 10 s.data.toList
    rw [bs_len] at hwl hnum
    obtain ⟨ls, hls⟩ := name_of (splitC 10 s.data.toList)
    rw [hls] at HR1 hcu hwl hnum hne
    have HLW : Hid (∀ u ∈ ls, u.length ≤ 200000) := Lib.hid fun u hu => Nat.le_trans (hwl u hu) hs
    have hln : 0 < ls.length := by rcases ls with _ | _; exact absurd rfl hne; simp
    have HNN := Lib.hid hnum
    clear HR hl hls hwl hne hnum
    go_enter Tryd.func18, Tryd.ntmps18
    go_wp2_with fail
    refine (hcu _).mono ?_
    clear hcu
    rintro e w1 ⟨v, rfl, hown, hb1⟩
    have hB1 := hB0.next hb1
    have G2 := blk_next H2.out hb1
    have G5 := blk_next H5.out hb1
    obtain ⟨A, n, c, rfl, hnc, hn, hA⟩ := Sl.own hown
    simp only [wv_length, Nat.mul_one] at hn
    rw [hn] at hln
    obtain ⟨b0, off0, rfl, hb0, hr⟩ := hA hln
    have HN := Lib.hid hn
    have HRG := Lib.hid hr
    have hn2 : n ≤ 200001 := by have := HNN.out; omega
    have hw5 : w.heap.size + 1 < w1.heap.size := lt_of_block G5
    have H2' := Lib.hid G2
    have H5' := Lib.hid G5
    clear hown hn hA hr hb1 hB0 H2 H5 HNN G2 G5
    go_wp2_with fail
    have hbP := (Below.refl w1.heap.size w1).alloc (Nat.le_refl _) (.cells #[.slice none 0 0] 25)
    have hgP := heap_alloc_last w1 (.cells #[.slice none 0 0] 25)
    obtain ⟨W2, hW2⟩ := name_of (w1.alloc (.cells #[.slice none 0 0] 25))
    rw [hW2] at hbP hgP ⊢
    have HGP := Lib.hid hgP
    have hP7s : w1.heap.size < W2.heap.size := by rw [← hW2]; simp
    obtain ⟨P7, hP7⟩ := name_of w1.heap.size
    rw [hP7] at hbP HGP hP7s hb0 hw5 ⊢
    clear hW2 hgP
    go_loopw [8] (fun x wr => ∃ (i : Nat) (p : List Fn) (v : Value) (cv : List Value), x = .int .i64 i ∧ i + 1 ≤ n ∧ Hid (parseL (ls.drop i) i p = R) ∧ Hid (Pf p) ∧ Hid (wr.heap[P7]? = some (.cells #[v] 25 (0, 0))) ∧ Hid (FnsD wr P7 v p cv) ∧ Below P7 w1 wr) (fun x _ => n - (intOf x).toNat)
    case atStart => exact ⟨0, [], .slice none 0 0, [], rfl, hln, HR1, Lib.hid Pf.nil, HGP, Lib.hid FnsD.nil, hbP⟩
    case round =>
      clear HR1 HGP hbP hP7s
      clear W2
      obtain ⟨i, p, v, cv, rfl, hin, HR, HPF, HB, HD, hB⟩ := hrel
      have hPw : P7 < wr.heap.size := lt_of_block HB.out
      have G2 := Lib.hid ((hB.block _ (by omega)).trans H2'.out)
      have G5 := Lib.hid ((hB.block _ hw5).trans H5'.out)
      have hBw : Below w.heap.size w wr := hB1.trans (hB.mono (by omega))
      have hil : i < ls.length := by have := HN.out; omega
      have hdr := List.drop_eq_getElem_cons hil
      have hxl := HLW.out _ (List.getElem_mem hil)
      have hcx : wr.cell? ⟨b0, off0 + i, none⟩ = some (.string ⟨ls[i].toArray⟩) := by
        refine (hB.cell (p := ⟨b0, off0 + i, none⟩) hb0).trans (HRG.out i _ ?_)
        simp [wv, hil]
      obtain ⟨x, hx⟩ := name_of ls[i]
      rw [hx] at hdr hxl hcx
      obtain ⟨xs, hxs, hxz⟩ := let_ x 200000 hxl
      rw [hxs] at hcx
      have HXS : Hid (xs.data.toList = x) := Lib.hid (by rw [← hxs])
      obtain ⟨Av, cV, rfl⟩ := HD.out.slice
      have hlen := HPF.out.len
      obtain ⟨N, hN⟩ := name_of p.length
      rw [hN] at hlen
      have HPN := Lib.hid hN
      have hcb : wr.cell? ⟨P7, 0, none⟩ = some (.slice Av N cV) := by rw [cell_of_row _ _ _ _ _ _ HB.out, ← hN]; rfl
      rw [hdr] at HR
      have hb0w : b0 < wr.heap.size := by omega
      clear hdr hx hxl hxs hN
      by_cases hlt : i + 1 < n
      rotate_left
      · have hni : n = i + 1 := by omega
        have z1 : decide ((i : Int) + 1 < (n : Int)) = false := decide_eq_false (by omega)
        have hdn : ls.drop (i + 1) = [] := List.drop_eq_nil_of_le (by have := HN.out; omega)
        have HR2 : Hid ((if x ≠ [] then ([], n, 11) else if lastN p = 0 then ([], n, 12) else (p, 0, 0)) = R) := Lib.hid (by rw [← HR.out, hdn, parseL_one, hni])
        have hw : IntKind.i64.wrap ((n : Int) - 1) = (i : Int) := (IntWalk.i64_in _ (by omega)).trans (by omega)
        have hin2 : i < n := by omega
        have hxl : xs.size = x.length := by rw [← HXS.out, bs_len]
        clear HR hdn hni hin hlt
        by_cases hx0 : x = []
        · have hz : xs.size = 0 := by rw [hxl, hx0]; rfl
          have f1 : decide (0 < (xs.size : Int)) = false := decide_eq_false (by omega)
          have f1' : decide (0 < xs.size) = false := decide_eq_false (by omega)
          have HR3 : Hid ((if lastN p = 0 then ([], n, 12) else (p, 0, 0)) = R) := Lib.hid (by rw [← HR2.out, if_neg (c := x ≠ []) (fun h => h hx0)])
          clear HR2 hx0 hxl hz
          rcases List.eq_nil_or_concat p with hp0 | ⟨r, f, hpc⟩
          · have hN0 : N = 0 := by rw [← HPN.out, hp0]; rfl
            have f3 : ((N : Int) == 0) = true := by rw [beq_iff_eq]; omega
            have HR4 : Hid (R = ([], n, 12)) := Lib.hid (by rw [← HR3.out, if_pos (by rw [hp0]; rfl)])
            clear hN0 hp0 HR3 HB HD
            have c5 : wr.cell? ⟨w.heap.size + 1, 0, none⟩ = some (.slice none 0 0) := by rw [cell_of_row _ _ _ _ _ _ G5.out]; rfl
            have c2 : wr.cell? ⟨w.heap.size, 0, none⟩ = some (.slice none 0 0) := by rw [cell_of_row _ _ _ _ _ _ G2.out]; rfl
            have y2 : wr.frozen? ⟨w.heap.size, 0, none⟩ = false := frozen_of_row _ _ 0 _ _ G2.out
            have hg9 := heap_setCell_same wr w.heap.size 0 _ _ (.slice none 0 0) G2.out
            go_wp2_with fail
            refine bodyPost_ret (results_cell_tmp2 rfl _ _ w.heap.size 25 _ _ _ rfl hg9 Tryd.underlying25 rfl (by kernel_rfl)) rfl ?_
            exact pp_err HR4.out (by go_num) (hBw.setCell (p := ⟨w.heap.size, 0, none⟩) (Nat.le_refl _) _)
          · rw [List.concat_eq_append] at hpc
            have hD3 := HD.out
            rw [hpc] at hD3
            obtain ⟨cr, c, g, cap, hcv, hcr, hve, hBg, hgl, hcap, hc0, hc1, hfz, hownc⟩ := hD3.last
            obtain ⟨m', hm'⟩ := name_of r.length
            have hNm : N = m' + 1 := by rw [← HPN.out, hpc, ← hm']; simp
            obtain ⟨Ac, nc, cc, rfl, _, hnn, _⟩ := Sl.own hownc
            rw [codeC_length] at hnn
            have hLL : lastN p = nc := by rw [hpc, lastN_snoc]; omega
            injection hve with hve1 _ hve3
            subst hve1 hve3
            rw [hm'] at hc1
            have hw2 : IntKind.i64.wrap ((N : Int) - 1) = (m' : Int) := (IntWalk.i64_in _ (by omega)).trans (by omega)
            have hmN : m' < N := by omega
            have f3 : ((N : Int) == 0) = false := by rw [beq_eq_false_iff_ne]; omega
            rw [hLL] at HR3
            clear hD3 hcv hcr hcap hc0 hfz hownc hm' hNm hnn hpc hLL
            by_cases hn0 : nc = 0
            · have f4 : ((nc : Int) == 0) = true := by rw [beq_iff_eq]; omega
              have HR4 : Hid (R = ([], n, 12)) := Lib.hid (by rw [← HR3.out, if_pos hn0])
              clear HR3 hn0
              have c5 : _ = some (Value.slice none 0 0) := (cell_of_row _ (w.heap.size + 1) 0 _ _ _ G5.out).trans rfl
              have c2 : _ = some (Value.slice none 0 0) := (cell_of_row _ w.heap.size 0 _ _ _ G2.out).trans rfl
              have y2 := frozen_of_row _ w.heap.size 0 _ _ G2.out
              have hg9 := heap_setCell_same _ w.heap.size 0 _ _ (.slice none 0 0) G2.out
              go_wp2_with fail
              refine bodyPost_ret (results_cell_tmp2 rfl _ _ w.heap.size 25 _ _ _ rfl hg9 Tryd.underlying25 rfl (by kernel_rfl)) rfl ?_
              exact pp_err HR4.out (by go_num) (hBw.setCell (p := ⟨w.heap.size, 0, none⟩) (Nat.le_refl _) _)
            · have f4 : ((nc : Int) == 0) = false := by rw [beq_eq_false_iff_ne]; omega
              have HR4 : Hid (R = (p, 0, 0)) := Lib.hid (by rw [← HR3.out, if_neg hn0])
              clear HR3 hn0
              have c2 : wr.cell? ⟨w.heap.size, 0, none⟩ = some (.slice none 0 0) := (cell_of_row _ w.heap.size 0 _ _ _ G2.out).trans rfl
              have y2 := frozen_of_row _ w.heap.size 0 _ _ G2.out
              have hg9 := heap_setCell_same wr w.heap.size 0 _ _ (.slice (some ⟨g, 0, none⟩) N cV) G2.out
              have HDN := HD.out
              rw [HPN.out] at HDN
              go_wp2_with fail
              refine bodyPost_ret (results_cell_tmp2 rfl _ _ w.heap.size 25 _ _ _ rfl hg9 Tryd.underlying25 rfl (by kernel_rfl)) rfl ?_
              exact pp_ok HR4.out rfl (HDN.kept (grownBy_setCell_at _ w.heap.size 0 _) (fun g' e => by injection e with e; subst e; exact ⟨_, _, _, G2.out, program_ne.1, program_ne.2⟩)).fns (hBw.setCell (p := ⟨w.heap.size, 0, none⟩) (Nat.le_refl _) _)
        · have f1 : decide (0 < (xs.size : Int)) = true := decide_eq_true (by have := List.length_pos_iff.2 hx0; omega)
          have f1' : decide (0 < xs.size) = true := decide_eq_true (by have := List.length_pos_iff.2 hx0; omega)
          have HR3 : Hid (R = ([], n, 11)) := Lib.hid (by rw [← HR2.out, if_pos hx0])
          clear HR2 hx0 hxl
          have c5 : _ = some (Value.slice none 0 0) := (cell_of_row _ (w.heap.size + 1) 0 _ _ _ G5.out).trans rfl
          have c2 : _ = some (Value.slice none 0 0) := (cell_of_row _ w.heap.size 0 _ _ _ G2.out).trans rfl
          have y2 := frozen_of_row _ w.heap.size 0 _ _ G2.out
          have hg9 := heap_setCell_same _ w.heap.size 0 _ _ (.slice none 0 0) G2.out
          go_wp2_with fail
          refine bodyPost_ret (results_cell_tmp2 rfl _ _ w.heap.size 25 _ _ _ rfl hg9 Tryd.underlying25 rfl (by kernel_rfl)) rfl ?_
          exact pp_err HR3.out (by go_num) (hBw.setCell (p := ⟨w.heap.size, 0, none⟩) (Nat.le_refl _) _)
      · have z1 : decide ((i : Int) + 1 < (n : Int)) = true := decide_eq_true (by omega)
        have hne2 : ls.drop (i + 1) ≠ [] := fun e => by have := HN.out; have h := List.length_drop (l := ls) (i := i + 1); rw [e] at h; simp at h; omega
        have HR2 : Hid ((match lineT x p with
          | .inl e => ([], i + 1, e)
          | .inr q => parseL (ls.drop (i + 1)) (i + 1) q) = R) := Lib.hid (by rw [← HR.out, parseL_more hne2])
        have hcu : ∀ W, Calls Tryd.prog 39 #[.string xs, .int .u8 32] W (WordsPost (splitC 32 x) W) := fun W => by rw [← HXS.out]; exact refCut_any 32 (by decide) xs hxz W
        have hwl := splitC_words 32 _ x rfl
        have hnum := splitC_num 32 x
        have hxl : x.length ≤ 200000 := by rw [← HXS.out, bs_len]; exact hxz
        obtain ⟨ws, hws⟩ := name_of (splitC 32 x)
        rw [hws] at hcu hwl hnum
        obtain ⟨y, us, hyu⟩ : ∃ y us, ws = y :: us := by
          cases h : ws with
          | nil => exact absurd (hws.trans h) (splitC_ne 32 _)
          | cons y us => exact ⟨y, us, rfl⟩
        have HWS := Lib.hid hws
        have HY : Hid ((splitC 32 x).headD [] = y) := Lib.hid (by rw [hws, hyu]; rfl)
        have HWL : Hid (∀ u ∈ ws, u.length ≤ 200000) := Lib.hid fun u hu => Nat.le_trans (hwl u hu) hxl
        have HYU := Lib.hid hyu
        have hwn : ws.length ≤ 200001 := by omega
        have HWN := Lib.hid hwn
        have HIN : Hid (i + 1 + 1 ≤ n) := Lib.hid (by omega)
        clear HR hne2 hwl hnum hxl hws hyu hwn hlt
        go_wp2_with fail
        refine (hcu wr).mono ?_
        clear hcu
        rintro e w3 ⟨sv, rfl, hown, hb3⟩
        have hsl := Sl.own hown
        have hsl2 := hsl
        obtain ⟨A1, n1, c1, rfl, hnc1, hn1, hA1⟩ := hsl2
        simp only [wv_length, Nat.mul_one] at hn1
        have hn1p : 0 < n1 := by rw [← hn1, HYU.out]; simp
        obtain ⟨b1, off1, rfl, hb1', hr1⟩ := hA1 hn1p
        have hcy : w3.cell? ⟨b1, off1, none⟩ = some (.string ⟨y.toArray⟩) := hr1 0 _ (by rw [HYU.out]; rfl)
        obtain ⟨ys, hys⟩ := name_of (⟨y.toArray⟩ : ByteArray)
        rw [hys] at hcy
        have HYS := Lib.hid hys
        have HSL := Lib.hid hsl
        have HB3 := Lib.hid (blk_next HB.out hb3)
        have HD3 := Lib.hid (HD.out.below hb3)
        have G2 := Lib.hid (blk_next G2.out hb3)
        have G5 := Lib.hid (blk_next G5.out hb3)
        have hB3 := hB.trans (hb3.mono (Nat.le_of_lt hPw))
        have hcx3 := (hb3.cell (p := ⟨b0, off0 + i, none⟩) hb0w).trans hcx
        have hcb3 := (hb3.cell (p := ⟨P7, 0, none⟩) hPw).trans hcb
        have hBw3 := hBw.trans (hb3.mono (by omega))
        have hPw3 : P7 < w3.heap.size := lt_of_block HB3.out
        clear hown hsl hA1 hr1 hys hb3 HB HD hB hcx hcb hBw hn1 hPw
        by_cases hf : y = fnL
        · have z2 : (ys.toList == [102, 117, 110, 99]) = true := by rw [← HYS.out]; exact list_beq hf
          rcases List.eq_nil_or_concat p with hp0 | ⟨r, f, hpc⟩
          · have hN0 : N = 0 := by rw [← HPN.out, hp0]; rfl
            have f2 : decide (0 < (N : Int)) = false := decide_eq_false (by omega)
            have f2' : decide (0 < N) = false := decide_eq_false (by omega)
            obtain ⟨L, hL⟩ : ∃ L : Nat, 0 = L := ⟨0, rfl⟩
            have HLL : Hid (lastN p = L) := Lib.hid (by rw [hp0, ← hL]; rfl)
            subst hL
            clear hN0 hp0
            have hH := refHead_any N 0 (by omega) HSL.out HWL.out HWN.out
            have HLI : Hid (lineT x p = match headN ws N 0 with
              | .inl e => .inl e
              | .inr m => .inr (p ++ [(m, [])])) := Lib.hid (by rw [lineT_head (HY.out.trans hf), HWS.out, headR_N, HPN.out, HLL.out])
            cases hhn : headN ws N 0 with
            | inl c =>
              have hc := headN_nz hhn
              have HR3 : Hid (R = ([], i + 1, c)) := Lib.hid (by rw [← HR2.out, HLI.out, hhn])
              rw [hhn] at hH
              unfold HeadPost at hH
              simp only at hH
              clear hhn HLI HR2 hf
              go_wp2_with fail
              refine hH.mono ?_
              clear hH
              rintro e w4 ⟨rfl, hb4⟩
              have hbA := hb4.next ((Below.refl _ _).alloc (Nat.le_refl _) (.cells #[.int .i64 0, .slice none 0 0] 46))
              have K2 := blk_next G2.out hbA
              have K5 := blk_next G5.out hbA
              have hBe := hBw3.trans (hbA.mono (by omega))
              clear hbA hb4
              have c5 : _ = some (Value.slice none 0 0) := (cell_of_row _ (w.heap.size + 1) 0 _ _ _ K5).trans rfl
              have c2 : _ = some (Value.slice none 0 0) := (cell_of_row _ w.heap.size 0 _ _ _ K2).trans rfl
              have y2 := frozen_of_row _ w.heap.size 0 _ _ K2
              have hg9 := heap_setCell_same _ w.heap.size 0 _ _ (.slice none 0 0) K2
              go_wp2_with (first | ((with_reducible (show wpList _ _ _ (Oper.mk _ (Op.store _ _ _) _ _ _ _ :: _) _ _)); refine wpList_store_new rfl 46 46 (.tmp 12) (.tmp 57) rfl _ _ w4.heap.size rfl rfl rfl (by kernel_rfl) rfl (by kernel_rfl) ?_) | fail)
              refine bodyPost_ret (results_cell_tmp2 rfl _ _ w.heap.size 25 _ _ _ rfl hg9 Tryd.underlying25 rfl (by kernel_rfl)) rfl ?_
              exact pp_err HR3.out (by go_num) (hBe.setCell (p := ⟨w.heap.size, 0, none⟩) (Nat.le_refl _) _)
            | inr m =>
              have HR3 : Hid (parseL (ls.drop (i + 1)) (i + 1) (p ++ [(m, [])]) = R) := Lib.hid (by rw [← HR2.out, HLI.out, hhn])
              have HPQ := Lib.hid (pf_line HPF.out (HLI.out.trans (by rw [hhn]))).1
              rw [hhn] at hH
              unfold HeadPost at hH
              simp only at hH
              clear hhn HLI HR2 hf
              go_wp2_with fail
              refine hH.mono ?_
              clear hH
              rintro e w4 ⟨rfl, hb4⟩
              have hbA := hb4.next ((Below.refl _ _).alloc (Nat.le_refl _) (.cells #[.int .i64 m, .slice none 0 0] 46))
              have hbX := hbA.next ((Below.refl _ _).alloc (Nat.le_refl _) (.cells #[.int .i64 m, .slice none 0 0] 46))
              have hcbA := (hbA.cell (p := ⟨P7, 0, none⟩) hPw3).trans hcb3
              have HBX := Lib.hid (blk_next HB3.out hbX)
              have hBXN := HBX.out
              rw [HPN.out] at hBXN
              have HBXN := Lib.hid hBXN
              clear hBXN HBX
              have HDX := Lib.hid (HD3.out.below hbX)
              have hBX := hB3.trans (hbX.mono (Nat.le_of_lt hPw3))
              have hXs := Nat.le_trans (Nat.le_of_lt hPw3) hbX.size
              have hrow := HDX.out.row
              rw [HPN.out] at hrow
              have hbx2 : Below (w4.alloc (.cells #[.int .i64 m, .slice none 0 0] 46)).heap.size (w4.alloc (.cells #[.int .i64 m, .slice none 0 0] 46)) ((w4.alloc (.cells #[.int .i64 m, .slice none 0 0] 46)).alloc (.cells #[.int .i64 m, .slice none 0 0] 46)) := (Below.refl _ _).alloc (Nat.le_refl _) _
              have hsl := Sl.new (w4.alloc (.cells #[.int .i64 m, .slice none 0 0] 46)) (size := 2) #[.int .i64 m, .slice none 0 0] 46 1 (w4.alloc (.cells #[.int .i64 m, .slice none 0 0] 46)).heap.size rfl rfl rfl
              rw [show (w4.alloc (.cells #[.int .i64 m, .slice none 0 0] 46)).heap.size = w4.heap.size + 1 by simp] at hsl
              clear hbA hb4 hbX hbx2 hcb3
              go_wp2_with (first | ((with_reducible (show wpList _ _ _ (Oper.mk _ (Op.store _ _ _) _ _ _ _ :: _) _ _)); refine wpList_store_new rfl 46 46 (.tmp 12) (.tmp 57) rfl _ _ w4.heap.size rfl rfl rfl (by kernel_rfl) rfl (by kernel_rfl) ?_) | (at_builtin; refine wpList_append_sl rfl (.tmp 66) (.tmp 68) 23 rfl P7 46 (.agg #[.int .i64 0, .slice none 0 0]) 2 32 Tryd.underlying23 info_fn rfl (by omega) _ N _ rfl hrow _ 1 _ _ rfl hsl rfl (by simp [Value.oneCell']) (by omega) (by omega) hXs ?_; intro v6 w6 hown6 hg6 hat6; have hb6 := grown_block hg6 HBXN.out (own_ne hrow HBXN.out program_ne.1); have c6 : w6.cell? ⟨P7, 0, none⟩ = some (.slice Av N cV) := (by rw [cell_of_row _ _ _ _ _ _ hb6]; rfl); have z6 := frozen_of_row _ _ 0 _ _ hb6; have hownN := hown6; rw [← HPN.out] at hownN; have hgN := hg6; rw [← HPN.out] at hgN; obtain ⟨A6, n6, c6', rfl⟩ := own_slice hown6; clear hown6 hat6 hsl))
              have HF := Lib.hid ((HDX.out.head hgN hownN).kept (grownBy_setCell_at _ P7 0 (.slice A6 n6 c6')) fun g e => by injection e with e; subst e; exact ⟨_, _, _, hb6, program_ne.1, program_ne.2⟩)
              have HBF := Lib.hid (heap_setCell_same _ P7 0 _ _ (.slice A6 n6 c6') hb6)
              exact ⟨⟨i + 1, p ++ [(m, [])], .slice A6 n6 c6', _, by go_num, HIN.out, HR3, HPQ, HBF, HF, (hBX.grown hg6 hXs fun k e => (hrow.lt k e).1).setCell (p := ⟨P7, 0, none⟩) (Nat.le_refl _) _⟩, by have := HIN.out; simp [intOf]; omega⟩
          · rw [List.concat_eq_append] at hpc
            have hD3 := HD3.out
            rw [hpc] at hD3
            obtain ⟨cr, c, g, cap, hcv, hcr, hve, hBg, hgl, hcap, hc0, hc1, hfz, hownc⟩ := hD3.last
            obtain ⟨m', hm'⟩ := name_of r.length
            have hNm : N = m' + 1 := by rw [← HPN.out, hpc, ← hm']; simp
            injection hve with hve1 _ hve3
            subst hve1 hve3
            obtain ⟨Ac, nc, cc, rfl, _, hnn, _⟩ := Sl.own hownc
            rw [codeC_length] at hnn
            obtain ⟨L, hL⟩ := name_of f.2.length
            obtain rfl : nc = L := by omega
            have HLL : Hid (lastN p = nc) := Lib.hid (by rw [hpc, lastN_snoc, hL])
            have hw : IntKind.i64.wrap ((N : Int) - 1) = (m' : Int) := (IntWalk.i64_in _ (by omega)).trans (by omega)
            have hmN : m' < N := by omega
            have f2 : decide (0 < (N : Int)) = true := decide_eq_true (by omega)
            have f2' : decide (0 < N) = true := decide_eq_true (by omega)
            rw [hm'] at hc1
            clear hD3 hcv hcr hcap hc0 hfz hownc hm' hNm hnn hL hpc
            have hH := refHead_any N nc (by omega) HSL.out HWL.out HWN.out
            have HLI : Hid (lineT x p = match headN ws N nc with
              | .inl e => .inl e
              | .inr m => .inr (p ++ [(m, [])])) := Lib.hid (by rw [lineT_head (HY.out.trans hf), HWS.out, headR_N, HPN.out, HLL.out])
            cases hhn : headN ws N nc with
            | inl c =>
              have hc := headN_nz hhn
              have HR3 : Hid (R = ([], i + 1, c)) := Lib.hid (by rw [← HR2.out, HLI.out, hhn])
              rw [hhn] at hH
              unfold HeadPost at hH
              simp only at hH
              clear hhn HLI HR2 hf
              go_wp2_with fail
              refine hH.mono ?_
              clear hH
              rintro e w4 ⟨rfl, hb4⟩
              have hbA := hb4.next ((Below.refl _ _).alloc (Nat.le_refl _) (.cells #[.int .i64 0, .slice none 0 0] 46))
              have K2 := blk_next G2.out hbA
              have K5 := blk_next G5.out hbA
              have hBe := hBw3.trans (hbA.mono (by omega))
              clear hbA hb4
              have c5 : _ = some (Value.slice none 0 0) := (cell_of_row _ (w.heap.size + 1) 0 _ _ _ K5).trans rfl
              have c2 : _ = some (Value.slice none 0 0) := (cell_of_row _ w.heap.size 0 _ _ _ K2).trans rfl
              have y2 := frozen_of_row _ w.heap.size 0 _ _ K2
              have hg9 := heap_setCell_same _ w.heap.size 0 _ _ (.slice none 0 0) K2
              go_wp2_with (first | ((with_reducible (show wpList _ _ _ (Oper.mk _ (Op.store _ _ _) _ _ _ _ :: _) _ _)); refine wpList_store_new rfl 46 46 (.tmp 12) (.tmp 57) rfl _ _ w4.heap.size rfl rfl rfl (by kernel_rfl) rfl (by kernel_rfl) ?_) | fail)
              refine bodyPost_ret (results_cell_tmp2 rfl _ _ w.heap.size 25 _ _ _ rfl hg9 Tryd.underlying25 rfl (by kernel_rfl)) rfl ?_
              exact pp_err HR3.out (by go_num) (hBe.setCell (p := ⟨w.heap.size, 0, none⟩) (Nat.le_refl _) _)
            | inr m =>
              have HR3 : Hid (parseL (ls.drop (i + 1)) (i + 1) (p ++ [(m, [])]) = R) := Lib.hid (by rw [← HR2.out, HLI.out, hhn])
              have HPQ := Lib.hid (pf_line HPF.out (HLI.out.trans (by rw [hhn]))).1
              rw [hhn] at hH
              unfold HeadPost at hH
              simp only at hH
              clear hhn HLI HR2 hf
              go_wp2_with fail
              refine hH.mono ?_
              clear hH
              rintro e w4 ⟨rfl, hb4⟩
              have hbA := hb4.next ((Below.refl _ _).alloc (Nat.le_refl _) (.cells #[.int .i64 m, .slice none 0 0] 46))
              have hbX := hbA.next ((Below.refl _ _).alloc (Nat.le_refl _) (.cells #[.int .i64 m, .slice none 0 0] 46))
              have hcbA := (hbA.cell (p := ⟨P7, 0, none⟩) hPw3).trans hcb3
              have HBX := Lib.hid (blk_next HB3.out hbX)
              have hBXN := HBX.out
              rw [HPN.out] at hBXN
              have HBXN := Lib.hid hBXN
              clear hBXN HBX
              have HDX := Lib.hid (HD3.out.below hbX)
              have hBX := hB3.trans (hbX.mono (Nat.le_of_lt hPw3))
              have hXs := Nat.le_trans (Nat.le_of_lt hPw3) hbX.size
              have hrow := HDX.out.row
              rw [HPN.out] at hrow
              have hbx2 : Below (w4.alloc (.cells #[.int .i64 m, .slice none 0 0] 46)).heap.size (w4.alloc (.cells #[.int .i64 m, .slice none 0 0] 46)) ((w4.alloc (.cells #[.int .i64 m, .slice none 0 0] 46)).alloc (.cells #[.int .i64 m, .slice none 0 0] 46)) := (Below.refl _ _).alloc (Nat.le_refl _) _
              have hsl := Sl.new (w4.alloc (.cells #[.int .i64 m, .slice none 0 0] 46)) (size := 2) #[.int .i64 m, .slice none 0 0] 46 1 (w4.alloc (.cells #[.int .i64 m, .slice none 0 0] 46)).heap.size rfl rfl rfl
              rw [show (w4.alloc (.cells #[.int .i64 m, .slice none 0 0] 46)).heap.size = w4.heap.size + 1 by simp] at hsl
              clear hbA hb4 hbX hbx2 hcb3
              go_wp2_with (first | ((with_reducible (show wpList _ _ _ (Oper.mk _ (Op.store _ _ _) _ _ _ _ :: _) _ _)); refine wpList_store_new rfl 46 46 (.tmp 12) (.tmp 57) rfl _ _ w4.heap.size rfl rfl rfl (by kernel_rfl) rfl (by kernel_rfl) ?_) | (at_builtin; refine wpList_append_sl rfl (.tmp 66) (.tmp 68) 23 rfl P7 46 (.agg #[.int .i64 0, .slice none 0 0]) 2 32 Tryd.underlying23 info_fn rfl (by omega) _ N _ rfl hrow _ 1 _ _ rfl hsl rfl (by simp [Value.oneCell']) (by omega) (by omega) hXs ?_; intro v6 w6 hown6 hg6 hat6; have hb6 := grown_block hg6 HBXN.out (own_ne hrow HBXN.out program_ne.1); have c6 : w6.cell? ⟨P7, 0, none⟩ = some (.slice (some ⟨g, 0, none⟩) N cV) := (by rw [cell_of_row _ _ _ _ _ _ hb6]; rfl); have z6 := frozen_of_row _ _ 0 _ _ hb6; have hownN := hown6; rw [← HPN.out] at hownN; have hgN := hg6; rw [← HPN.out] at hgN; obtain ⟨A6, n6, c6', rfl⟩ := own_slice hown6; clear hown6 hat6 hsl))
              have HF := Lib.hid ((HDX.out.head hgN hownN).kept (grownBy_setCell_at _ P7 0 (.slice A6 n6 c6')) fun g e => by injection e with e; subst e; exact ⟨_, _, _, hb6, program_ne.1, program_ne.2⟩)
              have HBF := Lib.hid (heap_setCell_same _ P7 0 _ _ (.slice A6 n6 c6') hb6)
              exact ⟨⟨i + 1, p ++ [(m, [])], .slice A6 n6 c6', _, by go_num, HIN.out, HR3, HPQ, HBF, HF, (hBX.grown hg6 hXs fun k e => (hrow.lt k e).1).setCell (p := ⟨P7, 0, none⟩) (Nat.le_refl _) _⟩, by have := HIN.out; simp [intOf]; omega⟩
        · have z2 : (ys.toList == [102, 117, 110, 99]) = false := by rw [← HYS.out]; exact list_bne hf
          rcases List.eq_nil_or_concat p with hp0 | ⟨r, f, hpc⟩
          · have hN0 : N = 0 := by rw [← HPN.out, hp0]; rfl
            have f3 : ((N : Int) == 0) = true := by rw [beq_iff_eq]; omega
            have HR3 : Hid (R = ([], i + 1, 11)) := Lib.hid (by rw [← HR2.out, hp0, lineT_first (by rw [HY.out]; exact hf)])
            clear hN0 hp0 HR2 hf
            have c5 : _ = some (Value.slice none 0 0) := (cell_of_row _ (w.heap.size + 1) 0 _ _ _ G5.out).trans rfl
            have c2 : _ = some (Value.slice none 0 0) := (cell_of_row _ w.heap.size 0 _ _ _ G2.out).trans rfl
            have y2 := frozen_of_row _ w.heap.size 0 _ _ G2.out
            have hg9 := heap_setCell_same _ w.heap.size 0 _ _ (.slice none 0 0) G2.out
            go_wp2_with fail
            refine bodyPost_ret (results_cell_tmp2 rfl _ _ w.heap.size 25 _ _ _ rfl hg9 Tryd.underlying25 rfl (by kernel_rfl)) rfl ?_
            exact pp_err HR3.out (by go_num) (hBw3.setCell (p := ⟨w.heap.size, 0, none⟩) (Nat.le_refl _) _)
          · rw [List.concat_eq_append] at hpc
            subst hpc
            have hRd := refRead_any xs hxz w3
            rw [HXS.out] at hRd
            have hlm := lineT_more (x := x) (p := r ++ [f]) (by rw [HY.out]; exact hf) (by simp)
            have hlen := HPF.out.len
            obtain ⟨cr, c, g, cap, hcv, hcr, hve, hBg, hgl, hcap, hc0, hc1, hfz, hownc⟩ := HD3.out.last
            subst hcv
            obtain ⟨m', hm'⟩ := name_of r.length
            have HM := Lib.hid hm'
            have hNm : N = m' + 1 := by rw [← HPN.out, ← hm']; simp
            injection hve with hve1 _ hve3
            subst hve1 hve3
            obtain ⟨Ac, nc, cc, rfl, _, hnn, _⟩ := Sl.own hownc
            rw [codeC_length] at hnn
            obtain ⟨L, hL⟩ := name_of f.2.length
            obtain rfl : nc = L := by omega
            have HL := Lib.hid hL
            have hL128 := (HPF.out.head f (by simp)).2.2.1
            rw [hL] at hL128
            have HLT : Hid (lastN (r ++ [f]) = nc) := Lib.hid (by rw [lastN_snoc, hL])
            have HCR : Hid (cr.length = r.length) := Lib.hid hcr
            have hw : IntKind.i64.wrap ((N : Int) - 1) = (m' : Int) := (IntWalk.i64_in _ (by omega)).trans (by omega)
            have hmN : m' < N := by omega
            have f3 : ((N : Int) == 0) = false := by rw [beq_eq_false_iff_ne]; omega
            rw [hm'] at hc1
            have HC1 := Lib.hid hc1
            have HFZ := Lib.hid hfz
            clear hcr hcap hc0 hfz hownc hm' hNm hnn hL hc1 hlen
            rcases hri : readA x with e0 | ⟨o, a, b, d, e5⟩
            · have hne : (e0 != 0) = true := by
                rw [bne_iff_ne]
                rintro rfl
                exact parse_inv.readA_ne hri
              have HR3 : Hid (R = ([], i + 1, e0)) := Lib.hid (by rw [← HR2.out, hlm, hri])
              rw [hri] at hRd
              unfold InsPost at hRd
              rw [show resI (.inl e0) = .tuple #[.agg #[.int .i64 0, .int .i64 0, .int .i64 0, .int .i64 0, .int .i64 0], .int .i64 e0] from rfl] at hRd
              clear hri hlm HR2 hf
              go_wp2_with fail
              refine hRd.mono ?_
              rintro e w4 ⟨rfl, hb4⟩
              have hbA := hb4.next ((Below.refl _ _).alloc (Nat.le_refl _) (.cells #[.int .i64 0, .int .i64 0, .int .i64 0, .int .i64 0, .int .i64 0] 33))
              have K2 := blk_next G2.out hbA
              have K5 := blk_next G5.out hbA
              have hBe := hBw3.trans (hbA.mono (by omega))
              clear hbA hb4 hRd

              have c5 : _ = some (Value.slice none 0 0) := (cell_of_row _ (w.heap.size + 1) 0 _ _ _ K5).trans rfl
              have c2 : _ = some (Value.slice none 0 0) := (cell_of_row _ w.heap.size 0 _ _ _ K2).trans rfl
              have y2 := frozen_of_row _ w.heap.size 0 _ _ K2
              have hg9 := heap_setCell_same _ w.heap.size 0 _ _ (.slice none 0 0) K2
              go_wp2_with (first | ((with_reducible (show wpList _ _ _ (Oper.mk _ (Op.store _ _ _) _ _ _ _ :: _) _ _)); refine wpList_store_new rfl 33 33 (.tmp 14) (.tmp 82) rfl _ _ w4.heap.size rfl rfl rfl (by kernel_rfl) rfl (by kernel_rfl) ?_) | fail)
              refine bodyPost_ret (results_cell_tmp2 rfl _ _ w.heap.size 25 _ _ _ rfl hg9 Tryd.underlying25 rfl (by kernel_rfl)) rfl ?_
              exact pp_err HR3.out (by go_num) (hBe.setCell (p := ⟨w.heap.size, 0, none⟩) (Nat.le_refl _) _)
            · rw [hri] at hRd
              unfold InsPost at hRd
              rw [resI_inr] at hRd
              have HI : Hid (lineT x (r ++ [f]) = if 128 ≤ nc then .inl 12 else .inr (r ++ [(f.1, f.2 ++ [(o, a, b, d, e5)])])) := Lib.hid (by rw [hlm, hri, ← HLT.out, ← pushL_snoc])
              clear hri hlm hf
              go_wp2_with fail
              refine hRd.mono ?_
              rintro e w4 ⟨rfl, hb4⟩
              have hbA := hb4.next ((Below.refl _ _).alloc (Nat.le_refl _) (.cells #[.int .i64 o, .int .i64 a, .int .i64 b, .int .i64 d, .int .i64 e5] 33))
              have hcA := (hbA.cell (p := ⟨g, m' * 2 + 1, none⟩) hgl).trans HC1.out
              have hcbA := (hbA.cell (p := ⟨P7, 0, none⟩) hPw3).trans hcb3
              by_cases h128 : 128 ≤ nc
              · have z3 : decide (128 ≤ (nc : Int)) = true := decide_eq_true (by omega)
                have HR3 : Hid (R = ([], i + 1, 12)) := Lib.hid (by rw [← HR2.out, HI.out, if_pos h128])
                have K2 := blk_next G2.out hbA
                have K5 := blk_next G5.out hbA
                have hBe := hBw3.trans (hbA.mono (by omega))
                clear hbA hb4 hRd h128 HI HR2

                have c5 : _ = some (Value.slice none 0 0) := (cell_of_row _ (w.heap.size + 1) 0 _ _ _ K5).trans rfl
                have c2 : _ = some (Value.slice none 0 0) := (cell_of_row _ w.heap.size 0 _ _ _ K2).trans rfl
                have y2 := frozen_of_row _ w.heap.size 0 _ _ K2
                have hg9 := heap_setCell_same _ w.heap.size 0 _ _ (.slice none 0 0) K2
                go_wp2_with (first | ((with_reducible (show wpList _ _ _ (Oper.mk _ (Op.store _ _ _) _ _ _ _ :: _) _ _)); refine wpList_store_new rfl 33 33 (.tmp 14) (.tmp 82) rfl _ _ w4.heap.size rfl rfl rfl (by kernel_rfl) rfl (by kernel_rfl) ?_) | fail)
                refine bodyPost_ret (results_cell_tmp2 rfl _ _ w.heap.size 25 _ _ _ rfl hg9 Tryd.underlying25 rfl (by kernel_rfl)) rfl ?_
                exact pp_err HR3.out (by go_num) (hBe.setCell (p := ⟨w.heap.size, 0, none⟩) (Nat.le_refl _) _)
              · have z3 : decide (128 ≤ (nc : Int)) = false := decide_eq_false (by omega)
                have HR3 : Hid (parseL (ls.drop (i + 1)) (i + 1) (r ++ [(f.1, f.2 ++ [(o, a, b, d, e5)])]) = R) := Lib.hid (by rw [← HR2.out, HI.out, if_neg h128])
                have HPQ := Lib.hid (pf_line HPF.out (HI.out.trans (by rw [if_neg h128]))).1
                have hL2 : nc < 128 := by omega
                have HBA := Lib.hid (blk_next HB3.out hbA)
                have HDA := Lib.hid (HD3.out.below hbA)
                have HIA := Lib.hid (heap_alloc_last w4 (.cells #[.int .i64 o, .int .i64 a, .int .i64 b, .int .i64 d, .int .i64 e5] 33))
                have hBA := hB3.trans (hbA.mono (Nat.le_of_lt hPw3))
                have HCA := Lib.hid hcA
                have HFA : Hid (∀ j, (w4.alloc (.cells #[.int .i64 o, .int .i64 a, .int .i64 b, .int .i64 d, .int .i64 e5] 33)).frozen? ⟨g, j, none⟩ = false) := Lib.hid (fun j => (hbA.frozen (p := ⟨g, j, none⟩) hgl).trans (HFZ.out j))
                clear hRd h128 HI HR2
                have HD4 : Hid (FnsD (w4.alloc (.cells #[.int .i64 o, .int .i64 a, .int .i64 b, .int .i64 d, .int .i64 e5] 33)) P7 (.slice (some ⟨g, 0, none⟩) (r.length + 1) cV) (r ++ [f]) (cr ++ [.slice Ac nc cc])) := Lib.hid (by
                  have h := HDA.out
                  rw [List.length_append, List.length_singleton] at h
                  exact h)
                have HB4 : Hid ((w4.alloc (.cells #[.int .i64 o, .int .i64 a, .int .i64 b, .int .i64 d, .int .i64 e5] 33)).heap[P7]? = some (.cells #[.slice (some ⟨g, 0, none⟩) (r.length + 1) cV] 25 (0, 0))) := Lib.hid (by
                  have h := HBA.out
                  rw [List.length_append, List.length_singleton] at h
                  exact h)
                have HN1 : Hid (r.length + 1 = N) := Lib.hid (by rw [← HPN.out]; simp)
                clear HDA HBA HD3 HB3
                go_wp2_with (first | ((with_reducible (show wpList _ _ _ (Oper.mk _ (Op.store _ _ _) _ _ _ _ :: _) _ _)); refine wpList_store_new rfl 33 33 (.tmp 14) (.tmp 82) rfl _ _ w4.heap.size rfl rfl rfl (by kernel_rfl) rfl (by kernel_rfl) ?_) | (fail))
                have hIV := fun j => cell_of_row (w4.alloc (.cells #[.int .i64 o, .int .i64 a, .int .i64 b, .int .i64 d, .int .i64 e5] 33)) w4.heap.size j _ _ _ HIA.out
                have i0 := hIV 0
                have i1 := hIV 1
                have i2 := hIV 2
                have i3 := hIV 3
                have i4 := hIV 4
                simp only [List.getElem?_toArray, List.getElem?_cons_zero, List.getElem?_cons_succ] at i0 i1 i2 i3 i4
                have hPV : P7 ≤ (w4.alloc (.cells #[.int .i64 o, .int .i64 a, .int .i64 b, .int .i64 d, .int .i64 e5] 33)).heap.size := Nat.le_of_lt (lt_of_block HB4.out)
                have hcV := HCA.out
                have hbVG := HFA.out
                clear hIV hbA hb4 hcA HIA HCA HFA HC1 HFZ hcb3 hcx3
                obtain ⟨V, hV⟩ := name_of (w4.alloc (.cells #[.int .i64 o, .int .i64 a, .int .i64 b, .int .i64 d, .int .i64 e5] 33))
                rw [hV] at i0 i1 i2 i3 i4 hPV hcV hbVG HD4 HB4 hBA hcbA ⊢
                have HFV := Lib.hid hbVG
                clear hV hbVG
                have hbX : Below V.heap.size V (V.drew.alloc (.cells #[.int .i64 o, .int .i64 a, .int .i64 b, .int .i64 d, .int .i64 e5] 33)) := below_drew'.next ((Below.refl _ _).alloc (Nat.le_refl _) _)
                have HDX := Lib.hid (HD4.out.below hbX)
                have HBX := Lib.hid (blk_next HB4.out hbX)
                have hBX := hBA.trans (hbX.mono hPV)
                have hrX : (V.drew.alloc (.cells #[.int .i64 o, .int .i64 a, .int .i64 b, .int .i64 d, .int .i64 e5] 33)).rangeAt V.heap.size 0 (P2.insC (o, a, b, d, e5)) := fun j u hj => by
                  rw [World.cell?_alloc_at _ _ _ _ (show V.heap.size = V.drew.heap.size from rfl), Nat.zero_add]
                  simpa [P2.insC] using hj
                have hownX := HDX.out.lastRow HCR.out
                rw [HL.out] at hownX
                have hgV : g < V.heap.size := World.block_lt_of_cell? _ _ hcV
                have hcX := (hbX.cell (p := ⟨g, m' * 2 + 1, none⟩) hgV).trans hcV
                have hfX := fun j => (hbX.frozen (p := ⟨g, j, none⟩) hgV).trans (HFV.out j)
                have hP7V : P7 < V.heap.size := World.block_lt_of_cell? _ _ hcbA
                have HCX := Lib.hid hcX
                have HFX := Lib.hid hfX
                have HRX := Lib.hid hrX
                have HOX := Lib.hid hownX
                have HBXs := Lib.hid (Nat.le_trans hPV hbX.size)
                clear hcX hfX hrX hownX hbX hPV hBA HB4 HD4 HFV
                -- region 26
                refine wp_region_held_drew (S := (fun W => W.cell? ⟨P7, 0, none⟩ = some (.slice (some ⟨g, 0, none⟩) N cV))) (by kernel_rfl) ((below_drew'.cell (p := ⟨P7, 0, none⟩) hP7V).trans hcbA) (fun hH => ?_)
                have b10 : Below V.heap.size V V.drew := below_drew'
                have m0 := (b10.cell (p := ⟨g, m' * 2 + 1, none⟩) hgV).trans hcV
                have hbxV : w4.heap.size < V.heap.size := World.block_lt_of_cell? _ _ i0
                have i0 := (b10.cell (p := ⟨w4.heap.size, 0, none⟩) hbxV).trans i0
                have i1 := (b10.cell (p := ⟨w4.heap.size, 1, none⟩) hbxV).trans i1
                have i2 := (b10.cell (p := ⟨w4.heap.size, 2, none⟩) hbxV).trans i2
                have i3 := (b10.cell (p := ⟨w4.heap.size, 3, none⟩) hbxV).trans i3
                have i4 := (b10.cell (p := ⟨w4.heap.size, 4, none⟩) hbxV).trans i4
                obtain ⟨Y, hY⟩ := name_of V.drew
                have hsY : V.heap.size = Y.heap.size := by rw [← hY]; rfl
                rw [hY] at HDX HBX HRX HOX HCX HFX HBXs hBX hH b10 m0 i0 i1 i2 i3 i4 ⊢
                rw [hsY] at HRX hP7V
                clear hY b10 hcV hsY hbxV
                refine Rg.take (i := 0) (d := 102) (v := .pointer (some ⟨P7, 0, none⟩)) rfl rfl (by kernel_rfl) (by kernel_rfl) (by kernel_rfl) (fun _ _ _ h => h) (by kernel_rfl) (fun W hSW => ?_) hH ?_
                · clear hSW
                  go_simp
                simp only [List.setIfInBounds_toArray, List.set_cons_zero, List.set_cons_succ]
                refine Rg.take (i := 1) (d := 103) (v := .slice (some ⟨g, 0, none⟩) N cV) rfl rfl (by kernel_rfl) (by kernel_rfl) (by kernel_rfl) (fun _ _ _ h => h) (by kernel_rfl) (fun W hSW => ?_) hH ?_
                · have h0 := hSW
                  go_simp
                simp only [List.setIfInBounds_toArray, List.set_cons_zero, List.set_cons_succ]
                refine Rg.take (i := 2) (d := 104) (v := .int .i64 N) rfl rfl (by kernel_rfl) (by kernel_rfl) (by kernel_rfl) (fun _ _ _ h => h) (by kernel_rfl) (fun W hSW => ?_) hH ?_
                · clear hSW
                  go_simp
                simp only [List.setIfInBounds_toArray, List.set_cons_zero, List.set_cons_succ]
                refine Rg.take (i := 3) (d := 105) (v := .int .i64 m') rfl rfl (by kernel_rfl) (by kernel_rfl) (by kernel_rfl) (fun _ _ _ h => h) (by kernel_rfl) (fun W hSW => ?_) hH ?_
                · clear hSW
                  go_simp
                simp only [List.setIfInBounds_toArray, List.set_cons_zero, List.set_cons_succ]
                refine Rg.take (i := 4) (d := 106) (v := .pointer (some ⟨P7, 0, none⟩)) rfl rfl (by kernel_rfl) (by kernel_rfl) (by kernel_rfl) (fun _ _ _ h => h) (by kernel_rfl) (fun W hSW => ?_) hH ?_
                · clear hSW
                  go_simp
                simp only [List.setIfInBounds_toArray, List.set_cons_zero, List.set_cons_succ]
                refine Rg.take (i := 5) (d := 107) (v := .slice (some ⟨g, 0, none⟩) N cV) rfl rfl (by kernel_rfl) (by kernel_rfl) (by kernel_rfl) (fun _ _ _ h => h) (by kernel_rfl) (fun W hSW => ?_) hH ?_
                · have h0 := hSW
                  go_simp
                simp only [List.setIfInBounds_toArray, List.set_cons_zero, List.set_cons_succ]
                refine Rg.take (i := 6) (d := 108) (v := .int .i64 N) rfl rfl (by kernel_rfl) (by kernel_rfl) (by kernel_rfl) (fun _ _ _ h => h) (by kernel_rfl) (fun W hSW => ?_) hH ?_
                · clear hSW
                  go_simp
                simp only [List.setIfInBounds_toArray, List.set_cons_zero, List.set_cons_succ]
                refine Rg.take (i := 7) (d := 109) (v := .int .i64 m') rfl rfl (by kernel_rfl) (by kernel_rfl) (by kernel_rfl) (fun _ _ _ h => h) (by kernel_rfl) (fun W hSW => ?_) hH ?_
                · clear hSW
                  go_simp
                simp only [List.setIfInBounds_toArray, List.set_cons_zero, List.set_cons_succ]
                refine Rg.take (i := 8) (d := 110) (v := .pointer (some ⟨g, m' * 2, none⟩)) rfl rfl (by kernel_rfl) (by kernel_rfl) (by kernel_rfl) (fun _ _ _ h => h) (by kernel_rfl) (fun W hSW => ?_) hH ?_
                · clear hSW
                  go_simp
                simp only [List.setIfInBounds_toArray, List.set_cons_zero, List.set_cons_succ]
                refine Rg.take (i := 9) (d := 111) (v := .pointer (some ⟨g, m' * 2 + 1, none⟩)) rfl rfl (by kernel_rfl) (by kernel_rfl) (by kernel_rfl) (fun _ _ _ h => h) (by kernel_rfl) (fun W hSW => ?_) hH ?_
                · clear hSW
                  go_simp
                simp only [List.setIfInBounds_toArray, List.set_cons_zero, List.set_cons_succ]
                refine wpAnyH_ready (rs := [10, 11]) (by kernel_rfl) (by simp) (AllReadyH.cons rfl (fun K hK => ?_) (AllReadyH.cons rfl (fun K hK => ?_) AllReadyH.nil))
                · have mX := HCX.out
                  go_simp
                  refine hK.out _ _ hH (fun hH => ?_)
                  clear hK K
                  refine wpAnyH_ready (rs := [11]) (by kernel_rfl) (by simp) (AllReadyH.cons rfl (fun K hK => ?_) AllReadyH.nil)
                  go_simp
                  refine hK.out _ _ hH (fun hH => ?_)
                  clear hK K
                  refine wpAnyH_ready (rs := [12]) (by kernel_rfl) (by simp) (AllReadyH.cons rfl (fun K hK => ?_) AllReadyH.nil)
                  go_simp
                  refine hK.out _ _ ((((Below.refl _ _).alloc (Nat.le_refl _) _).cell (p := ⟨P7, 0, none⟩) hP7V).trans hH) (fun hH => ?_)
                  clear hK K
                  refine wpAnyH_ready (rs := [13]) (by kernel_rfl) (by simp) (AllReadyH.cons rfl (fun K hK => ?_) AllReadyH.nil)
                  rw [if_pos (by rfl)]
                  refine wp_append_sl (.tmp 112) (.tmp 114) 44 rfl P7 33 (.agg #[.int .i64 0, .int .i64 0, .int .i64 0, .int .i64 0, .int .i64 0]) 5 40 Tryd.underlying44 info_ins rfl (by omega) (.slice Ac nc cc) nc _ rfl HOX.out Y.heap.size 0 1 1 (P2.insC (o, a, b, d, e5)) rfl HRX.out rfl (by simp [P2.insC, Value.oneCell']) (by omega) (by omega) HBXs.out ?_
                  intro v6 w6 hown6 hg6 hat6
                  obtain ⟨e6, z6⟩ := FnsD.after HDX.out hg6 (by rw [HL.out]; exact HOX.out) (by rw [HM.out]; exact HCX.out) HFX.out
                  rw [HM.out] at e6 z6
                  have c60 : w6.cell? ⟨P7, 0, none⟩ = some (.slice (some ⟨g, 0, none⟩) N cV) := (by rw [cell_of_row _ _ _ _ _ _ (grown_block hg6 HBX.out (own_ne HOX.out HBX.out program_ne.2)), ← HN1.out]; rfl)
                  have hb6 := grown_block hg6 HBX.out (own_ne HOX.out HBX.out program_ne.2)
                  have hne : P7 ≠ g := fun e => own_ne HDX.out.row HBX.out program_ne.1 (by rw [e]; rfl)
                  have hpu := HDX.out.push (i := (o, a, b, d, e5)) HCR.out hg6 (by rw [HL.out]; exact hown6) hat6
                  rw [HN1.out, HM.out] at hpu
                  rw [HN1.out] at hb6
                  have HPU := Lib.hid hpu
                  have hBf := Lib.hid ((hBX.grown hg6 HBXs.out fun k e => (HOX.out.lt k e).1).setCell (p := ⟨g, m' * 2 + 1, none⟩) hBg v6)
                  have HBL := Lib.hid (blk_set_other (j := m' * 2 + 1) hb6 hne v6)
                  have ho6 := own_one hown6
                  obtain ⟨A6, m6, c6, rfl⟩ := own_slice hown6
                  clear hown6 hg6 hat6 hpu hb6
                  go_simp
                  refine hK.out _ _ c60 (fun hH => ?_)
                  clear hK K
                  refine Rg.take (i := 14) (d := 116) (v := .pointer (some ⟨g, m' * 2, none⟩)) rfl rfl (by kernel_rfl) (by kernel_rfl) (by kernel_rfl) (fun _ _ _ h => h) (by kernel_rfl) (fun W hSW => ?_) hH ?_
                  · clear hSW
                    go_simp
                  simp only [List.setIfInBounds_toArray, List.set_cons_zero, List.set_cons_succ]
                  refine Rg.take (i := 15) (d := 117) (v := .pointer (some ⟨g, m' * 2 + 1, none⟩)) rfl rfl (by kernel_rfl) (by kernel_rfl) (by kernel_rfl) (fun _ _ _ h => h) (by kernel_rfl) (fun W hSW => ?_) hH ?_
                  · clear hSW
                    go_simp
                  simp only [List.setIfInBounds_toArray, List.set_cons_zero, List.set_cons_succ]
                  refine wpAnyH_ready (rs := [16]) (by kernel_rfl) (by simp) (AllReadyH.cons rfl (fun K hK => ?_) AllReadyH.nil)
                  rw [if_pos (by rfl)]
                  refine wp_store_cell 44 (.tmp 117) (.tmp 115) rfl g (m' * 2 + 1) rfl (.slice A6 m6 c6) rfl (by rw [e6]; rfl) z6 (by kernel_rfl) rfl ?_
                  go_simp
                  refine hK.out _ _ (by rw [cell_of_row _ _ _ _ _ _ HBL.out]; rfl) (fun hH => ?_)
                  clear hK K hH
                  refine wpAnyH_done (by kernel_rfl) ?_ _
                  go_wp2_with fail
                  exact ⟨⟨i + 1, _, _, _, by go_num, HIN.out, HR3, HPQ, HBL, HPU, hBf.out⟩, by have := HIN.out; simp [intOf]; omega⟩
                · go_simp
                  refine hK.out _ _ hH (fun hH => ?_)
                  clear hK K
                  refine wpAnyH_ready (rs := [10, 12]) (by kernel_rfl) (by simp) (AllReadyH.cons rfl (fun K hK => ?_) (AllReadyH.cons rfl (fun K hK => ?_) AllReadyH.nil))
                  · have mX := HCX.out
                    go_simp
                    refine hK.out _ _ hH (fun hH => ?_)
                    clear hK K
                    refine wpAnyH_ready (rs := [12]) (by kernel_rfl) (by simp) (AllReadyH.cons rfl (fun K hK => ?_) AllReadyH.nil)
                    go_simp
                    refine hK.out _ _ ((((Below.refl _ _).alloc (Nat.le_refl _) _).cell (p := ⟨P7, 0, none⟩) hP7V).trans hH) (fun hH => ?_)
                    clear hK K
                    refine wpAnyH_ready (rs := [13]) (by kernel_rfl) (by simp) (AllReadyH.cons rfl (fun K hK => ?_) AllReadyH.nil)
                    rw [if_pos (by rfl)]
                    refine wp_append_sl (.tmp 112) (.tmp 114) 44 rfl P7 33 (.agg #[.int .i64 0, .int .i64 0, .int .i64 0, .int .i64 0, .int .i64 0]) 5 40 Tryd.underlying44 info_ins rfl (by omega) (.slice Ac nc cc) nc _ rfl HOX.out Y.heap.size 0 1 1 (P2.insC (o, a, b, d, e5)) rfl HRX.out rfl (by simp [P2.insC, Value.oneCell']) (by omega) (by omega) HBXs.out ?_
                    intro v6 w6 hown6 hg6 hat6
                    obtain ⟨e6, z6⟩ := FnsD.after HDX.out hg6 (by rw [HL.out]; exact HOX.out) (by rw [HM.out]; exact HCX.out) HFX.out
                    rw [HM.out] at e6 z6
                    have c60 : w6.cell? ⟨P7, 0, none⟩ = some (.slice (some ⟨g, 0, none⟩) N cV) := (by rw [cell_of_row _ _ _ _ _ _ (grown_block hg6 HBX.out (own_ne HOX.out HBX.out program_ne.2)), ← HN1.out]; rfl)
                    have hb6 := grown_block hg6 HBX.out (own_ne HOX.out HBX.out program_ne.2)
                    have hne : P7 ≠ g := fun e => own_ne HDX.out.row HBX.out program_ne.1 (by rw [e]; rfl)
                    have hpu := HDX.out.push (i := (o, a, b, d, e5)) HCR.out hg6 (by rw [HL.out]; exact hown6) hat6
                    rw [HN1.out, HM.out] at hpu
                    rw [HN1.out] at hb6
                    have HPU := Lib.hid hpu
                    have hBf := Lib.hid ((hBX.grown hg6 HBXs.out fun k e => (HOX.out.lt k e).1).setCell (p := ⟨g, m' * 2 + 1, none⟩) hBg v6)
                    have HBL := Lib.hid (blk_set_other (j := m' * 2 + 1) hb6 hne v6)
                    have ho6 := own_one hown6
                    obtain ⟨A6, m6, c6, rfl⟩ := own_slice hown6
                    clear hown6 hg6 hat6 hpu hb6
                    go_simp
                    refine hK.out _ _ c60 (fun hH => ?_)
                    clear hK K
                    refine Rg.take (i := 14) (d := 116) (v := .pointer (some ⟨g, m' * 2, none⟩)) rfl rfl (by kernel_rfl) (by kernel_rfl) (by kernel_rfl) (fun _ _ _ h => h) (by kernel_rfl) (fun W hSW => ?_) hH ?_
                    · clear hSW
                      go_simp
                    simp only [List.setIfInBounds_toArray, List.set_cons_zero, List.set_cons_succ]
                    refine Rg.take (i := 15) (d := 117) (v := .pointer (some ⟨g, m' * 2 + 1, none⟩)) rfl rfl (by kernel_rfl) (by kernel_rfl) (by kernel_rfl) (fun _ _ _ h => h) (by kernel_rfl) (fun W hSW => ?_) hH ?_
                    · clear hSW
                      go_simp
                    simp only [List.setIfInBounds_toArray, List.set_cons_zero, List.set_cons_succ]
                    refine wpAnyH_ready (rs := [16]) (by kernel_rfl) (by simp) (AllReadyH.cons rfl (fun K hK => ?_) AllReadyH.nil)
                    rw [if_pos (by rfl)]
                    refine wp_store_cell 44 (.tmp 117) (.tmp 115) rfl g (m' * 2 + 1) rfl (.slice A6 m6 c6) rfl (by rw [e6]; rfl) z6 (by kernel_rfl) rfl ?_
                    go_simp
                    refine hK.out _ _ (by rw [cell_of_row _ _ _ _ _ _ HBL.out]; rfl) (fun hH => ?_)
                    clear hK K hH
                    refine wpAnyH_done (by kernel_rfl) ?_ _
                    go_wp2_with fail
                    exact ⟨⟨i + 1, _, _, _, by go_num, HIN.out, HR3, HPQ, HBL, HPU, hBf.out⟩, by have := HIN.out; simp [intOf]; omega⟩
                  · go_simp
                    refine hK.out _ _ ((((Below.refl _ _).alloc (Nat.le_refl _) _).cell (p := ⟨P7, 0, none⟩) hP7V).trans hH) (fun hH => ?_)
                    clear hK K
                    refine wpAnyH_ready (rs := [10]) (by kernel_rfl) (by simp) (AllReadyH.cons rfl (fun K hK => ?_) AllReadyH.nil)
                    have mX := HCX.out
                    go_simp
                    refine hK.out _ _ hH (fun hH => ?_)
                    clear hK K
                    refine wpAnyH_ready (rs := [13]) (by kernel_rfl) (by simp) (AllReadyH.cons rfl (fun K hK => ?_) AllReadyH.nil)
                    rw [if_pos (by rfl)]
                    refine wp_append_sl (.tmp 112) (.tmp 114) 44 rfl P7 33 (.agg #[.int .i64 0, .int .i64 0, .int .i64 0, .int .i64 0, .int .i64 0]) 5 40 Tryd.underlying44 info_ins rfl (by omega) (.slice Ac nc cc) nc _ rfl HOX.out Y.heap.size 0 1 1 (P2.insC (o, a, b, d, e5)) rfl HRX.out rfl (by simp [P2.insC, Value.oneCell']) (by omega) (by omega) HBXs.out ?_
                    intro v6 w6 hown6 hg6 hat6
                    obtain ⟨e6, z6⟩ := FnsD.after HDX.out hg6 (by rw [HL.out]; exact HOX.out) (by rw [HM.out]; exact HCX.out) HFX.out
                    rw [HM.out] at e6 z6
                    have c60 : w6.cell? ⟨P7, 0, none⟩ = some (.slice (some ⟨g, 0, none⟩) N cV) := (by rw [cell_of_row _ _ _ _ _ _ (grown_block hg6 HBX.out (own_ne HOX.out HBX.out program_ne.2)), ← HN1.out]; rfl)
                    have hb6 := grown_block hg6 HBX.out (own_ne HOX.out HBX.out program_ne.2)
                    have hne : P7 ≠ g := fun e => own_ne HDX.out.row HBX.out program_ne.1 (by rw [e]; rfl)
                    have hpu := HDX.out.push (i := (o, a, b, d, e5)) HCR.out hg6 (by rw [HL.out]; exact hown6) hat6
                    rw [HN1.out, HM.out] at hpu
                    rw [HN1.out] at hb6
                    have HPU := Lib.hid hpu
                    have hBf := Lib.hid ((hBX.grown hg6 HBXs.out fun k e => (HOX.out.lt k e).1).setCell (p := ⟨g, m' * 2 + 1, none⟩) hBg v6)
                    have HBL := Lib.hid (blk_set_other (j := m' * 2 + 1) hb6 hne v6)
                    have ho6 := own_one hown6
                    obtain ⟨A6, m6, c6, rfl⟩ := own_slice hown6
                    clear hown6 hg6 hat6 hpu hb6
                    go_simp
                    refine hK.out _ _ c60 (fun hH => ?_)
                    clear hK K
                    refine Rg.take (i := 14) (d := 116) (v := .pointer (some ⟨g, m' * 2, none⟩)) rfl rfl (by kernel_rfl) (by kernel_rfl) (by kernel_rfl) (fun _ _ _ h => h) (by kernel_rfl) (fun W hSW => ?_) hH ?_
                    · clear hSW
                      go_simp
                    simp only [List.setIfInBounds_toArray, List.set_cons_zero, List.set_cons_succ]
                    refine Rg.take (i := 15) (d := 117) (v := .pointer (some ⟨g, m' * 2 + 1, none⟩)) rfl rfl (by kernel_rfl) (by kernel_rfl) (by kernel_rfl) (fun _ _ _ h => h) (by kernel_rfl) (fun W hSW => ?_) hH ?_
                    · clear hSW
                      go_simp
                    simp only [List.setIfInBounds_toArray, List.set_cons_zero, List.set_cons_succ]
                    refine wpAnyH_ready (rs := [16]) (by kernel_rfl) (by simp) (AllReadyH.cons rfl (fun K hK => ?_) AllReadyH.nil)
                    rw [if_pos (by rfl)]
                    refine wp_store_cell 44 (.tmp 117) (.tmp 115) rfl g (m' * 2 + 1) rfl (.slice A6 m6 c6) rfl (by rw [e6]; rfl) z6 (by kernel_rfl) rfl ?_
                    go_simp
                    refine hK.out _ _ (by rw [cell_of_row _ _ _ _ _ _ HBL.out]; rfl) (fun hH => ?_)
                    clear hK K hH
                    refine wpAnyH_done (by kernel_rfl) ?_ _
                    go_wp2_with fail
                    exact ⟨⟨i + 1, _, _, _, by go_num, HIN.out, HR3, HPQ, HBL, HPU, hBf.out⟩, by have := HIN.out; simp [intOf]; omega⟩
end P3
end Go.Proofs.YtggdbceommmllaaDoor
