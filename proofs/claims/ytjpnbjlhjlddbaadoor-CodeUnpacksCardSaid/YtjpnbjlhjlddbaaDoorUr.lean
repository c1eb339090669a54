/- Walk: the reference's Unpack. -/
import Derived.Test.YtjpnbjlhjlddbaaDoorUq
import Derived.Test.YtjpnbjlhjlddbaaDoorUl
namespace Go.Proofs.YtjpnbjlhjlddbaaDoor
open Go.RowKit
namespace P2

theorem un_errA {w wr w4 : World} {l : List Int} {r : Value} {e : Int} {x : Nat} (hg : Below w.heap.size w wr) (hb : Below w.heap.size wr w4) (hu : un l = ([], x, e)) (hr : r = .tuple #[.agg #[.slice none 0 0], .int .i64 x, .int .i64 e]) : UnAll l w (.returned r) w4 := by
  obtain ⟨⟨pv, h1, h2, _⟩, h3⟩ := un_err hg hb hu hr
  exact ⟨⟨pv, h1, h2⟩, h3⟩

/-- The reference's memory: the boxes of the result, of the empty program, of the program. -/
structure RM (w : World) (pv : Value) (p : List Fn) (wr : World) : Prop where
  gr : Below w.heap.size w wr
  res : wr.heap[w.heap.size]? = some (.cells #[.slice none 0 0] 35 (0, 0))
  non : wr.heap[w.heap.size + 1]? = some (.cells #[.slice none 0 0] 35 (0, 0))
  box : wr.heap[w.heap.size + 2]? = some (.cells #[pv] 35 (0, 0))
  own : FnsOwn wr w.heap.size pv p
section
variable {w wr w' : World} {pv : Value} {p : List Fn}
theorem RM.kept {row : Option Nat} (h : RM w pv p wr) (hg : wr.grownBy w' row) (hr : ∀ k, row = some k → w.heap.size ≤ k ∧ k ≠ w.heap.size ∧ k ≠ w.heap.size + 1 ∧ k ≠ w.heap.size + 2)
    (ht : ∀ g, row = some g → ∃ cs t fr, wr.heap[g]? = some (.cells cs t fr) ∧ 52 ≠ t ∧ 23 ≠ t) : RM w pv p w' :=
  ⟨h.gr.grown hg h.gr.size (fun k e => (hr k e).1), grown_block hg h.res (fun e => (hr _ e.symm).2.1 rfl), grown_block hg h.non (fun e => (hr _ e.symm).2.2.1 rfl), grown_block hg h.box (fun e => (hr _ e.symm).2.2.2 rfl), h.own.kept hg ht⟩
theorem RM.below (h : RM w pv p wr) (hb : Below wr.heap.size wr w') : RM w pv p w' :=
  RM.kept h (grown_of_below hb) (fun k e => by cases e) (fun k e => by cases e)
theorem RM.turned (h : RM w pv p wr) {xs : List Value} {f : Fn} {c v' : Value} (hc : wr.ownsRow w.heap.size 23 5 c f.2.length (codeC f.2)) (hg : wr.grownBy w' pv.ownBlock) (hx : wr.ownsRow w.heap.size 52 2 pv p.length xs)
    (hn : w'.ownsRow w.heap.size 52 2 v' (p.length + 1) (xs ++ fnC (f, c))) : RM w v' (p ++ [f]) (w'.setCell ⟨w.heap.size + 2, 0, none⟩ v') := by
  have hrow : ∀ j, pv.ownBlock = some j → w.heap.size ≤ j := fun j e => (hx.lt j e).1
  have hb6 := grown_block hg h.box (own_ne hx h.box (by decide))
  have hr6 := grown_block hg h.res (own_ne hx h.res (by decide))
  have hn6 := grown_block hg h.non (own_ne hx h.non (by decide))
  have hs := grownBy_setCell_at w' (w.heap.size + 2) 0 v'
  refine ⟨(h.gr.grown hg h.gr.size hrow).setCell (by show w.heap.size ≤ w.heap.size + 2; omega) _, (Below.heap_setCell _ _ _ _ (by simp)).trans hr6, (Below.heap_setCell _ _ _ _ (by simp)).trans hn6,
    heap_setCell_same w' (w.heap.size + 2) 0 _ _ v' hb6, (h.own.append hc hg hx hn).kept hs fun g e => ?_⟩
  injection e with e; subst e; exact ⟨_, _, _, hb6, by decide, by decide⟩
end

/-- The inner loop's memory, since the world wk in which the function's box was laid: nothing older has turned. -/
structure IM (w wk : World) (pv : Value) (p : List Fn) (x : Int) (cv : Value) (ac : List Ins) (wr : World) : Prop where
  rm : RM w pv p wk
  bl : Below wk.heap.size wk wr
  fb : wr.heap[wk.heap.size]? = some (.cells #[.int .i64 x, cv] 52 (0, 0))
  row : wr.ownsRow wk.heap.size 23 5 cv ac.length (codeC ac)
section
variable {w wk wr w' : World} {pv : Value} {p : List Fn} {x : Int} {cv : Value} {ac : List Ins}
theorem IM.all (h : IM w wk pv p x cv ac wr) : RM w pv p wr := h.rm.below h.bl
theorem IM.below (h : IM w wk pv p x cv ac wr) (hb : Below wr.heap.size wr w') : IM w wk pv p x cv ac w' :=
  ⟨h.rm, h.bl.next hb, (hb.block _ (lt_of_block h.fb)).trans h.fb, own_below h.row hb⟩
theorem IM.turned (h : IM w wk pv p x cv ac wr) {v6 : Value} {i : Ins} (hg : wr.grownBy w' cv.ownBlock) (hown : w'.ownsRow wk.heap.size 23 5 v6 (ac.length + 1) (codeC ac ++ insC i)) :
    IM w wk pv p x v6 (ac ++ [i]) (w'.setCell ⟨wk.heap.size, 1, none⟩ v6) := by
  have hb6 := grown_block hg h.fb (own_ne h.row h.fb (by decide))
  refine ⟨h.rm, (below_append h.bl h.row hg (Nat.le_refl _)).setCell (by exact Nat.le_refl _) _, heap_setCell_same w' wk.heap.size 1 _ _ v6 hb6, ?_⟩
  rw [codeC_snoc]
  exact own_len (ownsRow_setCell_other hown (fun e => own_ne hown hb6 (by decide) e.symm) v6) (by simp) rfl
end
def InnR (w wk : World) (pv : Value) (p : List Fn) (l : List Int) (a m : Nat) (x : Int) (vt vi : Value) (wr : World) : Prop :=
  ∃ (j : Nat) (cv : Value) (ac : List Ins), j ≤ m ∧ vt = .int .i64 ((a + 2 + 8 * j : Nat) : Int) ∧ vi = .int .i64 j ∧ IM w wk pv p x cv ac wr ∧ ac.length = j ∧ insGo l m [] (a + 2) = insGo l (m - j) ac (a + 2 + 8 * j) ∧ a + 2 + 8 * j ≤ l.length
def RefR (w : World) (l : List Int) (n : Nat) (vt vi : Value) (wr : World) : Prop :=
  ∃ (k : Nat) (pv : Value) (acc : List Fn) (a : Nat), k ≤ n ∧ vt = .int .i64 a ∧ vi = .int .i64 k ∧ RM w pv acc wr ∧ acc.length = k ∧ unGo l n [] 1 = unGo l (n - k) acc a ∧ a ≤ l.length

theorem refDec_named {w : World} {B p : Nat} {v : Value} {l : List Int} {i : Ins} {er : Int} (hs : Sl w B 1 v (bv l)) (hp : p + 8 ≤ l.length) (hmax : l.length ≤ 1000000000) (hr : ∀ z ∈ l, 0 ≤ z ∧ z ≤ 255) (hi : decV (chunk l p 8) = i) (he : decE (chunk l p 8) = er) :
    Calls Tryd.prog 23 #[v, .int .i64 p] w (DecNamed i er w) := by
  refine (refDecode_any hs hp hmax hr).mono fun e w' h => ?_
  obtain ⟨h1, h2⟩ := h
  have hl := chunk_len (l := l) (a := p) (k := 8) hp
  have hE := decE_chk hl
  subst hi; subst he
  refine ⟨?_, h2⟩
  rw [h1, decV, hE]
  rfl

set_option maxRecDepth 10000 in
set_option maxHeartbeats 8000000 in
theorem refUnpack_any {w : World} {v : Value} {l : List Int} (hs : Sl w w.heap.size 1 v (bv l)) (hmax : l.length ≤ 1000000) (hr : ∀ z ∈ l, 0 ≤ z ∧ z ≤ 255) :
    Calls Tryd.prog 25 #[v] w (UnAll l w) := by
  obtain ⟨A, L, c, rfl, hLc, hL, hA⟩ := id hs
  simp only [bv_length, Nat.mul_one] at hL
  obtain ⟨wa, hwa⟩ : ∃ wa, wa = (w.alloc (.cells #[.slice none 0 0] 35)).alloc (.cells #[.slice none 0 0] 35) := ⟨_, rfl⟩
  have hBa : Below w.heap.size w wa := by rw [hwa]; go_grown
  have k0 : wa.heap[w.heap.size]? = some (.cells #[.slice none 0 0] 35 (0, 0)) := by rw [hwa]; exact heap_alloc2_old w _ _
  have k1 : wa.heap[w.heap.size + 1]? = some (.cells #[.slice none 0 0] 35 (0, 0)) := by rw [hwa]; exact heap_alloc2_new w _ _
  have kz : wa.heap.size = w.heap.size + 2 := by rw [hwa]; simp
  by_cases h0 : L = 0
  · subst h0
    have hu : un l = ([], 0, 11) := by rw [un, if_pos (by omega)]
    have HU := Lib.hid hu
    clear hu hA hL hs hr
    go_enter Tryd.func25, Tryd.ntmps25
    go_wp2_with (refine wpList_build rfl 35 _ rfl (.agg #[.slice none 0 0]) (by kernel_rfl) ?_)
    refine bodyPost_ret (results_cell_tmp2 rfl _ _ w.heap.size 35 _ _ _ rfl (hwa ▸ k0) Tryd.underlying35 rfl (by kernel_rfl)) rfl ?_
    rw [← hwa]
    exact un_errA hBa (Below.refl _ _) HU.out rfl
  · obtain ⟨b, off, rfl, hb, hrg⟩ := hA (by omega)
    have HL := Lib.hid hL
    have HR := Lib.hid hr
    obtain ⟨n, hn, hn2⟩ := byte_at hr (show 0 < l.length by omega)
    have hread : ∀ W, Below w.heap.size w W → ∀ i, i < L → ∃ z : Nat, l.getD i 0 = z ∧ z ≤ 255 ∧ W.cell? ⟨b, off + i, none⟩ = some (.int .u8 z) := by
      intro W hB i hi
      obtain ⟨z, hz, hz2⟩ := byte_at hr (show i < l.length by omega)
      refine ⟨z, hz, hz2, (hB.cell (p := ⟨b, off + i, none⟩) hb).trans ?_⟩
      rw [range_bv hrg i (by omega), hz]
    have HRD := Lib.hid hread
    have hu : un l = if (n : Int) < 1 ∨ 32 < (n : Int) then ([], 0, 12) else unGo l n [] 1 := by rw [un, if_neg (by omega), hn]; rfl
    have HU := Lib.hid hu
    obtain ⟨z0, hz0, -, c0⟩ := hread w (Below.refl _ _) 0 (by omega)
    obtain rfl : z0 = n := by have := hz0.symm.trans hn; omega
    rw [Nat.add_zero] at c0
    have HZ := Lib.hid hz0
    have L1 : 1 ≤ L := by omega
    have L2 : L ≤ 1000000 := by omega
    clear hu hA hL hr hrg hread hz0 hn h0 hmax
    by_cases hbad : z0 < 1 ∨ 32 < z0
    · have hu := HU.out
      rw [if_pos (by omega)] at hu
      have HU2 := Lib.hid hu
      clear hu
      rcases hbad with hbad | hbad
      · go_enter Tryd.func25, Tryd.ntmps25
        go_wp2_with (refine wpList_build rfl 35 _ rfl (.agg #[.slice none 0 0]) (by kernel_rfl) ?_)
        refine bodyPost_ret (results_cell_tmp2 rfl _ _ w.heap.size 35 _ _ _ rfl (hwa ▸ k0) Tryd.underlying35 rfl (by kernel_rfl)) rfl ?_
        rw [← hwa]
        exact un_errA hBa (Below.refl _ _) HU2.out rfl
      · go_enter Tryd.func25, Tryd.ntmps25
        go_wp2_with (refine wpList_build rfl 35 _ rfl (.agg #[.slice none 0 0]) (by kernel_rfl) ?_)
        refine bodyPost_ret (results_cell_tmp2 rfl _ _ w.heap.size 35 _ _ _ rfl (hwa ▸ k0) Tryd.underlying35 rfl (by kernel_rfl)) rfl ?_
        rw [← hwa]
        exact un_errA hBa (Below.refl _ _) HU2.out rfl
    · have hu := HU.out
      rw [if_neg (by omega)] at hu
      have HU2 := Lib.hid hu
      have n1 : 1 ≤ z0 := by omega
      have n2 : z0 ≤ 32 := by omega
      have wn : IntKind.i64.wrap (z0 : Int) = z0 := IntWalk.i64_in _ (by omega)
      clear hu hbad
      have hR0 : RM w (.slice none 0 0) [] (wa.alloc (.cells #[.slice none 0 0] 35)) := by
        refine ⟨hBa.alloc hBa.size _, (Below.heap_alloc _ _ _ (by rw [kz]; omega)).trans k0, (Below.heap_alloc _ _ _ (by rw [kz]; omega)).trans k1, heap_alloc_at _ kz.symm, [], rfl, World.ownsRow_nil _ _ _ _, fun k hk => absurd hk (by simp)⟩
      rw [hwa] at hR0
      have hbw : b < w.heap.size := hb
      go_enter Tryd.func25, Tryd.ntmps25
      go_wp2_with (refine wpList_build rfl 35 _ rfl (.agg #[.slice none 0 0]) (by kernel_rfl) ?_)
      rw [show w.heap.size + 1 + 1 = w.heap.size + 2 from rfl]
      clear c0 hBa k0 k1 kz hwa
      go_loopw [7, 8] (fun vt vi wr => RefR w l z0 vt vi wr) (fun _ vi _ => z0 - (intOf vi).toNat)
      case atStart => exact ⟨0, _, [], 1, Nat.zero_le _, rfl, rfl, hR0, rfl, rfl, by rw [HL.out]; exact L1⟩
      case round =>
        obtain ⟨k, pv, acc, a, hk, rfl, rfl, hR, hal, heq, hla⟩ := hrel
        clear hR0
        obtain ⟨wo, rfl⟩ : ∃ wo : World, wo = wr := ⟨_, rfl⟩
        obtain ⟨z0', hz0', -, c0⟩ := HRD.out wo hR.gr 0 L1
        obtain rfl : z0' = z0 := by have := hz0'.symm.trans HZ.out; omega
        rw [Nat.add_zero] at c0
        clear hz0'
        by_cases hlt : k < z0'
        · obtain ⟨q, hq⟩ : ∃ q, z0' - k = q + 1 := ⟨z0' - k - 1, by omega⟩
          rw [hq, unGo] at heq
          have hmn : z0' - (k + 1) = q := by omega
          have HEQ := Lib.hid heq
          clear heq hq
          have hlaL : a ≤ L := by have := HL.out; omega
          have hwL : wrap64 ((L : Int) - a) = (L : Int) - a := by unfold wrap64; omega
          by_cases h2 : L < a + 2
          · have hF : fnGo l a = ((0, []), 11, a) := by rw [fnGo, if_pos (by have := HL.out; omega)]
            have hu : un l = ([], a, 11) := by
              have := HEQ.out
              rw [hF] at this
              rw [HU2.out, this]; rfl
            have HU3 := Lib.hid hu
            clear hu hF hla
            go_wp2_with (first | (refine wpList_load_blk rfl 35 35 (.tmp 5) rfl (w.heap.size + 1) rfl _ _ hR.non _ Tryd.underlying35 rfl (by kernel_rfl) ?_) | (refine wpList_store_blk rfl 35 35 (.tmp 2) _ rfl w.heap.size rfl _ rfl _ hR.res (by kernel_rfl) rfl (by kernel_rfl) ?_; intro w9 hg9 ho9 hz9 hb9))
            refine bodyPost_ret (results_cell_tmp2 rfl _ _ w.heap.size 35 _ _ _ rfl hg9 Tryd.underlying35 rfl (by kernel_rfl)) rfl ?_
            exact un_errA hR.gr (hb9.mono (by exact Nat.le_refl _)) HU3.out rfl
          · obtain ⟨x, hx, hx2, ca⟩ := HRD.out wo hR.gr a (by omega)
            obtain ⟨m, hm, hm2, cm⟩ := HRD.out wo hR.gr (a + 1) (by omega)
            obtain ⟨a1, ha1⟩ := name_of (a + 1)
            have qa1 : IntKind.i64.wrap ((a : Int) + 1) = (a1 : Int) := wrap_nat ha1 (by omega)
            obtain ⟨a2, ha2⟩ := name_of (a + 2)
            have qa2 : IntKind.i64.wrap ((a : Int) + 2) = (a2 : Int) := wrap_nat ha2 (by omega)
            rw [ha1] at cm hm
            have la1 : a1 < L := by omega
            have la0 : a < L := by omega
            have wx : IntKind.i64.wrap (x : Int) = x := IntWalk.i64_in _ (by omega)
            have wm : IntKind.i64.wrap (m : Int) = m := IntWalk.i64_in _ (by omega)
            have hF : fnGo l a = if (m : Int) < 1 ∨ 128 < (m : Int) then ((0, []), 12, a + 2) else (((x : Int), (insGo l m [] (a + 2)).1), (insGo l m [] (a + 2)).2.1, (insGo l m [] (a + 2)).2.2) := by
              rw [fnGo, if_neg (by have := HL.out; omega), ha1, hm, hx]; rfl
            have HF := Lib.hid hF
            have hbw2 : b < wo.heap.size := World.block_lt_of_cell? wo _ ca
            have hRf := hR.below (Below.alloc (Below.refl _ _) (Nat.le_refl _) (.cells #[.int .i64 x, .slice none 0 0] 52))
            clear hF hx hm hla
            by_cases hbad : m < 1 ∨ 128 < m
            · have hF := HF.out
              rw [if_pos (by omega)] at hF
              have hu : un l = ([], a1, 12) := by
                have := HEQ.out
                rw [hF] at this
                rw [HU2.out, this, ← ha1]; rfl
              have HU3 := Lib.hid hu
              clear hu hF
              rcases hbad with hbad | hbad
              · go_wp2_with (first | (refine wpList_build rfl 52 _ rfl (.agg #[.int .i64 x, .slice none 0 0]) (by kernel_rfl) ?_) | (refine wpList_store_new rfl 52 52 (.tmp 9) _ rfl _ _ _ rfl rfl rfl (by kernel_rfl) rfl (by kernel_rfl) ?_) | (refine wpList_load_blk rfl 35 35 (.tmp 5) rfl (w.heap.size + 1) rfl _ _ hRf.non _ Tryd.underlying35 rfl (by kernel_rfl) ?_) | (refine wpList_store_blk rfl 35 35 (.tmp 2) _ rfl w.heap.size rfl _ rfl _ hRf.res (by kernel_rfl) rfl (by kernel_rfl) ?_; intro w9 hg9 ho9 hz9 hb9))
                refine bodyPost_ret (results_cell_tmp2 rfl _ _ w.heap.size 35 _ _ _ rfl hg9 Tryd.underlying35 rfl (by kernel_rfl)) rfl ?_
                exact un_errA hRf.gr (hb9.mono (by exact Nat.le_refl _)) HU3.out rfl
              · go_wp2_with (first | (refine wpList_build rfl 52 _ rfl (.agg #[.int .i64 x, .slice none 0 0]) (by kernel_rfl) ?_) | (refine wpList_store_new rfl 52 52 (.tmp 9) _ rfl _ _ _ rfl rfl rfl (by kernel_rfl) rfl (by kernel_rfl) ?_) | (refine wpList_load_blk rfl 35 35 (.tmp 5) rfl (w.heap.size + 1) rfl _ _ hRf.non _ Tryd.underlying35 rfl (by kernel_rfl) ?_) | (refine wpList_store_blk rfl 35 35 (.tmp 2) _ rfl w.heap.size rfl _ rfl _ hRf.res (by kernel_rfl) rfl (by kernel_rfl) ?_; intro w9 hg9 ho9 hz9 hb9))
                refine bodyPost_ret (results_cell_tmp2 rfl _ _ w.heap.size 35 _ _ _ rfl hg9 Tryd.underlying35 rfl (by kernel_rfl)) rfl ?_
                exact un_errA hRf.gr (hb9.mono (by exact Nat.le_refl _)) HU3.out rfl
            · have hF := HF.out
              rw [if_neg (by omega)] at hF
              have HF2 := Lib.hid hF
              have m1 : 1 ≤ m := by omega
              have m2 : m ≤ 128 := by omega
              clear hF hbad
              have hI0 : IM w wo pv acc x (.slice none 0 0) [] (wo.alloc (.cells #[.int .i64 x, .slice none 0 0] 52)) := ⟨hR, Below.alloc (Below.refl _ _) (Nat.le_refl _) _, heap_alloc_last wo _, World.ownsRow_nil _ _ _ _⟩
              go_wp2_with (first | (refine wpList_build rfl 52 _ rfl (.agg #[.int .i64 x, .slice none 0 0]) (by kernel_rfl) ?_) | (refine wpList_store_new rfl 52 52 (.tmp 9) _ rfl _ _ _ rfl rfl rfl (by kernel_rfl) rfl (by kernel_rfl) ?_))
              clear hRf ca cm c0 wx wm
              go_loopw [7, 11] (fun vt vi wr => InnR w wo pv acc l a m x vt vi wr) (fun _ vi _ => m - (intOf vi).toNat)
              case atStart => exact ⟨0, _, [], Nat.zero_le _, by rw [← ha2], rfl, hI0, rfl, rfl, by have := HL.out; omega⟩
              case round =>
                obtain ⟨j, cv, ac, hj, rfl, rfl, hI, hacl, heq2, hle⟩ := hrel
                clear hI0
                obtain ⟨wi, rfl⟩ : ∃ wi : World, wi = wr := ⟨_, rfl⟩
                obtain ⟨p, hp⟩ := name_of (a + 2 + 8 * j)
                rw [hp] at heq2 hle ⊢
                have hpL : p ≤ L := by have := HL.out; omega
                have hwp : wrap64 ((L : Int) - p) = (L : Int) - p := by unfold wrap64; omega
                have hIa := hI.all
                by_cases hlt2 : j < m
                · obtain ⟨q2, hq2⟩ : ∃ q2, m - j = q2 + 1 := ⟨m - j - 1, by omega⟩
                  rw [hq2, insGo] at heq2
                  have hmj : m - (j + 1) = q2 := by omega
                  have HEQ2 := Lib.hid heq2
                  clear heq2 hq2 hle
                  by_cases h8 : L < p + 8
                  · have hu : un l = ([], p, 11) := by
                      have e2 := HEQ2.out
                      rw [if_pos (by have := HL.out; omega)] at e2
                      have := HEQ.out
                      rw [HF2.out, e2] at this
                      rw [HU2.out, this]; rfl
                    have HU3 := Lib.hid hu
                    clear hu
                    go_wp2_with (first | (refine wpList_load_blk rfl 35 35 (.tmp 5) rfl (w.heap.size + 1) rfl _ _ hIa.non _ Tryd.underlying35 rfl (by kernel_rfl) ?_) | (refine wpList_store_blk rfl 35 35 (.tmp 2) _ rfl w.heap.size rfl _ rfl _ hIa.res (by kernel_rfl) rfl (by kernel_rfl) ?_; intro w9 hg9 ho9 hz9 hb9))
                    refine bodyPost_ret (results_cell_tmp2 rfl _ _ w.heap.size 35 _ _ _ rfl hg9 Tryd.underlying35 rfl (by kernel_rfl)) rfl ?_
                    exact un_errA hIa.gr (hb9.mono (by exact Nat.le_refl _)) HU3.out rfl
                  · have hpl8 : p + 8 ≤ l.length := by have := HL.out; omega
                    obtain ⟨⟨op, ia, ib, ic, inn⟩, hi⟩ := name_of (decV (chunk l p 8))
                    obtain ⟨er, her⟩ := name_of (decE (chunk l p 8))
                    have hD := refDec_named (hs.below hIa.gr) hpl8 (by have := HL.out; omega) HR.out hi her
                    have hev : er = 0 ∨ er = 10 ∨ er = 13 := by rw [← her, decE_chk (chunk_len hpl8)]; exact chk_vals _
                    have heq2 := HEQ2.out
                    rw [if_neg (by have := HL.out; omega), her] at heq2
                    have HEQ3 := Lib.hid heq2
                    have HI := Lib.hid hi
                    have HE := Lib.hid her
                    obtain ⟨p8, hp8⟩ := name_of (p + 8)
                    have qp8 : IntKind.i64.wrap ((p : Int) + 8) = (p8 : Int) := wrap_nat hp8 (by omega)
                    clear heq2 hi her HEQ2
                    go_wp2_with fail
                    refine hD.mono ?_
                    clear hD
                    rintro e w4 ⟨rfl, hb4⟩
                    have hI4 := hI.below hb4
                    clear hI hb4
                    by_cases hz : er = 0
                    · subst hz
                      have hdec : decI (chunk l p 8) = (op, ia, ib, ic, inn) := by have := HI.out; rw [decV, if_pos HE.out] at this; exact this
                      have heq2 := HEQ3.out
                      rw [if_pos rfl, hdec] at heq2
                      have HEQ4 := Lib.hid heq2
                      have hI5 := hI4.below (Below.alloc (Below.refl _ _) (Nat.le_refl _) (.cells #[.int .i64 op, .int .i64 ia, .int .i64 ib, .int .i64 ic, .int .i64 inn] 23))
                      have hI6 := hI5.below (Below.alloc (Below.refl _ _) (Nat.le_refl _) (.cells #[.int .i64 op, .int .i64 ia, .int .i64 ib, .int .i64 ic, .int .i64 inn] 23))
                      have c4 : w4.cell? ⟨wo.heap.size, 1, none⟩ = some cv := by rw [cell_of_row _ _ _ _ _ _ hI4.fb]; rfl
                      have hl4 := lt_of_block hI4.fb
                      have hsl : Sl ((w4.alloc (.cells #[.int .i64 op, .int .i64 ia, .int .i64 ib, .int .i64 ic, .int .i64 inn] 23)).alloc (.cells #[.int .i64 op, .int .i64 ia, .int .i64 ib, .int .i64 ic, .int .i64 inn] 23)) _ 5 (.slice (some ⟨w4.heap.size + 1, 0, none⟩) 1 1) (insC (op, ia, ib, ic, inn)) := Sl.new (w4.alloc _) _ _ 1 _ (by simp) rfl rfl
                      have hac2 : ac.length ≤ 128 := by omega
                      clear heq2 hdec hI4 hI5 HEQ3 hev hIa
                      go_wp2_with (first | (at_builtin; refine wpList_append_sl rfl (.tmp 92) (.tmp 94) 50 rfl wo.heap.size 23 (.agg #[.int .i64 0, .int .i64 0, .int .i64 0, .int .i64 0, .int .i64 0]) 5 40 Tryd.underlying50 info_ins rfl (by omega) cv ac.length _ rfl hI6.row _ 1 _ _ rfl hsl rfl (by simp [insC, Value.oneCell']) (by omega) (by omega) hI6.bl.size ?_; intro v6 w6 hown6 hg6 hat6; have hb6 := grown_block hg6 hI6.fb (own_ne hI6.row hI6.fb (by decide)); have c6 : w6.cell? ⟨wo.heap.size, 1, none⟩ = some cv := (by rw [cell_of_row _ _ _ _ _ _ hb6]; rfl); have z6 := frozen_of_row _ _ 1 _ _ hb6; obtain ⟨A6, n6, c6', rfl⟩ := own_slice hown6; have hI7 := hI6.turned hg6 hown6; clear hg6 hown6 hat6 hb6 hI6 c4 hsl))
                      refine ⟨⟨j + 1, .slice A6 n6 c6', ac ++ [(op, ia, ib, ic, inn)], hlt2, ?_, by go_num, hI7, by rw [List.length_append, hacl]; rfl, ?_, ?_⟩, by simp [intOf]; omega⟩
                      · rw [show a + 2 + 8 * (j + 1) = p8 by omega]
                      · rw [hmj, show a + 2 + 8 * (j + 1) = p8 by omega, HEQ4.out, hp8]
                      · have := HL.out; omega
                    · have e1 : (er != 0) = true := by simpa using hz
                      have hI5 := (hI4.below (Below.alloc (Below.refl _ _) (Nat.le_refl _) (.cells #[.int .i64 op, .int .i64 ia, .int .i64 ib, .int .i64 ic, .int .i64 inn] 23))).all
                      have hu : un l = ([], p, er) := by
                        have e2 := HEQ3.out
                        rw [if_neg hz] at e2
                        have := HEQ.out
                        rw [HF2.out, e2] at this
                        rw [HU2.out, this, if_neg hz, fnPlace, if_neg (by show ¬ er = 12; omega), if_neg (by show ¬ er = 11; omega)]
                        simp
                      have HU3 := Lib.hid hu
                      clear hu HEQ3 hev hI4
                      go_wp2_with (first | (refine wpList_store_new rfl 23 23 (.tmp 12) _ rfl _ _ _ rfl rfl rfl (by kernel_rfl) rfl (by kernel_rfl) ?_) | (refine wpList_load_blk rfl 35 35 (.tmp 5) rfl (w.heap.size + 1) rfl _ _ hI5.non _ Tryd.underlying35 rfl (by kernel_rfl) ?_) | (refine wpList_store_blk rfl 35 35 (.tmp 2) _ rfl w.heap.size rfl _ rfl _ hI5.res (by kernel_rfl) rfl (by kernel_rfl) ?_; intro w9 hg9 ho9 hz9 hb9))
                      refine bodyPost_ret (results_cell_tmp2 rfl _ _ w.heap.size 35 _ _ _ rfl hg9 Tryd.underlying35 rfl (by kernel_rfl)) rfl ?_
                      exact un_errA hI5.gr (hb9.mono (by exact Nat.le_refl _)) HU3.out rfl
                · have hjm : j = m := by omega
                  subst hjm
                  obtain ⟨A9, n9, c9, rfl⟩ := own_slice hI.row
                  rw [Nat.sub_self, insGo] at heq2
                  have hu := HEQ.out
                  rw [HF2.out, heq2] at hu
                  rw [if_pos rfl] at hu
                  have HEQ2 := Lib.hid hu
                  have hR5 := hIa.below (Below.alloc (Below.refl _ _) (Nat.le_refl _) (.cells #[.int .i64 x, .slice A9 n9 c9] 52))
                  have hc5 := own_mono (own_below hI.row (Below.alloc (Below.refl _ _) (Nat.le_refl _) (.cells #[.int .i64 x, .slice A9 n9 c9] 52))) hR.gr.size
                  obtain ⟨xs, hxs⟩ := hR5.own.row
                  have ci : wi.cell? ⟨w.heap.size + 2, 0, none⟩ = some pv := by rw [cell_of_row _ _ _ _ _ _ hIa.box]; rfl
                  have hli := lt_of_block hIa.box
                  have f0 : wi.cell? ⟨wo.heap.size, 0, none⟩ = some (.int .i64 x) := by rw [cell_of_row _ _ _ _ _ _ hI.fb]; rfl
                  have f1 : wi.cell? ⟨wo.heap.size, 1, none⟩ = some (.slice A9 n9 c9) := by rw [cell_of_row _ _ _ _ _ _ hI.fb]; rfl
                  have hlo := lt_of_block hI.fb
                  have hsl : Sl (wi.alloc (.cells #[.int .i64 x, .slice A9 n9 c9] 52)) _ 2 (.slice (some ⟨wi.heap.size, 0, none⟩) 1 1) (fnC ((x, ac), .slice A9 n9 c9)) := Sl.new wi _ _ 1 _ rfl rfl rfl
                  have hal3 : acc.length ≤ 32 := by omega
                  clear heq2 hu hI hIa
                  go_wp2_with (at_builtin; refine wpList_append_sl rfl (.tmp 100) (.tmp 102) 33 rfl w.heap.size 52 (.agg #[.int .i64 0, .slice none 0 0]) 2 32 Tryd.underlying33 info_fn rfl (by omega) pv acc.length _ rfl hxs _ 1 _ _ rfl hsl rfl (by simp [fnC, Value.oneCell']) (by omega) (by omega) hR5.gr.size ?_; intro v6 w6 hown6 hg6 hat6; have hb6 := grown_block hg6 hR5.box (own_ne hxs hR5.box (by decide)); have c6 : w6.cell? ⟨w.heap.size + 2, 0, none⟩ = some pv := (by rw [cell_of_row _ _ _ _ _ _ hb6]; rfl); have z6 := frozen_of_row _ _ 0 _ _ hb6; obtain ⟨A6, n6, c6', rfl⟩ := own_slice hown6; have hR7 := hR5.turned (f := (x, ac)) hc5 hg6 hxs hown6; clear hg6 hown6 hat6 hb6 hR5 hxs ci hsl)
                  refine ⟨⟨k + 1, .slice A6 n6 c6', acc ++ [((x : Int), ac)], p, hlt, rfl, by go_num, hR7, by rw [List.length_append, hal]; rfl, ?_, hle⟩, by simp [intOf]; omega⟩
                  rw [hmn]
                  exact HEQ2.out
        · have hkn : k = z0' := by omega
          subst hkn
          rw [Nat.sub_self, unGo] at heq
          have hlaL : a ≤ L := by have := HL.out; omega
          by_cases ha : a < L
          · rw [if_pos (by have := HL.out; omega)] at heq
            have hu : un l = ([], a, 11) := by rw [HU2.out, heq]
            have HU3 := Lib.hid hu
            clear hu heq hla
            go_wp2_with (first | (refine wpList_load_blk rfl 35 35 (.tmp 5) rfl (w.heap.size + 1) rfl _ _ hR.non _ Tryd.underlying35 rfl (by kernel_rfl) ?_) | (refine wpList_store_blk rfl 35 35 (.tmp 2) _ rfl w.heap.size rfl _ rfl _ hR.res (by kernel_rfl) rfl (by kernel_rfl) ?_; intro w9 hg9 ho9 hz9 hb9))
            refine bodyPost_ret (results_cell_tmp2 rfl _ _ w.heap.size 35 _ _ _ rfl hg9 Tryd.underlying35 rfl (by kernel_rfl)) rfl ?_
            exact un_errA hR.gr (hb9.mono (by exact Nat.le_refl _)) HU3.out rfl
          · rw [if_neg (by have := HL.out; omega)] at heq
            have hu : un l = (acc, 0, 0) := by rw [HU2.out, heq]
            have HU3 := Lib.hid hu
            obtain ⟨xs, hxs⟩ := hR.own.row
            obtain ⟨A7, n7, c7, rfl⟩ := own_slice hxs
            clear hu heq hla
            go_wp2_with (first | (refine wpList_load_blk rfl 35 35 (.tmp 6) rfl (w.heap.size + 2) rfl _ _ hR.box _ Tryd.underlying35 rfl (by kernel_rfl) ?_) | (refine wpList_store_blk rfl 35 35 (.tmp 2) _ rfl w.heap.size rfl _ rfl _ hR.res (by kernel_rfl) rfl (by kernel_rfl) ?_; intro w9 hg9 ho9 hz9 hb9))
            refine bodyPost_ret (results_cell_tmp2 rfl _ _ w.heap.size 35 _ _ _ rfl hg9 Tryd.underlying35 rfl (by kernel_rfl)) rfl ?_
            have hF := (hR.own.kept (grown_other hb9 ho9) fun g e => by injection e with e; subst e; exact ⟨_, _, _, hR.res, by decide, by decide⟩).fns
            rw [UnAll, HU3.out]
            exact ⟨⟨_, rfl, hF⟩, hR.gr.trans hb9⟩
end P2
end Go.Proofs.YtjpnbjlhjlddbaaDoor
