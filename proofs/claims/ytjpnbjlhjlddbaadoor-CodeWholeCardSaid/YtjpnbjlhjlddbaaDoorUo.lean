/- Walk: unpack, one function's bytes. -/
import Derived.Test.YtjpnbjlhjlddbaaDoorUn
import Derived.Test.YtjpnbjlhjlddbaaDoorX02
import Derived.Maps.RangeWalk
namespace Go.Proofs.YtjpnbjlhjlddbaaDoor
open Go.RowKit
namespace P2

theorem info_ins : (Tryd.prog.info? 23).map (fun i => (i.zero, i.size, i.bytes)) = some (some (.agg #[.int .i64 0, .int .i64 0, .int .i64 0, .int .i64 0, .int .i64 0]), 5, 40) := by kernel_rfl

def UnpPost (w : World) (B ga gb : Nat) (l : List Int) (a : Nat) (e : Ending) (w' : World) : Prop :=
  (∃ x cv, e = .returned (.tuple #[.agg #[.int .i64 x, cv], .int .i64 (fnGo l a).2.1]) ∧ (∃ A m c, cv = .slice A m c) ∧ ((fnGo l a).2.1 = 0 → x = (fnGo l a).1.1 ∧ w'.ownsRow w.heap.size 23 5 cv (fnGo l a).1.2.length (codeC (fnGo l a).1.2))) ∧
    w.grownBy w' (some ga) ∧ Taker w' B ga gb l (fnGo l a).2.2

abbrev takeV (ga gb : Nat) : Value := .func (.func 34) #[] #[.pointer (some ⟨gb, 0, none⟩), .pointer (some ⟨ga, 0, none⟩)]

theorem grown_other {g : Nat} {w w' : World} (hb : Below g w w') (ho : ∀ k, k ≠ g → w'.heap[k]? = w.heap[k]?) : w.grownBy w' (some g) :=
  ⟨hb.os, hb.tape, hb.output, hb.size, fun k _ hk => ho k fun e => hk (by rw [e])⟩
theorem grown_below {w wr w4 : World} {row : Option Nat} (hg : w.grownBy wr row) (hb : Below w.heap.size wr w4) : w.grownBy w4 row :=
  ⟨hb.os.trans hg.os, hb.tape.trans hg.tape, hb.output.trans hg.output, Nat.le_trans hg.size hb.size, fun k hk hr => (hb.block k hk).trans (hg.block k hk hr)⟩
theorem Taker.below {w w' : World} {B ga gb : Nat} {l : List Int} {a : Nat} (h : Taker w B ga gb l a) (hb : Below w.heap.size w w') : Taker w' B ga gb l a :=
  h.grown (row := none) ⟨hb.os, hb.tape, hb.output, hb.size, fun k hk _ => hb.block k hk⟩ (fun k e => by cases e)
theorem chunk_two {l : List Int} {a : Nat} (h : a + 2 ≤ l.length) : chunk l a 2 = [l.getD a 0, l.getD (a + 1) 0] := by
  simp only [chunk, List.getD_eq_getElem?_getD, List.getElem?_eq_getElem (by omega : a < l.length), List.getElem?_eq_getElem (by omega : a + 1 < l.length), Option.getD_some]
  rw [List.drop_eq_getElem_cons (by omega), List.drop_eq_getElem_cons (by omega)]
  rfl
theorem byte_at {l : List Int} (hr : ∀ z ∈ l, 0 ≤ z ∧ z ≤ 255) {a : Nat} (h : a < l.length) : ∃ n : Nat, l.getD a 0 = n ∧ n ≤ 255 := by
  rw [List.getD_eq_getElem?_getD, List.getElem?_eq_getElem h, Option.getD_some]
  have := hr _ (List.getElem_mem h)
  exact ⟨l[a].toNat, by omega, by omega⟩

theorem grownBy_setCell_at (W : World) (b o : Nat) (v : Value) : W.grownBy (W.setCell ⟨b, o, none⟩ v) (some b) :=
  ⟨rfl, rfl, rfl, by rw [World.size_setCell]; exact Nat.le_refl _, fun k _ hk => Below.heap_setCell _ _ _ k (fun e => hk (by rw [e]))⟩
theorem codeC_snoc (l : List Ins) (i : Ins) : codeC (l ++ [i]) = codeC l ++ insC i := by simp [codeC]

/-- The loop's memory: the boxes of the call, the result's and the function's, and the row of what was read. -/
structure UM (w : World) (B ga gb : Nat) (l : List Int) (x : Int) (cv : Value) (k : Nat) (acc : List Ins) (a : Nat) (wr : World) : Prop where
  gr : w.grownBy wr (some ga)
  tk : Taker wr B ga gb l a
  box : wr.heap[w.heap.size + 1]? = some (.cells #[.int .i64 x, cv] 52 (0, 0))
  res : wr.heap[w.heap.size]? = some (.cells #[.int .i64 0, .slice none 0 0] 52 (0, 0))
  own : wr.ownsRow w.heap.size 23 5 cv k (codeC acc)
  la : ga < w.heap.size
  lb : gb < w.heap.size
section
variable {w wr w' : World} {B ga gb : Nat} {l : List Int} {x : Int} {cv : Value} {k : Nat} {acc : List Ins} {a a' : Nat}
theorem UM.taken (h : UM w B ga gb l x cv k acc a wr) (hg : wr.grownBy w' (some ga)) (ht : Taker w' B ga gb l a') : UM w B ga gb l x cv k acc a' w' := by
  have hla := h.la
  refine ⟨h.gr.trans hg, ht, grown_block hg h.box (by intro e; injection e; omega), grown_block hg h.res (by intro e; injection e; omega), h.own.kept hg (.inr fun e => ?_), h.la, h.lb⟩
  have := (h.own.lt ga e).1
  omega
theorem grown_of_below {w w' : World} (hb : Below w.heap.size w w') : w.grownBy w' none := ⟨hb.os, hb.tape, hb.output, hb.size, fun k hk _ => hb.block k hk⟩
theorem UM.below (h : UM w B ga gb l x cv k acc a wr) (hb : Below wr.heap.size wr w') : UM w B ga gb l x cv k acc a w' := by
  have hg := grown_of_below hb
  exact ⟨grown_below h.gr (hb.mono h.gr.size), h.tk.below hb, grown_block hg h.box (by simp), grown_block hg h.res (by simp), own_below h.own hb, h.la, h.lb⟩
theorem UM.kept (h : UM w B ga gb l x cv k acc a wr) (hg : wr.grownBy w' none) (ht : Taker w' B ga gb l a) : UM w B ga gb l x cv k acc a w' := h.taken (hg.but _) ht
theorem own_slice {w : World} {base e size n : Nat} {v : Value} {xs : List Value} (h : w.ownsRow base e size v n xs) : ∃ A m c, v = .slice A m c := by
  rcases h.2 with ⟨rfl, _⟩ | ⟨g, cap, cur, rfl, _⟩ <;> exact ⟨_, _, _, rfl⟩
theorem own_one {w : World} {base e size n : Nat} {v : Value} {xs : List Value} (h : w.ownsRow base e size v n xs) : v.oneCell' = true := by
  rcases h.2 with ⟨rfl, _⟩ | ⟨g, cap, cur, rfl, _⟩ <;> rfl
theorem UM.one (h : UM w B ga gb l x cv k acc a wr) : (#[Value.int .i64 x, cv].all (·.oneCell')) = true := by
  have := own_one h.own
  simp [this]
  rfl
theorem UM.turned (h : UM w B ga gb l x cv k acc a wr) {v6 : Value} {i : Ins} (hg : wr.grownBy w' cv.ownBlock) (hown : w'.ownsRow w.heap.size 23 5 v6 (k + 1) (codeC acc ++ insC i)) :
    UM w B ga gb l x v6 (k + 1) (acc ++ [i]) a (w'.setCell ⟨w.heap.size + 1, 1, none⟩ v6) := by
  have hla := h.la
  have hlb := h.lb
  have hB := h.tk.2.2.1
  have hrow : ∀ j, cv.ownBlock = some j → w.heap.size ≤ j := fun j e => (h.own.lt j e).1
  have hb6 := grown_block hg h.box (own_ne h.own h.box (by decide))
  have hr6 := grown_block hg h.res (own_ne h.own h.res (by decide))
  have hg6 : w.grownBy w' (some ga) := ⟨hg.os.trans h.gr.os, hg.tape.trans h.gr.tape, hg.output.trans h.gr.output, Nat.le_trans h.gr.size hg.size, fun j hj hn => (hg.block j (Nat.lt_of_lt_of_le hj h.gr.size) fun e => by have := hrow j e.symm; omega).trans (h.gr.block j hj hn)⟩
  have hs := grownBy_setCell_at w' (w.heap.size + 1) 1 v6
  refine ⟨⟨hs.os.trans hg6.os, hs.tape.trans hg6.tape, hs.output.trans hg6.output, Nat.le_trans hg6.size hs.size, fun j hj hn => (hs.block j (Nat.lt_of_lt_of_le hj hg6.size) fun e => by injection e; omega).trans (hg6.block j hj hn)⟩,
    (h.tk.grown hg fun j e => ?_).grown hs fun j e => ?_, ?_, (Below.heap_setCell _ _ _ _ (by simp)).trans hr6, ?_, hla, hlb⟩
  · have := hrow j e; omega
  · injection e; omega
  · exact heap_setCell_same w' (w.heap.size + 1) 1 _ _ v6 hb6
  · rw [codeC_snoc]
    exact ownsRow_setCell_other hown (fun e => own_ne hown hb6 (by decide) e.symm) v6
end
def UnpR (w : World) (B ga gb : Nat) (l : List Int) (a n : Nat) (x : Int) (i : Value) (wr : World) : Prop :=
  ∃ (k : Nat) (cv : Value) (acc : List Ins), k ≤ n ∧ i = .int .i64 k ∧ UM w B ga gb l x cv k acc (a + 2 + 8 * k) wr ∧ acc.length = k ∧ insGo l n [] (a + 2) = insGo l (n - k) acc (a + 2 + 8 * k)

theorem unp_err {w wr w4 : World} {B ga gb : Nat} {l : List Int} {a x : Nat} {e : Int} {r : Value} {cv : Value} (hg : w.grownBy wr (some ga)) (ht : Taker wr B ga gb l x) (hla : ga < w.heap.size) (hlb : gb < w.heap.size)
    (hb : Below w.heap.size wr w4) (ho : ∀ k, k ≠ w.heap.size → w4.heap[k]? = wr.heap[k]?) (he : (fnGo l a).2.1 = e) (hx : (fnGo l a).2.2 = x) (hne : e ≠ 0) {v : Int} (hc : ∃ A m c, cv = .slice A m c)
    (hr : r = .tuple #[.agg #[.int .i64 v, cv], .int .i64 e]) : UnpPost w B ga gb l a (.returned r) w4 := by
  subst hr he hx
  refine ⟨⟨v, cv, rfl, hc, fun h => absurd h hne⟩, grown_below hg hb, ht.grown (grown_other hb ho) fun k e => ?_⟩
  injection e with e
  have := ht.2.2.1
  omega

set_option maxHeartbeats 4000000 in
theorem unpack_any {w : World} {B ga gb : Nat} {l : List Int} {a : Nat} (h : Taker w B ga gb l a) (hmax : l.length ≤ 1000000) (hr : ∀ z ∈ l, 0 ≤ z ∧ z ≤ 255) :
    Calls Tryd.prog 35 #[takeV ga gb] w (UnpPost w B ga gb l a) := by
  have hla := lt_of_block h.1
  have hlb : gb < w.heap.size := by obtain ⟨_, _, _, hh, _⟩ := h.2.1; exact lt_of_block hh
  obtain ⟨wa, hwa⟩ : ∃ wa, wa = (w.alloc (.cells #[.int .i64 0, .slice none 0 0] 52)).alloc (.cells #[.int .i64 0, .slice none 0 0] 52) := ⟨_, rfl⟩
  have hBa : Below w.heap.size w wa := by rw [hwa]; go_grown
  have k0 : wa.heap[w.heap.size]? = some (.cells #[.int .i64 0, .slice none 0 0] 52 (0, 0)) := by rw [hwa]; exact heap_alloc2_old w _ _
  have k1 : wa.heap[w.heap.size + 1]? = some (.cells #[.int .i64 0, .slice none 0 0] 52 (0, 0)) := by rw [hwa]; exact heap_alloc2_new w _ _
  have hTa := h.below hBa
  have hGa : w.grownBy wa (some ga) := grown_below (World.grownBy.refl w _) hBa
  have hnT : ∀ w, (binOp .eql 24 (.slice none 0 0) (.slice none 0 0)).run Tryd.prog w = .ok (.bool true) w := fun w => Lib.run_eql_slice_nil w _ _ none 0 0 0 0 Tryd.underlying24
  have hnF : ∀ ad n c w, (binOp .eql 24 (.slice (some ad) n c) (.slice none 0 0)).run Tryd.prog w = .ok (.bool false) w := fun ad n c w => Lib.run_eql_slice_nil w _ _ (some ad) n c 0 0 Tryd.underlying24
  have hT := take_any hTa (k := 2) (by omega) (by omega) hmax
  go_enter Tryd.func35, Tryd.ntmps35
  go_wp2_with fail
  rw [← hwa]
  refine hT.mono ?_
  intro e w1 hp
  unfold TakePost at hp
  by_cases hs : l.length < a + 2
  · rw [if_pos hs] at hp
    obtain ⟨rfl, hg⟩ := hp
    have q0 := grown_block hg k0 (by simp)
    have q1 := grown_block hg k1 (by simp)
    have hG := hGa.trans (hg.but (some ga))
    have hTk := hTa.grown hg (fun k e => by cases e)
    have hF : fnGo l a = ((0, []), 11, a) := by rw [fnGo, if_pos hs]
    have HF := Lib.hid hF
    have q1c := fun j => cell_of_row w1 (w.heap.size + 1) j _ _ _ q1
    clear hF hs hg hGa hTa hBa k0 k1 hT h
    go_wp2_with (first | (refine wpList_load_blk rfl 52 52 (.tmp 4) rfl (w.heap.size + 1) rfl _ _ q1 _ Tryd.underlying52 rfl (by kernel_rfl) ?_) | (refine wpList_store_blk rfl 52 52 (.tmp 2) _ rfl w.heap.size rfl _ rfl _ q0 (by kernel_rfl) rfl (by kernel_rfl) ?_; intro w4 hg4 ho4 hz4 hb4))
    refine bodyPost_ret (results_cell_tmp rfl _ _ w.heap.size 52 _ _ _ rfl hg4 Tryd.underlying52 rfl (by kernel_rfl)) rfl ?_
    exact unp_err hG hTk hla hlb hb4 ho4 (by rw [HF.out]) (by rw [HF.out]) (by decide) ⟨_, _, _, rfl⟩ rfl
  · rw [if_neg hs] at hp
    obtain ⟨⟨b, off, c, rfl, hc, hb, hrg⟩, hg, hTk⟩ := hp
    rw [chunk_two (by omega)] at hrg
    obtain ⟨x, hx, hx2⟩ := byte_at hr (show a < l.length by omega)
    obtain ⟨n, hn, hn2⟩ := byte_at hr (show a + 1 < l.length by omega)
    rw [hx, hn] at hrg
    have c0 : w1.cell? ⟨b, off, none⟩ = some (.int .u8 x) := hrg 0 _ rfl
    have c1 : w1.cell? ⟨b, off + 1, none⟩ = some (.int .u8 n) := hrg 1 _ rfl
    have q0 := grown_block hg k0 (by intro e; injection e; omega)
    have q1 := grown_block hg k1 (by intro e; injection e; omega)
    have hG := hGa.trans hg
    have hF : fnGo l a = if (n : Int) < 1 ∨ 128 < (n : Int) then ((0, []), 12, a + 2) else (((x : Int), (insGo l n [] (a + 2)).1), (insGo l n [] (a + 2)).2.1, (insGo l n [] (a + 2)).2.2) := by
      rw [fnGo, if_neg hs, hn, hx]; rfl
    have HF := Lib.hid hF
    have HX := Lib.hid hx
    have HN := Lib.hid hn
    have hlen := lt_of_block q1
    clear hF hx hn hg hGa hTa hBa k0 k1 hT h hrg hs
    by_cases hbad : n < 1 ∨ 128 < n
    · have hF := HF.out
      rw [if_pos (by omega)] at hF
      have HF := Lib.hid hF
      clear hF
      rcases hbad with hbad | hbad
      · go_wp2_with (first | (refine wpList_load_blk rfl 52 52 (.tmp 4) rfl (w.heap.size + 1) rfl _ _ q1 _ Tryd.underlying52 rfl (by kernel_rfl) ?_) | (refine wpList_store_blk rfl 52 52 (.tmp 2) _ rfl w.heap.size rfl _ rfl _ q0 (by kernel_rfl) rfl (by kernel_rfl) ?_; intro w4 hg4 ho4 hz4 hb4))
        refine bodyPost_ret (results_cell_tmp rfl _ _ w.heap.size 52 _ _ _ rfl hg4 Tryd.underlying52 rfl (by kernel_rfl)) rfl ?_
        exact unp_err hG hTk hla hlb hb4 ho4 (by rw [HF.out]) (by rw [HF.out]) (by decide) ⟨_, _, _, rfl⟩ rfl
      · go_wp2_with (first | (refine wpList_load_blk rfl 52 52 (.tmp 4) rfl (w.heap.size + 1) rfl _ _ q1 _ Tryd.underlying52 rfl (by kernel_rfl) ?_) | (refine wpList_store_blk rfl 52 52 (.tmp 2) _ rfl w.heap.size rfl _ rfl _ q0 (by kernel_rfl) rfl (by kernel_rfl) ?_; intro w4 hg4 ho4 hz4 hb4))
        refine bodyPost_ret (results_cell_tmp rfl _ _ w.heap.size 52 _ _ _ rfl hg4 Tryd.underlying52 rfl (by kernel_rfl)) rfl ?_
        exact unp_err hG hTk hla hlb hb4 ho4 (by rw [HF.out]) (by rw [HF.out]) (by decide) ⟨_, _, _, rfl⟩ rfl
    · have hF := HF.out
      rw [if_neg (by omega)] at hF
      have HF := Lib.hid hF
      clear hF
      have w1a : IntKind.i64.wrap (n : Int) = n := IntWalk.i64_in _ (by omega)
      have w2a : IntKind.i64.wrap (x : Int) = x := IntWalk.i64_in _ (by omega)
      have n1 : 1 ≤ n := by omega
      have n2 : n ≤ 128 := by omega
      clear hbad
      have f1 := frozen_of_row _ _ 0 _ _ q1
      have q1c : w1.cell? ⟨w.heap.size + 1, 0, none⟩ = some (.int .i64 0) := by rw [cell_of_row _ _ _ _ _ _ q1]; rfl
      have hU0 : UM w B ga gb l x (.slice none 0 0) 0 [] (a + 2) (w1.setCell ⟨w.heap.size + 1, 0, none⟩ (.int .i64 x)) := by
        have hs := grownBy_setCell_at w1 (w.heap.size + 1) 0 (.int .i64 (x : Int))
        have hB := hTk.2.2.1
        exact ⟨⟨hs.os.trans hG.os, hs.tape.trans hG.tape, hs.output.trans hG.output, Nat.le_trans hG.size hs.size, fun j hj hn => (hs.block j (Nat.lt_of_lt_of_le hj hG.size) fun e => by injection e; omega).trans (hG.block j hj hn)⟩,
          hTk.grown hs (fun j e => by injection e; omega), heap_setCell_same w1 (w.heap.size + 1) 0 _ _ _ q1, (Below.heap_setCell _ _ _ _ (by simp)).trans q0, World.ownsRow_nil _ _ _ _, hla, hlb⟩
      go_wp2_with fail
      clear q0 q1 hG hTk
      go_loopw [34] (fun i wr => UnpR w B ga gb l a n x i wr) (fun i _ => n - (intOf i).toNat)
      case atStart => exact ⟨0, _, [], Nat.zero_le _, rfl, hU0, rfl, rfl⟩
      case round =>
        obtain ⟨k, cv, acc, hk, rfl, hU, hal, heq⟩ := hrel
        clear hU0 c0 c1 f1 q1c
        by_cases hlt : k < n
        · obtain ⟨m, hm⟩ : ∃ m, n - k = m + 1 := ⟨n - k - 1, by omega⟩
          rw [hm, insGo] at heq
          obtain ⟨at_, hat⟩ : ∃ y, a + 2 + 8 * k = y := ⟨_, rfl⟩
          rw [hat] at heq hU
          have hT := take_any hU.tk (k := 8) (by omega) (by omega) hmax
          have hbx := hU.box
          have hmn : n - (k + 1) = m := by omega
          have HEQ := Lib.hid heq
          clear heq hm
          go_wp2_with fail
          refine hT.mono ?_
          intro e w3 hp
          clear hT hbx
          unfold TakePost at hp
          by_cases hs : l.length < at_ + 8
          · rw [if_pos hs] at hp
            obtain ⟨rfl, hg⟩ := hp
            have hU3 := hU.kept hg (hU.tk.grown hg (fun k e => by cases e))
            have heq := HEQ.out
            rw [if_pos hs] at heq
            have HEQ' := Lib.hid heq
            clear heq hs hg hU
            go_wp2_with (first | (refine wpList_load_blk rfl 52 52 (.tmp 4) rfl (w.heap.size + 1) rfl _ _ hU3.box _ Tryd.underlying52 rfl (by kernel_rfl) ?_) | (refine wpList_store_blk rfl 52 52 (.tmp 2) _ rfl w.heap.size rfl _ rfl _ hU3.res (by kernel_rfl) rfl hU3.one ?_; intro w9 hg9 ho9 hz9 hb9))
            refine bodyPost_ret (results_cell_tmp rfl _ _ w.heap.size 52 _ _ _ rfl hg9 Tryd.underlying52 rfl (by kernel_rfl)) rfl ?_
            exact unp_err hU3.gr hU3.tk hla hlb hb9 ho9 (by rw [HF.out, HEQ'.out]) (by rw [HF.out, HEQ'.out]) (by decide) (own_slice hU3.own) rfl
          · rw [if_neg hs] at hp
            obtain ⟨⟨b2, off2, c2, rfl, hc2, hb2, hrg⟩, hg, hTk3⟩ := hp
            have hU3 := hU.taken hg hTk3
            obtain ⟨y, hy⟩ := name_of (chunk l at_ 8)
            have heq := HEQ.out
            rw [if_neg hs] at heq
            rw [hy] at hrg heq
            have hyl : y.length = 8 := by rw [← hy]; simp [chunk]; omega
            have hyr : ∀ z ∈ y, 0 ≤ z ∧ z ≤ 255 := by
              intro z hz
              rw [← hy] at hz
              exact hr z (List.mem_of_mem_drop (List.mem_of_mem_take hz))
            have hsl : Sl w3 B 1 (.slice (some ⟨b2, off2, none⟩) 8 c2) (bv y) := ⟨_, 8, c2, rfl, hc2, by simp [hyl], fun _ => ⟨b2, off2, rfl, hb2, hrg⟩⟩
            obtain ⟨⟨op, ia, ib, ic, inn⟩, hi⟩ := name_of (decV y)
            obtain ⟨er, her⟩ := name_of (decE y)
            have hD := dec_named (decode_any hsl hyr) hi her
            have HEQ' := Lib.hid heq
            have HI := Lib.hid hi
            have HE := Lib.hid her
            clear heq hs hg hU hTk3 hy hyr hrg hsl HEQ hi her
            go_wp2_with fail
            refine hD.mono ?_
            clear hD
            rintro e w4 ⟨rfl, hb4⟩
            have hU4 := hU3.below hb4
            clear hU3 hb4
            by_cases hz : er = 0
            · subst hz
              have heq := HEQ'.out
              have hdec : decI y = (op, ia, ib, ic, inn) := by have := HI.out; rw [decV, if_pos HE.out] at this; exact this
              rw [if_pos HE.out, hdec] at heq
              have HEQ2 := Lib.hid heq
              have hU5 := hU4.below (Below.alloc (Below.refl _ _) (Nat.le_refl _) (.cells #[.int .i64 op, .int .i64 ia, .int .i64 ib, .int .i64 ic, .int .i64 inn] 23))
              have hU6 := hU5.below (Below.alloc (Below.refl _ _) (Nat.le_refl _) (.cells #[.int .i64 op, .int .i64 ia, .int .i64 ib, .int .i64 ic, .int .i64 inn] 23))
              have c4 : w4.cell? ⟨w.heap.size + 1, 1, none⟩ = some cv := by rw [cell_of_row _ _ _ _ _ _ hU4.box]; rfl
              have hl4 := lt_of_block hU4.box
              have hsl : Sl ((w4.alloc (.cells #[.int .i64 op, .int .i64 ia, .int .i64 ib, .int .i64 ic, .int .i64 inn] 23)).alloc (.cells #[.int .i64 op, .int .i64 ia, .int .i64 ib, .int .i64 ic, .int .i64 inn] 23)) _ 5 (.slice (some ⟨w4.heap.size + 1, 0, none⟩) 1 1) (insC (op, ia, ib, ic, inn)) := Sl.new (w4.alloc _) _ _ 1 _ (by simp) rfl rfl
              clear heq hdec hU4 hU5
              go_wp2_with (at_builtin; refine wpList_append_sl rfl (.tmp 51) (.tmp 53) 50 rfl w.heap.size 23 (.agg #[.int .i64 0, .int .i64 0, .int .i64 0, .int .i64 0, .int .i64 0]) 5 40 Tryd.underlying50 info_ins rfl (by omega) cv k _ rfl hU6.own _ 1 _ _ rfl hsl rfl (by simp [insC, Value.oneCell']) (by omega) (by omega) (by have := hU6.gr.size; exact this) ?_; intro v6 w6 hown6 hg6 hat6; have hb6 := grown_block hg6 hU6.box (own_ne hU6.own hU6.box (by decide)); have c6 : w6.cell? ⟨w.heap.size + 1, 1, none⟩ = some cv := (by rw [cell_of_row _ _ _ _ _ _ hb6]; rfl); have z6 := frozen_of_row _ _ 1 _ _ hb6; obtain ⟨A6, n6, c6', rfl⟩ := own_slice hown6; have hU7 := hU6.turned hg6 hown6; clear hg6 hown6 hat6 hb6 hU6)
              refine ⟨⟨k + 1, .slice A6 n6 c6', acc ++ [(op, ia, ib, ic, inn)], hlt, by go_num, ?_, by rw [List.length_append, hal]; rfl, ?_⟩, by simp [intOf]; omega⟩
              · rw [show a + 2 + 8 * (k + 1) = at_ + 8 by omega]
                exact hU7
              · rw [hmn, show a + 2 + 8 * (k + 1) = at_ + 8 by omega]
                exact HEQ2.out
            · have e1 : (er != 0) = true := by simpa using hz
              have heq := HEQ'.out
              rw [if_neg (by rw [HE.out]; exact hz)] at heq
              have HEQ2 := Lib.hid heq
              have hU5 := hU4.below (Below.alloc (Below.refl _ _) (Nat.le_refl _) (.cells #[.int .i64 op, .int .i64 ia, .int .i64 ib, .int .i64 ic, .int .i64 inn] 23))
              clear heq hU4
              go_wp2_with (first | (refine wpList_load_blk rfl 52 52 (.tmp 4) rfl (w.heap.size + 1) rfl _ _ hU5.box _ Tryd.underlying52 rfl (by kernel_rfl) ?_) | (refine wpList_store_blk rfl 52 52 (.tmp 2) _ rfl w.heap.size rfl _ rfl _ hU5.res (by kernel_rfl) rfl hU5.one ?_; intro w9 hg9 ho9 hz9 hb9))
              refine bodyPost_ret (results_cell_tmp rfl _ _ w.heap.size 52 _ _ _ rfl hg9 Tryd.underlying52 rfl (by kernel_rfl)) rfl ?_
              exact unp_err hU5.gr hU5.tk hla hlb hb9 ho9 (by rw [HF.out, HEQ2.out, HE.out]) (by rw [HF.out, HEQ2.out]) hz (own_slice hU5.own) rfl
        · have hkn : k = n := by omega
          subst hkn
          rw [Nat.sub_self, insGo] at heq
          have HEQ := Lib.hid heq
          clear heq hlt
          go_wp2_with (first | (refine wpList_load_blk rfl 52 52 (.tmp 4) rfl (w.heap.size + 1) rfl _ _ hU.box _ Tryd.underlying52 rfl (by kernel_rfl) ?_) | (refine wpList_store_blk rfl 52 52 (.tmp 2) _ rfl w.heap.size rfl _ rfl _ hU.res (by kernel_rfl) rfl hU.one ?_; intro w9 hg9 ho9 hz9 hb9))
          refine bodyPost_ret (results_cell_tmp rfl _ _ w.heap.size 52 _ _ _ rfl hg9 Tryd.underlying52 rfl (by kernel_rfl)) rfl ?_
          refine ⟨⟨x, cv, ?_, own_slice hU.own, fun _ => ⟨by rw [HF.out], ?_⟩⟩, grown_below hU.gr hb9, ?_⟩
          · rw [HF.out, HEQ.out]; rfl
          · rw [HF.out, HEQ.out]
            exact own_len (hU.own.kept (grown_other hb9 ho9) (.inr fun e => own_ne hU.own hU.res (by decide) e.symm)) hal.symm rfl
          · rw [HF.out, HEQ.out]
            refine hU.tk.grown (grown_other hb9 ho9) fun j e => ?_
            injection e with e
            have := hU.tk.2.2.1
            omega
end P2
end Go.Proofs.YtjpnbjlhjlddbaaDoor
