/- Walk: Unpack, whole. -/
import Derived.Test.YtjpnbjlhjlddbaaDoorUp
namespace Go.Proofs.YtjpnbjlhjlddbaaDoor
open Go.RowKit
namespace P2

/-- What holds while a return is laid. -/
abbrev Laid (w : World) (a : Nat) (W : World) : Prop := Below w.heap.size w W ∧ W.cell? ⟨w.heap.size + 2, 0, none⟩ = some (.int .i64 a) ∧ W.cell? ⟨w.heap.size + 1, 0, none⟩ = some (.slice none 0 0) ∧ W.frozen? ⟨w.heap.size + 1, 0, none⟩ = false ∧
  W.heap[w.heap.size + 1]? = some (.cells #[.slice none 0 0] 35 (0, 0)) ∧ w.heap.size + 2 < W.heap.size
theorem Laid.make {w W : World} {a : Nat} (hb : Below w.heap.size w W) (hc : W.heap[w.heap.size + 2]? = some (.cells #[.int .i64 a] 3 (0, 0))) (hh : W.heap[w.heap.size + 1]? = some (.cells #[.slice none 0 0] 35 (0, 0))) : Laid w a W :=
  ⟨hb, by rw [cell_of_row _ _ _ _ _ _ hc]; rfl, by rw [cell_of_row _ _ _ _ _ _ hh]; rfl, frozen_of_row _ _ 0 _ _ hh, hh, lt_of_block hc⟩
theorem Laid.set {w W : World} {a : Nat} (h : Laid w a W) : Laid w a (W.setCell ⟨w.heap.size + 1, 0, none⟩ (.slice none 0 0)) := by
  have hh := heap_setCell_same W (w.heap.size + 1) 0 _ _ (.slice none 0 0) h.2.2.2.2.1
  exact ⟨h.1.setCell (by show w.heap.size ≤ w.heap.size + 1; omega) _, (World.cell?_setCell_other _ _ _ _ (by intro e; injection e; omega)).trans h.2.1, by rw [cell_of_row _ _ _ _ _ _ hh]; rfl, frozen_of_row _ _ 0 _ _ hh, hh, by rw [World.size_setCell]; exact h.2.2.2.2.2⟩
theorem Laid.drew {w W : World} {a : Nat} (h : Laid w a W) : Laid w a W.drew := ⟨⟨h.1.os, h.1.tape, h.1.output, h.1.size, h.1.block⟩, h.2⟩
theorem Laid.place {w W : World} {a : Nat} (h : Laid w a W) (hc : W.heap[w.heap.size + 2]? = some (.cells #[.int .i64 a] 3 (0, 0))) (p : Nat) : Laid w p (W.setCell ⟨w.heap.size + 2, 0, none⟩ (.int .i64 p)) :=
  Laid.make (h.1.setCell (by show w.heap.size ≤ w.heap.size + 2; omega) _) (heap_setCell_same W (w.heap.size + 2) 0 _ _ _ hc) ((Below.heap_setCell _ _ _ _ (by simp)).trans h.2.2.2.2.1)
theorem own_mono {w : World} {base B e size n : Nat} {v : Value} {xs : List Value} (h : w.ownsRow base e size v n xs) (hb : B ≤ base) : w.ownsRow B e size v n xs :=
  ⟨h.1, h.2.imp id fun ⟨g, cap, cur, a, b, c⟩ => ⟨g, cap, cur, a, Nat.le_trans hb b, c⟩⟩
/-- What unpacking leaves, its rows the call's own. -/
def UnOwn (l : List Int) (w : World) (e : Ending) (w' : World) : Prop :=
  (∃ pv, e = .returned (.tuple #[.agg #[pv], .int .i64 (un l).2.1, .int .i64 (un l).2.2]) ∧ Fns w' w'.heap.size pv (un l).1 ∧ FnsOwn w' w.heap.size pv (un l).1) ∧ Below w.heap.size w w'
theorem un_err {w wr w4 : World} {l : List Int} {r : Value} {e : Int} {x : Nat} (hg : Below w.heap.size w wr) (hb : Below w.heap.size wr w4) (hu : un l = ([], x, e)) (hr : r = .tuple #[.agg #[.slice none 0 0], .int .i64 x, .int .i64 e]) : UnOwn l w (.returned r) w4 := by
  subst hr
  rw [UnOwn, hu]
  exact ⟨⟨_, rfl, ⟨[], rfl, Sl.none_, fun k hk => absurd hk (by simp)⟩, [], rfl, World.ownsRow_nil _ _ _ _, fun k hk => absurd hk (by simp)⟩, hg.trans hb⟩

set_option maxHeartbeats 4000000 in
theorem unpackOwn {w : World} {v : Value} {l : List Int} (hs : Sl w w.heap.size 1 v (bv l)) (hmax : l.length ≤ 1000000) (hr : ∀ z ∈ l, 0 ≤ z ∧ z ≤ 255) :
    Calls Tryd.prog 24 #[v] w (UnOwn l w) := by
  obtain ⟨A, m, c, rfl, -⟩ := id hs
  obtain ⟨wa, hwa⟩ : ∃ wa, wa = (((w.alloc (.cells #[.slice A m c] 24)).alloc (.cells #[.slice none 0 0] 35)).alloc (.cells #[.int .i64 0] 3)).alloc (.cells #[.slice none 0 0] 35) := ⟨_, rfl⟩
  have hBa : Below w.heap.size w wa := by rw [hwa]; go_grown
  have hnT : ∀ w, (binOp .eql 24 (.slice none 0 0) (.slice none 0 0)).run Tryd.prog w = .ok (.bool true) w := fun w => Lib.run_eql_slice_nil w _ _ none 0 0 0 0 Tryd.underlying24
  have hnF : ∀ ad n c w, (binOp .eql 24 (.slice (some ad) n c) (.slice none 0 0)).run Tryd.prog w = .ok (.bool false) w := fun ad n c w => Lib.run_eql_slice_nil w _ _ (some ad) n c 0 0 Tryd.underlying24
  have hmf : ∀ fn first cap w, (Instr.makeFunc fn first cap).run Tryd.prog w = .ok (.func fn first cap) w := fun _ _ _ _ => rfl
  have hP : PM w l (.slice none 0 0) [] 0 wa := by
    refine ⟨hBa, ⟨?_, ⟨A, m, c, ?_, hs.below hBa⟩, Nat.le_add_right _ _, Nat.le_refl _, by omega, Nat.zero_le _⟩, ?_, ?_, [], rfl, World.ownsRow_nil _ _ _ _, fun k hk => absurd hk (by simp)⟩
    all_goals rw [hwa]
    · exact (Below.heap_alloc _ _ _ (by simp)).trans (heap_alloc_at _ (by simp))
    · exact (Below.heap_alloc _ _ _ (by simp <;> omega)).trans ((Below.heap_alloc _ _ _ (by simp <;> omega)).trans ((Below.heap_alloc _ _ _ (by simp)).trans (heap_alloc_at _ rfl)))
    · exact (Below.heap_alloc _ _ _ (by simp <;> omega)).trans ((Below.heap_alloc _ _ _ (by simp)).trans (heap_alloc_at _ (by simp)))
    · exact heap_alloc_at _ (by simp)
  have hT := take_any hP.tk (k := 1) (by omega) (by omega) hmax
  go_enter Tryd.func24, Tryd.ntmps24
  go_wp2_with fail
  rw [show w.heap.size + 1 + 1 = w.heap.size + 2 from rfl]
  rw [show w.heap.size + 2 + 1 = w.heap.size + 3 from rfl]
  rw [← hwa]
  refine hT.mono ?_
  intro e w1 hp
  clear hT
  unfold TakePost at hp
  by_cases h1 : l.length < 0 + 1
  · rw [if_pos h1] at hp
    obtain ⟨rfl, hg⟩ := hp
    have hP1 := hP.kept hg (hP.tk.grown hg (fun k e => by cases e))
    have hu : un l = ([], 0, 11) := by rw [un, if_pos (by omega)]
    have HU := Lib.hid hu
    clear hu h1 hg hP hBa
    go_wp2_with (first | (refine wpList_load_blk rfl 35 35 (.tmp 7) rfl (w.heap.size + 3) rfl _ _ hP1.box _ Tryd.underlying35 rfl (by kernel_rfl) ?_) | (refine wpList_store_blk rfl 35 35 (.tmp 2) _ rfl (w.heap.size + 1) rfl _ rfl _ hP1.res (by kernel_rfl) rfl (by kernel_rfl) ?_; intro w9 hg9 ho9 hz9 hb9))
    refine bodyPost_ret (results_cell_tmp2 rfl _ _ (w.heap.size + 1) 35 _ _ _ rfl hg9 Tryd.underlying35 rfl (by kernel_rfl)) rfl ?_
    exact un_err hP1.gr (hb9.mono (by omega)) HU.out rfl
  · rw [if_neg h1] at hp
    obtain ⟨⟨b, off, c1, rfl, hc, hb, hrg⟩, hg, hTk⟩ := hp
    have hP1 := hP.taken hg hTk
    obtain ⟨n, hn, hn2⟩ := byte_at hr (show 0 < l.length by omega)
    have hck : chunk l 0 1 = [(n : Int)] := by
      rw [← hn]
      match l, h1 with
      | z :: l', _ => simp [chunk]
    rw [hck] at hrg
    have c0 : w1.cell? ⟨b, off, none⟩ = some (.int .u8 n) := hrg 0 _ rfl
    have hu : un l = if (n : Int) < 1 ∨ 32 < (n : Int) then ([], 0, 12) else unGo l n [] 1 := by rw [un, if_neg (by omega), hn]; rfl
    have HU := Lib.hid hu
    clear hu hg hP hBa h1 hrg hck hTk hn
    by_cases hbad : n < 1 ∨ 32 < n
    · have hu := HU.out
      rw [if_pos (by omega)] at hu
      have HU2 := Lib.hid hu
      clear hu
      rcases hbad with hbad | hbad
      · go_wp2_with (first | (refine wpList_load_blk rfl 35 35 (.tmp 7) rfl (w.heap.size + 3) rfl _ _ hP1.box _ Tryd.underlying35 rfl (by kernel_rfl) ?_) | (refine wpList_store_blk rfl 35 35 (.tmp 2) _ rfl (w.heap.size + 1) rfl _ rfl _ hP1.res (by kernel_rfl) rfl (by kernel_rfl) ?_; intro w9 hg9 ho9 hz9 hb9))
        refine bodyPost_ret (results_cell_tmp2 rfl _ _ (w.heap.size + 1) 35 _ _ _ rfl hg9 Tryd.underlying35 rfl (by kernel_rfl)) rfl ?_
        exact un_err hP1.gr (hb9.mono (by omega)) HU2.out rfl
      · go_wp2_with (first | (refine wpList_load_blk rfl 35 35 (.tmp 7) rfl (w.heap.size + 3) rfl _ _ hP1.box _ Tryd.underlying35 rfl (by kernel_rfl) ?_) | (refine wpList_store_blk rfl 35 35 (.tmp 2) _ rfl (w.heap.size + 1) rfl _ rfl _ hP1.res (by kernel_rfl) rfl (by kernel_rfl) ?_; intro w9 hg9 ho9 hz9 hb9))
        refine bodyPost_ret (results_cell_tmp2 rfl _ _ (w.heap.size + 1) 35 _ _ _ rfl hg9 Tryd.underlying35 rfl (by kernel_rfl)) rfl ?_
        exact un_err hP1.gr (hb9.mono (by omega)) HU2.out rfl
    · have hu := HU.out
      rw [if_neg (by omega)] at hu
      have HU2 := Lib.hid hu
      have n1 : 1 ≤ n := by omega
      have n2 : n ≤ 32 := by omega
      have wn : IntKind.i64.wrap (n : Int) = n := IntWalk.i64_in _ (by omega)
      clear hu hbad
      go_wp2_with fail
      clear c0
      go_loopw [32] (fun i wr => PmR w l n i wr) (fun i _ => n - (intOf i).toNat)
      case atStart => exact ⟨0, _, [], 1, Nat.zero_le _, rfl, hP1, rfl, rfl⟩
      case round =>
        obtain ⟨k, pv, acc, a, hk, rfl, hP, hal, heq⟩ := hrel
        clear hP1
        by_cases hlt : k < n
        · obtain ⟨q, hq⟩ : ∃ q, n - k = q + 1 := ⟨n - k - 1, by omega⟩
          rw [hq, unGo] at heq
          have hmn : n - (k + 1) = q := by omega
          have HEQ := Lib.hid heq
          clear heq hq
          have hT := unpack_any hP.tk hmax hr
          go_wp2_with fail
          refine hT.mono ?_
          clear hT
          rintro e w3 ⟨⟨x, cv, rfl, ⟨A3, m3, c3, rfl⟩, hok⟩, hg, ht⟩
          have hP3 := hP.taken hg ht
          have hpl := fnGo_place l a
          obtain ⟨er, her⟩ := name_of (fnGo l a).2.1
          obtain ⟨a2, ha2⟩ := name_of (fnGo l a).2.2
          have heq := HEQ.out
          rw [her] at hok hpl heq ⊢
          rw [ha2] at hP3 hpl heq
          have hP4 := hP3.below (Below.alloc (Below.refl _ _) (Nat.le_refl _) (.cells #[.int .i64 x, .slice A3 m3 c3] 52))
          have hal2 : (a2 : Int) ≤ 1000000 := by have := hP4.tk.2.2.2.2.2; omega
          by_cases h0 : er = 0
          · subst h0
            rw [if_pos rfl] at heq
            obtain ⟨hx, hown⟩ := hok rfl
            obtain ⟨f, hf⟩ := name_of (fnGo l a).1
            rw [hf] at heq hx hown
            obtain ⟨fx, fl⟩ := f
            dsimp only at hx hown
            subst hx
            have hown4 := own_mono (own_below (own_below hown (Below.alloc (Below.refl _ _) (Nat.le_refl _) (.cells #[.int .i64 x, .slice A3 m3 c3] 52))) (Below.alloc (Below.refl _ _) (Nat.le_refl _) (.cells #[.int .i64 x, .slice A3 m3 c3] 52))) hP.gr.size
            have hP5 := hP4.below (Below.alloc (Below.refl _ _) (Nat.le_refl _) (.cells #[.int .i64 x, .slice A3 m3 c3] 52))
            obtain ⟨xs, hxs⟩ := hP5.own.row
            have c4 : w3.cell? ⟨w.heap.size + 3, 0, none⟩ = some pv := by rw [cell_of_row _ _ _ _ _ _ hP3.box]; rfl
            have hl3 := lt_of_block hP3.box
            have hsl : Sl ((w3.alloc (.cells #[.int .i64 x, .slice A3 m3 c3] 52)).alloc (.cells #[.int .i64 x, .slice A3 m3 c3] 52)) _ 2 (.slice (some ⟨w3.heap.size + 1, 0, none⟩) 1 1) (fnC ((x, fl), .slice A3 m3 c3)) := Sl.new (w3.alloc _) _ _ 1 _ (by simp) rfl rfl
            have hal3 : acc.length ≤ 32 := by omega
            have HEQ2 := Lib.hid heq
            clear heq hP hP3 hP4 hg ht hok hpl HEQ her ha2 hf hown
            go_wp2_with (first | (refine wpList_store_new rfl 52 52 (.tmp 9) _ rfl _ _ _ rfl rfl rfl (by kernel_rfl) rfl (by kernel_rfl) ?_) | (at_builtin; refine wpList_append_sl rfl (.tmp 55) (.tmp 57) 33 rfl w.heap.size 52 (.agg #[.int .i64 0, .slice none 0 0]) 2 32 Tryd.underlying33 info_fn rfl (by omega) pv acc.length _ rfl hxs _ 1 _ _ rfl hsl rfl (by simp [fnC, Value.oneCell']) (by omega) (by omega) hP5.gr.size ?_; intro v6 w6 hown6 hg6 hat6; have hb6 := grown_block hg6 hP5.box (own_ne hxs hP5.box (by decide)); have c6 : w6.cell? ⟨w.heap.size + 3, 0, none⟩ = some pv := (by rw [cell_of_row _ _ _ _ _ _ hb6]; rfl); have z6 := frozen_of_row _ _ 0 _ _ hb6; obtain ⟨A6, n6, c6', rfl⟩ := own_slice hown6; have hP7 := hP5.turned (f := (x, fl)) hown4 hg6 hxs hown6; clear hg6 hown6 hat6 hb6 hP5 hxs))
            refine ⟨⟨k + 1, .slice A6 n6 c6', acc ++ [(x, fl)], a2, hlt, by go_num, hP7, by rw [List.length_append, hal]; rfl, ?_⟩, by simp [intOf]; omega⟩
            rw [hmn]
            exact HEQ2.out
          · rw [if_neg h0] at heq
            have e0 : (er != 0) = true := by simpa using h0
            by_cases h12 : er = 12
            · subst h12
              obtain ⟨p2, hp2⟩ : ∃ p2 : Nat, p2 + 1 = a2 := ⟨a2 - 1, by omega⟩
              have hw2 : IntKind.i64.wrap ((a2 : Int) - 1) = (p2 : Int) := (IntWalk.i64_in _ (by omega)).trans (by omega)
              have hu : un l = ([], p2, 12) := by rw [HU2.out, heq, fnPlace, if_pos rfl]; simp; omega
              have HU3 := Lib.hid hu
              have hL : Laid w a2 (w3.alloc (.cells #[.int .i64 x, .slice A3 m3 c3] 52)) := Laid.make hP4.gr hP4.tk.1 hP4.res
              clear hu heq hP3 hP4 hP hok hpl hal2 hg ht HEQ her ha2
              go_wp2_with (first | (refine wpList_store_new rfl 52 52 (.tmp 9) _ rfl _ _ _ rfl rfl rfl (by kernel_rfl) rfl (by kernel_rfl) ?_))
              obtain ⟨w4, hw4⟩ := name_of (w3.alloc (.cells #[.int .i64 x, .slice A3 m3 c3] 52))
              rw [hw4] at hL ⊢
              go_region_held3 (fun W => Laid w a2 W) (first | assumption | exact Laid.set ‹_› | exact Laid.drew ‹_›) (fail)
              go_wp2_with fail
              refine bodyPost_ret (results_cell_tmp2 rfl _ _ (w.heap.size + 1) 35 _ _ _ rfl hL.set.drew.2.2.2.2.1 Tryd.underlying35 rfl (by kernel_rfl)) rfl ?_
              exact un_err hL.set.drew.1 (Below.refl _ _) HU3.out rfl
            · have e12 : (er == 12) = false := by simpa using h12
              by_cases h11 : er = 11
              · subst h11
                have hu : un l = ([], a2, 11) := by rw [HU2.out, heq, fnPlace, if_neg (by decide), if_pos rfl]
                have HU3 := Lib.hid hu
                have hL : Laid w a2 (w3.alloc (.cells #[.int .i64 x, .slice A3 m3 c3] 52)) := Laid.make hP4.gr hP4.tk.1 hP4.res
                clear hu heq hP3 hP4 hP hok hpl hal2 hg ht HEQ her ha2
                go_wp2_with (first | (refine wpList_store_new rfl 52 52 (.tmp 9) _ rfl _ _ _ rfl rfl rfl (by kernel_rfl) rfl (by kernel_rfl) ?_))
                obtain ⟨w4, hw4⟩ := name_of (w3.alloc (.cells #[.int .i64 x, .slice A3 m3 c3] 52))
                rw [hw4] at hL ⊢
                go_region_held3 (fun W => Laid w a2 W) (first | assumption | exact Laid.set ‹_› | exact Laid.drew ‹_›) (fail)
                go_wp2_with fail
                refine bodyPost_ret (results_cell_tmp2 rfl _ _ (w.heap.size + 1) 35 _ _ _ rfl hL.set.drew.2.2.2.2.1 Tryd.underlying35 rfl (by kernel_rfl)) rfl ?_
                exact un_err hL.set.drew.1 (Below.refl _ _) HU3.out rfl
              · have e11 : (er != 11) = true := by simpa using h11
                obtain ⟨p8, hp8⟩ : ∃ p8 : Nat, p8 + 8 = a2 := ⟨a2 - 8, by omega⟩
                have hw2 : IntKind.i64.wrap ((a2 : Int) - 8) = (p8 : Int) := (IntWalk.i64_in _ (by omega)).trans (by omega)
                have hu : un l = ([], p8, er) := by rw [HU2.out, heq, fnPlace, if_neg h12, if_neg h11]; simp; omega
                have HU3 := Lib.hid hu
                have hL0 : Laid w a2 (w3.alloc (.cells #[.int .i64 x, .slice A3 m3 c3] 52)) := Laid.make hP4.gr hP4.tk.1 hP4.res
                have hL := hL0.place hP4.tk.1 p8
                have hz2 := frozen_of_row _ _ 0 _ _ hP4.tk.1
                clear hu heq hP3 hP4 hP hok hpl hal2 hg ht HEQ her ha2
                go_wp2_with (first | (refine wpList_store_new rfl 52 52 (.tmp 9) _ rfl _ _ _ rfl rfl rfl (by kernel_rfl) rfl (by kernel_rfl) ?_))
                obtain ⟨w4, hw4⟩ := name_of ((w3.alloc (.cells #[.int .i64 x, .slice A3 m3 c3] 52)).setCell ⟨w.heap.size + 2, 0, none⟩ (.int .i64 p8))
                rw [hw4] at hL ⊢
                go_region_held3 (fun W => Laid w p8 W) (first | assumption | exact Laid.set ‹_› | exact Laid.drew ‹_›) (fail)
                go_wp2_with fail
                refine bodyPost_ret (results_cell_tmp2 rfl _ _ (w.heap.size + 1) 35 _ _ _ rfl hL.set.drew.2.2.2.2.1 Tryd.underlying35 rfl (by kernel_rfl)) rfl ?_
                exact un_err hL.set.drew.1 (Below.refl _ _) HU3.out rfl
        · have hkn : k = n := by omega
          subst hkn
          rw [Nat.sub_self, unGo] at heq
          obtain ⟨A5, n5, c5, hb5, hs5⟩ := hP.tk.2.1
          obtain ⟨A5', n5', c5', he5, _, hn5, _⟩ := hs5
          injection he5 with _ e2 _
          subst e2
          simp only [bv_length, Nat.mul_one] at hn5
          have hal2 : a ≤ n5 := by have := hP.tk.2.2.2.2.2; omega
          have ca : wr.cell? ⟨w.heap.size + 2, 0, none⟩ = some (.int .i64 a) := by rw [cell_of_row _ _ _ _ _ _ hP.tk.1]; rfl
          have cb : wr.cell? ⟨w.heap.size, 0, none⟩ = some (.slice A5 n5 c5) := by rw [cell_of_row _ _ _ _ _ _ hb5]; rfl
          have hlw := lt_of_block hP.box
          by_cases hlt5 : a < n5
          · rw [if_pos (by omega)] at heq
            have hd : decide ((a : Int) < (n5 : Int)) = true := by simpa using hlt5
            have hL : Laid w a wr := Laid.make hP.gr hP.tk.1 hP.res
            have hu : un l = ([], a, 11) := by rw [HU2.out, heq]
            have HU3 := Lib.hid hu
            clear hu heq hP hn5 hb5
            go_wp2_with fail
            go_region_held3 (fun W => Laid w a W) (first | assumption | exact Laid.set ‹_› | exact Laid.drew ‹_›) (fail)
            go_wp2_with fail
            refine bodyPost_ret (results_cell_tmp2 rfl _ _ (w.heap.size + 1) 35 _ _ _ rfl hL.set.drew.2.2.2.2.1 Tryd.underlying35 rfl (by kernel_rfl)) rfl ?_
            exact un_err hL.set.drew.1 (Below.refl _ _) HU3.out rfl
          · rw [if_neg (by omega)] at heq
            have hd : decide ((a : Int) < (n5 : Int)) = false := by simpa using hlt5
            have hu : un l = (acc, 0, 0) := by rw [HU2.out, heq]
            have HU3 := Lib.hid hu
            obtain ⟨xs, hxs⟩ := hP.own.row
            obtain ⟨A7, n7, c7, rfl⟩ := own_slice hxs
            clear hu heq hn5 hb5
            go_wp2_with (first | (refine wpList_load_blk rfl 35 35 (.tmp 7) rfl (w.heap.size + 3) rfl _ _ hP.box _ Tryd.underlying35 rfl (by kernel_rfl) ?_) | (refine wpList_store_blk rfl 35 35 (.tmp 2) _ rfl (w.heap.size + 1) rfl _ rfl _ hP.res (by kernel_rfl) rfl (by kernel_rfl) ?_; intro w9 hg9 ho9 hz9 hb9))
            refine bodyPost_ret (results_cell_tmp2 rfl _ _ (w.heap.size + 1) 35 _ _ _ rfl hg9 Tryd.underlying35 rfl (by kernel_rfl)) rfl ?_
            have hF := (hP.own.kept (grown_other hb9 ho9) fun g e => by injection e with e; subst e; exact ⟨_, _, _, hP.res, by decide, by decide⟩)
            rw [UnOwn, HU3.out]
            exact ⟨⟨_, rfl, hF.fns, hF⟩, hP.gr.trans (hb9.mono (by omega))⟩
theorem unpackAll {w : World} {v : Value} {l : List Int} (hs : Sl w w.heap.size 1 v (bv l)) (hmax : l.length ≤ 1000000) (hr : ∀ z ∈ l, 0 ≤ z ∧ z ≤ 255) :
    Calls Tryd.prog 24 #[v] w (UnAll l w) :=
  (unpackOwn hs hmax hr).mono fun _ _ ⟨⟨pv, h1, h2, _⟩, h3⟩ => ⟨⟨pv, h1, h2⟩, h3⟩
end P2
end Go.Proofs.YtjpnbjlhjlddbaaDoor
