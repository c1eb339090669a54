/- Walk: Unpack. -/
import Derived.Test.YtjpnbjlhjlddbaaDoorUo
namespace Go.Proofs.YtjpnbjlhjlddbaaDoor
open Go.RowKit
namespace P2

theorem info_fn : (Tryd.prog.info? 52).map (fun i => (i.zero, i.size, i.bytes)) = some (some (.agg #[.int .i64 0, .slice none 0 0]), 2, 32) := by kernel_rfl

theorem insGo_place (l : List Int) : ∀ (m : Nat) (acc : List Ins) (a : Nat), (insGo l m acc a).2.1 = 0 ∨ (insGo l m acc a).2.1 = 11 ∨ 8 ≤ (insGo l m acc a).2.2
  | 0, acc, a => .inl rfl
  | m + 1, acc, a => by
    rw [insGo]
    split
    · exact .inr (.inl rfl)
    · split
      · exact insGo_place l m _ _
      · exact .inr (.inr (by show 8 ≤ a + 8; omega))
theorem fnGo_place (l : List Int) (a : Nat) : (fnGo l a).2.1 = 0 ∨ (fnGo l a).2.1 = 11 ∨ ((fnGo l a).2.1 = 12 ∧ 1 ≤ (fnGo l a).2.2) ∨ 8 ≤ (fnGo l a).2.2 := by
  unfold fnGo
  split
  · exact .inr (.inl rfl)
  · split
    · exact .inr (.inr (.inl ⟨rfl, by show 1 ≤ a + 2; omega⟩))
    · rcases insGo_place l (l.getD (a + 1) 0).toNat [] (a + 2) with h | h | h
      · exact .inl h
      · exact .inr (.inl h)
      · exact .inr (.inr (.inr h))

/-- Functions whose rows are all the call's own. -/
def FnsOwn (w : World) (B : Nat) (v : Value) (p : List Fn) : Prop :=
  ∃ cv : List Value, cv.length = p.length ∧ w.ownsRow B 52 2 v p.length ((p.zip cv).flatMap fnC) ∧ ∀ (k : Nat) (hk : k < p.length) (c : Value), cv[k]? = some c → w.ownsRow B 23 5 c p[k].2.length (codeC p[k].2)
section
variable {w w' : World} {B : Nat} {v : Value} {p : List Fn}
theorem FnsOwn.fns (h : FnsOwn w B v p) : Fns w w.heap.size v p := by
  obtain ⟨cv, h1, h2, h3⟩ := h
  exact ⟨cv, h1, Sl.own h2, fun k hk c hc => Sl.own (h3 k hk c hc)⟩
theorem own_kept {e size n : Nat} {x : Value} {xs : List Value} {row : Option Nat} (h : w.ownsRow B e size x n xs) (hg : w.grownBy w' row) (hr : ∀ g, row = some g → ∃ cs t fr, w.heap[g]? = some (.cells cs t fr) ∧ e ≠ t) : w'.ownsRow B e size x n xs := by
  refine h.kept hg ?_
  rcases row with _ | g
  · cases hx : x.ownBlock
    · exact .inl rfl
    · exact .inr (by simp)
  · obtain ⟨cs, t, fr, hh, hne⟩ := hr g rfl
    exact .inr fun e => own_ne h hh hne e.symm
theorem FnsOwn.kept {row : Option Nat} (h : FnsOwn w B v p) (hg : w.grownBy w' row) (hr : ∀ g, row = some g → ∃ cs t fr, w.heap[g]? = some (.cells cs t fr) ∧ 52 ≠ t ∧ 23 ≠ t) : FnsOwn w' B v p := by
  obtain ⟨cv, h1, h2, h3⟩ := h
  exact ⟨cv, h1, own_kept h2 hg fun g e => by obtain ⟨cs, t, fr, a, b, c⟩ := hr g e; exact ⟨cs, t, fr, a, b⟩, fun k hk c hc => own_kept (h3 k hk c hc) hg fun g e => by obtain ⟨cs, t, fr, a, b, c⟩ := hr g e; exact ⟨cs, t, fr, a, c⟩⟩
theorem FnsOwn.below (h : FnsOwn w B v p) (hb : Below w.heap.size w w') : FnsOwn w' B v p := h.kept (grown_of_below hb) fun g e => by cases e
theorem FnsOwn.row (h : FnsOwn w B v p) : ∃ xs, w.ownsRow B 52 2 v p.length xs := by
  obtain ⟨cv, h1, h2, h3⟩ := h
  exact ⟨_, h2⟩
/-- Behind an append of a function. -/
theorem FnsOwn.append {xs : List Value} (h : FnsOwn w B v p) {f : Fn} {c v' : Value} (hc : w.ownsRow B 23 5 c f.2.length (codeC f.2)) (hg : w.grownBy w' v.ownBlock) (hx : w.ownsRow B 52 2 v p.length xs)
    (hn : w'.ownsRow B 52 2 v' (p.length + 1) (xs ++ fnC (f, c))) : FnsOwn w' B v' (p ++ [f]) := by
  obtain ⟨cv, h1, h2, h3⟩ := h
  have hxs : xs = (p.zip cv).flatMap fnC := by
    rcases hx.2 with ⟨e1, e2⟩ | ⟨g, cap, cur, e1, _, e3, _, _, e6, e7⟩
    · have a1 := hx.1
      have a2 := h2.1
      rw [e2, Nat.zero_mul] at a1 a2
      rw [List.eq_nil_of_length_eq_zero a1, List.eq_nil_of_length_eq_zero a2]
    · rcases h2.2 with ⟨d1, d2⟩ | ⟨g', cap', cur', d1, _, d3, _, _, d6, d7⟩
      · rw [d1] at e1; cases e1
      · rw [e1] at d1
        injection d1 with d1 _ _
        injection d1 with d1
        injection d1 with d1
        subst d1
        rw [e3] at d3
        injection d3 with d3
        injection d3 with d3
        rw [← e7, ← d7, d3]
  subst hxs
  have hk : ∀ {n : Nat} {x : Value} {ys : List Value}, w.ownsRow B 23 5 x n ys → w'.ownsRow B 23 5 x n ys := by
    intro n x ys ho
    refine own_kept ho hg fun g e => ?_
    rcases h2.2 with ⟨d1, d2⟩ | ⟨g', cap', cur', d1, _, d3, _⟩
    · rw [d1] at e; cases e
    · rw [d1] at e
      have : g' = g := by simpa [Value.ownBlock] using e
      subst this
      exact ⟨_, _, _, d3, by decide⟩
  refine ⟨cv ++ [c], by simp [h1], ?_, ?_⟩
  · refine own_len hn (by simp) ?_
    rw [List.zip_append h1.symm, List.flatMap_append]
    simp
  · intro k hlt c' hc'
    by_cases hkp : k < p.length
    · rw [List.getElem?_append_left (by omega)] at hc'
      have e : (p ++ [f])[k] = p[k] := List.getElem_append_left hkp
      rw [e]
      exact hk (h3 k hkp c' hc')
    · have hkl : k = p.length := by simp at hlt; omega
      subst hkl
      rw [List.getElem?_append_right (by omega), h1, Nat.sub_self] at hc'
      have hcc : c = c' := by simpa using hc'
      subst hcc
      have e : (p ++ [f])[p.length] = f := by simp
      rw [e]
      exact hk hc
end

/-- Unpack's memory: the boxes of the bytes, of the result, of the place, of the program. -/
structure PM (w : World) (l : List Int) (pv : Value) (p : List Fn) (a : Nat) (wr : World) : Prop where
  gr : Below w.heap.size w wr
  tk : Taker wr w.heap.size (w.heap.size + 2) w.heap.size l a
  res : wr.heap[w.heap.size + 1]? = some (.cells #[.slice none 0 0] 35 (0, 0))
  box : wr.heap[w.heap.size + 3]? = some (.cells #[pv] 35 (0, 0))
  own : FnsOwn wr w.heap.size pv p
section
variable {w wr w' : World} {l : List Int} {pv : Value} {p : List Fn} {a a' : Nat}
theorem PM.taken (h : PM w l pv p a wr) (hg : wr.grownBy w' (some (w.heap.size + 2))) (ht : Taker w' w.heap.size (w.heap.size + 2) w.heap.size l a') : PM w l pv p a' w' :=
  ⟨h.gr.grown hg h.gr.size (fun k e => by injection e; omega), ht, grown_block hg h.res (by intro e; injection e; omega), grown_block hg h.box (by intro e; injection e; omega),
    h.own.kept hg fun g e => by injection e with e; subst e; exact ⟨_, _, _, h.tk.1, by decide, by decide⟩⟩
theorem PM.kept (h : PM w l pv p a wr) (hg : wr.grownBy w' none) (ht : Taker w' w.heap.size (w.heap.size + 2) w.heap.size l a) : PM w l pv p a w' := h.taken (hg.but _) ht
theorem PM.below (h : PM w l pv p a wr) (hb : Below wr.heap.size wr w') : PM w l pv p a w' := h.kept (grown_of_below hb) (h.tk.below hb)
theorem PM.turned (h : PM w l pv p a wr) {xs : List Value} {f : Fn} {c v' : Value} (hc : wr.ownsRow w.heap.size 23 5 c f.2.length (codeC f.2)) (hg : wr.grownBy w' pv.ownBlock) (hx : wr.ownsRow w.heap.size 52 2 pv p.length xs)
    (hn : w'.ownsRow w.heap.size 52 2 v' (p.length + 1) (xs ++ fnC (f, c))) : PM w l v' (p ++ [f]) a (w'.setCell ⟨w.heap.size + 3, 0, none⟩ v') := by
  have hrow : ∀ j, pv.ownBlock = some j → w.heap.size ≤ j := fun j e => (hx.lt j e).1
  have hb6 := grown_block hg h.box (own_ne hx h.box (by decide))
  have hr6 := grown_block hg h.res (own_ne hx h.res (by decide))
  have ht6 := grown_block hg h.tk.1 (own_ne hx h.tk.1 (by decide))
  obtain ⟨A, n, cc, ht1, ht2⟩ := h.tk.2.1
  have htb := own_ne hx ht1 (by decide)
  have hta := own_ne hx h.tk.1 (by decide)
  have hs := grownBy_setCell_at w' (w.heap.size + 3) 0 v'
  refine ⟨(h.gr.grown hg h.gr.size hrow).setCell (by show w.heap.size ≤ w.heap.size + 3; omega) _, (h.tk.grown hg fun j e => ?_).grown hs fun j e => ?_, (Below.heap_setCell _ _ _ _ (by simp)).trans hr6,
    heap_setCell_same w' (w.heap.size + 3) 0 _ _ v' hb6, (h.own.append hc hg hx hn).kept hs fun g e => ?_⟩
  · exact ⟨hrow j e, fun e' => hta (by rw [e, e']), fun e' => htb (by rw [e, e'])⟩
  · injection e; omega
  · injection e with e; subst e; exact ⟨_, _, _, hb6, by decide, by decide⟩
end
def PmR (w : World) (l : List Int) (n : Nat) (i : Value) (wr : World) : Prop :=
  ∃ (k : Nat) (pv : Value) (acc : List Fn) (a : Nat), k ≤ n ∧ i = .int .i64 k ∧ PM w l pv acc a wr ∧ acc.length = k ∧ unGo l n [] 1 = unGo l (n - k) acc a
def UnAll (l : List Int) (w : World) (e : Ending) (w' : World) : Prop :=
  (∃ pv, e = .returned (.tuple #[.agg #[pv], .int .i64 (un l).2.1, .int .i64 (un l).2.2]) ∧ Fns w' w'.heap.size pv (un l).1) ∧ Below w.heap.size w w'
end P2
end Go.Proofs.YtjpnbjlhjlddbaaDoor
