/- Audit: shots of the call's own; slices.Clone at rows, scopes, workers, numbers. -/
import Derived.Test.YtajbchecjbddgaaDoorH4
import Derived.Test.YtajbchecjbddgaaDoorH5
namespace Go.Proofs.YtajbchecjbddgaaDoor
open Go.RowKit
namespace P20
open P7

/-- A shot that the call owns, from a base on. -/
structure OwnS (base : Nat) (W : World) (vr vs vw : Value) (s : Sh) : Prop where
  rows : W.ownsRow base 64 7 vr s.l.length (rowsC s.l)
  scs : W.ownsRow base 36 6 vs s.sc.length (scsC s.sc)
  wks : ∃ cv : List (Value × Value), cv.length = s.ws.length ∧ W.ownsRow base 56 4 vw s.ws.length ((s.ws.zip cv).flatMap wkC) ∧ ∀ (k : Nat) (hk : k < s.ws.length) (c : Value × Value), cv[k]? = some c → W.ownsRow base 3 1 c.1 s.ws[k].st.length (iv s.ws[k].st) ∧ W.ownsRow base 3 1 c.2 s.ws[k].dq.length (iv s.ws[k].dq)
  len : s.l.length ≤ 1000
  rwf : ∀ r ∈ s.l, RowWf r
  scf : ∀ x ∈ s.sc, ScWf x
  wkf : ∀ x ∈ s.ws, WkWf x
section
variable {W W' : World} {base : Nat} {vr vs vw : Value} {s : Sh}
theorem OwnS.shm (h : OwnS base W vr vs vw s) : Shm W vr vs vw s := by
  obtain ⟨cv, h1, h2, h3⟩ := h.wks
  exact ⟨⟨Sl.own h.rows, by have := h.len; omega, h.rwf⟩, Sl.own h.scs, ⟨cv, h1, Sl.own h2, fun k hk c hc => ⟨Sl.own (h3 k hk c hc).1, Sl.own (h3 k hk c hc).2⟩⟩, h.scf, h.wkf⟩
theorem OwnS.same (h : OwnS base W vr vs vw s) (hk : ∀ g, base ≤ g → g < W.heap.size → W'.heap[g]? = W.heap[g]?) : OwnS base W' vr vs vw s := by
  have key : ∀ {e size n : Nat} {v : Value} {xs : List Value}, W.ownsRow base e size v n xs → W'.ownsRow base e size v n xs := fun ho => own_same ho fun g hg => hk g (ho.lt g hg).1 (ho.lt g hg).2
  obtain ⟨cv, h1, h2, h3⟩ := h.wks
  exact ⟨key h.rows, key h.scs, ⟨cv, h1, key h2, fun k hk c hc => ⟨key (h3 k hk c hc).1, key (h3 k hk c hc).2⟩⟩, h.len, h.rwf, h.scf, h.wkf⟩
theorem OwnS.next (h : OwnS base W vr vs vw s) (hb : Below W.heap.size W W') : OwnS base W' vr vs vw s := h.same fun g _ hg => hb.block g hg
end
theorem infoC_rows : (Tryd.prog.info? 64).map (fun i => (i.zero, i.size, i.bytes)) = some (some (rowV rowD), 7, 64) := by kernel_rfl
set_option maxRecDepth 10000 in
set_option maxHeartbeats 2000000 in
theorem clone_rows {w : World} {v : Value} {xs : List Value} {n : Nat} (h : Sl w w.heap.size 7 v xs) (hn : xs.length = n * 7) (hl : n ≤ 1000) (h1 : ∀ u ∈ xs, u.oneCell' = true) :
    Calls Tryd.prog 62 #[v] w fun e w' => (∃ v', e = .returned v' ∧ w'.ownsRow w.heap.size 64 7 v' n xs) ∧ Below w.heap.size w w' := by
  have h0 := h
  obtain ⟨A, m, c, rfl, hmc, hm, hA⟩ := h0
  have hmn : m = n := by omega
  subst hmn
  cases A with
  | none =>
    have hn0 : m = 0 := by
      rcases Nat.eq_zero_or_pos m with e | e
      · exact e
      · obtain ⟨b, off, e, _⟩ := hA e
        cases e
    subst hn0
    have hx : xs = [] := List.eq_nil_of_length_eq_zero (by simpa using hm)
    subst hx
    have hnT : ∀ n c w, (binOp .eql 22 (.slice none n c) (.slice none 0 0)).run Tryd.prog w = .ok (.bool true) w := fun n c w => Lib.run_eql_slice_nil w _ _ none n c 0 0 Tryd.underlying22
    clear h hA
    go_enter Tryd.func62, Tryd.ntmps62
    go_wp2_with fail
    go_ret
    exact ⟨⟨_, rfl, World.ownsRow_nil _ _ _ _⟩, Below.refl _ _⟩
  | some ad =>
    have hB : Below w.heap.size w (w.alloc (.cells #[] 64)) := by go_grown
    have hs2 := h.next hB
    have hm2 : Hid (xs.length = m * 7) := Lib.hid hm
    have h12 := Lib.hid h1
    have hown := own_empty w 64 7 w.heap.size (Nat.le_refl _)
    have hnF : ∀ ad n c w, (binOp .eql 22 (.slice (some ad) n c) (.slice none 0 0)).run Tryd.prog w = .ok (.bool false) w := fun ad n c w => Lib.run_eql_slice_nil w _ _ (some ad) n c 0 0 Tryd.underlying22
    clear h hA hn hm h1
    go_enter Tryd.func62, Tryd.ntmps62
    go_wp2_with (at_builtin; refine wpList_append_sl rfl (.tmp 5) (.tmp 6) 22 rfl w.heap.size 64 (rowV rowD) 7 64 Tryd.underlying22 infoC_rows rfl (by omega) _ _ _ rfl hown _ m _ _ rfl hs2 hm2.out h12.out (by omega) (by omega) hB.size ?_; intro v6 w6 hown6 hg6 hat6; have hB6 := below_append hB hown hg6 (Nat.le_refl _); obtain ⟨A6, m6, c6, rfl⟩ := PC.own_slice hown6)
    go_ret
    refine ⟨⟨_, rfl, ?_⟩, hB6⟩
    have := hown6
    rwa [Nat.zero_add, List.nil_append] at this
theorem infoC_scs : (Tryd.prog.info? 36).map (fun i => (i.zero, i.size, i.bytes)) = some (some (scV scD), 6, 40) := by kernel_rfl
set_option maxRecDepth 10000 in
set_option maxHeartbeats 2000000 in
theorem clone_scs {w : World} {v : Value} {xs : List Value} {n : Nat} (h : Sl w w.heap.size 6 v xs) (hn : xs.length = n * 6) (hl : n ≤ 1000) (h1 : ∀ u ∈ xs, u.oneCell' = true) :
    Calls Tryd.prog 63 #[v] w fun e w' => (∃ v', e = .returned v' ∧ w'.ownsRow w.heap.size 36 6 v' n xs) ∧ Below w.heap.size w w' := by
  have h0 := h
  obtain ⟨A, m, c, rfl, hmc, hm, hA⟩ := h0
  have hmn : m = n := by omega
  subst hmn
  cases A with
  | none =>
    have hn0 : m = 0 := by
      rcases Nat.eq_zero_or_pos m with e | e
      · exact e
      · obtain ⟨b, off, e, _⟩ := hA e
        cases e
    subst hn0
    have hx : xs = [] := List.eq_nil_of_length_eq_zero (by simpa using hm)
    subst hx
    have hnT : ∀ n c w, (binOp .eql 23 (.slice none n c) (.slice none 0 0)).run Tryd.prog w = .ok (.bool true) w := fun n c w => Lib.run_eql_slice_nil w _ _ none n c 0 0 Tryd.underlying23
    clear h hA
    go_enter Tryd.func63, Tryd.ntmps63
    go_wp2_with fail
    go_ret
    exact ⟨⟨_, rfl, World.ownsRow_nil _ _ _ _⟩, Below.refl _ _⟩
  | some ad =>
    have hB : Below w.heap.size w (w.alloc (.cells #[] 36)) := by go_grown
    have hs2 := h.next hB
    have hm2 : Hid (xs.length = m * 6) := Lib.hid hm
    have h12 := Lib.hid h1
    have hown := own_empty w 36 6 w.heap.size (Nat.le_refl _)
    have hnF : ∀ ad n c w, (binOp .eql 23 (.slice (some ad) n c) (.slice none 0 0)).run Tryd.prog w = .ok (.bool false) w := fun ad n c w => Lib.run_eql_slice_nil w _ _ (some ad) n c 0 0 Tryd.underlying23
    clear h hA hn hm h1
    go_enter Tryd.func63, Tryd.ntmps63
    go_wp2_with (at_builtin; refine wpList_append_sl rfl (.tmp 5) (.tmp 6) 23 rfl w.heap.size 36 (scV scD) 6 40 Tryd.underlying23 infoC_scs rfl (by omega) _ _ _ rfl hown _ m _ _ rfl hs2 hm2.out h12.out (by omega) (by omega) hB.size ?_; intro v6 w6 hown6 hg6 hat6; have hB6 := below_append hB hown hg6 (Nat.le_refl _); obtain ⟨A6, m6, c6, rfl⟩ := PC.own_slice hown6)
    go_ret
    refine ⟨⟨_, rfl, ?_⟩, hB6⟩
    have := hown6
    rwa [Nat.zero_add, List.nil_append] at this
theorem infoC_wks : (Tryd.prog.info? 56).map (fun i => (i.zero, i.size, i.bytes)) = some (some (.agg #[.bool false, .bool false, .slice none 0 0, .slice none 0 0]), 4, 56) := by kernel_rfl
set_option maxRecDepth 10000 in
set_option maxHeartbeats 2000000 in
theorem clone_wks {w : World} {v : Value} {xs : List Value} {n : Nat} (h : Sl w w.heap.size 4 v xs) (hn : xs.length = n * 4) (hl : n ≤ 1000) (h1 : ∀ u ∈ xs, u.oneCell' = true) :
    Calls Tryd.prog 64 #[v] w fun e w' => (∃ v', e = .returned v' ∧ w'.ownsRow w.heap.size 56 4 v' n xs) ∧ Below w.heap.size w w' := by
  have h0 := h
  obtain ⟨A, m, c, rfl, hmc, hm, hA⟩ := h0
  have hmn : m = n := by omega
  subst hmn
  cases A with
  | none =>
    have hn0 : m = 0 := by
      rcases Nat.eq_zero_or_pos m with e | e
      · exact e
      · obtain ⟨b, off, e, _⟩ := hA e
        cases e
    subst hn0
    have hx : xs = [] := List.eq_nil_of_length_eq_zero (by simpa using hm)
    subst hx
    have hnT : ∀ n c w, (binOp .eql 24 (.slice none n c) (.slice none 0 0)).run Tryd.prog w = .ok (.bool true) w := fun n c w => Lib.run_eql_slice_nil w _ _ none n c 0 0 Tryd.underlying24
    clear h hA
    go_enter Tryd.func64, Tryd.ntmps64
    go_wp2_with fail
    go_ret
    exact ⟨⟨_, rfl, World.ownsRow_nil _ _ _ _⟩, Below.refl _ _⟩
  | some ad =>
    have hB : Below w.heap.size w (w.alloc (.cells #[] 56)) := by go_grown
    have hs2 := h.next hB
    have hm2 : Hid (xs.length = m * 4) := Lib.hid hm
    have h12 := Lib.hid h1
    have hown := own_empty w 56 4 w.heap.size (Nat.le_refl _)
    have hnF : ∀ ad n c w, (binOp .eql 24 (.slice (some ad) n c) (.slice none 0 0)).run Tryd.prog w = .ok (.bool false) w := fun ad n c w => Lib.run_eql_slice_nil w _ _ (some ad) n c 0 0 Tryd.underlying24
    clear h hA hn hm h1
    go_enter Tryd.func64, Tryd.ntmps64
    go_wp2_with (at_builtin; refine wpList_append_sl rfl (.tmp 5) (.tmp 6) 24 rfl w.heap.size 56 (.agg #[.bool false, .bool false, .slice none 0 0, .slice none 0 0]) 4 56 Tryd.underlying24 infoC_wks rfl (by omega) _ _ _ rfl hown _ m _ _ rfl hs2 hm2.out h12.out (by omega) (by omega) hB.size ?_; intro v6 w6 hown6 hg6 hat6; have hB6 := below_append hB hown hg6 (Nat.le_refl _); obtain ⟨A6, m6, c6, rfl⟩ := PC.own_slice hown6)
    go_ret
    refine ⟨⟨_, rfl, ?_⟩, hB6⟩
    have := hown6
    rwa [Nat.zero_add, List.nil_append] at this
theorem infoC_ints : (Tryd.prog.info? 3).map (fun i => (i.zero, i.size, i.bytes)) = some (some (.int .i64 0), 1, 8) := by kernel_rfl
set_option maxRecDepth 10000 in
set_option maxHeartbeats 2000000 in
theorem clone_ints {w : World} {v : Value} {xs : List Value} {n : Nat} (h : Sl w w.heap.size 1 v xs) (hn : xs.length = n * 1) (hl : n ≤ 1000) (h1 : ∀ u ∈ xs, u.oneCell' = true) :
    Calls Tryd.prog 65 #[v] w fun e w' => (∃ v', e = .returned v' ∧ w'.ownsRow w.heap.size 3 1 v' n xs) ∧ Below w.heap.size w w' := by
  have h0 := h
  obtain ⟨A, m, c, rfl, hmc, hm, hA⟩ := h0
  have hmn : m = n := by omega
  subst hmn
  cases A with
  | none =>
    have hn0 : m = 0 := by
      rcases Nat.eq_zero_or_pos m with e | e
      · exact e
      · obtain ⟨b, off, e, _⟩ := hA e
        cases e
    subst hn0
    have hx : xs = [] := List.eq_nil_of_length_eq_zero (by simpa using hm)
    subst hx
    have hnT : ∀ n c w, (binOp .eql 54 (.slice none n c) (.slice none 0 0)).run Tryd.prog w = .ok (.bool true) w := fun n c w => Lib.run_eql_slice_nil w _ _ none n c 0 0 Tryd.underlying54
    clear h hA
    go_enter Tryd.func65, Tryd.ntmps65
    go_wp2_with fail
    go_ret
    exact ⟨⟨_, rfl, World.ownsRow_nil _ _ _ _⟩, Below.refl _ _⟩
  | some ad =>
    have hB : Below w.heap.size w (w.alloc (.cells #[] 3)) := by go_grown
    have hs2 := h.next hB
    have hm2 : Hid (xs.length = m * 1) := Lib.hid hm
    have h12 := Lib.hid h1
    have hown := own_empty w 3 1 w.heap.size (Nat.le_refl _)
    have hnF : ∀ ad n c w, (binOp .eql 54 (.slice (some ad) n c) (.slice none 0 0)).run Tryd.prog w = .ok (.bool false) w := fun ad n c w => Lib.run_eql_slice_nil w _ _ (some ad) n c 0 0 Tryd.underlying54
    clear h hA hn hm h1
    go_enter Tryd.func65, Tryd.ntmps65
    go_wp2_with (at_builtin; refine wpList_append_sl rfl (.tmp 5) (.tmp 6) 54 rfl w.heap.size 3 (.int .i64 0) 1 8 Tryd.underlying54 infoC_ints rfl (by omega) _ _ _ rfl hown _ m _ _ rfl hs2 hm2.out h12.out (by omega) (by omega) hB.size ?_; intro v6 w6 hown6 hg6 hat6; have hB6 := below_append hB hown hg6 (Nat.le_refl _); obtain ⟨A6, m6, c6, rfl⟩ := PC.own_slice hown6)
    go_ret
    refine ⟨⟨_, rfl, ?_⟩, hB6⟩
    have := hown6
    rwa [Nat.zero_add, List.nil_append] at this
end P20
end Go.Proofs.YtajbchecjbddgaaDoor
