/- Plain laws: Grown is an order. -/
import Derived.Test.YthpfoegmoldkgaaGreatDoorT7r
namespace Go.Proofs.YthpfoegmoldkgaaGreatDoor
open Go.RowKit
namespace P7

theorem Tab.kind {l : List Row} (h : Tab l) {i : Nat} (hi : i < l.length) : 0 ≤ (at_ l i).k := by
  have h1 := (right_up (h.row i hi)).2.1
  simp only [spanOk, decide_eq_true_eq] at h1
  omega
theorem Tab.self {l : List Row} (h : Tab l) {i : Nat} (hi : i < l.length) : ((at_ l i).v = 0 ∨ (at_ l i).k = 2 ∨ (at_ l i).k = 3) ∧ ((at_ l i).k = 0 → (at_ l i).s = 0 ∧ (at_ l i).c.size = 0) := by
  have h1 := (right_up (h.row i hi)).2.2.2
  unfold stateOk selfOk at h1
  rw [Bool.and_eq_true, decide_eq_true_eq] at h1
  exact h1.1
theorem bec_split {r s : Row} {a b : Nat} (h : becameT r s a b = true) : r.i = s.i ∧ r.f = s.f ∧ a ≤ b ∧ (if came r = true then decide (noP r = noP s) && decide (b = a)
  else if r.k = 1 then decide (s.k ≠ 0 ∧ r.s ≤ s.s) && Lib.hasPrefix s.c.data.toList r.c.data.toList
  else true) = true := by
  unfold becameT at h
  split at h
  · cases h
  · rename_i hn
    have h1 : r.i = s.i := by
      by_cases e : r.i = s.i
      · exact e
      · exact absurd (.inl e) hn
    have h2 : r.f = s.f := by
      by_cases e : r.f = s.f
      · exact e
      · exact absurd (.inr (.inl e)) hn
    have h3 : a ≤ b := by
      rcases Nat.lt_or_ge b a with e | e
      · exact absurd (.inr (.inr e)) hn
      · exact e
    exact ⟨h1, h2, h3, h⟩
theorem bec_mk {r s : Row} {a b : Nat} (h1 : r.i = s.i) (h2 : r.f = s.f) (h3 : a ≤ b) (h : (if came r = true then decide (noP r = noP s) && decide (b = a)
  else if r.k = 1 then decide (s.k ≠ 0 ∧ r.s ≤ s.s) && Lib.hasPrefix s.c.data.toList r.c.data.toList
  else true) = true) : becameT r s a b = true := by
  unfold becameT
  rw [if_neg (by rintro (e | e | e); exact e h1; exact e h2; omega)]
  exact h
theorem pre_refl (c : ByteArray) : Lib.hasPrefix c.data.toList c.data.toList = true := by
  unfold Lib.hasPrefix
  rw [List.isPrefixOf_iff_prefix]
  exact List.prefix_refl _
theorem bec_refl (r : Row) (a : Nat) : becameT r r a a = true := by
  refine bec_mk rfl rfl (Nat.le_refl _) ?_
  split
  · simp
  · split
    · rename_i h
      rw [pre_refl, h]
      simp
    · rfl
theorem noP_k {r s : Row} (h : noP r = noP s) : r.i = s.i ∧ r.f = s.f ∧ r.k = s.k ∧ r.v = s.v ∧ r.s = s.s ∧ r.c = s.c := by
  have := (Row.eq_iff _ _).1 h
  exact this.2
theorem bec_trans {r s t : Row} {a b c : Nat} (hs : 0 ≤ s.k) (h1 : becameT r s a b = true) (h2 : becameT s t b c = true) : becameT r t a c = true := by
  obtain ⟨a1, a2, a3, a4⟩ := bec_split h1
  obtain ⟨b1, b2, b3, b4⟩ := bec_split h2
  refine bec_mk (a1.trans b1) (a2.trans b2) (Nat.le_trans a3 b3) ?_
  by_cases hr : came r = true
  · rw [if_pos hr] at a4 ⊢
    simp only [Bool.and_eq_true, decide_eq_true_eq] at a4 ⊢
    have hk := (noP_k a4.1).2.2.1
    have hcs : came s = true := by
      unfold came at hr ⊢
      rwa [← hk]
    rw [if_pos hcs] at b4
    simp only [Bool.and_eq_true, decide_eq_true_eq] at b4
    exact ⟨a4.1.trans b4.1, b4.2.trans a4.2⟩
  · rw [if_neg hr] at a4 ⊢
    by_cases hk : r.k = 1
    · rw [if_pos hk] at a4 ⊢
      simp only [Bool.and_eq_true, decide_eq_true_eq, Lib.hasPrefix, List.isPrefixOf_iff_prefix] at a4 ⊢
      by_cases hcs : came s = true
      · rw [if_pos hcs] at b4
        simp only [Bool.and_eq_true, decide_eq_true_eq] at b4
        obtain ⟨-, -, e1, -, e2, e3⟩ := noP_k b4.1
        rw [← e1, ← e2, ← e3]
        exact a4
      · rw [if_neg hcs] at b4
        have hs1 : s.k = 1 := by
          unfold came at hcs
          simp only [decide_eq_true_eq] at hcs
          have := a4.1.1
          omega
        rw [if_pos hs1] at b4
        simp only [Bool.and_eq_true, decide_eq_true_eq, Lib.hasPrefix, List.isPrefixOf_iff_prefix] at b4
        exact ⟨⟨b4.1.1, Int.le_trans a4.1.2 b4.1.2⟩, List.IsPrefix.trans a4.2 b4.2⟩
    · rw [if_neg hk]
theorem bytes_inj {a b : ByteArray} (h : a.data.toList = b.data.toList) : a = b := by
  obtain ⟨a⟩ := a
  obtain ⟨b⟩ := b
  have := Array.toList_inj.1 h
  simp only at this
  rw [this]
theorem bec_anti {r s : Row} {a b : Nat} (hr0 : 0 ≤ r.k) (hs0 : 0 ≤ s.k) (hr : (r.v = 0 ∨ r.k = 2 ∨ r.k = 3) ∧ (r.k = 0 → r.s = 0 ∧ r.c.size = 0)) (hs : (s.v = 0 ∨ s.k = 2 ∨ s.k = 3) ∧ (s.k = 0 → s.s = 0 ∧ s.c.size = 0))
    (h1 : becameT r s a b = true) (h2 : becameT s r b a = true) : noP r = noP s ∧ a = b := by
  obtain ⟨a1, a2, a3, a4⟩ := bec_split h1
  obtain ⟨b1, b2, b3, b4⟩ := bec_split h2
  refine ⟨?_, by omega⟩
  by_cases cr : came r = true
  · rw [if_pos cr] at a4
    simp only [Bool.and_eq_true, decide_eq_true_eq] at a4
    exact a4.1
  · by_cases cs : came s = true
    · rw [if_pos cs] at b4
      simp only [Bool.and_eq_true, decide_eq_true_eq] at b4
      exact b4.1.symm
    · rw [if_neg cr] at a4
      rw [if_neg cs] at b4
      unfold came at cr cs
      simp only [decide_eq_true_eq] at cr cs
      have hv : r.v = 0 := by omega
      have hv' : s.v = 0 := by omega
      by_cases hk : r.k = 1
      · rw [if_pos hk] at a4
        simp only [Bool.and_eq_true, decide_eq_true_eq, Lib.hasPrefix, List.isPrefixOf_iff_prefix] at a4
        have hk' : s.k = 1 := by omega
        rw [if_pos hk'] at b4
        simp only [Bool.and_eq_true, decide_eq_true_eq, Lib.hasPrefix, List.isPrefixOf_iff_prefix] at b4
        have hl := List.IsPrefix.eq_of_length a4.2 (Nat.le_antisymm a4.2.length_le b4.2.length_le)
        exact (Row.eq_iff _ _).2 ⟨rfl, a1, a2, hk.trans hk'.symm, hv.trans hv'.symm, by have := a4.1.2; have := b4.1.2; show r.s = s.s; omega, bytes_inj hl⟩
      · have hk0 : r.k = 0 := by omega
        have hk' : s.k = 0 := by
          by_cases e : s.k = 1
          · rw [if_pos e] at b4
            simp only [Bool.and_eq_true, decide_eq_true_eq] at b4
            exact absurd hk0 b4.1.1
          · omega
        have e1 := hr.2 hk0
        have e2 := hs.2 hk'
        refine (Row.eq_iff _ _).2 ⟨rfl, a1, a2, hk0.trans hk'.symm, hv.trans hv'.symm, e1.1.trans e2.1.symm, ?_⟩
        refine bytes_inj ?_
        have z1 : r.c.data.toList = [] := List.length_eq_zero_iff.1 (by simpa using e1.2)
        have z2 : s.c.data.toList = [] := List.length_eq_zero_iff.1 (by simpa using e2.2)
        exact z1.trans z2.symm

theorem grownT_split {l m : List Row} {f i k : Nat} (h : grownT l m (f + 1) i k = true) : becameT (at_ l i) (at_ m k) (kids l i).length (kids m k).length = true ∧ ∀ n, n < (kids l i).length → grownT l m f ((kids l i).getD n 0) ((kids m k).getD n 0) = true := by
  rw [grownT, Bool.and_eq_true, List.all_eq_true] at h
  exact ⟨h.1, fun n hn => h.2 n (List.mem_range.2 hn)⟩
theorem grownT_mk {l m : List Row} {f i k : Nat} (h1 : becameT (at_ l i) (at_ m k) (kids l i).length (kids m k).length = true) (h2 : ∀ n, n < (kids l i).length → grownT l m f ((kids l i).getD n 0) ((kids m k).getD n 0) = true) : grownT l m (f + 1) i k = true := by
  rw [grownT, Bool.and_eq_true, List.all_eq_true]
  exact ⟨h1, fun n hn => h2 n (List.mem_range.1 hn)⟩
theorem grownT_refl {l : List Row} (hT : Tab l) : ∀ (f i : Nat), i < l.length → l.length ≤ i + f → grownT l l f i i = true
  | 0, i, hi, hf => by omega
  | f + 1, i, hi, hf => by
    refine grownT_mk (bec_refl _ _) fun n hn => ?_
    have h1 := kids_at hn
    obtain ⟨c, hc⟩ := name_of ((kids l (i : Int)).getD n 0)
    rw [hc] at h1 ⊢
    have h2 := hT.up c h1.1 h1.1
    rw [h1.2] at h2
    exact grownT_refl hT f c h1.1 (by omega)
theorem grownT_trans {l m n : List Row} (hm : Tab m) : ∀ (f f' i k j : Nat), k < m.length → grownT l m f i k = true → grownT m n f' k j = true → grownT l n f i j = true
  | 0, _, _, _, _, _, h, _ => by cases h
  | _ + 1, 0, _, _, _, _, _, h => by cases h
  | f + 1, f' + 1, i, k, j, hk, h1, h2 => by
    obtain ⟨a1, a2⟩ := grownT_split h1
    obtain ⟨b1, b2⟩ := grownT_split h2
    have h3 := became_more a1
    refine grownT_mk (bec_trans (hm.kind hk) a1 b1) fun x hx => ?_
    exact grownT_trans hm f f' _ _ _ (kids_at (by omega)).1 (a2 x hx) (b2 x (by omega))

/-! ### Two tables of one shape are one -/
def an (l : List Row) (x q : Nat) : Bool := wi l (x : Int) (q + 1) (q : Int)
theorem an_step {l : List Row} (hT : Tab l) {x q : Nat} (hq : q < l.length) : an l x q = if q = x then true else if 0 ≤ (at_ l q).p then an l x (at_ l q).p.toNat else false := by
  unfold an
  rw [wi, if_pos ⟨by omega, by omega⟩, Int.toNat_natCast]
  by_cases h : q = x
  · rw [if_pos (by omega), if_pos h]
  · rw [if_neg (by omega), if_neg h]
    have hu := hT.up q hq hq
    by_cases hp : 0 ≤ (at_ l q).p
    · rw [if_pos hp]
      obtain ⟨p, hp'⟩ := Int.eq_ofNat_of_zero_le hp
      rw [hp'] at hu ⊢
      rw [Int.toNat_natCast]
      exact wi_fuel hT.up p q (p + 1) (by omega) (by omega) (by omega)
    · rw [if_neg hp]
      cases q with
      | zero => rfl
      | succ q => exact absurd (hu.2 (by omega)) hp
theorem an_le {l : List Row} (hT : Tab l) {x : Nat} : ∀ q, q < l.length → an l x q = true → x ≤ q := by
  intro q
  induction q using Nat.strongRecOn with
  | ind q ih =>
    intro hq h
    rw [an_step hT hq] at h
    split at h
    · omega
    · split at h
      · have hu := hT.up q hq hq
        have := ih (at_ l q).p.toNat (by omega) (by omega) h
        omega
      · cases h
theorem an_trans {l : List Row} (hT : Tab l) {x y : Nat} (h1 : an l x y = true) : ∀ z, z < l.length → an l y z = true → an l x z = true := by
  intro z
  induction z using Nat.strongRecOn with
  | ind z ih =>
    intro hz h
    by_cases e : z = y
    · subst e; exact h1
    · rw [an_step hT hz, if_neg e] at h
      split at h
      · rename_i hp
        have hu := hT.up z hz hz
        have h2 := ih (at_ l z).p.toNat (by omega) (by omega) h
        rw [an_step hT hz, if_pos hp]
        split
        · rfl
        · exact h2
      · cases h
theorem an_place {l : List Row} (hT : Tab l) {i : Nat} (hi : i + 1 < l.length) : 0 ≤ (at_ l (i + 1)).p ∧ (at_ l (i + 1)).p < i + 1 ∧ an l (at_ l (i + 1)).p.toNat i = true := by
  have h1 := (right_up (hT.row (i + 1) hi)).1
  unfold placeOk at h1
  rw [if_neg (by omega), Bool.and_eq_true, decide_eq_true_eq] at h1
  refine ⟨h1.1.1, by omega, ?_⟩
  have h2 := h1.2
  rw [show (((i + 1 : Nat) : Int) - 1) = (i : Int) by omega] at h2
  unfold an
  rw [Int.toNat_of_nonneg h1.1.1]
  rw [← h2]
  exact wi_fuel hT.up i _ _ (by omega) (by omega) (by omega)
theorem an_back {l : List Row} (hT : Tab l) {x i : Nat} (hx : x < i) : ∀ q, i ≤ q → q < l.length → an l x q = true → an l x i = true := by
  intro q
  induction q with
  | zero => intro h; omega
  | succ q ih =>
    intro hiq hq h
    by_cases e : i = q + 1
    · subst e; exact h
    · obtain ⟨p1, p2, p3⟩ := an_place hT hq
      rw [an_step hT hq, if_neg (by omega), if_pos p1] at h
      exact ih (by omega) (by omega) (an_trans hT h q (by omega) p3)
theorem kidsTo_congr {l m : List Row} {n : Nat} (h : ∀ j, j < n → (at_ l j).p = (at_ m j).p) (x : Int) : kidsTo l x n = kidsTo m x n := by
  unfold kidsTo
  refine List.filter_congr fun k hk => ?_
  rw [h k (List.mem_range.1 hk)]
theorem kidsTo_later {l : List Row} {x : Int} {i : Nat} : ∀ n, i ≤ n → (kidsTo l x i).length ≤ (kidsTo l x n).length ∧ ((kidsTo l x i).length < (kidsTo l x n).length → ∃ q, i ≤ q ∧ q < n ∧ (at_ l q).p = x) ∧ (∀ q, i ≤ q → q < n → (at_ l q).p = x → (kidsTo l x i).length < (kidsTo l x n).length) := by
  intro n
  induction n with
  | zero =>
    intro h
    have : i = 0 := by omega
    subst this
    exact ⟨Nat.le_refl _, fun h => absurd h (Nat.lt_irrefl _), fun q h1 h2 => by omega⟩
  | succ n ih =>
    intro h
    by_cases e : i = n + 1
    · subst e
      exact ⟨Nat.le_refl _, fun h => absurd h (Nat.lt_irrefl _), fun q h1 h2 => by omega⟩
    · obtain ⟨h1, h2, h3⟩ := ih (by omega)
      rw [kidsTo_succ]
      by_cases hp : (at_ l n).p = x
      · rw [if_pos hp, List.length_append]
        refine ⟨by omega, fun _ => ⟨n, by omega, by omega, hp⟩, fun q _ _ _ => ?_⟩
        show _ < _ + 1
        omega
      · rw [if_neg hp, List.append_nil]
        refine ⟨h1, fun h => ?_, fun q g1 g2 g3 => ?_⟩
        · obtain ⟨q, g1, g2, g3⟩ := h2 h
          exact ⟨q, g1, by omega, g3⟩
        · by_cases e : q = n
          · subst e; exact absurd g3 hp
          · exact h3 q g1 (by omega) g3
/-- Where two tables are alike so far, and have as many kids of each row so far, the next row of the one is one of the other, and its parent no later. -/
theorem next_le {l m : List Row} (hl : Tab l) (hm : Tab m) {i : Nat} (h0 : 0 < i) (hil : i ≤ l.length) (him : i < m.length) (hag : ∀ j, j < i → (at_ l j).p = (at_ m j).p)
    (hct : ∀ j, j < i → (kids l (j : Int)).length = (kids m (j : Int)).length) : i < l.length ∧ (at_ m i).p ≤ (at_ l i).p := by
  have hu := hm.up i him him
  have hp := hu.2 (by omega)
  obtain ⟨p, hpp⟩ := Int.eq_ofNat_of_zero_le hp
  rw [hpp] at hu ⊢
  have hpi : p < i := by omega
  have h1 : (kidsTo m (p : Int) i).length < (kids m (p : Int)).length := (kidsTo_later m.length (by omega)).2.2 i (Nat.le_refl _) him hpp
  rw [← hct p hpi, ← kidsTo_congr hag] at h1
  obtain ⟨q, g1, g2, g3⟩ := (kidsTo_later (l := l) (x := (p : Int)) (i := i) l.length hil).2.1 h1
  have ha : an l p q = true := by
    have := hl.up q g2 g2
    rw [an_step hl g2, if_neg (by omega), if_pos (by omega), g3, Int.toNat_natCast, an_step hl (by omega), if_pos rfl]
  have hb := an_back hl hpi q g1 g2 ha
  refine ⟨by omega, ?_⟩
  rw [an_step hl (by omega), if_neg (by omega)] at hb
  have hul := hl.up i (by omega) (by omega)
  split at hb
  · have := an_le hl _ (by omega) hb
    omega
  · cases hb
theorem same_of {l m : List Row} (hl : Tab l) (hm : Tab m) (R : Nat → Nat → Prop) (h0 : R 0 0) (hR : ∀ i k, i < l.length → k < m.length → R i k → noP (at_ l i) = noP (at_ m k) ∧ (kids l (i : Int)).length = (kids m (k : Int)).length ∧ ∀ n, n < (kids l (i : Int)).length → R ((kids l (i : Int)).getD n 0) ((kids m (k : Int)).getD n 0)) : l = m := by
  have hmain : ∀ i, i ≤ l.length → i ≤ m.length → ∀ j, j < i → (at_ l j).p = (at_ m j).p ∧ R j j := by
    intro i
    induction i with
    | zero => intro _ _ j h; omega
    | succ i ih =>
      intro h1 h2 j hj
      have hi := ih (by omega) (by omega)
      by_cases e : j = i
      · subst e
        by_cases hz : j = 0
        · subst hz
          exact ⟨hl.root.1.trans hm.root.1.symm, h0⟩
        · have hct : ∀ q, q < j → (kids l (q : Int)).length = (kids m (q : Int)).length := fun q hq => (hR q q (by omega) (by omega) (hi q hq).2).2.1
          have e1 := (next_le hl hm (by omega) (by omega) (by omega) (fun q hq => (hi q hq).1) hct).2
          have e2 := (next_le hm hl (by omega) (by omega) (by omega) (fun q hq => (hi q hq).1.symm) (fun q hq => (hct q hq).symm)).2
          have e3 : (at_ l j).p = (at_ m j).p := Int.le_antisymm e2 e1
          refine ⟨e3, ?_⟩
          have hu := hl.up j (by omega) (by omega)
          obtain ⟨p, hp⟩ := Int.eq_ofNat_of_zero_le (hu.2 hz)
          have hpj : p < j := by omega
          have r1 := kids_split (l := l) (c := j) (by omega)
          have r2 := kids_split (l := m) (c := j) (by omega)
          have r3 : rank l j = rank m j := by
            unfold rank
            rw [e3, kidsTo_congr (fun q hq => (hi q hq).1)]
          rw [← e3, hp, ← r3] at r2
          rw [hp] at r1
          have r4 := (hR p p (by omega) (by omega) (hi p hpj).2).2.2 (rank l j) (List.getElem?_eq_some_iff.1 r1).1
          rw [List.getD_eq_getElem?_getD, List.getD_eq_getElem?_getD, r1, r2] at r4
          exact r4
      · exact hi j (by omega)
  have hlen : l.length = m.length := by
    have hpl := hl.pos
    have hpm := hm.pos
    rcases Nat.lt_trichotomy l.length m.length with h | h | h
    · have hi := hmain l.length (Nat.le_refl _) (by omega)
      have := (next_le hl hm (i := l.length) hpl (Nat.le_refl _) h (fun q hq => (hi q hq).1) (fun q hq => (hR q q (by omega) (by omega) (hi q hq).2).2.1)).1
      omega
    · exact h
    · have hi := hmain m.length (by omega) (Nat.le_refl _)
      have := (next_le hm hl (i := m.length) hpm (Nat.le_refl _) h (fun q hq => (hi q hq).1.symm) (fun q hq => (hR q q (by omega) (by omega) (hi q hq).2).2.1.symm)).1
      omega
  refine List.ext_getElem hlen fun i h1 h2 => ?_
  obtain ⟨e1, e2⟩ := hmain l.length (Nat.le_refl _) (by omega) i h1
  have e3 := noP_k (hR i i h1 h2 e2).1
  rw [at_eq h1, at_eq h2] at e1 e3
  exact (Row.eq_iff _ _).2 ⟨e1, e3⟩

/-! ### GrownT -/
theorem GrownT_iff {l m : List Row} : GrownT l m = true ↔ Tab l ∧ Tab m ∧ grownT l m l.length 0 0 = true := by
  unfold GrownT Tab
  rw [Bool.and_eq_true, Bool.and_eq_true, decide_eq_true_eq, decide_eq_true_eq, and_assoc]
theorem GrownT_self (l : List Row) : GrownT l l = decide (chk (l.length + 1) l = 0) := by
  by_cases h : Tab l
  · rw [decide_eq_true (show chk (l.length + 1) l = 0 from h)]
    exact GrownT_iff.2 ⟨h, h, grownT_refl h _ _ h.pos (by omega)⟩
  · rw [decide_eq_false (show ¬ chk (l.length + 1) l = 0 from h), Bool.eq_false_iff]
    exact fun e => h (GrownT_iff.1 e).1
theorem GrownT_trans {l m n : List Row} (h1 : GrownT l m = true) (h2 : GrownT m n = true) : GrownT l n = true := by
  obtain ⟨a1, a2, a3⟩ := GrownT_iff.1 h1
  obtain ⟨b1, b2, b3⟩ := GrownT_iff.1 h2
  exact GrownT_iff.2 ⟨a1, b2, grownT_trans a2 _ _ _ _ _ a2.pos a3 b3⟩
theorem GrownT_anti {l m : List Row} (h1 : GrownT l m = true) (h2 : GrownT m l = true) : l = m := by
  obtain ⟨hl, hm, a3⟩ := GrownT_iff.1 h1
  obtain ⟨-, -, b3⟩ := GrownT_iff.1 h2
  refine same_of hl hm (fun i k => (∃ f, grownT l m f i k = true) ∧ ∃ f, grownT m l f k i = true) ⟨⟨_, a3⟩, ⟨_, b3⟩⟩ ?_
  rintro i k hi hk ⟨⟨f, h1⟩, ⟨f', h2⟩⟩
  cases f with
  | zero => cases h1
  | succ f =>
    cases f' with
    | zero => cases h2
    | succ f' =>
      obtain ⟨a1, a2⟩ := grownT_split h1
      obtain ⟨b1, b2⟩ := grownT_split h2
      obtain ⟨e1, e2⟩ := bec_anti (hl.kind hi) (hm.kind hk) (hl.self hi) (hm.self hk) a1 b1
      exact ⟨e1, e2, fun n hn => ⟨⟨_, a2 n hn⟩, ⟨_, b2 n (by omega)⟩⟩⟩
def DoneT (l : List Row) : Bool := l.all came
theorem DoneT_at {l : List Row} (h : DoneT l = true) {i : Nat} (hi : i < l.length) : came (at_ l i) = true := by
  unfold DoneT at h
  rw [List.all_eq_true] at h
  rw [at_eq hi]
  exact h _ (List.getElem_mem hi)
theorem GrownT_done {l m : List Row} (h1 : GrownT l m = true) (hd : DoneT l = true) : l = m := by
  obtain ⟨hl, hm, a3⟩ := GrownT_iff.1 h1
  refine same_of hl hm (fun i k => ∃ f, grownT l m f i k = true) ⟨_, a3⟩ ?_
  rintro i k hi hk ⟨f, h1⟩
  cases f with
  | zero => cases h1
  | succ f =>
    obtain ⟨a1, a2⟩ := grownT_split h1
    obtain ⟨-, -, -, b⟩ := bec_split a1
    rw [if_pos (DoneT_at hd hi), Bool.and_eq_true, decide_eq_true_eq, decide_eq_true_eq] at b
    exact ⟨b.1, b.2.symm, fun n hn => ⟨_, a2 n hn⟩⟩
end P7
end Go.Proofs.YthpfoegmoldkgaaGreatDoor
