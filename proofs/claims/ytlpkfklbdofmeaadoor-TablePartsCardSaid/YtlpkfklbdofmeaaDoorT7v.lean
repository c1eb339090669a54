/- Plain laws: what is within a row, as a table of its own. -/
import Derived.Test.YtlpkfklbdofmeaaDoorT7t
namespace Go.Proofs.YtlpkfklbdofmeaaDoor
open Go.RowKit
namespace P7

theorem an_up {l : List Row} (hU : Up l l.length) {x q : Nat} (hq : q < l.length) : an l x q = if q = x then true else if 0 ≤ (at_ l q).p then an l x (at_ l q).p.toNat else false := by
  unfold an
  rw [wi, if_pos ⟨by omega, by omega⟩, Int.toNat_natCast]
  by_cases h : q = x
  · rw [if_pos (by omega), if_pos h]
  · rw [if_neg (by omega), if_neg h]
    have hu := hU q hq hq
    by_cases hp : 0 ≤ (at_ l q).p
    · rw [if_pos hp]
      obtain ⟨p, hp'⟩ := Int.eq_ofNat_of_zero_le hp
      rw [hp'] at hu ⊢
      rw [Int.toNat_natCast]
      exact wi_fuel hU p q (p + 1) (by omega) (by omega) (by omega)
    · rw [if_neg hp]
      cases q with
      | zero => rfl
      | succ q => exact absurd (hu.2 (by omega)) hp
/-- A row's number of steps up does not matter. -/
theorem an_wi {l : List Row} (hU : Up l l.length) {x q n : Nat} (hq : q < l.length) (hn : q < n) : wi l (x : Int) n (q : Int) = an l x q := wi_fuel hU q n (q + 1) hq hn (by omega)

def cutRow (i k : Nat) (r : Row) : Row := if k = 0 then ⟨-1, 0, r.f, r.k, r.v, r.s, r.c⟩ else ⟨r.p - i, r.i, r.f, r.k, r.v, r.s, r.c⟩
def cutT (l : List Row) (i e : Nat) : List Row := (List.range (e - i)).map fun k => cutRow i k (at_ l (i + k))
@[simp] theorem cutT_length (l : List Row) (i e : Nat) : (cutT l i e).length = e - i := by simp [cutT]
theorem cutT_at (l : List Row) {i e k : Nat} (hk : k < e - i) : at_ (cutT l i e) k = cutRow i k (at_ l (i + k)) := by
  rw [at_eq (by simpa using hk)]
  simp [cutT]
theorem cutT_succ (l : List Row) {i e : Nat} (h : i ≤ e) : cutT l i (e + 1) = cutT l i e ++ [cutRow i (e - i) (at_ l e)] := by
  unfold cutT
  rw [show e + 1 - i = (e - i) + 1 by omega, List.range_succ, List.map_append, List.map_cons, List.map_nil, show i + (e - i) = e by omega]
theorem cutT_nil (l : List Row) (i : Nat) : cutT l i i = [] := by simp [cutT]
theorem cutRow_rest (i k : Nat) (r : Row) : (cutRow i k r).f = r.f ∧ (cutRow i k r).k = r.k ∧ (cutRow i k r).v = r.v ∧ (cutRow i k r).s = r.s ∧ (cutRow i k r).c = r.c := by
  unfold cutRow
  split <;> exact ⟨rfl, rfl, rfl, rfl, rfl⟩
theorem cutRow_p0 (i k : Nat) (r : Row) (h : k = 0) : (cutRow i k r).p = -1 := by unfold cutRow; rw [if_pos h]
theorem cutRow_p (i k : Nat) (r : Row) (h : k ≠ 0) : (cutRow i k r).p = r.p - i := by unfold cutRow; rw [if_neg h]
/-- The rows within row i are those from i on, up to e. -/
structure End (l : List Row) (i e : Nat) : Prop where
  lt : i < e
  le : e ≤ l.length
  ins : ∀ k, i ≤ k → k < e → an l i k = true
  out : ∀ k, e ≤ k → k < l.length → an l i k = false
theorem End.of {l : List Row} (hT : Tab l) {i e : Nat} (h1 : i < e) (h2 : e ≤ l.length) (h3 : ∀ k, i ≤ k → k < e → an l i k = true) (h4 : e < l.length → an l i e = false) : End l i e := by
  refine ⟨h1, h2, h3, fun k hk hkl => ?_⟩
  rw [Bool.eq_false_iff]
  intro h
  have := an_back hT h1 k hk hkl h
  rw [h4 (by omega)] at this
  cases this
theorem End.unique {l : List Row} {i e e' : Nat} (h : End l i e) (h' : End l i e') : e = e' := by
  rcases Nat.lt_trichotomy e e' with g | g | g
  · have := h.out e (Nat.le_refl _) (Nat.lt_of_lt_of_le g h'.le)
    rw [h'.ins e (Nat.le_of_lt h.lt) g] at this
    cases this
  · exact g
  · have := h'.out e' (Nat.le_refl _) (Nat.lt_of_lt_of_le g h.le)
    rw [h.ins e' (Nat.le_of_lt h'.lt) g] at this
    cases this
theorem an_self {l : List Row} (hT : Tab l) {i : Nat} (hi : i < l.length) : an l i i = true := by rw [an_step hT hi, if_pos rfl]
/-- Every row is within the first. -/
theorem an_root {l : List Row} (hT : Tab l) : ∀ q, q < l.length → an l 0 q = true := by
  intro q
  induction q using Nat.strongRecOn with
  | ind q ih =>
    intro hq
    rw [an_step hT hq]
    split
    · rfl
    · rename_i h
      have hu := hT.up q hq hq
      rw [if_pos (hu.2 h)]
      exact ih _ (by have := hu.2 h; omega) (by have := hu.2 h; omega)
theorem End.root {l : List Row} (hT : Tab l) : End l 0 l.length := ⟨hT.pos, Nat.le_refl _, fun k _ hk => an_root hT k hk, fun k h1 h2 => by omega⟩
theorem cutT_whole {l : List Row} (hT : Tab l) : cutT l 0 l.length = l := by
  refine List.ext_getElem (by simp) fun k h1 h2 => ?_
  rw [← at_eq h1, ← at_eq h2, cutT_at l (by simpa using h1), Nat.zero_add]
  unfold cutRow
  split
  · rename_i h
    subst h
    have := hT.root
    exact (Row.eq_iff _ _).2 ⟨this.1.symm, this.2.symm, rfl, rfl, rfl, rfl, rfl⟩
  · exact (Row.eq_iff _ _).2 ⟨by simp, rfl, rfl, rfl, rfl, rfl, rfl⟩
/-- A row within i, but i, has its parent within i. -/
theorem End.parent {l : List Row} (hT : Tab l) {i e q : Nat} (hE : End l i e) (h1 : i < q) (h2 : q < e) : (i : Int) ≤ (at_ l q).p ∧ (at_ l q).p < q := by
  have hq : q < l.length := Nat.lt_of_lt_of_le h2 hE.le
  have h := hE.ins q (Nat.le_of_lt h1) h2
  rw [an_step hT hq, if_neg (by omega)] at h
  have hu := hT.up q hq hq
  split at h
  · have := an_le hT _ (by omega) h
    omega
  · cases h
theorem cut_up {l : List Row} (hT : Tab l) {i e : Nat} (hE : End l i e) : Up (cutT l i e) (cutT l i e).length := by
  intro j hj _
  rw [cutT_length] at hj
  rw [cutT_at l hj]
  by_cases h : j = 0
  · rw [cutRow_p0 _ _ _ h]
    exact ⟨by omega, fun g => absurd h g⟩
  · rw [cutRow_p _ _ _ h]
    have := hE.parent hT (q := i + j) (by omega) (by omega)
    omega
theorem cut_an {l : List Row} (hT : Tab l) {i e : Nat} (hE : End l i e) {x : Nat} (hx : i ≤ x) : ∀ q, i ≤ q → q < e → an (cutT l i e) (x - i) (q - i) = an l x q := by
  intro q
  induction q using Nat.strongRecOn with
  | ind q ih =>
    intro h1 h2
    have hle := hE.le
    rw [an_up (cut_up hT hE) (by rw [cutT_length]; omega), an_step hT (by omega), cutT_at l (by omega), show i + (q - i) = q by omega]
    by_cases e1 : q = x
    · rw [if_pos (by omega), if_pos e1]
    · rw [if_neg (by omega), if_neg e1]
      by_cases e2 : q = i
      · rw [cutRow_p0 _ _ _ (by omega), if_neg (by omega)]
        split
        · rw [Eq.comm, Bool.eq_false_iff]
          intro h
          have hu := hT.up q (by omega) (by omega)
          have := an_le hT _ (by omega) h
          omega
        · rfl
      · rw [cutRow_p _ _ _ (by omega)]
        have hp := hE.parent hT (q := q) (by omega) h2
        rw [if_pos (by omega), if_pos (by omega), show ((at_ l q).p - i).toNat = (at_ l q).p.toNat - i by omega]
        exact ih _ (by omega) (by omega) (by omega)
theorem cut_tab {l : List Row} (hT : Tab l) {i e : Nat} (hE : End l i e) : Tab (cutT l i e) := by
  unfold Tab chk
  rw [if_neg (by rw [cutT_length]; have := hE.lt; omega)]
  refine firstW_ok _ _ fun j hj => ?_
  rw [Nat.zero_add]
  rw [cutT_length] at hj
  have hle := hE.le
  have hij : i + j < l.length := by omega
  obtain ⟨r1, r2, r3, r4⟩ := right_up (hT.row (i + j) hij)
  obtain ⟨c1, c2, c3, c4, c5⟩ := cutRow_rest i j (at_ l (i + j))
  have hat := cutT_at l hj
  have p1 : placeOk ((cutT l i e).length + 1) (cutT l i e) j = true := by
    unfold placeOk
    by_cases h0 : j = 0
    · rw [if_pos h0, hat, h0]; rfl
    · rw [if_neg h0, hat]
      have hp := hE.parent hT (q := i + j) (by omega) (by omega)
      have hc : (cutRow i j (at_ l (i + j))).p = (at_ l (i + j)).p - i := by unfold cutRow; rw [if_neg h0]
      rw [hc, Bool.and_eq_true, decide_eq_true_eq]
      refine ⟨by omega, ?_⟩
      have hpl := (an_place hT (i := i + j - 1) (by omega)).2.2
      rw [show i + j - 1 + 1 = i + j by omega] at hpl
      have h1 := cut_an hT hE (x := (at_ l (i + j)).p.toNat) (by omega) (i + j - 1) (by omega) (by omega)
      rw [hpl, show i + j - 1 - i = j - 1 by omega] at h1
      have h2 := an_wi (cut_up hT hE) (x := (at_ l (i + j)).p.toNat - i) (q := j - 1) (n := (cutT l i e).length + 1) (by rw [cutT_length]; omega) (by rw [cutT_length]; omega)
      rw [h1, show (((at_ l (i + j)).p.toNat - i : Nat) : Int) = (at_ l (i + j)).p - i by omega, show ((j - 1 : Nat) : Int) = (j : Int) - 1 by omega] at h2
      exact h2
  have p2 : spanOk (at_ (cutT l i e) j) (decide (j = 0)) = true := by
    simp only [spanOk, decide_eq_true_eq] at r2 ⊢
    rw [hat, c1, c2, c4]
    unfold cutRow
    split
    · exact ⟨Int.le_refl _, fun _ => rfl, r2.2.2.1, r2.2.2.2.1, r2.2.2.2.2⟩
    · rename_i h0
      exact ⟨r2.1, fun h => absurd h h0, r2.2.2.1, r2.2.2.2.1, r2.2.2.2.2⟩
  have p3 : binOk (at_ (cutT l i e) j).c = true := by rw [hat, c5]; exact r3
  have p4 : stateOk (cutT l i e) j = true := by
    unfold stateOk selfOk underOk at r4 ⊢
    rw [Bool.and_eq_true] at r4 ⊢
    refine ⟨?_, ?_⟩
    · rw [hat, c2, c3, c4, c5]; exact r4.1
    · by_cases h0 : j = 0
      · rw [decide_eq_true h0]; rfl
      · rw [decide_eq_false h0, Bool.false_or]
        have h2 := r4.2
        rw [decide_eq_false (by omega), Bool.false_or] at h2
        have hp := hE.parent hT (q := i + j) (by omega) (by omega)
        have hc : (at_ (cutT l i e) j).p = (at_ l (i + j)).p - i := by rw [hat]; unfold cutRow; rw [if_neg h0]
        rw [hc, cutT_at l (by omega), hat, c2, (cutRow_rest _ _ _).2.1, show i + ((at_ l (i + j)).p - i).toNat = (at_ l (i + j)).p.toNat by omega]
        exact h2
  unfold right
  rw [p1, p2, p3, p4]
  rfl
theorem cut_done {l : List Row} {i e : Nat} (hle : e ≤ l.length) (h : DoneT l = true) : DoneT (cutT l i e) = true := by
  unfold DoneT
  rw [List.all_eq_true]
  intro r hr
  obtain ⟨j, hj, rfl⟩ := List.getElem_of_mem hr
  rw [← at_eq hj]
  rw [cutT_length] at hj
  rw [cutT_at l hj]
  have := DoneT_at h (i := i + j) (by omega)
  unfold came at this ⊢
  rw [(cutRow_rest _ _ _).2.1]
  exact this
theorem End.cut {l : List Row} (hT : Tab l) {i e k e2 : Nat} (hE : End l i e) (h2 : End (cutT l i e) k e2) : End l (i + k) (i + e2) := by
  have hlt := h2.lt
  have hle2 := h2.le
  rw [cutT_length] at hle2
  have hle := hE.le
  have hl := hE.lt
  have hsh : ∀ q, i ≤ q → q < e → an (cutT l i e) k (q - i) = an l (i + k) q := fun q h1 h3 => by
    have := cut_an hT hE (x := i + k) (by omega) q h1 h3
    rwa [Nat.add_sub_cancel_left] at this
  refine ⟨by omega, by omega, fun q h1 h3 => ?_, fun q h1 h3 => ?_⟩
  · rw [← hsh q (by omega) (by omega)]
    exact h2.ins _ (by omega) (by omega)
  · by_cases h4 : q < e
    · rw [← hsh q (by omega) h4]
      exact h2.out _ (by omega) (by rw [cutT_length]; omega)
    · rw [Bool.eq_false_iff]
      intro h
      have := an_trans hT (hE.ins (i + k) (by omega) (by omega)) q h3 h
      rw [hE.out q (by omega) h3] at this
      cases this
theorem cut_cut {l : List Row} {i e k e2 : Nat} (h : e2 ≤ e - i) : cutT (cutT l i e) k e2 = cutT l (i + k) (i + e2) := by
  refine List.ext_getElem (by simp; omega) fun j h1 h2 => ?_
  rw [← at_eq h1, ← at_eq h2]
  rw [cutT_length] at h1 h2
  rw [cutT_at _ h1, cutT_at _ h2, cutT_at _ (by omega), Nat.add_assoc]
  unfold cutRow
  by_cases h0 : j = 0
  · rw [if_pos h0, if_pos h0]
    split <;> rfl
  · rw [if_neg h0, if_neg h0, if_neg (by omega)]
    exact (Row.eq_iff _ _).2 ⟨by simp; omega, rfl, rfl, rfl, rfl, rfl, rfl⟩
theorem cut_small {l : List Row} {i e : Nat} (hle : e ≤ l.length) (h : Small l) : Small (cutT l i e) := by
  refine ⟨by rw [cutT_length]; have := h.1; omega, fun k hk => ?_⟩
  rw [cutT_length] at hk
  rw [cutT_at l hk, (cutRow_rest _ _ _).2.2.2.2]
  exact h.2 _ (by omega)
theorem cut_within {l : List Row} (hT : Tab l) {i e n : Nat} (hE : End l i e) (hn : n < l.length) : wi l (i : Int) l.length (n : Int) = (decide (i ≤ n) && decide (n < e)) := by
  rw [an_wi hT.up hn hn]
  by_cases h1 : i ≤ n
  · by_cases h2 : n < e
    · rw [hE.ins n h1 h2, decide_eq_true h1, decide_eq_true h2]; rfl
    · rw [hE.out n (by omega) hn, decide_eq_false h2, Bool.and_false]
  · rw [decide_eq_false h1, Bool.false_and, Bool.eq_false_iff]
    intro h
    have := an_le hT n hn h
    omega
end P7
end Go.Proofs.YtlpkfklbdofmeaaDoor
