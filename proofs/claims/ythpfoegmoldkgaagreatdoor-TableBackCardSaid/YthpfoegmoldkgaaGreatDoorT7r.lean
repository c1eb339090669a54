/- Plain law: what the program's Grown tells is what the reference's does. -/
import Derived.Test.YthpfoegmoldkgaaGreatDoorT7l
namespace Go.Proofs.YthpfoegmoldkgaaGreatDoor
open Go.RowKit
namespace P7

/-- The how-manieth kid of its parent a row is. -/
def rank (l : List Row) (i : Nat) : Nat := (kidsTo l (at_ l i).p i).length
def wayL (l : List Row) : Nat → Nat → List Nat
  | 0, _ => []
  | f + 1, i => if 0 ≤ (at_ l i).p then rank l i :: wayL l f (at_ l i).p.toNat else []
def findL (m : List Row) (w : List Nat) : Option Nat := w.foldr (fun x o => o.bind fun i => (kids m (i : Int))[x]?) (some 0)
def FF (l m : List Row) (i : Nat) : Option Nat := findL m (wayL l (i + 1) i)
def refBec (r s : Row) (first : Bool) : Bool :=
  if (first = false ∧ r.i ≠ s.i) ∨ r.f ≠ s.f then false
  else if came r = true then decide (r.k = s.k ∧ r.v = s.v ∧ r.s = s.s ∧ r.c = s.c)
  else if r.k = 1 then decide (s.k ≠ 0 ∧ r.s ≤ s.s) && Lib.hasPrefix s.c.data.toList r.c.data.toList
  else true
def okAt (l m : List Row) (i : Nat) : Bool := match FF l m i with
  | none => false
  | some k => refBec (at_ l i) (at_ m k) (decide (i = 0)) && !(came (at_ l i) && decide ((kids l i).length ≠ (kids m k).length))

theorem wayL_fuel {l : List Row} {N : Nat} (hu : Up l N) (hN : N ≤ l.length) : ∀ (i : Nat) (n m : Nat), i < N → i < n → i < m → wayL l n i = wayL l m i := by
  intro i
  induction i using Nat.strongRecOn with
  | ind i ih =>
    intro n m hi hn hm
    cases n with
    | zero => omega
    | succ n =>
      cases m with
      | zero => omega
      | succ m =>
        rw [wayL, wayL]
        by_cases hp : 0 ≤ (at_ l i).p
        · have := (hu i hi (by omega)).1
          rw [if_pos hp, if_pos hp, ih (at_ l i).p.toNat (by omega) n m (by omega) (by omega) (by omega)]
        · rw [if_neg hp, if_neg hp]
theorem FF_zero {l m : List Row} (h : (at_ l 0).p = -1) : FF l m 0 = some 0 := by
  rw [FF, wayL, if_neg (by omega)]; rfl
theorem FF_step {l m : List Row} (hT : Tab l) {i : Nat} (hi : i < l.length) (h0 : i ≠ 0) : FF l m i = (FF l m (at_ l i).p.toNat).bind fun k => (kids m (k : Int))[rank l i]? := by
  have hp := hT.up i hi hi
  have h1 := hp.2 h0
  rw [FF, wayL, if_pos h1, wayL_fuel hT.up (Nat.le_refl _) (at_ l i).p.toNat i ((at_ l i).p.toNat + 1) (by omega) (by omega) (by omega)]
  rfl
theorem kids_split {l : List Row} {c : Nat} (hc : c < l.length) : (kids l (at_ l c).p)[rank l c]? = some c := by
  have h : ∀ n, c < n → (kidsTo l (at_ l c).p n)[(kidsTo l (at_ l c).p c).length]? = some c := by
    intro n
    induction n with
    | zero => intro h; omega
    | succ n ih =>
      intro h
      rw [kidsTo_succ]
      by_cases e : c = n
      · subst e
        rw [if_pos rfl, List.getElem?_append_right (Nat.le_refl _)]
        simp
      · have := ih (by omega)
        rw [List.getElem?_append_left (List.getElem?_eq_some_iff.1 this).1]
        exact this
  exact h _ hc
theorem kids_nodup (l : List Row) (i : Int) : (kids l i).Nodup := List.Pairwise.filter _ List.nodup_range
theorem kid_rank {l : List Row} {i : Int} {n : Nat} (h : n < (kids l i).length) : rank l ((kids l i).getD n 0) = n := by
  obtain ⟨c, hc⟩ := name_of ((kids l i).getD n 0)
  have h1 := kids_at h
  rw [hc] at h1 ⊢
  have h2 := kids_split h1.1
  rw [h1.2] at h2
  have h5 : (kids l i)[n]? = some c := by rw [← hc, List.getD_eq_getElem?_getD, List.getElem?_eq_getElem h, Option.getD_some]
  exact ((List.getElem?_inj h (kids_nodup l i)).1 (h5.trans h2.symm)).symm
theorem Tab.root {l : List Row} (h : Tab l) : (at_ l 0).p = -1 ∧ (at_ l 0).i = 0 := by
  have h1 := right_up (h.row 0 h.pos)
  constructor
  · have := h1.1
    rw [placeOk, if_pos rfl] at this
    exact of_decide_eq_true this
  · have := h1.2.1
    simp only [spanOk, decide_eq_true_eq] at this
    exact this.2.1 trivial
theorem bec_ref {r s : Row} {a b : Nat} {first : Bool} (hf : first = true → r.i = s.i) : becameT r s a b = true ↔ refBec r s first = true ∧ a ≤ b ∧ (came r = true → a = b) := by
  unfold becameT refBec
  by_cases h1 : r.i = s.i
  · by_cases h2 : r.f = s.f
    · by_cases h3 : b < a
      · rw [if_pos (.inr (.inr h3))]
        constructor
        · intro h; cases h
        · rintro ⟨_, h, _⟩; omega
      · rw [if_neg (show ¬ (r.i ≠ s.i ∨ r.f ≠ s.f ∨ b < a) by rintro (h | h | h); exact h h1; exact h h2; exact h3 h), if_neg (show ¬ ((first = false ∧ r.i ≠ s.i) ∨ r.f ≠ s.f) by rintro (h | h); exact h.2 h1; exact h h2)]
        by_cases hc : came r = true
        · rw [if_pos hc, if_pos hc]
          simp only [Bool.and_eq_true, decide_eq_true_eq, Row.eq_iff, noP, h1, h2, true_and]
          constructor
          · rintro ⟨h, rfl⟩; exact ⟨h, Nat.le_refl _, fun _ => rfl⟩
          · rintro ⟨h, h4, h5⟩; exact ⟨h, (h5 hc).symm⟩
        · rw [if_neg hc, if_neg hc]
          exact ⟨fun h => ⟨h, by omega, fun e => absurd e hc⟩, fun h => h.1⟩
    · rw [if_pos (.inr (.inl h2)), if_pos (.inr h2)]
      simp
  · have : first = false := by
      cases first with
      | false => rfl
      | true => exact absurd (hf rfl) h1
    rw [if_pos (.inl h1), if_pos (.inl ⟨this, h1⟩)]
    simp
theorem grown_of {l m : List Row} (hl : Tab l) (h : grownT l m l.length 0 0 = true) : ∀ i, i < l.length → ∃ k f, FF l m i = some k ∧ l.length ≤ i + (f + 1) ∧ grownT l m (f + 1) i k = true := by
  intro i
  induction i using Nat.strongRecOn with
  | ind i ih =>
    intro hi
    by_cases h0 : i = 0
    · subst h0
      obtain ⟨f, hf⟩ : ∃ f, l.length = f + 1 := ⟨l.length - 1, by omega⟩
      rw [hf] at h
      exact ⟨0, f, FF_zero hl.root.1, by omega, h⟩
    · have hp := hl.up i hi hi
      have hp0 := hp.2 h0
      obtain ⟨k, f, h1, h2, h3⟩ := ih (at_ l i).p.toNat (by omega) (by omega)
      have hcast : (((at_ l i).p.toNat : Nat) : Int) = (at_ l i).p := by omega
      rw [grownT, hcast] at h3
      simp only [Bool.and_eq_true, List.all_eq_true, List.mem_range] at h3
      have h4 := became_more h3.1
      have h5 := kids_split hi
      obtain ⟨h6, h7⟩ := List.getElem?_eq_some_iff.1 h5
      have h8 := h3.2 (rank l i) h6
      have h9 : (kids l (at_ l i).p).getD (rank l i) 0 = i := by rw [List.getD_eq_getElem?_getD, h5]; rfl
      rw [h9] at h8
      have h10 : (kids m (k : Int))[rank l i]? = some ((kids m (k : Int)).getD (rank l i) 0) := by
        rw [List.getD_eq_getElem?_getD, List.getElem?_eq_getElem (by omega), Option.getD_some]
      cases f with
      | zero => omega
      | succ f => exact ⟨_, f, by rw [FF_step hl hi h0, h1]; exact h10, by omega, h8⟩
theorem FF_lt {l m : List Row} (hl : Tab l) (hm : Tab m) {i k : Nat} (hi : i < l.length) (h : FF l m i = some k) : k < m.length := by
  by_cases h0 : i = 0
  · subst h0
    rw [FF_zero hl.root.1] at h
    cases h
    exact hm.pos
  · rw [FF_step hl hi h0] at h
    cases hq : FF l m (at_ l i).p.toNat with
    | none => rw [hq] at h; cases h
    | some q =>
      rw [hq] at h
      exact (kids_mem.1 (List.mem_of_getElem? h)).1
theorem root_in {l m : List Row} (hl : Tab l) (hm : Tab m) {i k : Nat} (h : FF l m i = some k) : decide (i = 0) = true → (at_ l i).i = (at_ m k).i := by
  intro e
  have e := of_decide_eq_true e
  subst e
  rw [FF_zero hl.root.1] at h
  cases h
  rw [hl.root.2, hm.root.2]
theorem of_okAt {l m : List Row} (hl : Tab l) (hm : Tab m) (h : ∀ i, i < l.length → okAt l m i = true) : ∀ (f i k : Nat), FF l m i = some k → l.length ≤ i + f → i < l.length → grownT l m f i k = true := by
  intro f
  induction f with
  | zero => intro i k _ h1 h2; omega
  | succ f ih =>
    intro i k hF hf hi
    have hK : ∀ n, n < (kids l (i : Int)).length → ∃ c, (kids l (i : Int)).getD n 0 = c ∧ c < l.length ∧ i < c ∧ FF l m c = (kids m (k : Int))[n]? := by
      intro n hn
      have h1 := kids_at hn
      have h2 := kid_rank hn
      obtain ⟨c, hc⟩ := name_of ((kids l (i : Int)).getD n 0)
      rw [hc] at h1 h2
      have h3 := hl.up c h1.1 h1.1
      rw [h1.2] at h3
      have h4 : c ≠ 0 := by omega
      refine ⟨c, hc, h1.1, by omega, ?_⟩
      rw [FF_step hl h1.1 h4, h1.2, h2, show (i : Int).toNat = i from rfl, hF]
      rfl
    have hab : (kids l (i : Int)).length ≤ (kids m (k : Int)).length := by
      rcases Nat.eq_zero_or_pos (kids l (i : Int)).length with e | e
      · omega
      · obtain ⟨c, _, hc, _, h2⟩ := hK ((kids l (i : Int)).length - 1) (by omega)
        have h3 := h c hc
        rw [okAt, h2] at h3
        cases h4 : (kids m (k : Int))[(kids l (i : Int)).length - 1]? with
        | none => rw [h4] at h3; cases h3
        | some _ => have := (List.getElem?_eq_some_iff.1 h4).1; omega
    have h1 := h i hi
    rw [okAt, hF] at h1
    simp only [Bool.and_eq_true, Bool.not_eq_true', Bool.and_eq_false_iff, decide_eq_false_iff_not] at h1
    rw [grownT, Bool.and_eq_true]
    refine ⟨(bec_ref (root_in hl hm hF)).2 ⟨h1.1, hab, fun hc => ?_⟩, ?_⟩
    · rcases h1.2 with e | e
      · rw [hc] at e; cases e
      · omega
    · rw [List.all_eq_true]
      intro n hn
      have hn := List.mem_range.1 hn
      obtain ⟨c, hc, hcl, hic, h2⟩ := hK n hn
      rw [hc]
      refine ih c _ (h2.trans ?_) (by omega) hcl
      rw [List.getD_eq_getElem?_getD, List.getElem?_eq_getElem (by omega), Option.getD_some]
/-- The reference's Grown. -/
def refGrownT (l m : List Row) : Bool := decide (chk (l.length + 1) l = 0) && decide (chk (m.length + 1) m = 0) && (List.range l.length).all fun i => okAt l m i
theorem grown_ref (l m : List Row) : GrownT l m = refGrownT l m := by
  unfold GrownT refGrownT
  by_cases hl : Tab l
  · by_cases hm : Tab m
    · rw [decide_eq_true (show chk (l.length + 1) l = 0 from hl), decide_eq_true (show chk (m.length + 1) m = 0 from hm), Bool.true_and, Bool.true_and, Bool.true_and]
      rw [Bool.eq_iff_iff, List.all_eq_true]
      constructor
      · intro h i hi
        have hi := List.mem_range.1 hi
        obtain ⟨k, f, hF, hf, hg⟩ := grown_of hl h i hi
        rw [grownT, Bool.and_eq_true] at hg
        have h1 := (bec_ref (root_in hl hm hF)).1 hg.1
        rw [okAt, hF]
        simp only [Bool.and_eq_true, Bool.not_eq_true', Bool.and_eq_false_iff, decide_eq_false_iff_not]
        refine ⟨h1.1, ?_⟩
        cases hc : came (at_ l i) with
        | false => exact .inl rfl
        | true => exact .inr (fun e => e (h1.2.2 hc))
      · intro h
        exact of_okAt hl hm (fun i hi => h i (List.mem_range.2 hi)) _ 0 0 (FF_zero hl.root.1) (by omega) hl.pos
    · rw [decide_eq_false (show ¬ chk (m.length + 1) m = 0 from hm)]; simp
  · rw [decide_eq_false (show ¬ chk (l.length + 1) l = 0 from hl)]; simp
end P7
end Go.Proofs.YthpfoegmoldkgaaGreatDoor
