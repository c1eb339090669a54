/- Table: a table's text is parsed as it; what is parsed is the text of what it is. Plain, no program in sight. -/
import Derived.Test.YthpfoegmoldkgaaGreatDoorTb1
namespace Go.Proofs.YthpfoegmoldkgaaGreatDoor
open Go.RowKit
namespace P7
open CutL NumL

/-! ### Rows ahead decide -/
theorem at_take {l : List Row} {K j : Nat} (h : j < K) : at_ (l.take K) j = at_ l j := by
  simp [at_, List.getD_eq_getElem?_getD, h]
theorem at_snoc {l : List Row} {r : Row} {j : Nat} (h : j < l.length) : at_ (l ++ [r]) j = at_ l j := by
  simp [at_, List.getD_eq_getElem?_getD, List.getElem?_append_left h]
theorem at_last (l : List Row) (r : Row) : at_ (l ++ [r]) l.length = r := by
  simp [at_, List.getD_eq_getElem?_getD]
theorem wi_neg {l : List Row} {of : Int} {n : Nat} {i : Int} (h : i < 0) : wi l of n i = false := by
  cases n with
  | zero => rfl
  | succ n => rw [wi, if_neg (by omega)]
/-- Two rows of rows that agree up to a place tell the same of what is within what up to it. -/
theorem wi_agree {l m : List Row} {K : Nat} (hl : K ≤ l.length) (hm : K ≤ m.length) (ha : ∀ j, j < K → at_ l j = at_ m j) (hu : ∀ j, j < K → (at_ l j).p < j) {of : Int} : ∀ (n : Nat) (i : Nat), i < K → wi l of n i = wi m of n i
  | 0, i, _ => rfl
  | n + 1, i, hi => by
    have e1 : wi l of (n + 1) i = if (i : Int) = of then true else wi l of n (at_ l i).p := by rw [wi, if_pos (by omega), Int.toNat_natCast]
    have e2 : wi m of (n + 1) i = if (i : Int) = of then true else wi m of n (at_ m i).p := by rw [wi, if_pos (by omega), Int.toNat_natCast]
    rw [e1, e2]
    by_cases he : (i : Int) = of
    · rw [if_pos he, if_pos he]
    · rw [if_neg he, if_neg he, ← ha i hi]
      have hp := hu i hi
      rcases Int.lt_or_le (at_ l i).p 0 with hn | hn
      · rw [wi_neg hn, wi_neg hn]
      · obtain ⟨q, hq⟩ := Int.eq_ofNat_of_zero_le hn
        rw [hq]
        exact wi_agree hl hm ha hu n q (by omega)
theorem right_agree {l m : List Row} {k n : Nat} (hl : k < l.length) (hm : k < m.length) (ha : ∀ j, j ≤ k → at_ l j = at_ m j) (hu : ∀ j, j < k → (at_ l j).p < j) : right n l k = right n m k := by
  have hk := ha k (Nat.le_refl _)
  have hpl : placeOk n l k = placeOk n m k := by
    unfold placeOk
    rw [hk]
    split
    · rfl
    · rename_i h0
      rw [show ((k : Int) - 1) = ((k - 1 : Nat) : Int) by omega, wi_agree (K := k) (by omega) (by omega) (fun j hj => ha j (by omega)) hu n (k - 1) (by omega)]
  by_cases hp : placeOk n m k = false
  · unfold right
    rw [hpl, if_pos hp, if_pos hp]
  · have hpt : placeOk n l k = true := by rw [hpl]; simpa using hp
    have hst : stateOk l k = stateOk m k := by
      unfold stateOk
      rw [hk]
      by_cases h0 : k = 0
      · simp [h0]
      · have hpp := place_up hpt
        have h1 := hpp.1
        have h2 := hpp.2 h0
        rw [hk] at h1 h2
        rw [ha (at_ m k).p.toNat (by omega)]
    unfold right
    rw [hpl, hk, hst]

/-! ### A text and its rows -/
theorem fm_congr {α β : Type} {f g : α → List β} : ∀ {l : List α}, (∀ x ∈ l, f x = g x) → l.flatMap f = l.flatMap g
  | [], _ => rfl
  | x :: l, h => by
    rw [List.flatMap_cons, List.flatMap_cons, h x (by simp), fm_congr fun y hy => h y (List.mem_cons_of_mem _ hy)]
theorem textTo_snoc (l : List Row) (r : Row) : textTo (l ++ [r]) (l.length + 1) = textTo l l.length ++ lineB r (decide (l.length = 0)) := by
  rw [textTo_succ, at_last]
  congr 1
  unfold textTo
  exact fm_congr fun j hj => by rw [at_snoc (List.mem_range.1 hj)]
/-- What holds of the rows so far. -/
def Good (l : List Row) : Prop := ∀ j, j < l.length → right l.length l j = 0
theorem good_nil : Good [] := fun j hj => absurd hj (by simp)
theorem good_up {l : List Row} (h : Good l) : ∀ j, j < l.length → (at_ l j).p < j := fun j hj => (place_up (right_up (h j hj)).1).1
theorem good_snoc {l : List Row} {r : Row} (h : Good l) (hr : right (l.length + 1) (l ++ [r]) l.length = 0) : Good (l ++ [r]) := by
  intro j hj
  rw [List.length_append, List.length_singleton] at hj ⊢
  have hu := good_up h
  rcases Nat.lt_or_ge j l.length with h1 | h1
  · have h2 : right l.length (l ++ [r]) j = right l.length l j := right_agree (by simp; omega) h1 (fun i hi => at_snoc (by omega)) (fun i hi => by rw [at_snoc (by omega)]; exact hu i (by omega))
    have h3 : ∀ i, i < j → right l.length (l ++ [r]) i = 0 := fun i hi => by
      rw [right_agree (m := l) (by simp; omega) (by omega) (fun x hx => at_snoc (by omega)) (fun x hx => by rw [at_snoc (by omega)]; exact hu x (by omega))]
      exact h i (by omega)
    have hup : Up (l ++ [r]) l.length := up_of_right (fuel := l.length) fun i hi => by
      rw [right_agree (m := l) (by simp; omega) hi (fun x hx => at_snoc (by omega)) (fun x hx => by rw [at_snoc (by omega)]; exact hu x (by omega))]
      exact h i hi
    have h4 : right (l.length + 1) (l ++ [r]) j = right l.length (l ++ [r]) j := by
      have hpl : placeOk (l.length + 1) (l ++ [r]) j = placeOk l.length (l ++ [r]) j := by
        unfold placeOk
        split
        · rfl
        · rw [show ((j : Int) - 1) = ((j - 1 : Nat) : Int) by omega, wi_fuel hup (j - 1) (l.length + 1) l.length (by omega) (by omega) (by omega)]
      unfold right
      rw [hpl]
    rw [h4, h2]
    exact h j h1
  · obtain rfl : j = l.length := by omega
    exact hr
theorem good_chk {l : List Row} (h : Good l) (h0 : l ≠ []) : chk (l.length + 1) l = 0 := by
  rw [chk_fuel (Nat.le_succ _) (Nat.le_refl l.length)]
  unfold chk
  rw [if_neg (fun e => h0 (List.eq_nil_of_length_eq_zero e))]
  exact firstW_ok _ _ fun j hj => by rw [Nat.zero_add]; exact h j hj
theorem chk_good {l : List Row} (h : chk (l.length + 1) l = 0) : Good l ∧ l ≠ [] := by
  rw [chk_fuel (Nat.le_succ _) (Nat.le_refl l.length)] at h
  unfold chk at h
  split at h
  · cases h
  · rename_i h0
    exact ⟨fun j hj => by have := firstW_zero _ _ h j hj; rwa [Nat.zero_add] at this, fun e => h0 (by rw [e]; rfl)⟩
/-- A row that is right may be printed. -/
theorem right_fit {n : Nat} {l : List Row} {k : Nat} (h : right n l k = 0) (hk : k < 9223372036854775807) (hv : -9223372036854775808 ≤ (at_ l k).v ∧ (at_ l k).v ≤ 9223372036854775807) (hi : (at_ l k).i ≤ 9223372036854775807) : Fit (at_ l k) (decide (k = 0)) := by
  obtain ⟨h1, h2, h3, h4⟩ := right_up h
  have hs := of_decide_eq_true h2
  have hp := place_up h1
  refine ⟨?_, by omega, by omega, by omega, hv, by omega, h3⟩
  by_cases h0 : k = 0
  · subst h0
    rw [show decide ((0 : Nat) = 0) = true from rfl, if_pos rfl]
    have : placeOk n l 0 = decide ((at_ l 0).p = -1) := rfl
    rw [this] at h1
    exact of_decide_eq_true h1
  · rw [decide_eq_false h0]
    simp only [Bool.false_eq_true, if_false]
    have := hp.1
    have := hp.2 h0
    omega
theorem first_flag {n : Nat} {l : List Row} {k : Nat} (h : right n l k = 0) : decide ((at_ l k).p = -1) = decide (k = 0) := by
  obtain ⟨h1, _⟩ := right_up h
  have hp := place_up h1
  by_cases h0 : k = 0
  · subst h0
    have : placeOk n l 0 = decide ((at_ l 0).p = -1) := rfl
    rw [this] at h1
    rw [h1]; rfl
  · rw [decide_eq_false h0]
    have := hp.2 h0
    exact decide_eq_false (by omega)
theorem line_cut {r : Row} {first : Bool} (h : Fit r first) (s : List UInt8) : cutB 10 (lineB r first ++ s) = (joinC 32 (wordsR r first), s, true) := by
  rw [line_words, List.append_assoc]
  exact cutB_hit 10 _ _ (join_no 10 (by decide) _ fun w hw hc => (words_no first h.k.1 h.k.2 h.c w hw 10 hc).2 rfl)

set_option maxHeartbeats 2000000 in
/-- What is printed is parsed as it was. -/
theorem parse_text : ∀ (m l : List Row) (f : Nat), m.length < f → Good (l ++ m) → (∀ r ∈ l ++ m, (-9223372036854775808 ≤ r.v ∧ r.v ≤ 9223372036854775807) ∧ r.i ≤ 9223372036854775807) → (l ++ m).length < 9223372036854775807 →
    ∀ t, textTo (l ++ m) (l ++ m).length = textTo l l.length ++ t → parseR f t l = some (l ++ m)
  | [], l, f + 1, _, _, _, _, t, ht => by
    rw [List.append_nil] at ht ⊢
    have : t = [] := by
      have := congrArg List.length ht
      rw [List.length_append] at this
      exact List.eq_nil_of_length_eq_zero (by omega)
    rw [parseR, if_pos this]
  | r :: m, l, f + 1, hf, hg, hv, hn, t, ht => by
    have hlt : l.length < (l ++ r :: m).length := by simp
    have hr0 := hg l.length hlt
    have hat : at_ (l ++ r :: m) l.length = r := by simp [at_, List.getD_eq_getElem?_getD]
    have hvr := hv r (by simp)
    have hfit := right_fit hr0 (by simp at hn; omega) (by rw [hat]; exact hvr.1) (by rw [hat]; exact hvr.2)
    rw [hat] at hfit
    have hsp : ∀ (x y : List Row), textTo (x ++ y) (x ++ y).length = textTo x x.length ++ ((List.range' x.length y.length).flatMap fun k => lineB (at_ (x ++ y) k) (decide (k = 0))) := by
      intro x y
      unfold textTo
      rw [List.length_append, List.range_eq_range', List.range_eq_range', ← List.range'_append_1, List.flatMap_append]
      congr 1
      · refine fm_congr fun j hj => ?_
        have : j < x.length := by simpa using hj
        rw [show at_ (x ++ y) j = at_ x j from by simp [at_, List.getD_eq_getElem?_getD, List.getElem?_append_left this]]
      · rw [Nat.zero_add]
    have e1 := hsp l (r :: m)
    have e2 := hsp (l ++ [r]) m
    rw [show l ++ [r] ++ m = l ++ r :: m by simp] at e2
    rw [ht] at e1 e2
    have ht2 : t = lineB r (decide (l.length = 0)) ++ ((List.range' (l ++ [r]).length m.length).flatMap fun k => lineB (at_ (l ++ r :: m) k) (decide (k = 0))) := by
      rw [List.length_append, List.length_singleton, textTo_snoc, List.append_assoc] at e2
      rw [List.length_append, List.length_singleton]
      exact List.append_cancel_left e2
    obtain ⟨t', ht'⟩ : ∃ t', t' = (List.range' (l ++ [r]).length m.length).flatMap fun k => lineB (at_ (l ++ r :: m) k) (decide (k = 0)) := ⟨_, rfl⟩
    rw [← ht'] at ht2
    have hne : t ≠ [] := by
      rw [ht2, line_words]
      simp
    have hc := line_cut hfit t'
    rw [← ht2] at hc
    have hgl : Good l := by
      intro j hj
      have hu := good_up hg
      have h1 := hg j (by omega)
      have h2 : ∀ i, i ≤ j → at_ (l ++ r :: m) i = at_ l i := fun i hi => by simp [at_, List.getD_eq_getElem?_getD, List.getElem?_append_left (show i < l.length by omega)]
      rw [right_agree (m := l) (by omega) hj h2 (fun i hi => hu i (by omega))] at h1
      have hul : Up l l.length := by
        intro i hi _
        have h3 := hg i (by omega)
        have h4 := place_up (right_up h3).1
        rwa [show at_ (l ++ r :: m) i = at_ l i from by simp [at_, List.getD_eq_getElem?_getD, List.getElem?_append_left hi]] at h4
      have hpl : placeOk l.length l j = placeOk (l ++ r :: m).length l j := by
        unfold placeOk
        split
        · rfl
        · rw [show ((j : Int) - 1) = ((j - 1 : Nat) : Int) by omega, wi_fuel hul (j - 1) l.length (l ++ r :: m).length (by omega) (by omega) (by omega)]
      unfold right at h1 ⊢
      rw [hpl]
      exact h1
    have hr1 : right (l.length + 1) (l ++ [r]) l.length = 0 := by
      have hu := good_up hg
      have h2 : ∀ i, i ≤ l.length → at_ (l ++ r :: m) i = at_ (l ++ [r]) i := fun i hi => by
        rcases Nat.lt_or_ge i l.length with h | h
        · simp [at_, List.getD_eq_getElem?_getD, List.getElem?_append_left h]
        · obtain rfl : i = l.length := by omega
          simp [at_, List.getD_eq_getElem?_getD]
      have h3 := hr0
      rw [right_agree (m := l ++ [r]) hlt (by simp) h2 (fun i hi => hu i (by omega))] at h3
      have hul : Up (l ++ [r]) (l.length + 1) := by
        intro i hi _
        have h4 := place_up (right_up (hg i (by simp at hlt ⊢; omega))).1
        rwa [h2 i (by omega)] at h4
      have hpl : placeOk (l.length + 1) (l ++ [r]) l.length = placeOk (l ++ r :: m).length (l ++ [r]) l.length := by
        unfold placeOk
        split
        · rfl
        · rename_i h0
          rw [show ((l.length : Int) - 1) = ((l.length - 1 : Nat) : Int) by omega, wi_fuel hul (l.length - 1) (l.length + 1) (l ++ r :: m).length (by omega) (by omega) (by omega)]
      unfold right at h3 ⊢
      rw [hpl]
      exact h3
    rw [parseR, if_neg hne, hc]
    simp only [Bool.true_eq_false, if_false]
    rw [row_print hfit]
    simp only
    rw [if_pos hr1, parse_text m (l ++ [r]) f (by simpa using hf) (by simpa using hg) (by simpa using hv) (by simpa using hn) t' (by
      rw [show l ++ [r] ++ m = l ++ r :: m by simp, ht, ht2, ← List.append_assoc, List.length_append, List.length_singleton, textTo_snoc])]
    simp
theorem print_parse {l : List Row} (h : chk (l.length + 1) l = 0) (hv : ∀ r ∈ l, (-9223372036854775808 ≤ r.v ∧ r.v ≤ 9223372036854775807) ∧ r.i ≤ 9223372036854775807) (hn : l.length < 9223372036854775807) {f : Nat} (hf : l.length < f) : parseR f (textTo l l.length) [] = some l := by
  have := parse_text l [] f hf (chk_good h).1 hv hn (textTo l l.length) (by simp [textTo])
  simpa using this
/-- What is parsed is the text of what it is. -/
theorem parse_print : ∀ (f : Nat) (s : List UInt8) (l m : List Row), s.length < f → Good l → parseR f s l = some m → Good m ∧ textTo m m.length = textTo l l.length ++ s ∧ (s ≠ [] → m ≠ [])
  | f + 1, s, l, m, hs, hg, h => by
    rw [parseR] at h
    by_cases h0 : s = []
    · rw [if_pos h0] at h
      injection h with h
      subst h
      exact ⟨hg, by rw [h0, List.append_nil], fun e => absurd h0 e⟩
    · rw [if_neg h0] at h
      cases hc : (cutB 10 s).2.2 with
      | false => rw [hc] at h; simp at h
      | true =>
        rw [hc] at h
        simp only [Bool.true_eq_false, if_false] at h
        have hlen := (cutB_len 10 s).2.2 h0
        have hjoin := (cutB_join 10 s hc).1
        cases hr : rowT (cutB 10 s).1 with
        | none => rw [hr] at h; cases h
        | some r =>
          rw [hr] at h
          simp only at h
          by_cases hk : right (l.length + 1) (l ++ [r]) l.length = 0
          · rw [if_pos hk] at h
            obtain ⟨h1, h2, -⟩ := parse_print f _ _ _ (by omega) (good_snoc hg hk) h
            have hbin := (right_up hk).2.2.1
            rw [at_last] at hbin
            have hfl := first_flag hk
            rw [at_last] at hfl
            obtain ⟨hb, -⟩ := row_back hr hbin
            refine ⟨h1, ?_, fun _ e => ?_⟩
            · rw [h2, List.length_append, List.length_singleton, textTo_snoc, ← hfl, line_words, hb, List.append_assoc, List.append_assoc]
              congr 1
            · rw [e, show textTo ([] : List Row) ([] : List Row).length = [] from rfl, show (l ++ [r]).length = l.length + 1 by simp, textTo_snoc, line_words] at h2
              have h3 := congrArg List.length h2
              simp only [List.length_nil, List.length_append, List.length_singleton] at h3
              omega
          · rw [if_neg hk] at h; cases h
end P7
end Go.Proofs.YthpfoegmoldkgaaGreatDoor
