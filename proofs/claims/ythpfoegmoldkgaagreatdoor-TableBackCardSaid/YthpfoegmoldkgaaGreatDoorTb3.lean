/- Table: number. -/
import Derived.Test.YthpfoegmoldkgaaGreatDoorTb2
import Derived.Test.YthpfoegmoldkgaaGreatDoorT7j
import Derived.Test.YthpfoegmoldkgaaGreatDoorPc
namespace Go.Proofs.YthpfoegmoldkgaaGreatDoor
open Go.RowKit
namespace P7
open CutL NumL

/-! ### Plain -/
theorem parseM_val {M : Nat} : ∀ (l : List UInt8) (acc u : Nat), Lib.parseUintM M acc l = .ok u → u = valF acc l
  | [], acc, u, h => by rw [Lib.parseUintM] at h; injection h with h; rw [valF_nil]; exact h.symm
  | c :: r, acc, u, h => by
    rw [Lib.parseUintM] at h
    split at h
    · split at h
      · cases h
      · split at h
        · cases h
        · rw [valF_cons]; exact parseM_val r _ u h
    · cases h
theorem parseM_dig {M : Nat} : ∀ (l : List UInt8) (acc : Nat), l.all isDig = true → Lib.parseUintM M acc l ≠ Lib.NumEnd.syntax
  | [], acc, _ => by rw [Lib.parseUintM]; intro h; cases h
  | c :: r, acc, h => by
    rw [List.all_cons, Bool.and_eq_true] at h
    have hc := of_decide_eq_true h.1
    rw [Lib.parseUintM, if_pos hc]
    split
    · intro h; cases h
    · split
      · intro h; cases h
      · exact parseM_dig r _ h.2
def dropM (l : List UInt8) : List UInt8 := Lib.trimPrefix l [45]
theorem dropM_neg (d : List UInt8) : dropM (45 :: d) = d := by simp [dropM, Lib.trimPrefix, Lib.hasPrefix]
theorem dropM_pos {l : List UInt8} (h : l.head? ≠ some 45) : dropM l = l := by
  cases l with
  | nil => rfl
  | cons c r =>
    have hc : c ≠ 45 := fun e => h (by rw [e]; rfl)
    have h2 : (45 == c) = false := by rw [beq_eq_false_iff_ne]; exact fun e => hc e.symm
    simp [dropM, Lib.trimPrefix, Lib.hasPrefix, List.isPrefixOf, h2]
/-- Is a text digits alone, behind a minus that may be there, and no nought too many ahead? -/
def wellN (l : List UInt8) : Prop := dropM l ≠ [] ∧ ¬ ((dropM l).head? = some 48 ∧ 1 < l.length) ∧ (dropM l).all isDig = true
theorem numT_well {l : List UInt8} {n : Int} (h : numT l = some n) : wellN l := by
  have h1 := (numT_iff.1 h).1
  rcases itoa_parts n with ⟨a, rfl, e⟩ | ⟨a, ha, rfl, e⟩
  · rw [e] at h1
    subst h1
    have hd := dec_val a
    have hp := dropM_pos (dec_no45 a)
    unfold wellN
    rw [hp]
    refine ⟨hd.2.2.1, fun h2 => ?_, hd.2.1⟩
    have := hd.2.2.2 h2.1
    subst this
    exact absurd h2.2 (by decide +kernel)
  · rw [e] at h1
    subst h1
    have hd := dec_val a
    unfold wellN
    rw [dropM_neg]
    exact ⟨hd.2.2.1, fun h2 => by have := hd.2.2.2 h2.1; omega, hd.2.1⟩
theorem well_parse {l : List UInt8} (h : wellN l) : Lib.parseIntB 64 l ≠ Lib.NumEnd.syntax ∧ ∀ v, Lib.parseIntB 64 l = .ok v → Lib.itoa v = l := by
  obtain ⟨h1, h2, h3⟩ := h
  cases l with
  | nil => exact absurd rfl h1
  | cons c r =>
    by_cases hc : c = 45
    · subst hc
      rw [dropM_neg] at h1 h2 h3
      have h48 : r.head? ≠ some 48 := fun e => h2 ⟨e, by
        have := List.length_pos_iff.2 h1
        simp; omega⟩
      have hU : Lib.parseUintB 64 r = Lib.parseUintM (2 ^ 64 - 1) 0 r := by unfold Lib.parseUintB; rw [if_neg h1]
      have hI : Lib.parseIntB 64 (45 :: r) = (match Lib.parseUintB 64 r with
        | Lib.NumEnd.syntax => Lib.NumEnd.syntax
        | Lib.NumEnd.range => Lib.NumEnd.range
        | .ok u => if ¬ ((45 : UInt8).toNat = 45) ∧ 2 ^ (64 - 1) ≤ u then .range else if (45 : UInt8).toNat = 45 ∧ 2 ^ (64 - 1) < u then .range else .ok (if (45 : UInt8).toNat = 45 then -(u : Int) else u)) := rfl
      rw [hI, hU]
      have hs := parseM_dig (M := 2 ^ 64 - 1) r 0 h3
      cases hm : Lib.parseUintM (2 ^ 64 - 1) 0 r with
      | range => exact ⟨fun e => (by cases e), fun v e => (by cases e)⟩
      | ok u =>
        have hu := parseM_val r 0 u hm
        refine ⟨fun e => ?_, fun v e => ?_⟩
        · simp only at e
          split at e
          · cases e
          · split at e <;> cases e
        · simp only at e
          split at e
          · cases e
          · split at e
            · cases e
            · injection e with e
              rw [if_pos (by decide)] at e
              subst e
              have hd := dec_of r.length r rfl h1 h3 (fun e => absurd e h48)
              rw [← hu] at hd
              have hpos : 0 < u := by
                cases r with
                | nil => exact absurd rfl h1
                | cons x xs =>
                  have hx : x ≠ 48 := fun e => h48 (by rw [e]; rfl)
                  rw [List.all_cons, Bool.and_eq_true] at h3
                  have := head_pos (l := xs) h3.1 hx
                  omega
              rw [Lib.itoa_neg u hpos, hd]
      | _ => exact absurd hm hs
    · have hp := dropM_pos (l := c :: r) (fun e => hc (by injection e))
      rw [hp] at h1 h2 h3
      have hc45 : c.toNat ≠ 45 := fun e => hc (UInt8.toNat_inj.1 e)
      have hcd : isDig c = true := by rw [List.all_cons, Bool.and_eq_true] at h3; exact h3.1
      have hc43 : c.toNat ≠ 43 := fun e => by have := of_decide_eq_true hcd; omega
      have hU : Lib.parseUintB 64 (c :: r) = Lib.parseUintM (2 ^ 64 - 1) 0 (c :: r) := by unfold Lib.parseUintB; rw [if_neg h1]
      have hI : Lib.parseIntB 64 (c :: r) = (match Lib.parseUintB 64 (if c.toNat = 43 ∨ c.toNat = 45 then r else c :: r) with
        | Lib.NumEnd.syntax => Lib.NumEnd.syntax
        | Lib.NumEnd.range => Lib.NumEnd.range
        | .ok u => if ¬ (c.toNat = 45) ∧ 2 ^ (64 - 1) ≤ u then .range else if c.toNat = 45 ∧ 2 ^ (64 - 1) < u then .range else .ok (if c.toNat = 45 then -(u : Int) else u)) := rfl
      rw [hI, if_neg (by omega), hU]
      have hs := parseM_dig (M := 2 ^ 64 - 1) (c :: r) 0 h3
      cases hm : Lib.parseUintM (2 ^ 64 - 1) 0 (c :: r) with
      | range => exact ⟨fun e => (by cases e), fun v e => (by cases e)⟩
      | ok u =>
        have hu := parseM_val (c :: r) 0 u hm
        refine ⟨fun e => ?_, fun v e => ?_⟩
        · simp only at e
          split at e
          · cases e
          · split at e <;> cases e
        · simp only at e
          split at e
          · cases e
          · split at e
            · cases e
            · injection e with e
              try rw [if_neg hc45] at e
              subst e
              have hd := dec_of (c :: r).length (c :: r) rfl h1 h3 (fun e => by
                rcases Nat.lt_or_ge 1 (c :: r).length with h4 | h4
                · exact absurd ⟨e, h4⟩ h2
                · simp at h4 ⊢; exact h4)
              rw [← hu] at hd
              rw [Lib.itoa_nonneg, hd]
      | _ => exact absurd hm hs
end P7
end Go.Proofs.YthpfoegmoldkgaaGreatDoor
