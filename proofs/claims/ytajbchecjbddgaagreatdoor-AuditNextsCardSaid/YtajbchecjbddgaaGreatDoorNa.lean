/- Audit: what the reference's Next asks, plain. -/
import Derived.Test.YtajbchecjbddgaaGreatDoorH3
namespace Go.Proofs.YtajbchecjbddgaaGreatDoor
namespace P20
open P7

/-- Has one of the first m rows become this one? -/
def rowB (a b : Sh) (m k : Nat) : Bool := (List.range m).any fun j => decide (toN a b j = k)
/-- Has one of the first m scopes become this one? -/
def scB (a b : Sh) (m k : Nat) : Bool := (oldN a b m k).isSome
/-- Was the last of them that did closed? -/
def shB (a b : Sh) (m k : Nat) : Bool := match oldN a b m k with
  | none => false
  | some i => (sA a.sc i).c
theorem rowB_zero (a b : Sh) (k : Nat) : rowB a b 0 k = false := rfl
theorem rowB_succ (a b : Sh) (m k : Nat) : rowB a b (m + 1) k = if k = toN a b m then true else rowB a b m k := by
  unfold rowB
  rw [List.range_succ, List.any_append]
  by_cases h : k = toN a b m
  · rw [if_pos h]; simp [h]
  · rw [if_neg h]; simp [Ne.symm h]
theorem scB_zero (a b : Sh) (k : Nat) : scB a b 0 k = false := rfl
theorem shB_zero (a b : Sh) (k : Nat) : shB a b 0 k = false := rfl
theorem scB_succ {a b : Sh} {m q : Nat} (h : ltN a b m = some q) (k : Nat) : scB a b (m + 1) k = if k = q then true else scB a b m k := by
  unfold scB
  rw [oldN, h]
  by_cases e : k = q
  · rw [if_pos e, if_pos (by rw [e])]; rfl
  · rw [if_neg e, if_neg (fun e2 => e (Option.some.inj e2).symm)]
theorem shB_succ {a b : Sh} {m q : Nat} (h : ltN a b m = some q) (k : Nat) : shB a b (m + 1) k = if k = q then (sA a.sc m).c else shB a b m k := by
  unfold shB
  rw [oldN, h]
  by_cases e : k = q
  · rw [if_pos e, if_pos (by rw [e])]
  · rw [if_neg e, if_neg (fun e2 => e (Option.some.inj e2).symm)]
theorem rowB_all (a b : Sh) (k : Nat) : rowB a b a.l.length k = wasB a b k := rfl
theorem scB_all (a b : Sh) (k : Nat) : scB a b a.sc.length k = (oldS a b k).isSome := rfl
theorem shB_all (a b : Sh) (k : Nat) : shB a b a.sc.length k = shutN a b k := rfl
/-- What is asked of a scope that one became. -/
def cutOk (a b : Sh) (k : Nat) : Prop := shutN a b k = true → (∀ i, i < b.l.length → wasB a b i = false → ¬ k ∈ ch b ((ofN b i).getD 0)) ∧ ∀ i, i < b.sc.length → oldS a b i = none → ¬ k ∈ ch b i
theorem shut_lt {a b : Sh} {k : Nat} (h : shutN a b k = true) : k < b.sc.length := by
  unfold shutN at h
  cases ho : oldS a b k with
  | none => rw [ho] at h; cases h
  | some i =>
    have h2 := (oldN_some ho).2
    unfold ltN at h2
    exact (fnd_some h2).1
theorem cutOk_all {a b : Sh} : (∀ k, k < b.sc.length → cutOk a b k) ↔ (∀ k, k < b.sc.length → oldS a b k = none → inShut a b k = false) ∧ ∀ i, i < b.l.length → wasB a b i = false → inShut a b ((ofN b i).getD 0) = false := by
  constructor
  · intro h
    refine ⟨fun k hk ho => ?_, fun i hi hw => ?_⟩
    · rw [Bool.eq_false_iff]
      intro hs
      obtain ⟨x, hx, hsx⟩ := inShut_iff.1 hs
      exact (h x (shut_lt hsx) hsx).2 k hk ho hx
    · rw [Bool.eq_false_iff]
      intro hs
      obtain ⟨x, hx, hsx⟩ := inShut_iff.1 hs
      exact (h x (shut_lt hsx) hsx).1 i hi hw hx
  · rintro ⟨h1, h2⟩ k hk hs
    refine ⟨fun i hi hw hx => ?_, fun i hi ho hx => ?_⟩
    · have := h2 i hi hw
      rw [inShut_iff.2 ⟨k, hx, hs⟩] at this
      cases this
    · have := h1 i hi ho
      rw [inShut_iff.2 ⟨k, hx, hs⟩] at this
      cases this
theorem nextOk_iff {a b : Sh} : nextOk a b ↔ GrownT a.l b.l = true ∧ a.ws.length = b.ws.length ∧ (∀ i, i < a.sc.length → ltOk a b i) ∧ ∀ k, k < b.sc.length → cutOk a b k := by
  rw [cutOk_all]
  exact Iff.rfl
end P20
end Go.Proofs.YtajbchecjbddgaaGreatDoor
