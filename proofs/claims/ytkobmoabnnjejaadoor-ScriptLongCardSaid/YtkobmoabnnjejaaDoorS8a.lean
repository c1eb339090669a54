/- Script: Window, plain. -/
import Derived.Test.YtkobmoabnnjejaaDoorS7
namespace Go.Proofs.YtkobmoabnnjejaaDoor
open Go.RowKit
namespace P21
open PC

structure WS where
  last : List Int
  worst : Int
  picks : Int
def wStep (n : Int) (s : WS) (w : Int) : WS := if 0 ≤ w ∧ w < n then ⟨s.last.set w.toNat (s.picks + 1), max s.worst (s.picks + 1 - s.last.getD w.toNat 0), s.picks + 1⟩ else ⟨s.last, s.worst, s.picks + 1⟩
def wFold (n : Int) (ps : List (Nat × Int)) : WS := ps.foldl (fun s x => wStep n s x.2) ⟨List.replicate n.toNat 0, 0, 0⟩
theorem wFold_snoc (n : Int) (ps : List (Nat × Int)) (x : Nat × Int) : wFold n (ps ++ [x]) = wStep n (wFold n ps) x.2 := by simp [wFold]
def wEnd (picks : Int) : List Int → Int → Int
  | [], worst => worst
  | a :: r, worst => if a = 0 then 0 else wEnd picks r (max worst (picks + 1 - a))
/-- What Window answers. -/
def windowT (l : List Ev) (n : Int) : Int := if n < 1 ∨ (l.length : Int) < n then 0 else wEnd (wFold n (picksTo l l.length)).picks (wFold n (picksTo l l.length)).last (wFold n (picksTo l l.length)).worst
structure WOk (n : Int) (m : Nat) (s : WS) : Prop where
  len : s.last.length = n.toNat
  picks : s.picks = m
  lo : ∀ j, j < s.last.length → 0 ≤ s.last.getD j 0 ∧ s.last.getD j 0 ≤ m
  worst : 0 ≤ s.worst ∧ s.worst ≤ m
theorem wFold_ok (n : Int) : ∀ (k : Nat) (ps : List (Nat × Int)), ps.length = k → WOk n k (wFold n ps) := by
  intro k
  induction k with
  | zero =>
    intro ps h
    have : ps = [] := List.eq_nil_of_length_eq_zero h
    subst this
    refine ⟨by simp [wFold], rfl, fun j hj => ?_, Int.le_refl _, Int.le_refl _⟩
    have hj' : j < n.toNat := by simpa [wFold] using hj
    have e : (wFold n []).last.getD j 0 = 0 := by
      show (List.replicate n.toNat (0 : Int)).getD j 0 = 0
      simp [List.getD_eq_getElem?_getD, hj']
    rw [e]
    omega
  | succ k ih =>
    intro ps h
    have hne : ps ≠ [] := fun e => by rw [e] at h; simp at h
    obtain ⟨m, x, rfl⟩ : ∃ m x, ps = m ++ [x] := ⟨ps.dropLast, ps.getLast hne, (List.dropLast_concat_getLast hne).symm⟩
    obtain ⟨h1, h2, h3, h4⟩ := ih m (by simpa using h)
    rw [wFold_snoc]
    unfold wStep
    split
    · rename_i hx
      refine ⟨by simpa using h1, by simp only [h2]; omega, fun j hj => ?_, ?_⟩
      · simp only [List.length_set] at hj
        simp only [List.getD_eq_getElem?_getD, List.getElem?_set]
        by_cases e : x.2.toNat = j
        · rw [if_pos e, if_pos (by omega), Option.getD_some, h2]; omega
        · rw [if_neg e]
          have := h3 j hj
          rw [List.getD_eq_getElem?_getD] at this
          omega
      · have := h3 x.2.toNat (by rw [h1]; omega)
        simp only [h2]
        omega
    · exact ⟨h1, by simp only [h2]; omega, fun j hj => by have := h3 j hj; simp only; omega, by simp only; omega⟩
end P21
end Go.Proofs.YtkobmoabnnjejaaDoor
