/- Laws on regions that draw their order: one operation taken with its frame laid out; many unwanted operations skipped at once. No program in sight. -/
import Derived.Test.YtggdbceommmllaaDoorK
import Derived.Deep.RegionHeld3
namespace Go.Proofs.YtggdbceommmllaaDoor
namespace Rg

section
variable {P : Program} {ops : Array Oper} {Q : Exit → Act → World → Prop} {md : Region.Mode} {S : World → Prop}
theorem take {i d : Nat} {oi : Oper} {v : Value} {fuel : Nat} {listed : Array Bool} {t : Array Value} {df} {w : World} (hi : ops[i]? = some oi) (hd : oi.dst = some d)
    (hs : Region.noSelect ops = true) (hf : Region.free md ops listed i = true) (hr : (Region.ready md ops listed).contains i = true)
    (hQ : ∀ c (a : Act) w, Q (.panic c) (a.put (some d) v) w → Q (.panic c) a w) (hw : Region.wanted oi (yielded ops t) = true) (hy : ∀ w, S w → (execOp (Act.eval ⟨t, df⟩) oi).run P w = .ok (.value v) w) (hS : S w)
    (h : wpAnyH P md ops Q S fuel (listed.setIfInBounds i true) ⟨t.setIfInBounds d v, df⟩ w) : wpAnyH P md ops Q S (fuel + 1) listed ⟨t, df⟩ w :=
  wpAnyH_take hi hs hf hr (by rw [hd]; exact hQ) (Or.inl ⟨hw, hy⟩) hS (by rw [hd]; exact h)

def puts : List Nat → Array Value → Array Value
  | [], t => t
  | d :: ds, t => puts ds (t.setIfInBounds d undef)
def marks : List Nat → Array Bool → Array Bool
  | [], t => t
  | i :: is, t => marks is (t.setIfInBounds i true)
def skipsOk (md : Region.Mode) (ops : Array Oper) : List Nat → List Nat → Array Bool → Array Value → Bool
  | [], [], _, _ => true
  | i :: is, d :: ds, l, t => (match ops[i]? with
    | none => false
    | some o => decide (o.dst = some d) && Region.free md ops l i && (Region.ready md ops l).contains i && !Region.wanted o (yielded ops t)) && skipsOk md ops is ds (l.setIfInBounds i true) (t.setIfInBounds d undef)
  | _, _, _, _ => false
theorem skips (hs : Region.noSelect ops = true) (hQ : ∀ c (a : Act) d v w, Q (.panic c) (a.put (some d) v) w → Q (.panic c) a w) {df} {w : World} (hS : S w) : ∀ (is ds : List Nat) (fuel : Nat) (l : Array Bool) (t : Array Value),
    skipsOk md ops is ds l t = true → wpAnyH P md ops Q S fuel (marks is l) ⟨puts ds t, df⟩ w → wpAnyH P md ops Q S (fuel + is.length) l ⟨t, df⟩ w := by
  intro is
  induction is with
  | nil =>
    intro ds fuel l t hok h
    cases ds with
    | nil => exact h
    | cons d ds => cases hok
  | cons i is ih =>
    intro ds fuel l t hok h
    cases ds with
    | nil => cases hok
    | cons d ds =>
      rw [skipsOk, Bool.and_eq_true] at hok
      obtain ⟨h1, h2⟩ := hok
      cases ho : ops[i]? with
      | none => rw [ho] at h1; cases h1
      | some o =>
        rw [ho] at h1
        simp only [Bool.and_eq_true, decide_eq_true_eq, Bool.not_eq_true'] at h1
        obtain ⟨⟨⟨g1, g2⟩, g3⟩, g4⟩ := h1
        refine wpAnyH_take (fuel := fuel + is.length) ho hs g2 g3 (by rw [g1]; exact fun c a w => hQ c a _ _ w) (Or.inr ⟨g4, rfl⟩) hS ?_
        rw [g1]
        exact ih ds fuel _ _ h2 h
theorem skips_of (is ds : List Nat) {fuel fuel' : Nat} {l : Array Bool} {t : Array Value} {df} {w : World} (hs : Region.noSelect ops = true) (hQ : ∀ c (a : Act) d v w, Q (.panic c) (a.put (some d) v) w → Q (.panic c) a w) (hS : S w)
    (hf : fuel = fuel' + is.length) (hok : skipsOk md ops is ds l t = true) (h : wpAnyH P md ops Q S fuel' (marks is l) ⟨puts ds t, df⟩ w) : wpAnyH P md ops Q S fuel l ⟨t, df⟩ w := by
  subst hf
  exact skips hs hQ hS is ds fuel' l t hok h
end
end Rg
end Go.Proofs.YtggdbceommmllaaDoor
