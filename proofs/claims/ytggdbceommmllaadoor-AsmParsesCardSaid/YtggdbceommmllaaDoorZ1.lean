/- What all closings share: from a walk that ends 'true' over memory that stood, to the post of a law's row. -/
import Derived.Test.YtggdbceommmllaaDoorM
import Derived.Test.YtggdbceommmllaaDoorRows
import Derived.ProofKit
import Derived.OpenShut
import Derived.Lay
import Derived.Deep.DeepHandedRow
import Derived.Deep.DeepWitnessRowRef
namespace Go.Proofs.YtggdbceommmllaaDoor
open Go.ChangeShapes Go.WideShapes Go.ChangeAt Go.RowKit

theorem zown : ownKnob Tryd.prog.godebug = none := by kernel_rfl
theorem zlaidOut : laidOutB Tryd.prog = true := by kernel_rfl

/-- THE POST, out of 'true' and 'below the heap's old size nothing has turned': every argument reads as it did. -/
theorem law_post {H : Type} {enc : TypeId × Value → H} {f : Func} {s : ChangeSpec} {W W' : World} {args : Array Value} {ds gs : List (DataW H)} {before : List MemPlace} {ts : List TypeId}
    (hts : f.params.toList = ts) (hr : f.resultTypes = #[4]) (hs : s.vars = [])
    (hspec : s.fn H (ds ++ gs) = { results := [.lit (.bool true)], args := ds })
    (hread : ∀ t ∈ ts, Tryd.prog.readableRec t = true ∧ t < Tryd.prog.types.size)
    (hW : DataW.Whole enc Tryd.prog f.params.toList s.vars false W args.toList ds gs before) (hb : Below W.heap.size W W') :
    s.post enc Tryd.prog f false true false false W args (.bool true) W' := by
  have hW' := hW
  obtain ⟨p, q, hA, hV, hbef, hfz, hnd⟩ := hW
  subst hts
  have hAll : ∀ (l : List TypeId) (vs : List Value) (es : List (DataW H)) (ps : List MemPlace), (∀ t ∈ l, Tryd.prog.readableRec t = true ∧ t < Tryd.prog.types.size) → (∀ x ∈ ps, x.block < W.heap.size) →
      DataW.TrodAll enc Tryd.prog W 0 (fun _ => true) true l vs es ps → DataW.TrodAll enc Tryd.prog W' 0 (fun b => decide (b < W.heap.size)) true l vs es ps := by
    intro l
    induction l with
    | nil => intro vs es ps _ _ h; obtain ⟨rfl, rfl, rfl⟩ := trodAll_nil h; exact trodAll_mk0
    | cons t l ih =>
      intro vs es ps hl hp h
      obtain ⟨v, vs', d, ds', p1, q1, rfl, rfl, rfl, h1, h2⟩ := trodAll_cons h
      exact trodAll_cons_mk (Below.trod zlaidOut (hl t (by simp)).1 (hl t (by simp)).2 h1 hb fun x hx => hp x (by simp [hx])) (ih _ _ _ (fun t' ht' => hl t' (by simp [ht'])) (fun x hx => hp x (by simp [hx])) h2)
  have hlt : ∀ x ∈ before, x.block < W.heap.size := fun x hx => by simpa using hW'.lt x hx
  obtain ⟨hg, hq⟩ : gs = [] ∧ q = [] := by
    rw [hs] at hV
    cases gs with
    | nil => exact ⟨rfl, hV⟩
    | cons _ _ => exact hV.elim
  subst hg; subst hq
  simp only [List.append_nil] at hbef
  subst hbef
  refine ⟨ds, [], before, [], before, [], hW', ?_, ?_, ?_, hb.frame _, fun h => by cases h⟩
  · rw [hspec, hr]
    exact trodAll_mk1 (shut_bool Tryd.underlying4 _)
  · rw [hspec]
    exact hAll _ _ _ _ hread hlt hA
  · rw [hspec, hs]
    exact rfl

end Go.Proofs.YtggdbceommmllaaDoor
