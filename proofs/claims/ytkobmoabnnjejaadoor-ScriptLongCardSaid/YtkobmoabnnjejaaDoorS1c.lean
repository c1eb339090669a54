/- Script: slices of events in memory; the text of events, plain. -/
import Derived.Test.YtkobmoabnnjejaaDoorS1b
namespace Go.Proofs.YtkobmoabnnjejaaDoor
open Go.RowKit
namespace P21
open PC

def evC (e : Ev) : List Value := [.int .i64 e.k, .int .i64 e.n]
def evsC (l : List Ev) : List Value := l.flatMap evC
theorem evC_length (e : Ev) : (evC e).length = 2 := rfl
theorem evsC_length (l : List Ev) : (evsC l).length = l.length * 2 := flat_length evC 2 evC_length l
theorem evC_one (e : Ev) : ∀ u ∈ evC e, u.oneCell' = true := by
  intro u hu
  simp only [evC, List.mem_cons, List.not_mem_nil, or_false] at hu
  rcases hu with h | h <;> subst h <;> rfl
theorem evsC_one (l : List Ev) : ∀ u ∈ evsC l, u.oneCell' = true := by
  intro u hu
  obtain ⟨r, _, hr⟩ := List.mem_flatMap.1 hu
  exact evC_one r u hr
theorem evsC_append (l m : List Ev) : evsC (l ++ m) = evsC l ++ evsC m := List.flatMap_append
def evD : Ev := ⟨0, 0⟩
def at_ (l : List Ev) (i : Nat) : Ev := l.getD i evD
theorem at_eq {l : List Ev} {i : Nat} (h : i < l.length) : at_ l i = l[i] := by simp [at_, List.getD_eq_getElem?_getD, List.getElem?_eq_getElem h]
theorem evs_open {w : World} {B : Nat} {v : Value} {l : List Ev} (h : Sl w B 2 v (evsC l)) : ∃ A c, v = .slice A l.length c ∧ l.length ≤ c ∧ ∀ k, k < l.length → ∃ b off, A = some ⟨b, off, none⟩ ∧ b < B ∧ w.cell? ⟨b, off + k * 2, none⟩ = some (.int .i64 (at_ l k).k) ∧ w.cell? ⟨b, off + k * 2 + 1, none⟩ = some (.int .i64 (at_ l k).n) := by
  obtain ⟨A, n, c, rfl, hnc, hn, hA⟩ := h
  rw [evsC_length] at hn
  have hnl : n = l.length := by omega
  subst hnl
  refine ⟨A, c, rfl, hnc, fun k hk => ?_⟩
  obtain ⟨b, off, rfl, hb, hr⟩ := hA (by omega)
  have hg : ∀ j, j < 2 → (evsC l)[k * 2 + j]? = (evC (at_ l k))[j]? := fun j hj => by
    rw [evsC, flat_get evC 2 evC_length l k j hj, List.getElem?_eq_getElem hk, at_eq hk]; rfl
  have hc : ∀ j u, j < 2 → (evC (at_ l k))[j]? = some u → w.cell? ⟨b, off + k * 2 + j, none⟩ = some u := fun j u hj hu => by
    rw [Nat.add_assoc]; exact hr (k * 2 + j) u ((hg j hj).trans hu)
  exact ⟨b, off, rfl, hb, hc 0 _ (by omega) rfl, hc 1 _ (by omega) rfl⟩
/-- A slice of events in memory. -/
structure Evs (w : World) (v : Value) (l : List Ev) : Prop where
  sl : Sl w w.heap.size 2 v (evsC l)
  wf : ∀ e ∈ l, EvWf e
theorem Evs.next {w w' : World} {v : Value} {l : List Ev} (h : Evs w v l) (hb : Below w.heap.size w w') : Evs w' v l := ⟨h.sl.next hb, h.wf⟩
theorem Evs.wfAt {w : World} {v : Value} {l : List Ev} (h : Evs w v l) {k : Nat} (hk : k < l.length) : EvWf (at_ l k) := by rw [at_eq hk]; exact h.wf _ (List.getElem_mem hk)

/-- The text of the first so many events. -/
def textTo (l : List Ev) (k : Nat) : List UInt8 := (l.take k).flatMap fun e => lineL e ++ [10]
def textL (l : List Ev) : List UInt8 := l.flatMap fun e => lineL e ++ [10]
theorem textTo_zero (l : List Ev) : textTo l 0 = [] := rfl
theorem textTo_succ {l : List Ev} {k : Nat} (hk : k < l.length) : textTo l (k + 1) = textTo l k ++ (lineL (at_ l k) ++ [10]) := by
  unfold textTo
  rw [List.take_succ_eq_append_getElem hk, List.flatMap_append, List.flatMap_cons, List.flatMap_nil, List.append_nil, at_eq hk]
theorem textTo_all (l : List Ev) : textTo l l.length = textL l := by unfold textTo textL; rw [List.take_length]
/-- What Print answers. -/
def printR (l : List Ev) : ByteArray × Int := if l.all (fun e => decide (okK e.k)) then (if 131072 < (textL l).length then (⟨#[]⟩, 12) else (⟨(textL l).toArray⟩, 0)) else (⟨#[]⟩, 1)
theorem printR_bad {l : List Ev} {k : Nat} (hk : k < l.length) (h : ¬ okK (at_ l k).k) : printR l = (⟨#[]⟩, 1) := by
  unfold printR
  rw [if_neg]
  intro e
  rw [List.all_eq_true] at e
  have := e l[k] (List.getElem_mem hk)
  rw [at_eq hk] at h
  exact h (of_decide_eq_true this)
theorem printR_ok {l : List Ev} (h : ∀ k, k < l.length → okK (at_ l k).k) : printR l = if 131072 < (textL l).length then (⟨#[]⟩, 12) else (⟨(textL l).toArray⟩, 0) := by
  unfold printR
  rw [if_pos]
  rw [List.all_eq_true]
  intro e he
  obtain ⟨k, hk, rfl⟩ := List.getElem_of_mem he
  rw [← at_eq hk]
  exact decide_eq_true (h k hk)
theorem textTo_mono {l : List Ev} {j k : Nat} (h : j ≤ k) : (textTo l j).length ≤ (textTo l k).length := by
  have e : l.take k = l.take j ++ (l.take k).drop j := by
    have := (List.take_append_drop j (l.take k)).symm
    rwa [List.take_take, Nat.min_eq_left h] at this
  unfold textTo
  rw [e, List.flatMap_append, List.length_append]
  omega
end P21
end Go.Proofs.YtkobmoabnnjejaaDoor
