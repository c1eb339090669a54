/- A store into an instruction of a program that was unpacked: how it reads then. -/
import Derived.Test.YtjpnbjlhjlddbaaDoorUw
import Derived.Test.YtjpnbjlhjlddbaaDoorCc
import Derived.Test.YtjpnbjlhjlddbaaDoorSn
import Derived.Laws.OwnMore
namespace Go.Proofs.YtjpnbjlhjlddbaaDoor
open Go.RowKit
namespace P2

theorem codeC_set {s : List Ins} {j : Nat} {i : Ins} (hj : s[j]? = some i) (a : Int) : (codeC s).set (j * 5 + 1) (.int .i64 a) = codeC (s.set j (turnI a i)) := by
  obtain ⟨hlt, rfl⟩ := List.getElem?_eq_some_iff.1 hj
  refine List.ext_getElem? fun k => ?_
  obtain ⟨q, m, hm, rfl⟩ : ∃ q m, m < 5 ∧ k = q * 5 + m := ⟨k / 5, k % 5, Nat.mod_lt _ (by omega), by omega⟩
  have hL : j * 5 + 1 < (codeC s).length := by rw [codeC_length]; omega
  have e1 : (codeC (s.set j (turnI a s[j])))[q * 5 + m]? = ((s.set j (turnI a s[j]))[q]?).bind fun i => (insC i)[m]? := flat_get insC 5 insC_length _ _ _ hm
  have e2 : (codeC s)[q * 5 + m]? = (s[q]?).bind fun i => (insC i)[m]? := flat_get insC 5 insC_length _ _ _ hm
  rw [e1, List.getElem?_set, List.getElem?_set, e2]
  by_cases h2 : j = q
  · subst h2
    by_cases h3 : m = 1
    · subst h3
      rw [if_pos rfl, if_pos hL, if_pos rfl, if_pos hlt]
      rfl
    · rw [if_neg (by omega), if_pos rfl, if_pos hlt, List.getElem?_eq_getElem hlt]
      obtain ⟨a0, a1, a2, a3, a4⟩ := s[j]
      have : m = 0 ∨ m = 2 ∨ m = 3 ∨ m = 4 := by omega
      rcases this with rfl | rfl | rfl | rfl <;> rfl
  · rw [if_neg (by omega), if_neg h2]
theorem codeC_turn (s : List Ins) (j : Nat) (a : Int) : (codeC s).set (j * 5 + 1) (.int .i64 a) = codeC (turnF j a s) := by
  unfold turnF
  cases hj : s[j]? with
  | none =>
    have : s.length ≤ j := List.getElem?_eq_none_iff.1 hj
    exact List.set_eq_of_length_le (by rw [codeC_length]; omega)
  | some i => exact codeC_set hj a
theorem turnF_length (s : List Ins) (j : Nat) (a : Int) : (turnF j a s).length = s.length := by
  unfold turnF
  split <;> simp
theorem turnF_at {s : List Ins} {j : Nat} (hj : j < s.length) (a : Int) : (turnF j a s)[j]? = some (turnI a s[j]) := by
  unfold turnF
  rw [List.getElem?_eq_getElem hj]
  simp [hj]
/-- A row of instructions of the call's own, of which a cell was turned. -/
theorem own_turn {w : World} {B n g : Nat} {v : Value} {s : List Ins} (h : w.ownsRow B 23 5 v n (codeC s)) (hg : v.ownBlock = some g) (j : Nat) (a : Int) :
    (w.setCell ⟨g, j * 5 + 1, none⟩ (.int .i64 a)).ownsRow B 23 5 v n (codeC (turnF j a s)) := by
  rcases h.2 with ⟨rfl, _⟩ | ⟨g', cap, cur, rfl, _⟩
  · simp [Value.ownBlock] at hg
  · have : g' = g := by simpa [Value.ownBlock] using hg
    subst this
    rw [← codeC_turn]
    exact (h.stored _ _).1

def turnAt (g j : Nat) (a : Int) (x : Fn × Value) : Fn := if x.2.ownBlock = some g then (x.1.1, turnF j a x.1.2) else x.1
theorem turnAt_one (g j : Nat) (a : Int) (x : Fn × Value) : (turnAt g j a x).1 = x.1.1 := by unfold turnAt; split <;> rfl
theorem turnAt_len (g j : Nat) (a : Int) (x : Fn × Value) : (turnAt g j a x).2.length = x.1.2.length := by
  unfold turnAt; split
  · exact turnF_length _ _ _
  · rfl
theorem zip_turn (g j : Nat) (a : Int) : ∀ (p : List Fn) (cv : List Value), (((p.zip cv).map (turnAt g j a)).zip cv).flatMap fnC = (p.zip cv).flatMap fnC
  | [], cv => by simp
  | f :: p, [] => by simp
  | f :: p, c :: cv => by
    simp only [List.zip_cons_cons, List.map_cons, List.flatMap_cons, zip_turn g j a p cv]
    simp [fnC, turnAt_one]
theorem FnsOwn.turn {w : World} {B g k : Nat} {v c : Value} {p : List Fn} {cv : List Value} (h1 : cv.length = p.length)
    (h2 : w.ownsRow B 52 2 v p.length ((p.zip cv).flatMap fnC)) (h3 : ∀ (k : Nat) (hk : k < p.length) (c : Value), cv[k]? = some c → w.ownsRow B 23 5 c p[k].2.length (codeC p[k].2))
    (hk : k < p.length) (hc : cv[k]? = some c) (hg : c.ownBlock = some g) (j : Nat) (a : Int) :
    FnsOwn (w.setCell ⟨g, j * 5 + 1, none⟩ (.int .i64 a)) B v ((p.zip cv).map (turnAt g j a)) := by
  have hl : ((p.zip cv).map (turnAt g j a)).length = p.length := by rw [List.length_map, List.length_zip, h1, Nat.min_self]
  have hgr := grownBy_setCell_at w g (j * 5 + 1) (.int .i64 a)
  obtain ⟨cs, fr, hh⟩ : ∃ cs fr, w.heap[g]? = some (.cells cs 23 fr) := by
    rcases (h3 k hk c hc).2 with ⟨rfl, _⟩ | ⟨g', cap, cur, rfl, _, hh, _⟩
    · simp [Value.ownBlock] at hg
    · have : g' = g := by simpa [Value.ownBlock] using hg
      subst this
      exact ⟨_, _, hh⟩
  refine ⟨cv, by rw [hl, h1], ?_, fun m hm d hd => ?_⟩
  · rw [hl, zip_turn]
    exact own_kept h2 hgr fun g' e => by injection e with e; subst e; exact ⟨_, _, _, hh, by decide⟩
  · have hmp : m < p.length := by omega
    have hmc : m < cv.length := by omega
    have hd' : cv[m] = d := by rw [List.getElem?_eq_getElem hmc] at hd; exact Option.some.inj hd
    have hq : ((p.zip cv).map (turnAt g j a))[m] = turnAt g j a (p[m], d) := by rw [List.getElem_map, List.getElem_zip, hd']
    rw [hq, turnAt_len]
    have ho := h3 m hmp d hd
    by_cases hb : d.ownBlock = some g
    · rw [turnAt, if_pos hb]
      exact own_turn ho hb j a
    · rw [turnAt, if_neg hb]
      refine ho.kept hgr ?_
      cases hx : d.ownBlock
      · exact .inl rfl
      · exact .inr (by rw [← hx]; exact hb)

/-- What the walk asks of a program of the call's own at one place, and what a store there leaves. -/
theorem FnsOwn.at_ {w : World} {B k j : Nat} {v : Value} {p : List Fn} (h : FnsOwn w B v p) (hk : k < p.length) (hj : j < p[k].2.length) :
    ∃ g0 c0 g c, v = .slice (some ⟨g0, 0, none⟩) p.length c0 ∧ B ≤ g0 ∧ B ≤ g ∧ g0 < w.heap.size ∧ g < w.heap.size ∧ g0 ≠ g ∧
      w.cell? ⟨g0, k * 2 + 1, none⟩ = some (.slice (some ⟨g, 0, none⟩) p[k].2.length c) ∧ (∃ cs, w.heap[g]? = some (.cells cs 23 (0, 0))) ∧
      w.cell? ⟨g, j * 5 + 1, none⟩ = some (.int .i64 p[k].2[j].2.1) ∧ w.frozen? ⟨g, j * 5 + 1, none⟩ = false ∧
      ∀ a : Int, ∃ q, FnsOwn (w.setCell ⟨g, j * 5 + 1, none⟩ (.int .i64 a)) B v q ∧ q.length = p.length ∧ (∀ f ∈ q, ∃ f' ∈ p, f.2.length = f'.2.length) ∧ (a ≠ p[k].2[j].2.1 → p ≠ q) := by
  obtain ⟨cv, h1, h2, h3⟩ := h
  have hkc : k < cv.length := by omega
  have hcv : cv[k]? = some cv[k] := List.getElem?_eq_getElem hkc
  have hr := h3 k hk _ hcv
  rcases h2.2 with ⟨_, e⟩ | ⟨g0, c0, cur0, rfl, hB0, hh0, -⟩
  · omega
  rcases hr.2 with ⟨_, e⟩ | ⟨g, c, cur, hcg, hB, hh, -⟩
  · omega
  have hz : (p.zip cv)[k]? = some (p[k], cv[k]) := by rw [List.getElem?_eq_getElem (by rw [List.length_zip]; omega), List.getElem_zip]
  refine ⟨g0, c0, g, c, rfl, hB0, hB, lt_of_block hh0, lt_of_block hh, ?_, ?_, ⟨_, hh⟩, ?_, ?_, fun a => ?_⟩
  · intro e; subst e; rw [hh0] at hh; injection hh with hh; injection hh with _ ht; exact absurd ht (by decide)
  · rw [h2.cellAt (k * 2 + 1) (by omega), flat_get fnC 2 fnC_length _ k 1 (by omega), hz, ← hcg]
    rfl
  · rw [hcg] at hr
    rw [hr.cellAt (j * 5 + 1) (by omega), codeC, flat_get insC 5 insC_length _ j 1 (by omega), List.getElem?_eq_getElem hj]
    rfl
  · exact frozen_of_row _ _ _ _ _ hh
  · have hob : cv[k].ownBlock = some g := by rw [hcg]; rfl
    refine ⟨_, FnsOwn.turn h1 h2 h3 hk hcv hob j a, ?_, ?_, ?_⟩
    · rw [List.length_map, List.length_zip, h1, Nat.min_self]
    · intro f hf
      obtain ⟨x, hx, rfl⟩ := List.mem_map.1 hf
      exact ⟨x.1, (List.of_mem_zip hx).1, turnAt_len _ _ _ _⟩
    · intro ha e
      have e1 : p[k]? = ((p.zip cv).map (turnAt g j a))[k]? := congrArg (·[k]?) e
      rw [List.getElem?_map, hz, List.getElem?_eq_getElem hk] at e1
      have e2 : p[k] = (p[k].1, turnF j a p[k].2) := by
        have : p[k] = turnAt g j a (p[k], cv[k]) := Option.some.inj e1
        rw [turnAt, if_pos hob] at this
        exact this
      have e3 : p[k].2 = turnF j a p[k].2 := congrArg (·.2) e2
      have e4 : p[k].2[j]? = (turnF j a p[k].2)[j]? := congrArg (·[j]?) e3
      rw [turnF_at hj, List.getElem?_eq_getElem hj] at e4
      have e5 : p[k].2[j] = turnI a p[k].2[j] := Option.some.inj e4
      exact ha (congrArg (·.2.1) e5).symm

def UnWhole (p : List Fn) (w : World) (e : Ending) (w' : World) : Prop :=
  ∃ A c, e = .returned (.tuple #[.agg #[.slice A p.length c], .int .i64 0, .int .i64 0]) ∧ Fns w' w'.heap.size (.slice A p.length c) p ∧ FnsOwn w' w.heap.size (.slice A p.length c) p ∧ Below w.heap.size w w'
theorem unpack_whole {w : World} {v : Value} {p : List Fn} (hs : Sl w w.heap.size 1 v (bv (progB p))) (he : progE p = 0) : Calls Tryd.prog 24 #[v] w (UnWhole p w) := by
  refine (unpackOwn hs (by have := progB_length he; omega) (progB_range he)).mono ?_
  rintro e w' ⟨⟨pv, rfl, hF, hO⟩, hb⟩
  rw [un_prog he] at hF hO ⊢
  obtain ⟨A, c, rfl, -⟩ := hF.open_
  exact ⟨A, c, rfl, hF, hO, hb⟩
end P2
end Go.Proofs.YtjpnbjlhjlddbaaDoor
