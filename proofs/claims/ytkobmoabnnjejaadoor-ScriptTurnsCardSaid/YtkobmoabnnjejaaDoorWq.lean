/- Script: rounds and mixed events, and what Window answers of them; plain. -/
import Derived.Test.YtkobmoabnnjejaaDoorWp
namespace Go.Proofs.YtkobmoabnnjejaaDoor
open Go.RowKit
namespace P21
open PC

def roundP (n : Nat) : List Int := (List.range n).map fun (k : Nat) => (k : Int)
theorem roundP_len (n : Nat) : (roundP n).length = n := by simp [roundP]
theorem roundP_at {n k : Nat} (h : k < n) : (roundP n)[k]? = some (k : Int) := by
  unfold roundP
  rw [List.getElem?_map, List.getElem?_range h]
  rfl
def blocks (n : Nat) (bs : List (List Int)) : List Int := bs.flatMap fun o => o ++ roundP n
theorem blocks_cons (n : Nat) (o : List Int) (bs : List (List Int)) : blocks n (o :: bs) = o ++ (roundP n ++ blocks n bs) := by
  unfold blocks
  rw [List.flatMap_cons, List.append_assoc]
theorem first_at {n k : Nat} (h : k < n) (o P : List Int) : (o ++ (roundP n ++ P))[o.length + k]? = some (k : Int) := by
  rw [List.getElem?_append_right (by omega), Nat.add_sub_cancel_left, List.getElem?_append_left (by rw [roundP_len]; exact h), roundP_at h]
theorem later_at {n : Nat} (o P : List Int) (j : Nat) : (o ++ (roundP n ++ P))[o.length + n + j]? = P[j]? := by
  rw [List.getElem?_append_right (by omega), List.getElem?_append_right (by rw [roundP_len]; omega), roundP_len]
  congr 1
  omega
theorem blocks_hits (n d : Nat) (hd : d ≤ 1) (hn : 1 ≤ n) : ∀ bs : List (List Int), (∀ o ∈ bs, o.length ≤ d) → Hits (blocks n bs) n (n + d) := by
  intro bs
  induction bs with
  | nil =>
    intro _ k hk i hi
    have : (blocks n []).length = 0 := rfl
    omega
  | cons o bs ih =>
    intro ho k hk i hi
    have hol := ho o List.mem_cons_self
    have ih := ih (fun x hx => ho x (List.mem_cons_of_mem _ hx))
    rw [blocks_cons] at hi ⊢
    simp only [List.length_append, roundP_len] at hi
    by_cases h1 : o.length + n ≤ i
    · obtain ⟨j, a, b, c⟩ := ih k hk (i - (o.length + n)) (by omega)
      exact ⟨o.length + n + j, by omega, by omega, by rw [later_at]; exact c⟩
    · by_cases h2 : i ≤ o.length + k
      · exact ⟨o.length + k, h2, by omega, first_at hk _ _⟩
      · cases bs with
        | nil =>
          have : (blocks n []).length = 0 := rfl
          omega
        | cons o' bs =>
          have hol' := ho o' (List.mem_cons_of_mem _ List.mem_cons_self)
          refine ⟨o.length + n + (o'.length + k), by omega, by omega, ?_⟩
          rw [later_at, blocks_cons]
          exact first_at hk _ _
theorem blocks_all (n : Nat) {bs : List (List Int)} (h : bs ≠ []) : ∀ k, k < n → (k : Int) ∈ blocks n bs := by
  intro k hk
  cases bs with
  | nil => exact absurd rfl h
  | cons o bs => rw [blocks_cons]; exact List.mem_of_getElem? (first_at hk _ _)
/-- Whom the picks of events pick. -/
def pk (l : List Ev) : List Int := (l.filter fun e => decide (e.k = 0)).map fun e => e.n
theorem pk_append (l m : List Ev) : pk (l ++ m) = pk l ++ pk m := by unfold pk; rw [List.filter_append, List.map_append]
theorem pk_cons (e : Ev) (l : List Ev) : pk (e :: l) = (if e.k = 0 then [e.n] else []) ++ pk l := by
  unfold pk
  rw [List.filter_cons]
  by_cases h : e.k = 0
  · rw [if_pos h, if_pos (decide_eq_true h)]; rfl
  · rw [if_neg h, if_neg (by simpa using h)]; rfl
theorem picksTo_pk (l : List Ev) : ∀ k, k ≤ l.length → (picksTo l k).map (·.2) = pk (l.take k) := by
  intro k
  induction k with
  | zero => intro _; rfl
  | succ k ih =>
    intro hk
    rw [picksTo_succ, List.map_append, ih (by omega), List.take_succ_eq_append_getElem (by omega), pk_append, pk_cons, at_eq (by omega)]
    by_cases h : l[k].k = 0
    · rw [if_pos h, if_pos h]; rfl
    · rw [if_neg h, if_neg h]; rfl
theorem picks_all (l : List Ev) : (picksTo l l.length).map (·.2) = pk l := by rw [picksTo_pk l _ (Nat.le_refl _), List.take_length]
def roundE (n : Nat) : List Ev := (List.range n).map fun (k : Nat) => (⟨0, (k : Int)⟩ : Ev)
def roundsE (n t : Nat) : List Ev := (List.replicate t ()).flatMap fun _ => roundE n
def mixE (n : Nat) (l : List Ev) : List Ev := l.flatMap fun e => e :: roundE n
theorem roundE_len (n : Nat) : (roundE n).length = n := by simp [roundE]
theorem roundE_succ (n : Nat) : roundE (n + 1) = roundE n ++ [⟨0, (n : Int)⟩] := by unfold roundE; rw [List.range_succ, List.map_append]; rfl
theorem roundE_at {n k : Nat} (h : k < n) : (roundE n)[k]? = some ⟨0, (k : Int)⟩ := by
  unfold roundE
  rw [List.getElem?_map, List.getElem?_range h]
  rfl
theorem roundsE_len (n t : Nat) : (roundsE n t).length = t * n := by
  unfold roundsE
  rw [flat_length _ n (fun _ => roundE_len n), List.length_replicate]
theorem mixE_len (n : Nat) (l : List Ev) : (mixE n l).length = l.length * (n + 1) := flat_length _ (n + 1) (fun e => by rw [List.length_cons, roundE_len]) l
theorem roundsE_succ (n t : Nat) : roundsE n (t + 1) = roundsE n t ++ roundE n := by
  unfold roundsE
  rw [show List.replicate (t + 1) () = List.replicate t () ++ [()] from List.replicate_succ', List.flatMap_append]
  simp
theorem roundsE_at {n t i : Nat} (hn : 1 ≤ n) (hi : i < t * n) : at_ (roundsE n t) i = ⟨0, ((i % n : Nat) : Int)⟩ := by
  have hm : i % n < n := Nat.mod_lt _ (by omega)
  have hd : i / n < t := Nat.div_lt_of_lt_mul (by rw [Nat.mul_comm]; exact hi)
  have h := flat_get (fun _ : Unit => roundE n) n (fun _ => roundE_len n) (List.replicate t ()) (i / n) (i % n) hm
  rw [show i / n * n + i % n = i by rw [Nat.mul_comm]; exact Nat.div_add_mod i n, List.getElem?_replicate, if_pos hd] at h
  unfold at_
  rw [List.getD_eq_getElem?_getD]
  unfold roundsE
  rw [h, Option.bind_some, roundE_at hm]
  rfl
theorem mixE_at {n i : Nat} {l : List Ev} (hi : i < l.length * (n + 1)) : at_ (mixE n l) i = if i % (n + 1) = 0 then at_ l (i / (n + 1)) else ⟨0, ((i % (n + 1) : Nat) : Int) - 1⟩ := by
  have hm : i % (n + 1) < n + 1 := Nat.mod_lt _ (by omega)
  have hd : i / (n + 1) < l.length := Nat.div_lt_of_lt_mul (by rw [Nat.mul_comm]; exact hi)
  have h := flat_get (fun e : Ev => e :: roundE n) (n + 1) (fun e => by rw [List.length_cons, roundE_len]) l (i / (n + 1)) (i % (n + 1)) hm
  rw [show i / (n + 1) * (n + 1) + i % (n + 1) = i by rw [Nat.mul_comm]; exact Nat.div_add_mod i (n + 1), List.getElem?_eq_getElem hd, Option.bind_some] at h
  unfold at_
  rw [List.getD_eq_getElem?_getD]
  unfold mixE
  rw [h]
  by_cases h0 : i % (n + 1) = 0
  · rw [if_pos h0, h0, List.getD_eq_getElem?_getD, List.getElem?_eq_getElem hd]; rfl
  · rw [if_neg h0]
    obtain ⟨j, hj⟩ : ∃ j, i % (n + 1) = j + 1 := ⟨i % (n + 1) - 1, by omega⟩
    rw [hj, List.getElem?_cons_succ, roundE_at (by omega)]
    show (⟨0, (j : Int)⟩ : Ev) = ⟨0, ((j + 1 : Nat) : Int) - 1⟩
    rw [show ((j + 1 : Nat) : Int) - 1 = j by omega]
theorem pk_round (n : Nat) : pk (roundE n) = roundP n := by
  induction n with
  | zero => rfl
  | succ n ih => rw [roundE_succ, pk_append, ih]; unfold roundP; rw [List.range_succ, List.map_append]; rfl
theorem pk_rounds (n t : Nat) : pk (roundsE n t) = blocks n (List.replicate t []) := by
  induction t with
  | zero => rfl
  | succ t ih =>
    rw [roundsE_succ, pk_append, ih, pk_round, show List.replicate (t + 1) ([] : List Int) = List.replicate t [] ++ [[]] from List.replicate_succ']
    unfold blocks
    rw [List.flatMap_append]
    simp
theorem pk_mix (n : Nat) (l : List Ev) : pk (mixE n l) = blocks n (l.map fun e => if e.k = 0 then [e.n] else []) := by
  induction l with
  | nil => rfl
  | cons e l ih =>
    rw [List.map_cons, blocks_cons, ← ih]
    unfold mixE
    rw [List.flatMap_cons, List.cons_append, pk_cons, pk_append, pk_round]
theorem window_rounds {n t : Nat} (hn : 1 ≤ n) (ht : 1 ≤ t) : windowT (roundsE n t) n = n := by
  have hl : n ≤ (roundsE n t).length := by rw [roundsE_len]; exact Nat.le_mul_of_pos_left _ ht
  have hne : List.replicate t ([] : List Int) ≠ [] := fun e => by have := congrArg List.length e; simp at this; omega
  rw [windowT_winP _ _ hn hl, picks_all, pk_rounds]
  have h1 := winP_ge hn (blocks_all n hne)
  have h2 := winP_le hn (g := n + 0) (by omega) (blocks_hits n 0 (by omega) hn (List.replicate t []) (fun o ho => by rw [List.eq_of_mem_replicate ho]; exact Nat.le_refl _))
  omega
theorem window_mix {n : Nat} {l : List Ev} (hn : 1 ≤ n) (hl : l ≠ []) : (n : Int) ≤ windowT (mixE n l) n ∧ windowT (mixE n l) n ≤ n + 1 ∧ (pk l = [] → windowT (mixE n l) n = n) := by
  have hpos : 0 < l.length := List.length_pos_iff.2 hl
  have hln : n ≤ (mixE n l).length := by rw [mixE_len]; exact Nat.le_trans (Nat.le_succ n) (Nat.le_mul_of_pos_left _ hpos)
  have hne : (l.map fun e => if e.k = 0 then [e.n] else []) ≠ [] := fun e => hl (List.map_eq_nil_iff.1 e)
  rw [windowT_winP _ _ hn hln, picks_all, pk_mix]
  have h1 := winP_ge hn (blocks_all n hne)
  have h2 := winP_le hn (g := n + 1) (by omega) (blocks_hits n 1 (by omega) hn (l.map fun e => if e.k = 0 then [e.n] else []) (fun o ho => by
    obtain ⟨e, _, rfl⟩ := List.mem_map.1 ho
    split
    · exact Nat.le_refl _
    · exact Nat.zero_le _))
  refine ⟨h1, by omega, fun hp => ?_⟩
  have h3 := winP_le hn (g := n + 0) (by omega) (blocks_hits n 0 (by omega) hn (l.map fun e => if e.k = 0 then [e.n] else []) (fun o ho => by
    obtain ⟨e, he, rfl⟩ := List.mem_map.1 ho
    by_cases h : e.k = 0
    · have : e.n ∈ pk l := by
        unfold pk
        exact List.mem_map.2 ⟨e, List.mem_filter.2 ⟨he, decide_eq_true h⟩, rfl⟩
      rw [hp] at this
      cases this
    · rw [if_neg h]; exact Nat.le_refl _))
  omega
end P21
end Go.Proofs.YtkobmoabnnjejaaDoor
