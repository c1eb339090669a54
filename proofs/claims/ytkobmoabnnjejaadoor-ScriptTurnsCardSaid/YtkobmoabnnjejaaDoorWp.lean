/- Script: what Window answers, plain: the least number of picks in each of which each worker is picked. -/
import Derived.Test.YtkobmoabnnjejaaDoorS8a
namespace Go.Proofs.YtkobmoabnnjejaaDoor
open Go.RowKit
namespace P21
open PC

/-- Each of n workers is among each so many, side by side. -/
def Hits (P : List Int) (n g : Nat) : Prop := ∀ k, k < n → ∀ i, i + g ≤ P.length → ∃ j, i ≤ j ∧ j < i + g ∧ P[j]? = some (k : Int)
def wf (n : Nat) (P : List Int) : WS := P.foldl (wStep n) ⟨List.replicate n 0, 0, 0⟩
theorem wf_snoc (n : Nat) (P : List Int) (x : Int) : wf n (P ++ [x]) = wStep n (wf n P) x := by simp [wf]
theorem wFold_wf (n : Nat) (ps : List (Nat × Int)) : wFold n ps = wf n (ps.map (·.2)) := by
  unfold wFold wf
  rw [List.foldl_map]
  rfl
structure WInv (n : Nat) (P : List Int) (s : WS) : Prop where
  len : s.last.length = n
  picks : s.picks = P.length
  w0 : 0 ≤ s.worst
  last : ∀ k, k < n → (s.last.getD k 0 = 0 ∧ ∀ j : Nat, P[j]? ≠ some (k : Int)) ∨ ∃ j : Nat, s.last.getD k 0 = (j : Int) + 1 ∧ P[j]? = some (k : Int) ∧ ∀ i : Nat, j < i → P[i]? ≠ some (k : Int)
  win : ∀ k, k < n → ∀ i L : Nat, 1 ≤ L → s.worst ≤ L → ((i + L : Nat) : Int) ≤ s.last.getD k 0 → ∃ j : Nat, i ≤ j ∧ j < i + L ∧ P[j]? = some (k : Int)
  wit : s.worst = 0 ∨ ∃ k, k < n ∧ ∃ a : Nat, a + s.worst ≤ P.length ∧ ∀ j : Nat, a ≤ j → ((j : Int) + 1 < a + s.worst) → P[j]? ≠ some (k : Int)
theorem lt_of_get {P : List Int} {j : Nat} {x : Int} (h : P[j]? = some x) : j < P.length := by
  rcases Nat.lt_or_ge j P.length with h' | h'
  · exact h'
  · rw [List.getElem?_eq_none h'] at h; cases h
theorem snoc_get {P : List Int} {x : Int} {j : Nat} (h : j < P.length) : (P ++ [x])[j]? = P[j]? := List.getElem?_append_left h
theorem snoc_last (P : List Int) (x : Int) : (P ++ [x])[P.length]? = some x := by simp
theorem snoc_none {P : List Int} {x : Int} {j : Nat} (h : P.length < j) : (P ++ [x])[j]? = none := List.getElem?_eq_none (by simp; omega)
theorem snoc_ne {P : List Int} {x y : Int} {j : Nat} (h : P[j]? ≠ some y) (hx : j = P.length → x ≠ y) : (P ++ [x])[j]? ≠ some y := by
  rcases Nat.lt_trichotomy j P.length with h' | h' | h'
  · rw [snoc_get h']; exact h
  · subst h'; rw [snoc_last]; exact fun e => hx rfl (Option.some.inj e)
  · rw [snoc_none h']; exact fun e => by cases e
theorem snoc_some {P : List Int} {x y : Int} {j : Nat} (h : P[j]? = some y) : (P ++ [x])[j]? = some y := by rw [snoc_get (lt_of_get h)]; exact h
theorem wf_inv (n : Nat) : ∀ (m : Nat) (P : List Int), P.length = m → WInv n P (wf n P) := by
  intro m
  induction m with
  | zero =>
    intro P hP
    have : P = [] := List.eq_nil_of_length_eq_zero hP
    subst this
    have e : ∀ k, (wf n []).last.getD k 0 = 0 := by
      intro k
      show (List.replicate n (0 : Int)).getD k 0 = 0
      rw [List.getD_eq_getElem?_getD, List.getElem?_replicate]
      split <;> rfl
    refine ⟨by simp [wf], rfl, Int.le_refl _, fun k _ => .inl ⟨e k, fun j => by simp⟩, fun k _ i L h1 _ h => ?_, .inl rfl⟩
    rw [e k] at h
    omega
  | succ m ih =>
    intro P hP
    have hne : P ≠ [] := fun e => by rw [e] at hP; simp at hP
    obtain ⟨Q, x, rfl⟩ : ∃ Q x, P = Q ++ [x] := ⟨P.dropLast, P.getLast hne, (List.dropLast_concat_getLast hne).symm⟩
    have hQ : Q.length = m := by simpa using hP
    obtain ⟨h1, h2, h0, h3, h4, h5⟩ := ih Q hQ
    rw [wf_snoc]
    obtain ⟨s, hs⟩ : ∃ s, wf n Q = s := ⟨_, rfl⟩
    rw [hs] at h1 h2 h0 h3 h4 h5 ⊢
    clear hs ih
    unfold wStep
    by_cases hx : 0 ≤ x ∧ x < n
    · rw [if_pos hx]
      obtain ⟨k0, rfl⟩ := Int.eq_ofNat_of_zero_le hx.1
      have hk0 : k0 < n := by omega
      have hg : ∀ k, k < n → (s.last.set k0 (s.picks + 1)).getD k 0 = if k0 = k then s.picks + 1 else s.last.getD k 0 := by
        intro k hk
        rw [List.getD_eq_getElem?_getD, List.getElem?_set, List.getD_eq_getElem?_getD]
        by_cases e : k0 = k
        · rw [if_pos e, if_pos e, if_pos (by omega)]; rfl
        · rw [if_neg e, if_neg e]
      simp only [Int.toNat_natCast]
      have hl0 : 0 ≤ s.last.getD k0 0 ∧ s.last.getD k0 0 ≤ m := by
        rcases h3 k0 hk0 with ⟨e, _⟩ | ⟨j, e, hj, _⟩
        · omega
        · have := lt_of_get hj; omega
      refine ⟨by simpa using h1, by simp only [h2, List.length_append, List.length_cons, List.length_nil]; omega, by simp only; omega, fun k hk => ?_, fun k hk i L hL1 hL h => ?_, ?_⟩
      · simp only
        rw [hg k hk]
        by_cases e : k0 = k
        · subst e
          rw [if_pos rfl]
          exact .inr ⟨Q.length, by rw [h2], snoc_last _ _, fun i hi => by rw [snoc_none hi]; exact fun e => by cases e⟩
        · rw [if_neg e]
          have hne : (k0 : Int) ≠ k := fun c => e (by omega)
          rcases h3 k hk with ⟨e1, e2⟩ | ⟨j, e1, e2, e3⟩
          · exact .inl ⟨e1, fun j => snoc_ne (e2 j) fun _ => hne⟩
          · exact .inr ⟨j, e1, snoc_some e2, fun i hi => snoc_ne (e3 i hi) fun _ => hne⟩
      · simp only at hL h
        rw [hg k hk] at h
        by_cases e : k0 = k
        · subst e
          rw [if_pos rfl, h2] at h
          by_cases c1 : ((i + L : Nat) : Int) ≤ s.last.getD k0 0
          · obtain ⟨j, a, b, c⟩ := h4 k0 hk i L hL1 (by omega) c1
            exact ⟨j, a, b, snoc_some c⟩
          · by_cases c2 : i + L = Q.length + 1
            · exact ⟨Q.length, by omega, by omega, snoc_last _ _⟩
            · rcases h3 k0 hk with ⟨e1, e2⟩ | ⟨j, e1, e2, e3⟩
              · omega
              · by_cases c3 : i ≤ j
                · exact ⟨j, c3, by omega, snoc_some e2⟩
                · omega
        · rw [if_neg e] at h
          obtain ⟨j, a, b, c⟩ := h4 k hk i L hL1 (by omega) h
          exact ⟨j, a, b, snoc_some c⟩
      · simp only
        right
        by_cases c : s.worst ≤ s.picks + 1 - s.last.getD k0 0
        · rw [Int.max_eq_right c]
          refine ⟨k0, hk0, (s.last.getD k0 0).toNat, ?_, fun j hj hj2 => ?_⟩
          · rw [List.length_append, List.length_cons, List.length_nil, h2]; omega
          · refine snoc_ne ?_ fun e => by omega
            rcases h3 k0 hk0 with ⟨_, e2⟩ | ⟨j', e1, _, e3⟩
            · exact e2 j
            · exact e3 j (by omega)
        · rw [Int.max_eq_left (by omega)]
          rcases h5 with h5 | ⟨k, hk, a, ha, hb⟩
          · omega
          · refine ⟨k, hk, a, ?_, fun j hj hj2 => snoc_ne (hb j hj hj2) fun e => by omega⟩
            rw [List.length_append, List.length_cons, List.length_nil]; omega
    · rw [if_neg hx]
      have hne : ∀ k : Nat, k < n → x ≠ k := fun k hk e => hx (by omega)
      refine ⟨h1, by simp only [h2, List.length_append, List.length_cons, List.length_nil]; omega, h0, fun k hk => ?_, fun k hk i L hL1 hL h => ?_, ?_⟩
      · rcases h3 k hk with ⟨e1, e2⟩ | ⟨j, e1, e2, e3⟩
        · exact .inl ⟨e1, fun j => snoc_ne (e2 j) fun _ => hne k hk⟩
        · exact .inr ⟨j, e1, snoc_some e2, fun i hi => snoc_ne (e3 i hi) fun _ => hne k hk⟩
      · obtain ⟨j, a, b, c⟩ := h4 k hk i L hL1 hL h
        exact ⟨j, a, b, snoc_some c⟩
      · rcases h5 with h5 | ⟨k, hk, a, ha, hb⟩
        · exact .inl h5
        · exact .inr ⟨k, hk, a, by rw [List.length_append, List.length_cons, List.length_nil]; simp only; omega, fun j hj hj2 => snoc_ne (hb j hj hj2) fun _ => hne k hk⟩
theorem wEnd_zero (p : Int) : ∀ (l : List Int) (w : Int), 0 ∈ l → wEnd p l w = 0
  | a :: l, w, h => by
    rw [wEnd]
    by_cases e : a = 0
    · rw [if_pos e]
    · rw [if_neg e]
      rcases List.mem_cons.1 h with h | h
      · exact absurd h.symm e
      · exact wEnd_zero p l _ h
theorem wEnd_more (p : Int) : ∀ (l : List Int) (w : Int), 0 ∉ l → w ≤ wEnd p l w ∧ (∀ a ∈ l, p + 1 - a ≤ wEnd p l w) ∧ (wEnd p l w = w ∨ ∃ a ∈ l, wEnd p l w = p + 1 - a)
  | [], w, _ => ⟨Int.le_refl w, ⟨(fun (a : Int) (h : a ∈ ([] : List Int)) => absurd h (List.not_mem_nil)), Or.inl rfl⟩⟩
  | a :: l, w, h => by
    have ha : ¬ a = 0 := fun e => h (by rw [e]; exact List.mem_cons_self)
    obtain ⟨h1, h2, h3⟩ := wEnd_more p l (max w (p + 1 - a)) (fun e => h (List.mem_cons_of_mem _ e))
    rw [wEnd, if_neg ha]
    refine ⟨by omega, fun b hb => ?_, ?_⟩
    · rcases List.mem_cons.1 hb with e | e
      · subst e; omega
      · exact h2 b e
    · rcases h3 with h3 | ⟨b, hb, h3⟩
      · rw [h3]
        by_cases c : w ≤ p + 1 - a
        · exact .inr ⟨a, List.mem_cons_self, Int.max_eq_right c⟩
        · exact .inl (Int.max_eq_left (by omega))
      · exact .inr ⟨b, List.mem_cons_of_mem _ hb, h3⟩
/-- What Window answers of picks. -/
def winP (n : Nat) (P : List Int) : Int := wEnd (wf n P).picks (wf n P).last (wf n P).worst
theorem window_law (n : Nat) (hn : 1 ≤ n) (P : List Int) : (winP n P = 0 ∧ ∃ k, k < n ∧ (k : Int) ∉ P) ∨
    ∃ g : Nat, winP n P = g ∧ 1 ≤ g ∧ g ≤ P.length ∧ (∀ k, k < n → (k : Int) ∈ P) ∧ Hits P n g ∧
      ∃ a, a < P.length ∧ a + g ≤ P.length + 1 ∧ (g = 1 ∨ ∃ k, k < n ∧ ∀ j, a ≤ j → j + 1 < a + g → P[j]? ≠ some (k : Int)) := by
  obtain ⟨h1, h2, h0, h3, h4, h5⟩ := wf_inv n P.length P rfl
  unfold winP
  obtain ⟨s, hs⟩ : ∃ s, wf n P = s := ⟨_, rfl⟩
  rw [hs] at h1 h2 h0 h3 h4 h5 ⊢
  clear hs
  have hmem : ∀ a, a ∈ s.last → ∃ k, k < n ∧ s.last.getD k 0 = a := by
    intro a ha
    obtain ⟨k, hk, e⟩ := List.getElem_of_mem ha
    exact ⟨k, by omega, by rw [List.getD_eq_getElem?_getD, List.getElem?_eq_getElem hk]; exact e⟩
  have hin : ∀ k, k < n → s.last.getD k 0 ∈ s.last := by
    intro k hk
    rw [List.getD_eq_getElem?_getD, List.getElem?_eq_getElem (by omega)]
    exact List.getElem_mem _
  by_cases hz : (0 : Int) ∈ s.last
  · left
    refine ⟨wEnd_zero _ _ _ hz, ?_⟩
    obtain ⟨k, hk, e⟩ := hmem 0 hz
    refine ⟨k, hk, fun hP => ?_⟩
    obtain ⟨j, hj, ej⟩ := List.getElem_of_mem hP
    rcases h3 k hk with ⟨_, e2⟩ | ⟨j', e1, _, _⟩
    · exact e2 j (by rw [List.getElem?_eq_getElem hj, ej])
    · omega
  · right
    obtain ⟨g1, g2, g3⟩ := wEnd_more s.picks s.last s.worst hz
    obtain ⟨G, hG⟩ : ∃ G, wEnd s.picks s.last s.worst = G := ⟨_, rfl⟩
    rw [hG] at g1 g2 g3 ⊢
    obtain ⟨g, rfl⟩ := Int.eq_ofNat_of_zero_le (show 0 ≤ G by omega)
    have hlast : ∀ k, k < n → ∃ j : Nat, s.last.getD k 0 = (j : Int) + 1 ∧ P[j]? = some (k : Int) ∧ ∀ i, j < i → P[i]? ≠ some (k : Int) := by
      intro k hk
      rcases h3 k hk with ⟨e1, _⟩ | h
      · exact absurd (by rw [← e1]; exact hin k hk) hz
      · exact h
    have hg1 : 1 ≤ g := by
      obtain ⟨j, e1, e2, _⟩ := hlast 0 hn
      have := g2 _ (hin 0 hn)
      have := lt_of_get e2
      omega
    have hP1 : 1 ≤ P.length := by
      obtain ⟨j, e1, e2, _⟩ := hlast 0 hn
      have := lt_of_get e2
      omega
    have hgm : g ≤ P.length := by
      rcases g3 with e | ⟨a, ha, e⟩
      · rcases h5 with h5 | ⟨k, hk, a, ha, hb⟩
        · omega
        · omega
      · obtain ⟨k, hk, rfl⟩ := hmem a ha
        obtain ⟨j, e1, e2, _⟩ := hlast k hk
        omega
    refine ⟨g, rfl, hg1, hgm, fun k hk => ?_, fun k hk i hi => ?_, ?_⟩
    · obtain ⟨j, e1, e2, _⟩ := hlast k hk
      exact List.mem_of_getElem? e2
    · obtain ⟨j, e1, e2, _⟩ := hlast k hk
      have := g2 _ (hin k hk)
      by_cases c : ((i + g : Nat) : Int) ≤ s.last.getD k 0
      · exact h4 k hk i g hg1 g1 c
      · by_cases c2 : i ≤ j
        · exact ⟨j, c2, by omega, e2⟩
        · omega
    · by_cases hg : g = 1
      · exact ⟨0, by omega, by omega, .inl hg⟩
      · rcases g3 with e | ⟨a, ha, e⟩
        · rcases h5 with h5 | ⟨k, hk, a, ha, hb⟩
          · omega
          · exact ⟨a, by omega, by omega, .inr ⟨k, hk, fun j hj hj2 => hb j hj (by omega)⟩⟩
        · obtain ⟨k, hk, rfl⟩ := hmem a ha
          obtain ⟨j, e1, e2, e3⟩ := hlast k hk
          exact ⟨j + 1, by omega, by omega, .inr ⟨k, hk, fun i hi _ => e3 i (by omega)⟩⟩
theorem pigeon : ∀ (n : Nat) (P : List Int), (∀ k, k < n → (k : Int) ∈ P) → n ≤ P.length
  | 0, _, _ => Nat.zero_le _
  | n + 1, P, h => by
    have h1 := pigeon n (P.erase (n : Int)) (fun k hk => (List.mem_erase_of_ne (by omega)).2 (h k (by omega)))
    have h2 := List.length_erase_of_mem (h n (by omega))
    have h3 : 0 < P.length := List.length_pos_of_mem (h n (by omega))
    omega
/-- All of n workers are in a list, as the law asks it. -/
def allT (P : List Int) (n : Nat) : Bool := decide (n ≤ P.length) && decide (∀ k, k < n → (k : Int) ∈ P)
theorem allT_iff (P : List Int) (n : Nat) : allT P n = true ↔ ∀ k, k < n → (k : Int) ∈ P := by
  unfold allT
  rw [Bool.and_eq_true, decide_eq_true_iff, decide_eq_true_iff]
  exact ⟨fun h => h.2, fun h => ⟨pigeon n P h, h⟩⟩
theorem hits_part {P : List Int} {n g : Nat} (h : Hits P n g) {i : Nat} (hi : i + g ≤ P.length) : allT ((P.drop i).take g) n = true := by
  rw [allT_iff]
  intro k hk
  obtain ⟨j, h1, h2, h3⟩ := h k hk i hi
  refine List.mem_of_getElem? (i := j - i) ?_
  rw [List.getElem?_take, if_pos (by omega), List.getElem?_drop, show i + (j - i) = j by omega]
  exact h3
theorem miss_part {P : List Int} {n g : Nat} (hn : 1 ≤ n) {a : Nat} (h : g = 1 ∨ ∃ k, k < n ∧ ∀ j, a ≤ j → j + 1 < a + g → P[j]? ≠ some (k : Int)) : allT ((P.drop a).take (g - 1)) n = false := by
  cases hc : allT ((P.drop a).take (g - 1)) n with
  | false => rfl
  | true =>
    rw [allT_iff] at hc
    rcases h with rfl | ⟨k, hk, h⟩
    · have := hc 0 (by omega)
      simp at this
    · obtain ⟨j, hj, e⟩ := List.getElem_of_mem (hc k hk)
      have e2 : ((P.drop a).take (g - 1))[j]? = some (k : Int) := by rw [List.getElem?_eq_getElem hj, e]
      rw [List.getElem?_take] at e2
      split at e2
      · rw [List.getElem?_drop] at e2
        exact absurd e2 (h (a + j) (by omega) (by omega))
      · cases e2
/-- It is the least such number. -/
theorem winP_le {n : Nat} (hn : 1 ≤ n) {P : List Int} {g : Nat} (hg : 1 ≤ g) (h : Hits P n g) : winP n P ≤ g := by
  rcases window_law n hn P with ⟨e, _⟩ | ⟨G, e, h1, h2, _, _, a, ha, hag, hm⟩
  · omega
  · rw [e]
    rcases hm with hm | ⟨k, hk, hm⟩
    · omega
    · rcases Nat.lt_or_ge g G with c | c
      · obtain ⟨j, j1, j2, j3⟩ := h k hk a (by omega)
        exact absurd j3 (hm j j1 (by omega))
      · omega
theorem winP_ge {n : Nat} (hn : 1 ≤ n) {P : List Int} (hall : ∀ k, k < n → (k : Int) ∈ P) : n ≤ winP n P := by
  rcases window_law n hn P with ⟨_, k, hk, h⟩ | ⟨G, e, h1, h2, _, h, _⟩
  · exact absurd (hall k hk) h
  · have := (allT_iff _ _).1 (hits_part h (i := 0) (by omega))
    have := pigeon n _ this
    rw [List.length_take] at this
    omega
theorem windowT_winP (l : List Ev) (n : Nat) (h1 : 1 ≤ n) (h2 : n ≤ l.length) : windowT l n = winP n ((picksTo l l.length).map (·.2)) := by
  unfold windowT
  rw [if_neg (by omega)]
  rw [wFold_wf]
  rfl
end P21
end Go.Proofs.YtkobmoabnnjejaaDoor
