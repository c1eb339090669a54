/- Plain: rows of a table, which row is within which, what is wrong with a table. No program in sight. -/
import Derived.Lib.Hide
namespace Go.Proofs.YtajbchecjbddgaaGreatDoor
namespace P7

structure Row where
  p : Int
  i : Int
  f : Int
  k : Int
  v : Int
  s : Int
  c : ByteArray

theorem Row.eq_iff (a b : Row) : a = b ↔ a.p = b.p ∧ a.i = b.i ∧ a.f = b.f ∧ a.k = b.k ∧ a.v = b.v ∧ a.s = b.s ∧ a.c = b.c := by
  constructor
  · rintro rfl; simp
  · obtain ⟨a1, a2, a3, a4, a5, a6, a7⟩ := a
    obtain ⟨b1, b2, b3, b4, b5, b6, b7⟩ := b
    rintro ⟨h1, h2, h3, h4, h5, h6, h7⟩
    simp only at h1 h2 h3 h4 h5 h6 h7
    subst h1 h2 h3 h4 h5 h6 h7
    rfl
instance : DecidableEq Row := fun a b => decidable_of_iff _ (Row.eq_iff a b).symm
def rowD : Row := ⟨0, 0, 0, 0, 0, 0, ⟨#[]⟩⟩
def at_ (l : List Row) (i : Nat) : Row := l.getD i rowD
theorem at_eq {l : List Row} {i : Nat} (h : i < l.length) : at_ l i = l[i] := by simp [at_, List.getD_eq_getElem?_getD, List.getElem?_eq_getElem h]

/-- Which row is within which, so many steps up. -/
def wi (l : List Row) (of : Int) : Nat → Int → Bool
  | 0, _ => false
  | n + 1, i => if 0 ≤ i ∧ i < l.length then (if i = of then true else wi l of n (at_ l i.toNat).p) else false

def came (r : Row) : Bool := decide (2 ≤ r.k)
def placeOk (fuel : Nat) (l : List Row) (i : Nat) : Bool := if i = 0 then decide ((at_ l i).p = -1) else decide (0 ≤ (at_ l i).p ∧ (at_ l i).p < i) && wi l (at_ l i).p fuel ((i : Int) - 1)
def spanOk (r : Row) (first : Bool) : Bool := decide (0 ≤ r.i ∧ (first = true → r.i = 0) ∧ 0 ≤ r.f ∧ r.f ≤ 31 ∧ 0 ≤ r.k ∧ r.k ≤ 4 ∧ 0 ≤ r.s ∧ r.s ≤ 1048576)
def binOk (c : ByteArray) : Bool := c.data.toList.all fun b => decide (b = 48 ∨ b = 49)
def selfOk (r : Row) : Bool := decide ((r.v = 0 ∨ r.k = 2 ∨ r.k = 3) ∧ (r.k = 0 → r.s = 0 ∧ r.c.size = 0))
def underOk (q r : Row) : Bool := decide (q.k ≠ 0 ∧ (2 ≤ q.k → 2 ≤ r.k))
def stateOk (l : List Row) (i : Nat) : Bool := selfOk (at_ l i) && (decide (i = 0) || underOk (at_ l (at_ l i).p.toNat) (at_ l i))
/-- What is wrong with a row, by those ahead of it. -/
def right (fuel : Nat) (l : List Row) (i : Nat) : Int :=
  if placeOk fuel l i = false then 11 else if spanOk (at_ l i) (decide (i = 0)) = false then 10 else if binOk (at_ l i).c = false then 11 else if stateOk l i = false then 19 else 0
def firstW (g : Nat → Int) : Nat → Nat → Int
  | 0, _ => 0
  | n + 1, i => if g i = 0 then firstW g n (i + 1) else g i
def chk (fuel : Nat) (l : List Row) : Int := if l.length = 0 then 17 else firstW (right fuel l) l.length 0

theorem firstW_of {g : Nat → Int} : ∀ (n i k : Nat), k < n → (∀ j, j < k → g (i + j) = 0) → g (i + k) ≠ 0 → firstW g n i = g (i + k)
  | n + 1, i, 0, _, _, h => by
    have h' : g i ≠ 0 := h
    rw [firstW, if_neg h']; rfl
  | n + 1, i, k + 1, hk, hj, h => by
    have h0 : g i = 0 := hj 0 (by omega)
    rw [firstW, if_pos h0, firstW_of n (i + 1) k (by omega) (fun j hjk => by rw [show i + 1 + j = i + (j + 1) by omega]; exact hj (j + 1) (by omega)) (by rwa [show i + 1 + k = i + (k + 1) by omega])]
    rw [show i + 1 + k = i + (k + 1) by omega]
theorem firstW_ok {g : Nat → Int} : ∀ (n i : Nat), (∀ j, j < n → g (i + j) = 0) → firstW g n i = 0
  | 0, i, _ => rfl
  | n + 1, i, h => by 
    have h0 : g i = 0 := h 0 (by omega)
    rw [firstW, if_pos h0, firstW_ok n (i + 1) fun j hj => by rw [show i + 1 + j = i + (j + 1) by omega]; exact h (j + 1) (by omega)]
theorem firstW_zero {g : Nat → Int} : ∀ (n i : Nat), firstW g n i = 0 → ∀ j, j < n → g (i + j) = 0
  | n + 1, i, h, j, hj => by
    rw [firstW] at h
    by_cases h0 : g i = 0
    · rw [if_pos h0] at h
      cases j with
      | zero => exact h0
      | succ j => rw [show i + (j + 1) = i + 1 + j by omega]; exact firstW_zero n (i + 1) h j (by omega)
    · rw [if_neg h0] at h; exact absurd h h0
theorem firstW_congr {g g' : Nat → Int} : ∀ (n i : Nat), (∀ k, i ≤ k → (∀ j, i ≤ j → j < k → g j = 0) → g k = g' k) → firstW g n i = firstW g' n i
  | 0, i, _ => rfl
  | n + 1, i, h => by
    have h0 := h i (Nat.le_refl _) fun j h1 h2 => by omega
    rw [firstW, firstW, h0]
    by_cases hz : g' i = 0
    · rw [if_pos hz, if_pos hz]
      refine firstW_congr n (i + 1) fun k hk hj => h k (by omega) fun j h1 h2 => ?_
      by_cases e : j = i
      · rw [e, h0, hz]
      · exact hj j (by omega) h2
    · rw [if_neg hz, if_neg hz]

/-- Rows up to a place, each but the first with its parent ahead of it. -/
def Up (l : List Row) (n : Nat) : Prop := ∀ j, j < n → j < l.length → (at_ l j).p < j ∧ (j ≠ 0 → 0 ≤ (at_ l j).p)
theorem right_up {fuel : Nat} {l : List Row} {j : Nat} (h : right fuel l j = 0) : placeOk fuel l j = true ∧ spanOk (at_ l j) (decide (j = 0)) = true ∧ binOk (at_ l j).c = true ∧ stateOk l j = true := by
  unfold right at h
  split at h
  · cases h
  · rename_i h1
    split at h
    · cases h
    · rename_i h2
      split at h
      · cases h
      · rename_i h3
        split at h
        · cases h
        · rename_i h4
          exact ⟨by simpa using h1, by simpa using h2, by simpa using h3, by simpa using h4⟩
theorem place_up {fuel : Nat} {l : List Row} {j : Nat} (h : placeOk fuel l j = true) : (at_ l j).p < j ∧ (j ≠ 0 → 0 ≤ (at_ l j).p) := by
  unfold placeOk at h
  by_cases h0 : j = 0
  · rw [if_pos h0] at h
    have := of_decide_eq_true h
    omega
  · rw [if_neg h0] at h
    have := of_decide_eq_true (Bool.and_eq_true_iff.1 h).1
    omega
theorem up_of_right {fuel : Nat} {l : List Row} {n : Nat} (h : ∀ j, j < n → right fuel l j = 0) : Up l n := fun j hj _ => place_up (right_up (h j hj)).1
/-- As many steps as there are rows, or more, are as good. -/
theorem wi_fuel {l : List Row} {of : Int} {N : Nat} (hu : Up l N) : ∀ (i : Nat) (n m : Nat), i < N → i < n → i < m → wi l of n i = wi l of m i := by
  intro i
  induction i using Nat.strongRecOn with
  | ind i ih =>
    intro n m hN hn hm
    obtain ⟨n, rfl⟩ : ∃ n', n = n' + 1 := ⟨n - 1, by omega⟩
    obtain ⟨m, rfl⟩ : ∃ m', m = m' + 1 := ⟨m - 1, by omega⟩
    rw [wi, wi]
    by_cases h1 : 0 ≤ (i : Int) ∧ (i : Int) < l.length
    · rw [if_pos h1, if_pos h1]
      by_cases h2 : (i : Int) = of
      · rw [if_pos h2, if_pos h2]
      · rw [if_neg h2, if_neg h2, Int.toNat_natCast]
        obtain ⟨u1, u2⟩ := hu i hN (by omega)
        by_cases h3 : 0 ≤ (at_ l i).p
        · obtain ⟨q, hq⟩ := Int.eq_ofNat_of_zero_le h3
          rw [hq]
          exact ih q (by omega) n m (by omega) (by omega) (by omega)
        · cases n with
          | zero => cases m with
            | zero => rfl
            | succ m => rw [wi, wi, if_neg (by omega)]
          | succ n => cases m with
            | zero => rw [wi, wi, if_neg (by omega)]
            | succ m => rw [wi, wi, if_neg (by omega), if_neg (by omega)]
    · rw [if_neg h1, if_neg h1]
theorem right_fuel {l : List Row} {i : Nat} {n m : Nat} (hi : i < l.length) (hn : l.length ≤ n) (hm : l.length ≤ m) (h : ∀ j, j < i → right n l j = 0) : right n l i = right m l i := by
  have hp : placeOk n l i = placeOk m l i := by
    unfold placeOk
    by_cases h0 : i = 0
    · rw [if_pos h0, if_pos h0]
    · rw [if_neg h0, if_neg h0]
      have e : ((i : Int) - 1) = ((i - 1 : Nat) : Int) := by omega
      rw [e, wi_fuel (up_of_right h) (i - 1) n m (by omega) (by omega) (by omega)]
  unfold right
  rw [hp]
theorem chk_fuel {l : List Row} {n m : Nat} (hn : l.length ≤ n) (hm : l.length ≤ m) : chk n l = chk m l := by
  unfold chk
  split
  · rfl
  · have : ∀ (k i : Nat), i + k = l.length → (∀ j, j < i → right n l j = 0) → firstW (right n l) k i = firstW (right m l) k i := by
      intro k
      induction k with
      | zero => intro i _ _; rfl
      | succ k ih =>
        intro i hik hj
        have e := right_fuel (i := i) (by omega) hn hm hj
        rw [firstW, firstW, ← e]
        by_cases h0 : right n l i = 0
        · rw [if_pos h0, if_pos h0]
          exact ih (i + 1) (by omega) fun j hji => by
            by_cases e : j = i
            · rw [e]; exact h0
            · exact hj j (by omega)
        · rw [if_neg h0, if_neg h0]
    exact this _ 0 (by omega) fun j hj => by omega
/-- A table: each row right. -/
def Tab (l : List Row) : Prop := chk (l.length + 1) l = 0
theorem Tab.row {l : List Row} (h : Tab l) : ∀ j, j < l.length → right (l.length + 1) l j = 0 := by
  unfold Tab chk at h
  split at h
  · cases h
  · intro j hj
    have := firstW_zero _ _ h j hj
    rwa [Nat.zero_add] at this
theorem Tab.pos {l : List Row} (h : Tab l) : 0 < l.length := by
  unfold Tab chk at h
  split at h
  · cases h
  · omega
theorem Tab.up {l : List Row} (h : Tab l) : Up l l.length := fun j hj _ => place_up (right_up (h.row j hj)).1
/-- In a table as many steps as there are rows are as good as one more. -/
theorem Tab.within {l : List Row} (h : Tab l) (i of : Int) : wi l of l.length i = wi l of (l.length + 1) i := by
  by_cases h1 : 0 ≤ i ∧ i < l.length
  · obtain ⟨k, rfl⟩ := Int.eq_ofNat_of_zero_le h1.1
    exact wi_fuel h.up k _ _ (by omega) (by omega) (by omega)
  · have hp := h.pos
    obtain ⟨n, hn⟩ : ∃ n, l.length = n + 1 := ⟨l.length - 1, by omega⟩
    rw [hn, wi, wi, if_neg (by omega), if_neg (by omega)]
end P7
end Go.Proofs.YtajbchecjbddgaaGreatDoor
