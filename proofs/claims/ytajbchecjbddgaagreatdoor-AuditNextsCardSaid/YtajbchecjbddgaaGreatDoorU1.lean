/- Audit: shots, plain: what the document asks of them. No program in sight. -/
import Derived.Test.YtajbchecjbddgaaGreatDoorT7a
namespace Go.Proofs.YtajbchecjbddgaaGreatDoor
namespace P20
open P7

/-- A scope: its row, its K, the one it is in, asked, closed, how many live in it. -/
structure Sc where
  r : Int
  k : Int
  n : Int
  a : Bool
  c : Bool
  v : Int
structure Wk where
  on : Bool
  pk : Bool
  st : List Int
  dq : List Int
structure Sh where
  l : List Row
  sc : List Sc
  ws : List Wk
def scD : Sc := ⟨0, 0, 0, false, false, 0⟩
def sA (l : List Sc) (i : Nat) : Sc := l.getD i scD
theorem sA_eq {l : List Sc} {i : Nat} (h : i < l.length) : sA l i = l[i] := by simp [sA, List.getD_eq_getElem?_getD, List.getElem?_eq_getElem h]
def wkD : Wk := ⟨false, false, [], []⟩
def wA (l : List Wk) (i : Nat) : Wk := l.getD i wkD
theorem wA_eq {l : List Wk} {i : Nat} (h : i < l.length) : wA l i = l[i] := by simp [wA, List.getD_eq_getElem?_getD, List.getElem?_eq_getElem h]

/-- Is the scope at a place of a row and a K? -/
def isAt (sc : List Sc) (r k : Int) (i : Nat) : Prop := (sA sc i).r = r ∧ (sA sc i).k = k
instance (sc : List Sc) (r k : Int) (i : Nat) : Decidable (isAt sc r k i) := by unfold isAt; exact inferInstance
/-- The first one of a row and a K, from a place on. -/
def fndF (sc : List Sc) (r k : Int) : Nat → Nat → Option Nat
  | 0, _ => none
  | f + 1, i => if isAt sc r k i then some i else fndF sc r k f (i + 1)
def fnd (sc : List Sc) (r k : Int) : Option Nat := fndF sc r k sc.length 0
def inI : Option Nat → Int
  | none => -1
  | some i => i
theorem fndF_some {sc : List Sc} {r k : Int} : ∀ {f i j : Nat}, fndF sc r k f i = some j → i ≤ j ∧ j < i + f ∧ isAt sc r k j ∧ ∀ m, i ≤ m → m < j → ¬ isAt sc r k m
  | f + 1, i, j, h => by
    rw [fndF] at h
    split at h
    · rename_i h1
      injection h with h
      subst h
      exact ⟨Nat.le_refl _, by omega, h1, fun m h2 h3 => by omega⟩
    · rename_i h1
      obtain ⟨a, b, c, d⟩ := fndF_some h
      refine ⟨by omega, by omega, c, fun m h2 h3 => ?_⟩
      by_cases e : m = i
      · rw [e]; exact h1
      · exact d m (by omega) h3
theorem fndF_none {sc : List Sc} {r k : Int} : ∀ {f i : Nat}, fndF sc r k f i = none ↔ ∀ m, i ≤ m → m < i + f → ¬ isAt sc r k m
  | 0, i => by
    refine ⟨fun _ m h1 h2 => by omega, fun _ => rfl⟩
  | f + 1, i => by
    rw [fndF]
    split
    · rename_i h1
      refine ⟨(fun h => by cases h), fun h => absurd h1 (h i (Nat.le_refl _) (by omega))⟩
    · rename_i h1
      rw [fndF_none]
      refine ⟨fun h m h2 h3 => ?_, fun h m h2 h3 => h m (by omega) (by omega)⟩
      by_cases e : m = i
      · rw [e]; exact h1
      · exact h m (by omega) (by omega)
theorem fnd_some {sc : List Sc} {r k : Int} {j : Nat} (h : fnd sc r k = some j) : j < sc.length ∧ isAt sc r k j ∧ ∀ m, m < j → ¬ isAt sc r k m := by
  obtain ⟨_, b, c, d⟩ := fndF_some h
  exact ⟨by omega, c, fun m h => d m (Nat.zero_le _) h⟩
theorem fnd_none {sc : List Sc} {r k : Int} : fnd sc r k = none ↔ ∀ m, m < sc.length → ¬ isAt sc r k m := by
  unfold fnd
  rw [fndF_none]
  exact ⟨fun h m hm => h m (Nat.zero_le _) (by omega), fun h m _ hm => h m (by omega)⟩
theorem fnd_first {sc : List Sc} {r k : Int} {j : Nat} (hj : j < sc.length) (h : isAt sc r k j) (hb : ∀ m, m < j → ¬ isAt sc r k m) : fnd sc r k = some j := by
  cases hf : fnd sc r k with
  | none => exact absurd h (fnd_none.1 hf j hj)
  | some i =>
    obtain ⟨h1, h2, h3⟩ := fnd_some hf
    have h4 : ¬ i < j := fun e => hb i e h2
    have h5 : ¬ j < i := fun e => h3 j e h
    rw [show i = j by omega]

/-- The scope of a row. -/
def ofN (s : Sh) (i : Nat) : Option Nat := fnd s.sc (at_ s.l i).p (at_ s.l i).i
/-- The scope right around one. -/
def arN (s : Sh) (i : Nat) : Option Nat :=
  if (sA s.sc i).r < 0 then none else if 0 < (sA s.sc i).k then fnd s.sc (sA s.sc i).r (sA s.sc i).n else ofN s (sA s.sc i).r.toNat
/-- Does a scope stand where it has to, behind the one ahead of it? -/
def told (s : Sh) (i : Nat) : Prop :=
  (i = 0 → (sA s.sc i).r = -1 ∧ (sA s.sc i).k = 0 ∧ (sA s.sc i).n = 0) ∧
  (i ≠ 0 → 0 ≤ (sA s.sc i).r ∧ (sA s.sc i).r < s.l.length ∧
    (((sA s.sc i).r = (sA s.sc (i - 1)).r ∧ (sA s.sc i).k = (sA s.sc (i - 1)).k + 1 ∧ 0 ≤ (sA s.sc i).n ∧ (sA s.sc i).n < (sA s.sc i).k) ∨
     ((sA s.sc (i - 1)).r < (sA s.sc i).r ∧ (sA s.sc i).k = 0 ∧ (sA s.sc i).n = 0)))
instance (s : Sh) (i : Nat) : Decidable (told s i) := by unfold told; exact inferInstance
/-- So do all ahead of a place. -/
def toldTo (s : Sh) (m : Nat) : Prop := ∀ i, i < m → told s i ∧ 0 ≤ (sA s.sc i).v
def scOk (s : Sh) : Prop := toldTo s s.sc.length ∧ ∀ i, i < s.l.length → ofN s i ≠ none
instance (s : Sh) : Decidable (scOk s) := by unfold scOk toldTo; exact inferInstance
def numL (l : List Int) (n : Nat) : Prop := ∀ x ∈ l, 0 ≤ x ∧ x < n
instance (l : List Int) (n : Nat) : Decidable (numL l n) := by unfold numL; exact inferInstance
def numOk (s : Sh) : Prop := s.ws.length ≤ 16 ∧ ∀ w ∈ s.ws, numL w.st s.l.length ∧ numL w.dq s.l.length
instance (s : Sh) : Decidable (numOk s) := by unfold numOk; exact inferInstance
def allS (ws : List Wk) : List Int := ws.flatMap (·.st)
def allD (ws : List Wk) : List Int := ws.flatMap (·.dq)
def stOk (s : Sh) : Prop := (allS s.ws).Nodup ∧ (allD s.ws).Nodup ∧ (∀ w ∈ s.ws, w.on = false → w.st = []) ∧ ∀ x ∈ allS s.ws, (at_ s.l x.toNat).k ≠ 0
instance (s : Sh) : Decidable (stOk s) := by unfold stOk; exact inferInstance
/-- A scope, and those around it. -/
def chF (s : Sh) : Nat → Nat → List Nat
  | 0, _ => []
  | f + 1, i => i :: (match arN s i with
    | none => []
    | some j => chF s f j)
def ch (s : Sh) (i : Nat) : List Nat := chF s (i + 1) i
/-- Is a row in a scope? -/
def rowIn (s : Sh) (i j : Nat) : Prop := j ∈ ch s ((ofN s i).getD 0)
instance (s : Sh) (i j : Nat) : Decidable (rowIn s i j) := by unfold rowIn; exact inferInstance
def cleanR (s : Sh) (j i : Nat) : Prop := rowIn s i j → 2 ≤ (at_ s.l i).k ∧ (i : Int) ∉ allS s.ws ∧ (i : Int) ∉ allD s.ws
instance (s : Sh) (j i : Nat) : Decidable (cleanR s j i) := by unfold cleanR; exact inferInstance
def clean (s : Sh) (j : Nat) : Prop := (sA s.sc j).v = 0 ∧ ∀ i, i < s.l.length → cleanR s j i
instance (s : Sh) (j : Nat) : Decidable (clean s j) := by unfold clean; exact inferInstance
def clOk (s : Sh) : Prop := ∀ j, j < s.sc.length → (sA s.sc j).c = true → clean s j
instance (s : Sh) : Decidable (clOk s) := by unfold clOk; exact inferInstance
/-- What is wrong first. -/
def chkS (s : Sh) : Int :=
  if chk (s.l.length + 1) s.l ≠ 0 then chk (s.l.length + 1) s.l else if ¬ scOk s then 15 else if ¬ numOk s then 10 else if ¬ stOk s then 19 else if ¬ clOk s then 26 else 0
def askR (s : Sh) (i : Nat) : Prop := (at_ s.l i).k = 4 → ∃ j, j < s.sc.length ∧ (sA s.sc j).a = true ∧ rowIn s i j
instance (s : Sh) (i : Nat) : Decidable (askR s i) := by unfold askR; exact inferInstance
def alOk (s : Sh) : Prop := chkS s = 0 ∧ ∀ i, i < s.l.length → askR s i
instance (s : Sh) : Decidable (alOk s) := by unfold alOk; exact inferInstance

/-! ### Scopes that stand as they have to -/
section
variable {s : Sh} {m : Nat}
theorem toldTo.mono {i : Nat} (h : toldTo s m) (hi : i ≤ m) : toldTo s i := fun j hj => h j (by omega)
theorem toldTo.k_bd (h : toldTo s m) : ∀ i, i < m → 0 ≤ (sA s.sc i).k ∧ (sA s.sc i).k ≤ i
  | 0, hi => by
    have := (h 0 hi).1.1 rfl
    omega
  | i + 1, hi => by
    have ih := h.k_bd i (by omega)
    have := (h (i + 1) hi).1.2 (by omega)
    rw [Nat.add_sub_cancel] at this
    omega
theorem toldTo.r_bd (h : toldTo s m) {i : Nat} (hi : i < m) : -1 ≤ (sA s.sc i).r ∧ (i = 0 ↔ (sA s.sc i).r < 0) := by
  by_cases e : i = 0
  · have := (h i hi).1.1 e
    omega
  · have := (h i hi).1.2 e
    omega
theorem toldTo.r_row (h : toldTo s m) {i : Nat} (hi : i < m) (h0 : i ≠ 0) : 0 ≤ (sA s.sc i).r ∧ (sA s.sc i).r < s.l.length := by
  have := (h i hi).1.2 h0
  omega
/-- They are in order, by row and K. -/
theorem toldTo.ord (h : toldTo s m) {i : Nat} : ∀ (d : Nat), i + d + 1 < m → (sA s.sc i).r < (sA s.sc (i + d + 1)).r ∨ ((sA s.sc i).r = (sA s.sc (i + d + 1)).r ∧ (sA s.sc i).k < (sA s.sc (i + d + 1)).k)
  | 0, hd => by
    have := (h (i + 0 + 1) hd).1.2 (by omega)
    rw [Nat.add_sub_cancel] at this
    simp only [Nat.add_zero] at this ⊢
    omega
  | d + 1, hd => by
    have ih := h.ord (i := i) d (by omega)
    have := (h (i + (d + 1) + 1) hd).1.2 (by omega)
    rw [Nat.add_sub_cancel] at this
    rw [show i + (d + 1) = i + d + 1 by omega] at this ⊢
    omega
theorem toldTo.lt (h : toldTo s m) {i j : Nat} (hij : i < j) (hj : j < m) : (sA s.sc i).r < (sA s.sc j).r ∨ ((sA s.sc i).r = (sA s.sc j).r ∧ (sA s.sc i).k < (sA s.sc j).k) := by
  have := h.ord (i := i) (j - i - 1) (by omega)
  rwa [show i + (j - i - 1) + 1 = j by omega] at this
theorem toldTo.uniq (h : toldTo s m) {i j : Nat} (hi : i < m) (hj : j < m) {r k : Int} (h1 : isAt s.sc r k i) (h2 : isAt s.sc r k j) : i = j := by
  obtain ⟨a1, a2⟩ := h1
  obtain ⟨b1, b2⟩ := h2
  rcases Nat.lt_trichotomy i j with e | e | e
  · have := h.lt e hj
    omega
  · exact e
  · have := h.lt e hi
    omega
theorem toldTo.fnd_own (h : toldTo s s.sc.length) {i : Nat} (hi : i < s.sc.length) {r k : Int} (h1 : isAt s.sc r k i) : fnd s.sc r k = some i :=
  fnd_first hi h1 fun j hj hm => absurd (h.uniq (by omega) hi hm h1) (by omega)
/-- Of one row's scopes those ahead stand ahead. -/
theorem toldTo.down (h : toldTo s m) {i : Nat} (hi : i < m) : ∀ (d : Nat), (d : Int) ≤ (sA s.sc i).k → d ≤ i ∧ (sA s.sc (i - d)).r = (sA s.sc i).r ∧ (sA s.sc (i - d)).k = (sA s.sc i).k - d
  | 0, _ => by simp
  | d + 1, hd => by
    obtain ⟨a, b, c⟩ := h.down hi d (by omega)
    have hkb := h.k_bd i hi
    have h1 : i - d ≠ 0 := by omega
    have := (h (i - d) (by omega)).1.2 h1
    rw [show i - d - 1 = i - (d + 1) by omega] at this
    omega
theorem arN_zero (h : toldTo s m) (hm : 0 < m) : arN s 0 = none := by
  have := (h 0 hm).1.1 rfl
  unfold arN
  rw [if_pos (by omega)]
/-- Around a scope there is one ahead of it. -/
theorem arN_lt (h : scOk s) (hup : ∀ j, j < s.l.length → (at_ s.l j).p < j) {i : Nat} (hi : i < s.sc.length) (h0 : i ≠ 0) : ∃ j, arN s i = some j ∧ j < i := by
  obtain ⟨ht, ho⟩ := h
  have hr := ht.r_row hi h0
  have hkb := ht.k_bd i hi
  unfold arN
  rw [if_neg (by omega)]
  by_cases hk : 0 < (sA s.sc i).k
  · rw [if_pos hk]
    have hs := (ht i hi).1.2 h0
    have hn : 0 ≤ (sA s.sc i).n ∧ (sA s.sc i).n < (sA s.sc i).k := by omega
    obtain ⟨a, b, c⟩ := ht.down hi ((sA s.sc i).k - (sA s.sc i).n).toNat (by omega)
    refine ⟨_, ht.fnd_own (i := i - ((sA s.sc i).k - (sA s.sc i).n).toNat) (by omega) ⟨b, ?_⟩, by omega⟩
    rw [c]; omega
  · rw [if_neg hk]
    have hrl : (sA s.sc i).r.toNat < s.l.length := by omega
    cases hf : ofN s (sA s.sc i).r.toNat with
    | none => exact absurd hf (ho _ hrl)
    | some j =>
      refine ⟨j, rfl, ?_⟩
      obtain ⟨h1, ⟨h2, h3⟩, -⟩ := fnd_some hf
      have hp := hup _ hrl
      rcases Nat.lt_or_ge j i with e | e
      · exact e
      · by_cases e2 : j = i
        · subst e2; omega
        · have := ht.lt (i := i) (j := j) (by omega) h1
          omega
theorem chF_fuel (h : scOk s) (hup : ∀ j, j < s.l.length → (at_ s.l j).p < j) : ∀ (f g i : Nat), i < s.sc.length → i < f → i < g → chF s f i = chF s g i
  | f + 1, g + 1, i, hi, hf, hg => by
    rw [chF, chF]
    by_cases h0 : i = 0
    · subst h0
      rw [arN_zero h.1 hi]
    · obtain ⟨j, hj, hlt⟩ := arN_lt h hup hi h0
      rw [hj]
      simp only
      rw [chF_fuel h hup f g j (by omega) (by omega) (by omega)]
theorem ch_zero (h : toldTo s m) (hm : 0 < m) : ch s 0 = [0] := by
  unfold ch
  rw [chF, arN_zero h hm]
theorem ch_step (h : scOk s) (hup : ∀ j, j < s.l.length → (at_ s.l j).p < j) {i j : Nat} (hi : i < s.sc.length) (h0 : i ≠ 0) (hj : arN s i = some j) : ch s i = i :: ch s j := by
  obtain ⟨j', hj', hlt⟩ := arN_lt h hup hi h0
  rw [hj] at hj'
  injection hj' with e
  subst e
  unfold ch
  rw [chF, hj]
  simp only
  rw [chF_fuel h hup i (j + 1) j (by omega) hlt (by omega)]
theorem ch_lt (h : scOk s) (hup : ∀ j, j < s.l.length → (at_ s.l j).p < j) : ∀ (i : Nat), i < s.sc.length → ∀ x ∈ ch s i, x ≤ i := by
  intro i
  induction i using Nat.strongRecOn with
  | _ i ih =>
    intro hi x hx
    by_cases h0 : i = 0
    · subst h0
      rw [ch_zero h.1 hi] at hx
      simp at hx
      omega
    · obtain ⟨j, hj, hlt⟩ := arN_lt h hup hi h0
      rw [ch_step h hup hi h0 hj, List.mem_cons] at hx
      rcases hx with rfl | hx
      · exact Nat.le_refl _
      · exact Nat.le_trans (ih j hlt (by omega) x hx) (by omega)
theorem ofN_lt (h : scOk s) {i : Nat} (hi : i < s.l.length) : ∃ j, ofN s i = some j ∧ j < s.sc.length := by
  cases hf : ofN s i with
  | none => exact absurd hf (h.2 i hi)
  | some j => exact ⟨j, rfl, (fnd_some hf).1⟩
end
end P20
end Go.Proofs.YtajbchecjbddgaaGreatDoor
