/- Table: parse, walked. -/
import Derived.Test.YthpfoegmoldkgaaGreatDoorTb4
import Derived.Test.YthpfoegmoldkgaaGreatDoorT7m
namespace Go.Proofs.YthpfoegmoldkgaaGreatDoor
open Go.RowKit
namespace P7
open CutL NumL PC

/-! ### Words -/
def val (k : Nat) (x : List UInt8) : Option Int := if k = 0 then firstN x else if k = 3 then kindIx x else numT x
def wvT (l : List (List UInt8)) : List Value := l.map fun x => .string ⟨x.toArray⟩
@[simp] theorem wvT_length (l : List (List UInt8)) : (wvT l).length = l.length := by simp [wvT]
theorem split_walk (c : UInt8) (s : ByteArray) (hs : s.size ≤ 200000) (w : World) (hp : TL w) : Calls Tryz.prog 31 #[.string s, .string ⟨#[c]⟩] w fun e w' =>
    e = .returned (.slice (some ⟨w.heap.size, 0, none⟩) (splitC c s.data.toList).length (splitC c s.data.toList).length) ∧ w' = w.alloc (.cells (wvT (splitC c s.data.toList)).toArray 9) := by
  obtain ⟨m, hm⟩ := hp.max
  obtain ⟨h1, h2⟩ := splitB_eq s c
  refine (Tryz.strings_Split s ⟨#[c]⟩ m w (by omega) hm (Nat.le_refl 1)).mono ?_
  rintro e w' ⟨rfl, rfl⟩
  have h3 : (Lib.splitB ⟨#[c]⟩ 0 (Lib.countB s ⟨#[c]⟩) s).map Value.string = wvT (splitC c s.data.toList) := by
    rw [← h1]
    simp [wvT]
  rw [h2, h3]
  exact ⟨rfl, rfl⟩
theorem words_le (c : UInt8) (l x : List UInt8) (h : x ∈ splitC c l) : x.length ≤ l.length := by
  have hj := join_split c l
  have hm : ∀ (ws : List (List UInt8)), x ∈ ws → x.length ≤ (joinC c ws).length := by
    intro ws
    induction ws with
    | nil => intro h; cases h
    | cons y r ih =>
      intro h
      cases r with
      | nil => simp only [List.mem_singleton] at h; subst h; simp [joinC]
      | cons z r =>
        rw [List.mem_cons] at h
        rcases h with rfl | h
        · simp [joinC]
        · have := ih h
          simp only [joinC, List.length_append, List.length_cons] at this ⊢
          omega
  have := hm _ h
  rwa [hj] at this
theorem rowT_seven {t : List UInt8} (h : (splitC 32 t).length ≠ 7) : rowT t = none := by
  unfold rowT
  split
  · rename_i a b c d e f g hs
    rw [hs] at h
    exact absurd rfl h
  · rfl
theorem rowT_val {t : List UInt8} {k : Nat} (hk : k < 6) (h : val k ((splitC 32 t).getD k []) = none) : rowT t = none := by
  unfold rowT
  split
  · rename_i a b c d e f g hs
    rw [hs] at h
    split
    · rename_i p i fn kk v s h1 h2 h3 h4 h5 h6
      exfalso
      match k, hk with
      | 0, _ => simp [val, h1] at h
      | 1, _ => simp [val, h2] at h
      | 2, _ => simp [val, h3] at h
      | 3, _ => simp [val, h4] at h
      | 4, _ => simp [val, h5] at h
      | 5, _ => simp [val, h6] at h
    · rfl
  · rfl
theorem rowT_all {t : List UInt8} {ws : List (List UInt8)} (hs : splitC 32 t = ws) (h7 : ws.length = 7) {x0 x1 x2 x3 x4 x5 : Int} (h0 : val 0 (ws.getD 0 []) = some x0) (h1 : val 1 (ws.getD 1 []) = some x1) (h2 : val 2 (ws.getD 2 []) = some x2)
    (h3 : val 3 (ws.getD 3 []) = some x3) (h4 : val 4 (ws.getD 4 []) = some x4) (h5 : val 5 (ws.getD 5 []) = some x5) : rowT t = some ⟨x0, x1, x2, x3, x4, x5, ⟨(closesT (ws.getD 6 [])).toArray⟩⟩ := by
  unfold rowT
  rw [hs]
  match ws, h7 with
  | [a, b, c, d, e, f, g], _ =>
    have g0 : firstN a = some x0 := h0
    have g1 : numT b = some x1 := h1
    have g2 : numT c = some x2 := h2
    have g3 : kindIx d = some x3 := h3
    have g4 : numT e = some x4 := h4
    have g5 : numT f = some x5 := h5
    simp only [g0, g1, g2, g3, g4, g5]
    rfl
/-- The numbers read so far, noughts behind them. -/
def numsC (xs : List Int) : List Value := (xs ++ List.replicate (7 - xs.length) 0).map fun x => .int .i64 x
theorem numsC_length {xs : List Int} (h : xs.length ≤ 7) : (numsC xs).length = 7 := by simp [numsC]; omega
theorem numsC_at {xs : List Int} {k : Nat} (h : k < xs.length) : (numsC xs)[k]? = some (.int .i64 xs[k]) := by
  rw [numsC, List.getElem?_map, List.getElem?_append_left h, List.getElem?_eq_getElem h]
  rfl
theorem numsC_set {xs : List Int} {x : Int} (h : xs.length < 7) : (numsC xs).set xs.length (.int .i64 x) = numsC (xs ++ [x]) := by
  unfold numsC
  rw [List.length_append, List.length_singleton, show 7 - xs.length = (7 - (xs.length + 1)) + 1 by omega, List.replicate_succ]
  simp
end P7
end Go.Proofs.YthpfoegmoldkgaaGreatDoor
