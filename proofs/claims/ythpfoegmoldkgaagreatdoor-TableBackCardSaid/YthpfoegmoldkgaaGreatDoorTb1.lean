/- Table: texts of rows against their parse, plain. No program in sight. -/
import Derived.Test.YthpfoegmoldkgaaGreatDoorT7i
import Derived.Test.YthpfoegmoldkgaaGreatDoorCt
import Derived.Test.YthpfoegmoldkgaaGreatDoorNm
namespace Go.Proofs.YthpfoegmoldkgaaGreatDoor
open Go.RowKit
namespace P7
open CutL NumL

/-! ### What is read of a line, of a text -/
def kw (k : Int) : List UInt8 := (kindW k).data.toList
def kindIx (w : List UInt8) : Option Int := if w = kw 0 then some 0 else if w = kw 1 then some 1 else if w = kw 2 then some 2 else if w = kw 3 then some 3 else if w = kw 4 then some 4 else none
def firstN (w : List UInt8) : Option Int := if w = [45] then some (-1) else match numT w with
  | some n => if n < 0 then none else some n
  | none => none
def closesT (w : List UInt8) : List UInt8 := if w = [] then [32] else if w = [45] then [] else w
def rowT (t : List UInt8) : Option Row := match splitC 32 t with
  | [a, b, c, d, e, f, g] => match firstN a, numT b, numT c, kindIx d, numT e, numT f with
    | some p, some i, some fn, some k, some v, some s => some ⟨p, i, fn, k, v, s, ⟨(closesT g).toArray⟩⟩
    | _, _, _, _, _, _ => none
  | _ => none
def parseR : Nat → List UInt8 → List Row → Option (List Row)
  | 0, _, acc => some acc
  | f + 1, s, acc => if s = [] then some acc else if (cutB 10 s).2.2 = false then none else match rowT (cutB 10 s).1 with
    | none => none
    | some r => if right (acc.length + 1) (acc ++ [r]) acc.length = 0 then parseR f (cutB 10 s).2.1 (acc ++ [r]) else none

/-! ### words -/
theorem dig_no {c : UInt8} (h : isDig c = true) : c ≠ 32 ∧ c ≠ 10 := by
  have h := of_decide_eq_true h
  constructor <;> (rintro rfl; revert h; decide)
theorem itoa_no (x : Int) : ∀ c ∈ Lib.itoa x, c ≠ 32 ∧ c ≠ 10 := by
  have hd : ∀ a : Nat, ∀ c ∈ Lib.decDigits a, c ≠ 32 ∧ c ≠ 10 := fun a c hc => dig_no (List.all_eq_true.1 (dec_val a).2.1 c hc)
  rcases itoa_parts x with ⟨a, rfl, e⟩ | ⟨a, ha, rfl, e⟩
  · rw [e]; exact hd a
  · rw [e]
    intro c hc
    rcases List.mem_cons.1 hc with rfl | hc
    · decide
    · exact hd a c hc
theorem kw_cases {k : Int} (h0 : 0 ≤ k) (h4 : k ≤ 4) : k = 0 ∨ k = 1 ∨ k = 2 ∨ k = 3 ∨ k = 4 := by omega
theorem kw_no {k : Int} (h0 : 0 ≤ k) (h4 : k ≤ 4) : ∀ c ∈ kw k, c ≠ 32 ∧ c ≠ 10 := by
  rcases kw_cases h0 h4 with rfl | rfl | rfl | rfl | rfl <;> decide
theorem kindIx_kw {k : Int} (h0 : 0 ≤ k) (h4 : k ≤ 4) : kindIx (kw k) = some k := by
  rcases kw_cases h0 h4 with rfl | rfl | rfl | rfl | rfl <;> decide
theorem kindIx_ok {w : List UInt8} {k : Int} (h : kindIx w = some k) : 0 ≤ k ∧ k ≤ 4 ∧ kw k = w := by
  unfold kindIx at h
  split at h
  · rename_i e; cases h; exact ⟨by decide, by decide, e.symm⟩
  · split at h
    · rename_i e; cases h; exact ⟨by decide, by decide, e.symm⟩
    · split at h
      · rename_i e; cases h; exact ⟨by decide, by decide, e.symm⟩
      · split at h
        · rename_i e; cases h; exact ⟨by decide, by decide, e.symm⟩
        · split at h
          · rename_i e; cases h; exact ⟨by decide, by decide, e.symm⟩
          · cases h
def pW (r : Row) (first : Bool) : List UInt8 := if first then [45] else Lib.itoa r.p
def cW (r : Row) : List UInt8 := if r.c.size = 0 then [45] else r.c.data.toList
def wordsR (r : Row) (first : Bool) : List (List UInt8) := [pW r first, Lib.itoa r.i, Lib.itoa r.f, kw r.k, Lib.itoa r.v, Lib.itoa r.s, cW r]
theorem line_words (r : Row) (first : Bool) : lineB r first = joinC 32 (wordsR r first) ++ [10] := by
  unfold lineB wordsR pW cW kw
  simp [joinC, List.append_assoc]
theorem pW_no (r : Row) (first : Bool) : ∀ c ∈ pW r first, c ≠ 32 ∧ c ≠ 10 := by
  unfold pW
  split
  · decide
  · exact itoa_no _
theorem cW_no {r : Row} (h : binOk r.c = true) : ∀ c ∈ cW r, c ≠ 32 ∧ c ≠ 10 := by
  unfold cW
  split
  · decide
  · intro c hc
    have := of_decide_eq_true (List.all_eq_true.1 h c hc)
    rcases this with rfl | rfl <;> decide
theorem words_no {r : Row} (first : Bool) (h0 : 0 ≤ r.k) (h4 : r.k ≤ 4) (hb : binOk r.c = true) : ∀ w ∈ wordsR r first, ∀ c ∈ w, c ≠ 32 ∧ c ≠ 10 := by
  intro w hw
  simp only [wordsR, List.mem_cons, List.not_mem_nil, or_false] at hw
  rcases hw with rfl | rfl | rfl | rfl | rfl | rfl | rfl
  · exact pW_no r first
  · exact itoa_no _
  · exact itoa_no _
  · exact kw_no h0 h4
  · exact itoa_no _
  · exact itoa_no _
  · exact cW_no hb
theorem join_no (c : UInt8) (hc : c ≠ 32) : ∀ ws : List (List UInt8), (∀ w ∈ ws, c ∉ w) → c ∉ joinC 32 ws
  | [], _ => by simp [joinC]
  | [x], h => by simpa [joinC] using h x (by simp)
  | x :: y :: r, h => by
    have h1 := h x (by simp)
    have h2 := join_no c hc (y :: r) (fun w hw => h w (List.mem_cons_of_mem _ hw))
    simp only [joinC, List.mem_append, List.mem_cons, not_or]
    exact ⟨h1, hc, h2⟩
theorem dec_ne45 (x : Int) (h : 0 ≤ x) : Lib.itoa x ≠ [45] := by
  rcases itoa_parts x with ⟨a, rfl, e⟩ | ⟨a, ha, rfl, e⟩
  · rw [e]
    intro h2
    have := dec_no45 a
    rw [h2] at this
    exact this rfl
  · omega
theorem itoa_ne45 (x : Int) : Lib.itoa x ≠ [45] := by
  rcases itoa_parts x with ⟨a, rfl, e⟩ | ⟨a, ha, rfl, e⟩
  · exact dec_ne45 _ (by omega)
  · rw [e]
    intro h2
    injection h2 with _ h2
    exact (dec_val a).2.2.1 h2

/-- A row that may be printed. -/
structure Fit (r : Row) (first : Bool) : Prop where
  p : if first then r.p = -1 else 0 ≤ r.p ∧ r.p ≤ 9223372036854775807
  i : -9223372036854775808 ≤ r.i ∧ r.i ≤ 9223372036854775807
  f : -9223372036854775808 ≤ r.f ∧ r.f ≤ 9223372036854775807
  k : 0 ≤ r.k ∧ r.k ≤ 4
  v : -9223372036854775808 ≤ r.v ∧ r.v ≤ 9223372036854775807
  s : -9223372036854775808 ≤ r.s ∧ r.s ≤ 9223372036854775807
  c : binOk r.c = true
theorem closes_back {c : ByteArray} (h : binOk c = true) : closesT (if c.size = 0 then [45] else c.data.toList) = c.data.toList := by
  by_cases h0 : c.size = 0
  · rw [if_pos h0]
    have : c.data.toList = [] := List.eq_nil_of_length_eq_zero h0
    rw [this]; decide
  · rw [if_neg h0]
    have hne : c.data.toList ≠ [] := fun e => h0 (congrArg List.length e)
    unfold closesT
    rw [if_neg hne, if_neg]
    intro e
    unfold binOk at h
    rw [e] at h
    revert h; decide
theorem row_print {r : Row} {first : Bool} (h : Fit r first) : rowT (joinC 32 (wordsR r first)) = some r := by
  unfold rowT
  rw [split_join 32 (wordsR r first) (by simp [wordsR]) (fun w hw hc => (words_no first h.k.1 h.k.2 h.c w hw 32 hc).1 rfl)]
  unfold wordsR
  have hp : firstN (pW r first) = some r.p := by
    have h1 := h.p
    unfold pW firstN
    cases first with
    | true => simp only [if_true] at h1 ⊢; rw [h1]
    | false =>
      simp only [Bool.false_eq_true, if_false] at h1 ⊢
      rw [if_neg (dec_ne45 _ h1.1), numT_itoa (by omega) h1.2]
      simp only
      rw [if_neg (by omega)]
  simp only [hp, numT_itoa h.i.1 h.i.2, numT_itoa h.f.1 h.f.2, kindIx_kw h.k.1 h.k.2, numT_itoa h.v.1 h.v.2, numT_itoa h.s.1 h.s.2]
  have hc : closesT (cW r) = r.c.data.toList := closes_back h.c
  rw [hc]
theorem row_back {t : List UInt8} {r : Row} (h : rowT t = some r) (hb : binOk r.c = true) : joinC 32 (wordsR r (decide (r.p = -1))) = t ∧ Fit r (decide (r.p = -1)) := by
  unfold rowT at h
  split at h
  · rename_i a b c d e f g hs
    split at h
    · rename_i p i fn k v s h1 h2 h3 h4 h5 h6
      injection h with h
      subst h
      obtain ⟨k1, k2, k3⟩ := kindIx_ok h4
      have e2 := numT_iff.1 h2
      have e3 := numT_iff.1 h3
      have e5 := numT_iff.1 h5
      have e6 := numT_iff.1 h6
      have hp : pW ⟨p, i, fn, k, v, s, ⟨(closesT g).toArray⟩⟩ (decide (p = -1)) = a ∧ (if decide (p = -1) = true then p = -1 else 0 ≤ p ∧ p ≤ 9223372036854775807) := by
        unfold firstN at h1
        unfold pW
        split at h1
        · rename_i ea
          injection h1 with h1
          subst h1
          simp [ea]
        · cases hn : numT a with
          | none => rw [hn] at h1; cases h1
          | some n =>
            rw [hn] at h1
            simp only at h1
            split at h1
            · cases h1
            · rename_i hneg
              injection h1 with h1
              subst h1
              have := numT_iff.1 hn
              have hd : decide (n = -1) = false := decide_eq_false (by omega)
              rw [hd]
              simp only [Bool.false_eq_true, if_false]
              exact ⟨this.1, by omega, this.2.2⟩
      have hg : cW ⟨p, i, fn, k, v, s, ⟨(closesT g).toArray⟩⟩ = g := by
        have hb' : binOk ⟨(closesT g).toArray⟩ = true := hb
        unfold cW
        show (if (⟨(closesT g).toArray⟩ : ByteArray).size = 0 then [45] else (closesT g)) = g
        unfold closesT at hb' ⊢
        by_cases g0 : g = []
        · rw [if_pos g0] at hb'
          exact absurd hb' (by decide)
        · rw [if_neg g0] at hb' ⊢
          by_cases g1 : g = [45]
          · rw [if_pos g1, if_pos (by rfl), g1]
          · rw [if_neg g1, if_neg (c := (⟨g.toArray⟩ : ByteArray).size = 0) (fun e => g0 (List.eq_nil_of_length_eq_zero e))]
      refine ⟨?_, ?_, e2.2, e3.2, ⟨k1, k2⟩, e5.2, e6.2, hb⟩
      · rw [← join_split 32 t, hs]
        unfold wordsR
        simp only
        rw [hp.1, hg, e2.1, e3.1, e5.1, e6.1, k3]
      · exact hp.2
    · cases h
  · cases h
end P7
end Go.Proofs.YthpfoegmoldkgaaGreatDoor
