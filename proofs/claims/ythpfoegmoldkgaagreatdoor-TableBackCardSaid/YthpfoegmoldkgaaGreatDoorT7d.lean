/- Walks: binary, the reference's right and Check. -/
import Derived.Test.YthpfoegmoldkgaaGreatDoorT7c
namespace Go.Proofs.YthpfoegmoldkgaaGreatDoor
open Go.RowKit
namespace P7

theorem byte_all (c : ByteArray) (k : Nat) (hk : k < c.size) (P : UInt8 → Bool) (h : (c.data.toList.take k).all P = true) (hp : P c[k] = true) : (c.data.toList.take (k + 1)).all P = true := by
  have hl : k < c.data.toList.length := by simpa using hk
  rw [List.take_succ_eq_append_getElem hl, List.all_append, h]
  have : c.data.toList[k] = c[k] := rfl
  simp [this, hp]
theorem byte_not {c : ByteArray} {k : Nat} (hk : k < c.size) {P : UInt8 → Bool} (hp : P c[k] = false) : c.data.toList.all P = false := by
  rw [List.all_eq_false]
  exact ⟨c[k], by have : c.data.toList[k]'(by simpa using hk) = c[k] := rfl; rw [← this]; exact List.getElem_mem _, by rw [hp]; simp⟩

theorem place_first {fuel : Nat} {l : List Row} : placeOk fuel l 0 = decide ((at_ l 0).p = -1) := rfl
theorem place_later {fuel : Nat} {l : List Row} {k : Nat} (h : k ≠ 0) : placeOk fuel l k = (decide (0 ≤ (at_ l k).p ∧ (at_ l k).p < k) && wi l (at_ l k).p fuel ((k : Int) - 1)) := by rw [placeOk, if_neg h]
theorem right_11 {fuel : Nat} {l : List Row} {k : Nat} (h : placeOk fuel l k = false) : right fuel l k = 11 := by rw [right, if_pos h]
theorem right_10 {fuel : Nat} {l : List Row} {k : Nat} (h : placeOk fuel l k = true) (h2 : spanOk (at_ l k) (decide (k = 0)) = false) : right fuel l k = 10 := by rw [right, if_neg (by rw [h]; decide), if_pos h2]
theorem right_11b {fuel : Nat} {l : List Row} {k : Nat} (h : placeOk fuel l k = true) (h2 : spanOk (at_ l k) (decide (k = 0)) = true) (h3 : binOk (at_ l k).c = false) : right fuel l k = 11 := by rw [right, if_neg (by rw [h]; decide), if_neg (by rw [h2]; decide), if_pos h3]
theorem right_19 {fuel : Nat} {l : List Row} {k : Nat} (h : placeOk fuel l k = true) (h2 : spanOk (at_ l k) (decide (k = 0)) = true) (h3 : binOk (at_ l k).c = true) (h4 : stateOk l k = false) : right fuel l k = 19 := by rw [right, if_neg (by rw [h]; decide), if_neg (by rw [h2]; decide), if_neg (by rw [h3]; decide), if_pos h4]
theorem right_0 {fuel : Nat} {l : List Row} {k : Nat} (h : placeOk fuel l k = true) (h2 : spanOk (at_ l k) (decide (k = 0)) = true) (h3 : binOk (at_ l k).c = true) (h4 : stateOk l k = true) : right fuel l k = 0 := by rw [right, if_neg (by rw [h]; decide), if_neg (by rw [h2]; decide), if_neg (by rw [h3]; decide), if_neg (by rw [h4]; decide)]

/-! ### right -/
theorem span_bad {rp ri rf rk rv rs : Int} {rc : ByteArray} {b : Bool} (h : spanOk ⟨rp, ri, rf, rk, rv, rs, rc⟩ b = false) (h1 : 0 ≤ ri) (h2 : b = true → ri = 0) (h3 : 0 ≤ rf) (h4 : rf ≤ 31) (h5 : 0 ≤ rk) (h6 : rk ≤ 4) (h7 : 0 ≤ rs) (h8 : rs ≤ 1048576) : False :=
  of_decide_eq_false h ⟨h1, h2, h3, h4, h5, h6, h7, h8⟩
theorem span_good {rp ri rf rk rv rs : Int} {rc : ByteArray} {b : Bool} (h : spanOk ⟨rp, ri, rf, rk, rv, rs, rc⟩ b = true) : 0 ≤ ri ∧ (b = true → ri = 0) ∧ 0 ≤ rf ∧ rf ≤ 31 ∧ 0 ≤ rk ∧ rk ≤ 4 ∧ 0 ≤ rs ∧ rs ≤ 1048576 := of_decide_eq_true h
theorem self_ok1 {rp ri rf rk rv rs : Int} {rc : ByteArray} (h : rv = 0) (h2 : rk = 0 → rs = 0 ∧ rc.size = 0) : selfOk ⟨rp, ri, rf, rk, rv, rs, rc⟩ = true := decide_eq_true ⟨.inl h, h2⟩
theorem self_ok2 {rp ri rf rk rv rs : Int} {rc : ByteArray} (h : rk = 2 ∨ rk = 3) (h2 : rk ≠ 0) : selfOk ⟨rp, ri, rf, rk, rv, rs, rc⟩ = true := decide_eq_true ⟨.inr h, fun e => absurd e h2⟩
theorem self_bad1 {rp ri rf rk rv rs : Int} {rc : ByteArray} (h1 : ¬ rv = 0) (h2 : ¬ rk = 2) (h3 : ¬ rk = 3) : selfOk ⟨rp, ri, rf, rk, rv, rs, rc⟩ = false := decide_eq_false fun ⟨h, _⟩ => by rcases h with h | h | h <;> contradiction
theorem self_bad2 {rp ri rf rk rv rs : Int} {rc : ByteArray} (h1 : rk = 0) (h2 : ¬ rs = 0) : selfOk ⟨rp, ri, rf, rk, rv, rs, rc⟩ = false := decide_eq_false fun ⟨_, h⟩ => h2 (h h1).1
theorem self_bad3 {rp ri rf rk rv rs : Int} {rc : ByteArray} (h1 : rk = 0) (h2 : ¬ rc.size = 0) : selfOk ⟨rp, ri, rf, rk, rv, rs, rc⟩ = false := decide_eq_false fun ⟨_, h⟩ => h2 (h h1).2
theorem under_bad1 {q r : Row} (h : q.k = 0) : (true && (false || underOk q r)) = false := by rw [Bool.false_or, Bool.true_and]; exact decide_eq_false fun ⟨a, _⟩ => a h
theorem under_bad2 {q r : Row} (h : 2 ≤ q.k) (h2 : ¬ 2 ≤ r.k) : (true && (false || underOk q r)) = false := by rw [Bool.false_or, Bool.true_and]; exact decide_eq_false fun ⟨_, a⟩ => h2 (a h)
theorem under_ok1 {q r : Row} (h : ¬ q.k = 0) (h2 : ¬ 2 ≤ q.k) : (true && (false || underOk q r)) = true := by rw [Bool.false_or, Bool.true_and]; exact decide_eq_true ⟨h, fun a => absurd a h2⟩
theorem under_ok2 {q r : Row} (h : ¬ q.k = 0) (h2 : 2 ≤ r.k) : (true && (false || underOk q r)) = true := by rw [Bool.false_or, Bool.true_and]; exact decide_eq_true ⟨h, fun _ => h2⟩
theorem str_nil {c : ByteArray} (h : c.size = 0) : c.data.toList = [] := List.eq_nil_of_length_eq_zero (by simpa using h)
theorem str_empty' {c : ByteArray} (h : c.size = 0) : c.toList = [] := by rw [ByteArray.toList_eq, str_nil h]
theorem str_empty {c : ByteArray} (h : c.size = 0) : (!c.toList.isEmpty) = false := by rw [str_empty' h]; rfl
theorem str_full' {c : ByteArray} (h : ¬ c.size = 0) : c.toList.isEmpty = false := by
  rw [ByteArray.toList_eq]
  cases hl : c.data.toList with
  | nil => exact absurd (by have : c.data.toList.length = 0 := by rw [hl]; rfl
                            simpa using this) h
  | cons => rfl
theorem str_full {c : ByteArray} (h : ¬ c.size = 0) : (!c.toList.isEmpty) = true := by rw [str_full' h]; rfl
section
variable {w : World} {l : List Row} {k n c b off : Nat} {rp ri rf rk rv rs : Int} {rc : ByteArray}
end

theorem rows_at {w : World} {l : List Row} {A : Option Addr} {B : Nat} (hr : ∀ k, k < l.length → ∃ b off, A = some ⟨b, off, none⟩ ∧ b < B ∧ RowAt w b (off + k * 7) (at_ l k)) {b off : Nat} (hA : A = some ⟨b, off, none⟩) {k : Nat} (hk : k < l.length) :
    b < B ∧ RowAt w b (off + k * 7) (at_ l k) := by
  obtain ⟨b', off', h1, h2, h3⟩ := hr k hk
  rw [hA] at h1
  injection h1 with h1
  injection h1 with e1 e2
  subst e1 e2
  exact ⟨h2, h3⟩

def ChkR (w : World) (g : Nat → Int) (n : Nat) (i : Value) (wr : World) : Prop := ∃ j : Nat, j ≤ n ∧ i = .int .i64 j ∧ (∀ m, m < j → g m = 0) ∧ Below w.heap.size w wr
end P7
end Go.Proofs.YthpfoegmoldkgaaGreatDoor
