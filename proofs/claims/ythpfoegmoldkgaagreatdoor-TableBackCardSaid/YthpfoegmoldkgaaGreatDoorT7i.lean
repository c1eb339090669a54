/- Walk: the reference's Print. -/
import Derived.Test.YthpfoegmoldkgaaGreatDoorT7h
import Derived.Deep.RegionHeld3
namespace Go.Proofs.YthpfoegmoldkgaaGreatDoor
open Go.RowKit
namespace P7

/-! ### The text of rows, plain -/
def lineB (r : Row) (first : Bool) : List UInt8 :=
  (if first then [45] else Lib.itoa r.p) ++ [32] ++ Lib.itoa r.i ++ [32] ++ Lib.itoa r.f ++ [32] ++ (kindW r.k).data.toList ++ [32] ++ Lib.itoa r.v ++ [32] ++ Lib.itoa r.s ++ [32] ++ (if r.c.size = 0 then [45] else r.c.data.toList) ++ [10]
def textTo (l : List Row) (n : Nat) : List UInt8 := (List.range n).flatMap fun k => lineB (at_ l k) (decide (k = 0))
theorem textTo_succ (l : List Row) (n : Nat) : textTo l (n + 1) = textTo l n ++ lineB (at_ l n) (decide (n = 0)) := by
  simp [textTo, List.range_succ]
/-- What Print answers. -/
def printT (l : List Row) : List UInt8 := if chk (l.length + 1) l = 0 then textTo l l.length else []
theorem itoa_le (n : Int) (h0 : -9223372036854775808 ≤ n) (h1 : n ≤ 9223372036854775807) : (Lib.itoa n).length ≤ 21 := Lib.itoa_length_le n h0 h1
theorem kindW_le (k : Int) : (kindW k).data.toList.length ≤ 9 := by
  unfold kindW kindsL
  generalize k.toNat = n
  match n with
  | 0 | 1 | 2 | 3 | 4 => decide
  | n + 5 => exact Nat.zero_le _
theorem lineB_le {r : Row} {first : Bool} (h : RowWf r) (hc : r.c.size ≤ 100) : (lineB r first).length ≤ 300 := by
  have h1 := itoa_le _ h.p.1 h.p.2
  have h2 := itoa_le _ h.i.1 h.i.2
  have h3 := itoa_le _ h.f.1 h.f.2
  have h4 := itoa_le _ h.v.1 h.v.2
  have h5 := itoa_le _ h.s.1 h.s.2
  have h6 := kindW_le r.k
  have h7 : r.c.data.toList.length ≤ 100 := by simpa using hc
  have h8 : (if first then [45] else Lib.itoa r.p).length ≤ 21 := by
    split
    · decide
    · exact h1
  have h9 : (if r.c.size = 0 then [45] else r.c.data.toList).length ≤ 100 := by
    split
    · decide
    · exact h7
  unfold lineB
  simp only [List.length_append, List.length_cons, List.length_nil]
  omega
theorem textTo_le {l : List Row} (h : ∀ k, k < l.length → RowWf (at_ l k)) (hs : Small l) : ∀ n, n ≤ l.length → (textTo l n).length ≤ n * 300
  | 0, _ => by simp [textTo]
  | n + 1, hn => by
    have h1 := textTo_le h hs n (by omega)
    have h2 := lineB_le (first := decide (n = 0)) (h n (by omega)) (hs.2 n (by omega))
    rw [textTo_succ, List.length_append]
    omega

/-! ### Memory while a row is printed -/
abbrev PrS (W0 : World) (b : Nat) (rp ri rf rk rv rs : Int) (rc : ByteArray) (W : World) : Prop :=
  Below W0.heap.size W0 W ∧ W.cell? ⟨b, 0, none⟩ = some (.int .i64 rp) ∧ W.cell? ⟨b, 1, none⟩ = some (.int .i64 ri) ∧ W.cell? ⟨b, 2, none⟩ = some (.int .i64 rf) ∧ W.cell? ⟨b, 3, none⟩ = some (.int .i64 rk) ∧ W.cell? ⟨b, 4, none⟩ = some (.int .i64 rv) ∧ W.cell? ⟨b, 5, none⟩ = some (.int .i64 rs) ∧ W.cell? ⟨b, 6, none⟩ = some (.string rc) ∧ b < W.heap.size
section
variable {W0 W W' : World} {b : Nat} {rp ri rf rk rv rs : Int} {rc : ByteArray}
theorem PrS.next (h : PrS W0 b rp ri rf rk rv rs rc W) (hb : Below W.heap.size W W') : PrS W0 b rp ri rf rk rv rs rc W' := by
  obtain ⟨h0, h1, h2, h3, h4, h5, h6, h7, h8⟩ := h
  have k := fun j => hb.cell (p := ⟨b, j, none⟩) h8
  exact ⟨h0.next hb, (k _).trans h1, (k _).trans h2, (k _).trans h3, (k _).trans h4, (k _).trans h5, (k _).trans h6, (k _).trans h7, Nat.lt_of_lt_of_le h8 hb.size⟩
theorem PrS.gr (h : PrS W0 b rp ri rf rk rv rs rc W) : Below W0.heap.size W0 W := h.1
theorem PrS.drew (h : PrS W0 b rp ri rf rk rv rs rc W) : PrS W0 b rp ri rf rk rv rs rc W.drew := ⟨⟨h.1.os, h.1.tape, h.1.output, h.1.size, h.1.block⟩, h.2⟩
theorem PrS.make (W : World) (rp ri rf rk rv rs : Int) (rc : ByteArray) : PrS W W.heap.size rp ri rf rk rv rs rc (W.alloc (.cells #[.int .i64 rp, .int .i64 ri, .int .i64 rf, .int .i64 rk, .int .i64 rv, .int .i64 rs, .string rc] 34)) := by
  have k := fun j => cell_of_row _ _ j _ _ _ (heap_alloc_last W (.cells #[.int .i64 rp, .int .i64 ri, .int .i64 rf, .int .i64 rk, .int .i64 rv, .int .i64 rs, .string rc] 34))
  exact ⟨by go_grown, k 0, k 1, k 2, k 3, k 4, k 5, k 6, by simp⟩
end

theorem cat_ (a b : ByteArray) (m n : Nat) (ha : a.size ≤ m) (hb : b.size ≤ n) : ∃ s, a ++ b = s ∧ s.size ≤ m + n := ⟨_, rfl, by rw [ByteArray.size_append]; omega⟩
theorem let_ (l : List UInt8) (m : Nat) (h : l.length ≤ m) : ∃ s : ByteArray, (⟨l.toArray⟩ : ByteArray) = s ∧ s.size ≤ m := ⟨_, rfl, by simpa [ByteArray.size] using h⟩
/-- A line, as it is put together. -/
theorem line_cat {o : List UInt8} {r : Row} {first : Bool} {x0 pp ti tf kw tv ts tc s1 s2 s3 s4 s5 s6 s7 s8 s9 s10 s11 s12 s13 s14 : ByteArray} (h0 : (⟨o.toArray⟩ : ByteArray) = x0) (hp : (⟨(if first then [45] else Lib.itoa r.p).toArray⟩ : ByteArray) = pp)
    (hi : (⟨(Lib.itoa r.i).toArray⟩ : ByteArray) = ti) (hf : (⟨(Lib.itoa r.f).toArray⟩ : ByteArray) = tf) (hk : kindW r.k = kw) (hv : (⟨(Lib.itoa r.v).toArray⟩ : ByteArray) = tv) (hs : (⟨(Lib.itoa r.s).toArray⟩ : ByteArray) = ts) (hc : (if r.c.size = 0 then ⟨#[45]⟩ else r.c) = tc)
    (a1 : x0 ++ pp = s1) (a2 : s1 ++ ⟨#[32]⟩ = s2) (a3 : s2 ++ ti = s3) (a4 : s3 ++ ⟨#[32]⟩ = s4) (a5 : s4 ++ tf = s5) (a6 : s5 ++ ⟨#[32]⟩ = s6) (a7 : s6 ++ kw = s7) (a8 : s7 ++ ⟨#[32]⟩ = s8) (a9 : s8 ++ tv = s9) (a10 : s9 ++ ⟨#[32]⟩ = s10) (a11 : s10 ++ ts = s11) (a12 : s11 ++ ⟨#[32]⟩ = s12) (a13 : s12 ++ tc = s13) (a14 : s13 ++ ⟨#[10]⟩ = s14) :
    s14 = ⟨(o ++ lineB r first).toArray⟩ := by
  subst h0 hp hi hf hk hv hs hc a1 a2 a3 a4 a5 a6 a7 a8 a9 a10 a11 a12 a13 a14
  apply ByteArray.ext
  by_cases h : r.c.size = 0 <;> simp [lineB, h]
def TxtR (w : World) (l : List Row) (n : Nat) (out i : Value) (wr : World) : Prop := ∃ k : Nat, k ≤ n ∧ i = .int .i64 k ∧ out = .string ⟨(textTo l k).toArray⟩ ∧ Below w.heap.size w wr
def PrintPost (l : List Row) (w : World) (e : Ending) (w' : World) : Prop := e = .returned (.tuple #[.string ⟨(printT l).toArray⟩, .int .i64 (chk (l.length + 1) l)]) ∧ Below w.heap.size w w'

end P7
end Go.Proofs.YthpfoegmoldkgaaGreatDoor
