/- Asm, plain: what an instruction's text is, and which instruction a text is. No program in sight. -/
import Derived.Test.YtggdbceommmllaaDoorA02
import Derived.Test.YtggdbceommmllaaDoorCt
import Derived.Test.YtggdbceommmllaaDoorNm
namespace Go.Proofs.YtggdbceommmllaaDoor
open Go
namespace P3
open P2 NumL CutL

def nameL : Nat → List UInt8
  | 0 => [99, 111, 110, 115, 116] | 1 => [109, 111, 118, 101] | 2 => [97, 100, 100] | 3 => [115, 117, 98] | 4 => [109, 117, 108] | 5 => [108, 101, 115, 115]
  | 6 => [106, 117, 109, 112] | 7 => [105, 102] | 8 => [102, 111, 114, 107] | 9 => [106, 111, 105, 110] | 10 => [116, 114, 121] | 11 => [111, 112, 101, 110]
  | 12 => [99, 108, 111, 115, 101] | 13 => [99, 97, 110, 99, 101, 108] | 14 => [99, 104, 101, 99, 107] | 15 => [112, 97, 110, 105, 99] | 16 => [114, 101, 116, 117, 114, 110] | _ => []
def formsN : Nat → List Nat
  | 0 => [114, 0, 0, 110] | 1 => [114, 114, 0, 0] | 2 => [114, 114, 114, 0] | 3 => [114, 114, 114, 0] | 4 => [114, 114, 114, 0] | 5 => [114, 114, 114, 0]
  | 6 => [0, 0, 0, 110] | 7 => [114, 0, 0, 110] | 8 => [104, 0, 0, 102] | 9 => [114, 104, 0, 0] | 10 => [114, 114, 104, 0] | 11 => [0, 0, 0, 110]
  | 12 => [114, 0, 0, 0] | 13 => [0, 0, 0, 0] | 14 => [0, 0, 0, 0] | 15 => [114, 0, 0, 0] | 16 => [114, 0, 0, 0] | _ => [0, 0, 0, 0]
def form (op k : Nat) : Nat := (formsN op).getD k 0
def fl (i : Ins) : Nat → Int | 0 => i.2.1 | 1 => i.2.2.1 | 2 => i.2.2.2.1 | _ => i.2.2.2.2
/-- An operand, as it is written. -/
def writeF (f : Nat) (x : Int) : List UInt8 := if f = 110 then Lib.itoa x else UInt8.ofNat f :: Lib.itoa x
def opersL (op : Nat) (i : Ins) (ks : List Nat) : List (List UInt8) := ks.flatMap fun k => if form op k = 0 then [] else [writeF (form op k) (fl i k)]
def wordsL (i : Ins) : List (List UInt8) := nameL i.1.toNat :: opersL i.1.toNat i [0, 1, 2, 3]
/-- An instruction's text. -/
def lineA (i : Ins) : List UInt8 := joinC 32 (wordsL i)
/-- What a row of digits tells. -/
def numA (w : List UInt8) : Option Int := if w = [] ∨ (w.head? = some 48 ∧ 1 < w.length) ∨ w.all isDig = false then none else if 12 < w.length then some 1099511627776 else some (valF 0 w)
def readF (f : Nat) (w : List UInt8) : Option Int := if f = 110 then (if w.head? = some 45 then (match numA w.tail with
    | some v => if v = 0 then none else some (-v)
    | none => none) else numA w) else (if w.head? = some (UInt8.ofNat f) then numA w.tail else none)
def setF (i : Ins) (k : Nat) (v : Int) : Ins := match k with
  | 0 => (i.1, v, i.2.2.1, i.2.2.2.1, i.2.2.2.2)
  | 1 => (i.1, i.2.1, v, i.2.2.2.1, i.2.2.2.2)
  | 2 => (i.1, i.2.1, i.2.2.1, v, i.2.2.2.2)
  | _ => (i.1, i.2.1, i.2.2.1, i.2.2.2.1, v)
def countF (op : Nat) : Nat := ((formsN op).filter fun f => decide (f ≠ 0)).length
def opsR (op : Nat) : List Nat → List (List UInt8) → Ins → Int ⊕ Ins
  | [], _, i => .inr i
  | k :: ks, ws, i => if form op k = 0 then opsR op ks ws i else match readF (form op k) (ws.headD []) with
    | none => .inl 11
    | some v => if inR (kind op k) v = true then opsR op ks ws.tail (setF i k v) else .inl 10
def opOf (w : List UInt8) : Option Nat := (List.range 17).find? fun op => nameL op == w
/-- The instruction of words. -/
def readW (ws : List (List UInt8)) : Int ⊕ Ins := match opOf (ws.headD []) with
  | none => .inl 14
  | some op => if ws.tail.length = countF op then opsR op [0, 1, 2, 3] ws.tail (op, 0, 0, 0, 0) else .inl 11
/-- The instruction of a text; or how it is wrong. -/
def readA (s : List UInt8) : Int ⊕ Ins := readW (splitC 32 s)

theorem op_cases {op : Nat} (h : op ≤ 16) : op = 0 ∨ op = 1 ∨ op = 2 ∨ op = 3 ∨ op = 4 ∨ op = 5 ∨ op = 6 ∨ op = 7 ∨ op = 8 ∨ op = 9 ∨ op = 10 ∨ op = 11 ∨ op = 12 ∨ op = 13 ∨ op = 14 ∨ op = 15 ∨ op = 16 := by omega
theorem form_kind {op : Nat} (h : op ≤ 16) : ∀ k, k < 4 → (form op k = 0 ↔ kind op k = 0) := by
  have hall : ∀ op, op < 17 → ∀ k, k < 4 → (form op k = 0 ↔ kind (op : Nat) k = 0) := by decide
  exact hall op (by omega)
theorem name_len (op : Nat) : (nameL op).length ≤ 6 := by
  by_cases h : op ≤ 16
  · have hall : ∀ op, op < 17 → (nameL op).length ≤ 6 := by decide
    exact hall op (by omega)
  · unfold nameL
    split <;> first | omega | decide
theorem name_inj {a b : Nat} (ha : a ≤ 16) (hb : b ≤ 16) (h : nameL a = nameL b) : a = b := by
  have hall : ∀ a, a < 17 → ∀ b, b < 17 → nameL a = nameL b → a = b := by decide
  exact hall a (by omega) b (by omega) h
theorem opOf_none {w : List UInt8} (h : ∀ op, op ≤ 16 → nameL op ≠ w) : opOf w = none := by
  unfold opOf
  rw [List.find?_eq_none]
  intro op hop
  rw [List.mem_range] at hop
  simpa using h op (by omega)
theorem opOf_some {w : List UInt8} {op : Nat} (ho : op ≤ 16) (h : nameL op = w) : opOf w = some op := by
  cases hf : opOf w with
  | none =>
    unfold opOf at hf
    rw [List.find?_eq_none] at hf
    have := hf op (List.mem_range.2 (by omega))
    simp [h] at this
  | some o =>
    unfold opOf at hf
    have h1 := List.find?_some hf
    have h2 := List.mem_of_find?_eq_some hf
    rw [List.mem_range] at h2
    simp only [beq_iff_eq] at h1
    rw [name_inj ho (by omega) (h.trans h1.symm)]
theorem opOf_ok {w : List UInt8} {op : Nat} (h : opOf w = some op) : op ≤ 16 ∧ nameL op = w := by
  unfold opOf at h
  have h1 := List.find?_some h
  have h2 := List.mem_of_find?_eq_some h
  rw [List.mem_range] at h2
  simp only [beq_iff_eq] at h1
  exact ⟨by omega, h1⟩
end P3
end Go.Proofs.YtggdbceommmllaaDoor
