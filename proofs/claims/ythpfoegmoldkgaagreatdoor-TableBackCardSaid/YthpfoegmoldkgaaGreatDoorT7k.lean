/- Two rows held against one another; Rows of layer 6. -/
import Derived.Test.YthpfoegmoldkgaaGreatDoorT7h
namespace Go.Proofs.YthpfoegmoldkgaaGreatDoor
open Go.RowKit
namespace P7

theorem eq_row (i j : Row) (w : World) : (Op.equalIn 10000 34 (rowV i) (rowV j)).run Tryz.prog w = .ok (decide (i = j)) w := by
  obtain ⟨a, b, c, d, e, f, g⟩ := i
  obtain ⟨a', b', c', d', e', f', g'⟩ := j
  unfold rowV
  rw [run_equalIn_agg w 9999 34 _ _ (by kernel_rfl) (by kernel_rfl)]
  rw [show (Tryz.prog.fieldsOf 34).toList = [⟨"Parent", 3, 0, false, "", "", 0⟩, ⟨"In", 3, 1, false, "", "", 8⟩, ⟨"Func", 3, 2, false, "", "", 16⟩, ⟨"Kind", 3, 3, false, "", "", 24⟩, ⟨"V", 2, 4, false, "", "", 32⟩, ⟨"Steps", 3, 5, false, "", "", 40⟩, ⟨"Closes", 9, 6, false, "", "", 48⟩] from by kernel_rfl]
  have hi : ∀ (x y : Int) w, (Op.equalIn 9999 3 (.int .i64 x) (.int .i64 y)).run Tryz.prog w = .ok (x == y) w := fun x y w => run_equalIn_int w 9998 _ .i64 .i64 x y Tryz.underlying3
  have hi' : ∀ (x y : Int) w, (Op.equalIn 9999 2 (.int .i64 x) (.int .i64 y)).run Tryz.prog w = .ok (x == y) w := fun x y w => run_equalIn_int w 9998 _ .i64 .i64 x y Tryz.underlying2
  have hs : ∀ (x y : ByteArray) w, (Op.equalIn 9999 9 (.string x) (.string y)).run Tryz.prog w = .ok (decide (x = y)) w := fun x y w => by
    rw [run_equalIn_string w 9998 _ x y Tryz.underlying9]
    by_cases h : x = y
    · rw [decide_eq_true h, h, str_beq]
    · rw [decide_eq_false h, str_bne h]
  have p0 : ∀ (cs : Array Value) (k : Nat) (v : Value) w, cs[k]? = some v → (part 3 cs k).run Tryz.prog w = .ok v w := by
    intro cs k v w h
    simp [part, h]
  have p1 : ∀ (cs : Array Value) (k : Nat) (v : Value) w, cs[k]? = some v → (part 2 cs k).run Tryz.prog w = .ok v w := by
    intro cs k v w h
    simp [part, h]
  have p2 : ∀ (cs : Array Value) (k : Nat) (v : Value) w, cs[k]? = some v → (part 9 cs k).run Tryz.prog w = .ok v w := by
    intro cs k v w h
    simp [part, h]
  simp [Op.eqFields, hi, hi', hs, p0, p1, p2, Row.eq_iff]
  by_cases h1 : a = a' <;> by_cases h2 : b = b' <;> by_cases h3 : c = c' <;> by_cases h4 : d = d' <;> by_cases h5 : e = e' <;> by_cases h6 : f = f' <;> by_cases h7 : g = g' <;> simp [h1, h2, h3, h4, h5, h6, h7]
theorem neq_row (i j : Row) (w : World) : (binOp .neq 34 (rowV i) (rowV j)).run Tryz.prog w = .ok (.bool (!decide (i = j))) w := by
  have h := eq_row i j w
  unfold rowV at h ⊢
  rw [run_neq_struct, h]
  rfl
theorem eql_row (i j : Row) (w : World) : (binOp .eql 34 (rowV i) (rowV j)).run Tryz.prog w = .ok (.bool (decide (i = j))) w := by
  have h := eq_row i j w
  unfold rowV at h ⊢
  rw [run_eql_struct, h]
  rfl
end P7
end Go.Proofs.YthpfoegmoldkgaaGreatDoor
