/- Instructions compared. -/
import Derived.Test.YtggdbceommmllaaDoorA3f
namespace Go.Proofs.YtggdbceommmllaaDoor
open Go.RowKit
namespace P3
open P2 PC NumL CutL

theorem eqI_run (i j : Ins) (w : World) : (Op.equalIn 10000 33 (insV i) (insV j)).run Tryd.prog w = .ok (decide (i = j)) w := by
  obtain ⟨a, b, c, d, e⟩ := i
  obtain ⟨a', b', c', d', e'⟩ := j
  unfold insV
  rw [run_equalIn_agg w 9999 33 _ _ (by kernel_rfl) (by kernel_rfl)]
  rw [show (Tryd.prog.fieldsOf 33).toList = [⟨"Op", 3, 0, false, "", "", 0⟩, ⟨"A", 3, 1, false, "", "", 8⟩, ⟨"B", 3, 2, false, "", "", 16⟩, ⟨"C", 3, 3, false, "", "", 24⟩, ⟨"N", 3, 4, false, "", "", 32⟩] from by kernel_rfl]
  have hi : ∀ (x y : Int) w, (Op.equalIn 9999 3 (.int .i64 x) (.int .i64 y)).run Tryd.prog w = .ok (x == y) w := fun x y w => run_equalIn_int w 9998 _ .i64 .i64 x y Tryd.underlying3
  have p0 : ∀ (cs : Array Value) (k : Nat) (v : Value) w, cs[k]? = some v → (part 3 cs k).run Tryd.prog w = .ok v w := by
    intro cs k v w h
    simp [part, h]
  simp [Op.eqFields, hi, p0]
  by_cases h1 : a = a' <;> by_cases h2 : b = b' <;> by_cases h3 : c = c' <;> by_cases h4 : d = d' <;> by_cases h5 : e = e' <;> simp [h1, h2, h3, h4, h5]

/-- Two instructions laid as literals, compared. -/
theorem eqI_lit (o a b c n o' a' b' c' n' : Int) (w : World) : (Op.equalIn 10000 33 (.agg #[.int .i64 o, .int .i64 a, .int .i64 b, .int .i64 c, .int .i64 n]) (.agg #[.int .i64 o', .int .i64 a', .int .i64 b', .int .i64 c', .int .i64 n'])).run Tryd.prog w = .ok (decide (((o, a, b, c, n) : Ins) = (o', a', b', c', n'))) w := eqI_run (o, a, b, c, n) (o', a', b', c', n') w
theorem eqI_same (o a b c n : Int) (w : World) : (Op.equalIn 10000 33 (.agg #[.int .i64 o, .int .i64 a, .int .i64 b, .int .i64 c, .int .i64 n]) (.agg #[.int .i64 o, .int .i64 a, .int .i64 b, .int .i64 c, .int .i64 n])).run Tryd.prog w = .ok true w := by
  rw [eqI_lit, decide_eq_true rfl]
end P3
end Go.Proofs.YtggdbceommmllaaDoor
