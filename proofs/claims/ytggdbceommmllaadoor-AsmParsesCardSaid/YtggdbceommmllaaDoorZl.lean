/- Arguments of the asm chapter's laws, opened: ints, a string; what is asked of the library out of 'laid' and the shapes. -/
import Derived.Test.YtggdbceommmllaaDoorZ1
import Derived.Test.YtggdbceommmllaaDoorA3c
import Derived.Deep.Slices
import Derived.Stop.LaidErr
import Derived.Lib.LaidTab
import Derived.Lib.SmallJoins
import Derived.MakeChecks
import Derived.Shelf.Vars
import Derived.Lib.SmallJoins
namespace Go.Proofs.YtggdbceommmllaaDoor
open Go.ChangeShapes Go.WideShapes Go.ChangeAt Go.RowKit Go.Joins Go.Deep
set_option maxRecDepth 100000

section
variable {H : Type} {enc : TypeId × Value → H} {w : World}

theorem i64_of {z : Int} (hwf : (Lit.int .i64 z).wf = true) : -9223372036854775808 ≤ z ∧ z ≤ 9223372036854775807 := by
  simp [Lit.wf] at hwf
  have h1 : IntKind.i64.min = -9223372036854775808 := by decide
  have h2 : IntKind.i64.max = 9223372036854775807 := by decide
  omega
theorem open_int {r : Reach} {b0 : Nat} {v : Value} {d : DataW H} {p : List MemPlace} (hv : Value.okWide Tryd.prog w r b0 3 v) (h : DataW.Trod enc Tryd.prog w 0 (fun _ => true) true 3 v d p) :
    ∃ n : Int, v = .int .i64 n ∧ (-9223372036854775808 ≤ n ∧ n ≤ 9223372036854775807) := by
  obtain ⟨n, rfl⟩ := okWide_int Tryd.underlying3 hv
  obtain ⟨fuel, hf⟩ := h
  obtain ⟨z, hz, _, hwf⟩ := DataW.trod_int Tryd.underlying3 hf
  simp only [Value.cells, List.cons.injEq, and_true, Value.int.injEq, true_and] at hz
  subst hz
  exact ⟨n, rfl, i64_of hwf⟩
theorem open_str {r : Reach} {b0 : Nat} {v : Value} {d : DataW H} {p : List MemPlace} (h : DataW.Trod enc Tryd.prog w 0 (fun _ => true) true 9 v d p) (hv : Value.okWide Tryd.prog w r b0 9 v) :
    ∃ s : ByteArray, v = .string s ∧ s.size ≤ maxLen := by
  obtain ⟨s, rfl⟩ := okWide_string Tryd.underlying9 hv
  obtain ⟨fuel, hf⟩ := h
  obtain ⟨z, hz, _, hwf⟩ := DataW.trod_string Tryd.underlying9 hf
  simp only [Value.cells, List.cons.injEq, and_true, Value.string.injEq] at hz
  subst hz
  exact ⟨s, rfl, hwf⟩
end
theorem gMax : ((begin Tryd.prog (fun _ _ => 0) default).world.heap[0]?).bind Obj.row? = some (#[.int .i64 0], 3) := by kernel_rfl
theorem lab_of {W : World} (h : laidMetH Tryd.prog Rows.asmLinesRow.laid W) (hsh : W.ShapedOpen Tryd.prog) : P3.Lb W := by
  rw [MakeChecks.laidMetH_plain _ _ _ (by kernel_rfl)] at h
  have h2 := laidMet.tail (laidMet.tail h)
  exact ⟨Lib.tabIs_of_head (g := 2) (t := 137) (e := 122) (n := 20) (by kernel_rfl) (by kernel_rfl) (by kernel_rfl) (by kernel_rfl) (by kernel_rfl) (by kernel_rfl) h2, cell_of_shapedOpen_int (t := 3) (zero := #[.int .i64 0]) hsh (by decide +kernel) gMax rfl (by kernel_rfl) (by kernel_rfl) Tryd.underlying3⟩
end Go.Proofs.YtggdbceommmllaaDoor
