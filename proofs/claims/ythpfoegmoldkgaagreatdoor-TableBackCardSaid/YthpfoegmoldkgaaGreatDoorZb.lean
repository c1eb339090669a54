/- Arguments of TableBack: a text; what is asked of the library out of 'laid' and the shapes. -/
import Derived.Test.YthpfoegmoldkgaaGreatDoorZt
import Derived.Test.YthpfoegmoldkgaaGreatDoorTb4
import Derived.Shelf.Vars
namespace Go.Proofs.YthpfoegmoldkgaaGreatDoor
open Go.ChangeShapes Go.WideShapes Go.ChangeAt Go.RowKit Go.Joins Go.Deep
set_option maxRecDepth 100000

section
variable {H : Type} {enc : TypeId × Value → H} {w : World}
theorem open_str {r : Reach} {b0 : Nat} {v : Value} {d : DataW H} {p : List MemPlace} (h : DataW.Trod enc Tryz.prog w 0 (fun _ => true) true 9 v d p) (hv : Value.okWide Tryz.prog w r b0 9 v) :
    ∃ s : ByteArray, v = .string s ∧ s.size ≤ maxLen := by
  obtain ⟨s, rfl⟩ := okWide_string Tryz.underlying9 hv
  obtain ⟨fuel, hf⟩ := h
  obtain ⟨z, hz, _, hwf⟩ := DataW.trod_string Tryz.underlying9 hf
  simp only [Value.cells, List.cons.injEq, and_true, Value.string.injEq] at hz
  subst hz
  exact ⟨s, rfl, hwf⟩
end
theorem starES : "*" ++ "errors.errorString" = "*errors.errorString" := by decide
theorem rowES (u : TypeId) (h : Tryz.prog.typeName? 3 u = some "*errors.errorString") : u = 139 :=
  typeName_ptr_named (nm := "errors.errorString") (by rw [starES]; kernel_rfl) (by kernel_rfl) (by decide) u (by rw [starES]; exact h)
theorem cellsES : Tryz.prog.cellsOf 141 = 1 := by kernel_rfl
theorem cellsStr : Tryz.prog.cellsOf 9 = 1 := by kernel_rfl
theorem gMax : ((begin Tryz.prog (fun _ _ => 0) default).world.heap[1]?).bind Obj.row? = some (#[.int .i64 0], 3) := by kernel_rfl
theorem tl_of {W : World} (h : laidMetH Tryz.prog Rows.tableBackRow.laid W) (hsh : W.ShapedOpen Tryz.prog) : P7.TL W := by
  have hp := pow_of h
  rw [MakeChecks.laidMetH_plain _ _ _ (by kernel_rfl)] at h
  have h2 := laidMet.tail (laidMet.tail h)
  have h4 := laidMet.tail (laidMet.tail h2)
  refine ⟨hp, cell_of_shapedOpen_int (t := 3) (zero := #[.int .i64 0]) hsh (by decide +kernel) gMax rfl (by kernel_rfl) (by kernel_rfl) Tryz.underlying3, ?_⟩
  have hg : Tryz.prog.globalNamed "strconv.ErrRange" = some 5 := by kernel_rfl
  obtain ⟨a, s, hv, -⟩ := laid_sentinel h4 hg (ti := 45) (by kernel_rfl) Tryz.underlying45 rowES Tryz.underlying139 Tryz.underlying141 rfl rfl Tryz.underlying9 cellsES cellsStr
  exact ⟨_, by have := World.var?_cell hg hv 0; simpa using this, .inr ⟨_, _, rfl⟩⟩
end Go.Proofs.YthpfoegmoldkgaaGreatDoor
