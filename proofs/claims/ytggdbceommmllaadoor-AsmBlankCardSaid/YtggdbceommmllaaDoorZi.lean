/- Arguments of the code chapter's laws, opened: instructions, bytes, programs. -/
import Derived.Test.YtggdbceommmllaaDoorZ1
import Derived.Test.YtggdbceommmllaaDoorG3
import Derived.Lib.SmallJoins
namespace Go.Proofs.YtggdbceommmllaaDoor
open Go.ChangeShapes Go.WideShapes Go.ChangeAt Go.RowKit Go.Joins Go.Deep
set_option maxRecDepth 100000

section
variable {H : Type} {enc : TypeId × Value → H} {w : World} {base b0 : Nat} {spare : Nat → Bool} {held : Bool}

theorem trod_field {P : Program} {fs : Array Field} (hone : oneCellFields P fs = true) {cs : List Value} {ys : List (DataW H × List MemPlace)} {n : Nat} (hl : cs.length = fs.size) (hy : ys.length = fs.size)
    (hg : ∀ (j : Nat) (f : Field), fs[j]? = some f → DataW.trod enc P w base spare held n f.type ((cs.drop f.offset).take (P.cellsOf f.type)) = ys[j]?) (j : Nat) (f : Field) (hj : fs[j]? = some f) :
    ∃ v y, cs[j]? = some v ∧ ys[j]? = some y ∧ DataW.trod enc P w base spare held n f.type [v] = some y := by
  obtain ⟨ho, hk⟩ := hone_of hone j f hj
  have hjl : j < fs.size := (Array.getElem?_eq_some_iff.1 hj).1
  have h1 := hg j f hj
  rw [ho, hk] at h1
  have e : (cs.drop j).take 1 = [cs[j]'(by omega)] := by
    rw [List.drop_eq_getElem_cons (by omega)]
    rfl
  rw [e] at h1
  have hys : ys[j]? = some (ys[j]'(by omega)) := List.getElem?_eq_getElem (by omega)
  exact ⟨_, _, List.getElem?_eq_getElem (by omega), hys, h1.trans hys⟩

theorem cells_int : Tryd.prog.cellsOf 3 = 1 := by kernel_rfl
theorem cells_u8 : Tryd.prog.cellsOf 5 = 1 := by kernel_rfl
theorem cells_ins : Tryd.prog.cellsOf 33 = 5 := by kernel_rfl
theorem cells_fun : Tryd.prog.cellsOf 46 = 2 := by kernel_rfl
theorem cells_prog : Tryd.prog.cellsOf 25 = 1 := by kernel_rfl

/-- Five cells that read as an instruction are an instruction's. -/
theorem ins_cells {fuel : Nat} {cs : List Value} {x : DataW H × List MemPlace} (h : DataW.trod enc Tryd.prog w base spare held fuel 33 cs = some x) :
    ∃ i : P2.Ins, cs = [.int .i64 i.1, .int .i64 i.2.1, .int .i64 i.2.2.1, .int .i64 i.2.2.2.1, .int .i64 i.2.2.2.2] := by
  obtain ⟨xs, n, rfl, _, hlen, hxl, hg⟩ := DataW.trod_struct Tryd.underlying33 h
  rw [cells_ins] at hlen
  match cs, hlen with
  | [c0, c1, c2, c3, c4], _ =>
    have hone : oneCellFields Tryd.prog _ = true := (by kernel_rfl : oneCellFields Tryd.prog #[⟨"Op", 3, 0, false, "", "", 0⟩, ⟨"A", 3, 1, false, "", "", 8⟩, ⟨"B", 3, 2, false, "", "", 16⟩, ⟨"C", 3, 3, false, "", "", 24⟩, ⟨"N", 3, 4, false, "", "", 32⟩] = true)
    obtain ⟨v0, y0, e0, _, h0⟩ := trod_field hone rfl hxl hg 0 _ rfl
    obtain ⟨v1, y1, e1, _, h1⟩ := trod_field hone rfl hxl hg 1 _ rfl
    obtain ⟨v2, y2, e2, _, h2⟩ := trod_field hone rfl hxl hg 2 _ rfl
    obtain ⟨v3, y3, e3, _, h3⟩ := trod_field hone rfl hxl hg 3 _ rfl
    obtain ⟨v4, y4, e4, _, h4⟩ := trod_field hone rfl hxl hg 4 _ rfl
    obtain ⟨a0, k0, _, _⟩ := DataW.trod_int Tryd.underlying3 h0
    obtain ⟨a1, k1, _, _⟩ := DataW.trod_int Tryd.underlying3 h1
    obtain ⟨a2, k2, _, _⟩ := DataW.trod_int Tryd.underlying3 h2
    obtain ⟨a3, k3, _, _⟩ := DataW.trod_int Tryd.underlying3 h3
    obtain ⟨a4, k4, _, _⟩ := DataW.trod_int Tryd.underlying3 h4
    simp only [List.cons.injEq, and_true, List.getElem?_cons_zero, List.getElem?_cons_succ, Option.some.injEq] at e0 e1 e2 e3 e4 k0 k1 k2 k3 k4
    subst e0; subst e1; subst e2; subst e3; subst e4; subst k0; subst k1; subst k2; subst k3; subst k4
    exact ⟨(a0, a1, a2, a3, a4), rfl⟩

/-- An instruction as an argument. -/
theorem open_ins {r : Reach} {v : Value} {d : DataW H} {p : List MemPlace} (hv : Value.okWide Tryd.prog w r b0 33 v) (h : DataW.Trod enc Tryd.prog w base spare held 33 v d p) : ∃ i : P2.Ins, v = P2.insV i := by
  obtain ⟨cs, rfl, hsz⟩ := okWide_struct Tryd.underlying33 hv
  obtain ⟨fuel, hf⟩ := h
  obtain ⟨i, hi⟩ := ins_cells hf
  refine ⟨i, ?_⟩
  obtain ⟨l⟩ := cs
  simp only [Value.cells] at hi
  unfold P2.insV
  rw [show l = _ from hi]

end
end Go.Proofs.YtggdbceommmllaaDoor
