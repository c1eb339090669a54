/- Merged: Zl3 Zi Zp. -/
import Derived.Test.YtggdbceommmllaaGreatDoorZ1
import Derived.Test.YtggdbceommmllaaGreatDoorA3c
import Derived.Deep.Slices
import Derived.Stop.LaidErr
import Derived.Lib.LaidTab
import Derived.Lib.SmallJoins
import Derived.MakeChecks
import Derived.Shelf.Vars
import Derived.Test.YtggdbceommmllaaGreatDoorG3
import Derived.Test.YtggdbceommmllaaGreatDoorJ3
/- Arguments of the asm chapter's laws, opened: ints, a string; what is asked of the library out of 'laid' and the shapes. -/
namespace Go.Proofs.YtggdbceommmllaaGreatDoor
open Go.ChangeShapes Go.WideShapes Go.ChangeAt Go.RowKit Go.Joins Go.Deep
set_option maxRecDepth 100000

section
variable {H : Type} {enc : TypeId × Value → H} {w : World}

theorem i64_of {z : Int} (hwf : (Lit.int .i64 z).wf = true) : -9223372036854775808 ≤ z ∧ z ≤ 9223372036854775807 := by
  simp [Lit.wf] at hwf
  have h1 : IntKind.i64.min = -9223372036854775808 := by decide
  have h2 : IntKind.i64.max = 9223372036854775807 := by decide
  omega
theorem open_int {r : Reach} {b0 : Nat} {v : Value} {d : DataW H} {p : List MemPlace} (hv : Value.okWide Tryz.prog w r b0 3 v) (h : DataW.Trod enc Tryz.prog w 0 (fun _ => true) true 3 v d p) :
    ∃ n : Int, v = .int .i64 n ∧ (-9223372036854775808 ≤ n ∧ n ≤ 9223372036854775807) := by
  obtain ⟨n, rfl⟩ := okWide_int Tryz.underlying3 hv
  obtain ⟨fuel, hf⟩ := h
  obtain ⟨z, hz, _, hwf⟩ := DataW.trod_int Tryz.underlying3 hf
  simp only [Value.cells, List.cons.injEq, and_true, Value.int.injEq, true_and] at hz
  subst hz
  exact ⟨n, rfl, i64_of hwf⟩
theorem open_str {r : Reach} {b0 : Nat} {v : Value} {d : DataW H} {p : List MemPlace} (h : DataW.Trod enc Tryz.prog w 0 (fun _ => true) true 9 v d p) (hv : Value.okWide Tryz.prog w r b0 9 v) :
    ∃ s : ByteArray, v = .string s ∧ s.size ≤ maxLen := by
  obtain ⟨s, rfl⟩ := okWide_string Tryz.underlying9 hv
  obtain ⟨fuel, hf⟩ := h
  obtain ⟨z, hz, _, hwf⟩ := DataW.trod_string Tryz.underlying9 hf
  simp only [Value.cells, List.cons.injEq, and_true, Value.string.injEq] at hz
  subst hz
  exact ⟨s, rfl, hwf⟩
end
theorem gMax : ((begin Tryz.prog (fun _ _ => 0) default).world.heap[1]?).bind Obj.row? = some (#[.int .i64 0], 3) := by kernel_rfl
theorem lab_of {W : World} (h : laidMetH Tryz.prog Rows.asmPrintsRow.laid W) (hsh : W.ShapedOpen Tryz.prog) : P3.Lb W := by
  rw [MakeChecks.laidMetH_plain _ _ _ (by kernel_rfl)] at h
  have h2 := laidMet.tail (laidMet.tail h)
  exact ⟨Lib.tabIs_of_head (g := 2) (t := 126) (e := 113) (n := 20) (by kernel_rfl) (by kernel_rfl) (by kernel_rfl) (by kernel_rfl) (by kernel_rfl) (by kernel_rfl) h2, cell_of_shapedOpen_int (t := 3) (zero := #[.int .i64 0]) hsh (by decide +kernel) gMax rfl (by kernel_rfl) (by kernel_rfl) Tryz.underlying3⟩
end Go.Proofs.YtggdbceommmllaaGreatDoor

/- Arguments of the code chapter's laws, opened: instructions, bytes, programs. -/
namespace Go.Proofs.YtggdbceommmllaaGreatDoor
open Go.ChangeShapes Go.WideShapes Go.ChangeAt Go.RowKit Go.Joins Go.Deep
set_option maxRecDepth 100000

section
variable {H : Type} {enc : TypeId × Value → H} {w : World} {base b0 : Nat} {spare : Nat → Bool} {held : Bool}

theorem trod_field {P : Program} {fs : Array Field} (hone : oneCellFields P fs = true) {cs : List Value} {ys : List (DataW H × List MemPlace)} {n : Nat} (hl : cs.length = fs.size) (hy : ys.length = fs.size)
    (hg : ∀ (j : Nat) (f : Field), fs[j]? = some f → DataW.trod enc P w base spare held n f.type ((cs.drop f.offset).take (P.cellsOf f.type)) = ys[j]?) (j : Nat) (f : Field) (hj : fs[j]? = some f) :
    ∃ v y, cs[j]? = some v ∧ ys[j]? = some y ∧ DataW.trod enc P w base spare held n f.type [v] = some y := by
  obtain ⟨ho, hk⟩ := hone_of hone j f hj
  have hjl : j < fs.size := (Array.getElem?_eq_some_iff.1 hj).1
  have h1 := hg j f hj
  rw [ho, hk] at h1
  have e : (cs.drop j).take 1 = [cs[j]'(by omega)] := by
    rw [List.drop_eq_getElem_cons (by omega)]
    rfl
  rw [e] at h1
  have hys : ys[j]? = some (ys[j]'(by omega)) := List.getElem?_eq_getElem (by omega)
  exact ⟨_, _, List.getElem?_eq_getElem (by omega), hys, h1.trans hys⟩

theorem cells_int : Tryz.prog.cellsOf 3 = 1 := by kernel_rfl
theorem cells_u8 : Tryz.prog.cellsOf 5 = 1 := by kernel_rfl
theorem cells_ins : Tryz.prog.cellsOf 35 = 5 := by kernel_rfl
theorem cells_fun : Tryz.prog.cellsOf 32 = 2 := by kernel_rfl
theorem cells_prog : Tryz.prog.cellsOf 24 = 1 := by kernel_rfl

/-- Five cells that read as an instruction are an instruction's. -/
theorem ins_cells {fuel : Nat} {cs : List Value} {x : DataW H × List MemPlace} (h : DataW.trod enc Tryz.prog w base spare held fuel 35 cs = some x) :
    ∃ i : P2.Ins, cs = [.int .i64 i.1, .int .i64 i.2.1, .int .i64 i.2.2.1, .int .i64 i.2.2.2.1, .int .i64 i.2.2.2.2] := by
  obtain ⟨xs, n, rfl, _, hlen, hxl, hg⟩ := DataW.trod_struct Tryz.underlying35 h
  rw [cells_ins] at hlen
  match cs, hlen with
  | [c0, c1, c2, c3, c4], _ =>
    have hone : oneCellFields Tryz.prog _ = true := (by kernel_rfl : oneCellFields Tryz.prog #[⟨"Op", 3, 0, false, "", "", 0⟩, ⟨"A", 3, 1, false, "", "", 8⟩, ⟨"B", 3, 2, false, "", "", 16⟩, ⟨"C", 3, 3, false, "", "", 24⟩, ⟨"N", 3, 4, false, "", "", 32⟩] = true)
    obtain ⟨v0, y0, e0, _, h0⟩ := trod_field hone rfl hxl hg 0 _ rfl
    obtain ⟨v1, y1, e1, _, h1⟩ := trod_field hone rfl hxl hg 1 _ rfl
    obtain ⟨v2, y2, e2, _, h2⟩ := trod_field hone rfl hxl hg 2 _ rfl
    obtain ⟨v3, y3, e3, _, h3⟩ := trod_field hone rfl hxl hg 3 _ rfl
    obtain ⟨v4, y4, e4, _, h4⟩ := trod_field hone rfl hxl hg 4 _ rfl
    obtain ⟨a0, k0, _, _⟩ := DataW.trod_int Tryz.underlying3 h0
    obtain ⟨a1, k1, _, _⟩ := DataW.trod_int Tryz.underlying3 h1
    obtain ⟨a2, k2, _, _⟩ := DataW.trod_int Tryz.underlying3 h2
    obtain ⟨a3, k3, _, _⟩ := DataW.trod_int Tryz.underlying3 h3
    obtain ⟨a4, k4, _, _⟩ := DataW.trod_int Tryz.underlying3 h4
    simp only [List.cons.injEq, and_true, List.getElem?_cons_zero, List.getElem?_cons_succ, Option.some.injEq] at e0 e1 e2 e3 e4 k0 k1 k2 k3 k4
    subst e0; subst e1; subst e2; subst e3; subst e4; subst k0; subst k1; subst k2; subst k3; subst k4
    exact ⟨(a0, a1, a2, a3, a4), rfl⟩

/-- An instruction as an argument. -/
theorem open_ins {r : Reach} {v : Value} {d : DataW H} {p : List MemPlace} (hv : Value.okWide Tryz.prog w r b0 35 v) (h : DataW.Trod enc Tryz.prog w base spare held 35 v d p) : ∃ i : P2.Ins, v = P2.insV i := by
  obtain ⟨cs, rfl, hsz⟩ := okWide_struct Tryz.underlying35 hv
  obtain ⟨fuel, hf⟩ := h
  obtain ⟨i, hi⟩ := ins_cells hf
  refine ⟨i, ?_⟩
  obtain ⟨l⟩ := cs
  simp only [Value.cells] at hi
  unfold P2.insV
  rw [show l = _ from hi]

end
end Go.Proofs.YtggdbceommmllaaGreatDoor

/- Arguments opened that are slices: of bytes, of instructions, of functions; a program. -/
namespace Go.Proofs.YtggdbceommmllaaGreatDoor
open Go.ChangeShapes Go.WideShapes Go.ChangeAt Go.RowKit Go.Deep
set_option maxRecDepth 100000

theorem list_of {α : Type} (n : Nat) (R : Nat → α → Prop) (h : ∀ i, i < n → ∃ a, R i a) : ∃ l : List α, l.length = n ∧ ∀ (i : Nat) (hi : i < l.length), R i l[i] := by
  induction n with
  | zero => exact ⟨[], rfl, fun i hi => absurd hi (by simp)⟩
  | succ n ih =>
    obtain ⟨l, hl, hr⟩ := ih fun i hi => h i (by omega)
    obtain ⟨a, ha⟩ := h n (by omega)
    refine ⟨l ++ [a], by simp [hl], fun i hi => ?_⟩
    rw [List.getElem_append]
    split
    · exact hr i _
    · have : i = n := by simp [hl] at hi; omega
      subst this
      simpa using ha
/-- Cells element by element are the cells of the flat list. -/
theorem range_flat {α : Type} {w : World} {b off : Nat} (g : α → List Value) (m : Nat) (hm : 0 < m) (hg : ∀ a, (g a).length = m) (l : List α)
    (h : ∀ (k : Nat) (hk : k < l.length) (j : Nat) (u : Value), j < m → (g l[k])[j]? = some u → w.cell? ⟨b, off + (k * m + j), none⟩ = some u) : w.rangeAt b off (l.flatMap g) := by
  intro j u hj
  have hlt : j < l.length * m := by
    have := (List.getElem?_eq_some_iff.1 hj).1
    rwa [flat_length g m hg] at this
  have hk : j / m < l.length := (Nat.div_lt_iff_lt_mul hm).2 hlt
  have hr : j % m < m := Nat.mod_lt _ hm
  have he : j = j / m * m + j % m := by rw [Nat.mul_comm]; exact (Nat.div_add_mod j m).symm
  rw [he, flat_get g m hg l _ _ hr, List.getElem?_eq_getElem hk] at hj
  have := h _ hk _ u hr hj
  rwa [← he] at this
theorem addr_of_cell {w : World} {a : Addr} {v : Value} (h : w.cell? a = some v) : a = ⟨a.block, a.off, none⟩ := by
  obtain ⟨b, o, s⟩ := a
  cases s with
  | none => rfl
  | some s => simp [World.cell?] at h; split at h <;> simp at h

section
variable {H : Type} {enc : TypeId × Value → H} {w : World}

/-- A slice whose elements of 'size' cells each are told by g. -/
theorem open_rows {α : Type} {t e : TypeId} {size fuel : Nat} {cs : List Value} {x : DataW H × List MemPlace} (ht : Tryz.prog.underlying t = some (.slice e)) (hsz : Tryz.prog.cellsOf e = size) (hpos : 0 < size)
    (g : α → List Value) (hg : ∀ a, (g a).length = size) (R : α → Prop) (hel : ∀ n cs' y, DataW.trod enc Tryz.prog w 0 (fun _ => true) true n e cs' = some y → ∃ a, cs' = g a ∧ R a)
    (h : DataW.trod enc Tryz.prog w 0 (fun _ => true) true fuel t cs = some x) :
    ∃ (v : Value) (l : List α), cs = [v] ∧ Sl w w.heap.size size v (l.flatMap g) ∧ l.length ≤ 9223372036854775807 ∧ ∀ a ∈ l, R a := by
  rcases open_slice ht h with ⟨rfl, _⟩ | ⟨a, len, cap, m, n, D, Pl, rfl, _, hlc, hcm, hm, _, hi⟩
  · exact ⟨_, [], rfl, Sl.none_, by simp, fun a ha => by cases ha⟩
  · have hmc : m = cap := by simpa using hm
    obtain ⟨l, hl, hr⟩ := list_of len (fun i a' => R a' ∧ ∀ j u, j < size → (g a')[j]? = some u → w.cell? ((a.add (i * size)).add j) = some u) fun i hil => by
      obtain ⟨cs', hc, htr⟩ := hi i (by omega)
      rw [hsz] at hc
      obtain ⟨a', rfl, hR⟩ := hel n cs' _ htr
      obtain ⟨_, _, hat⟩ := World.cells?_some hc
      exact ⟨a', hR, fun j u hj hu => (hat j hj).trans hu⟩
    have hcap : len ≤ 9223372036854775807 := by simp only [maxLen] at hcm; omega
    refine ⟨_, l, rfl, ⟨some a, len, cap, rfl, hlc, by rw [flat_length g size hg, hl], fun hpos' => ?_⟩, by omega, fun a' ha' => ?_⟩
    · have h0 : 0 < l.length := by omega
      have hc0 := (hr 0 h0).2 0 ((g l[0])[0]'(by rw [hg]; exact hpos)) hpos (List.getElem?_eq_getElem _)
      have ha := addr_of_cell (w := w) (a := a) (v := (g l[0])[0]'(by rw [hg]; exact hpos)) (by
        have e : (a.add (0 * size)).add 0 = a := by simp [Addr.add]
        rwa [e] at hc0)
      obtain ⟨b, o, s⟩ := a
      simp only [Addr.mk.injEq, true_and] at ha
      subst ha
      refine ⟨b, o, rfl, ?_, range_flat g size hpos hg l fun k hk j u hj hu => ?_⟩
      · have := World.block_lt_of_cell? w _ hc0
        simpa [Addr.add] using this
      · have := (hr k hk).2 j u hj hu
        rwa [Addr.add_mid, Addr.add_mid, Nat.add_assoc] at this
    · obtain ⟨k, hk, rfl⟩ := List.getElem_of_mem ha'
      exact (hr k hk).1

theorem u8_cells {n : Nat} {cs : List Value} {y : DataW H × List MemPlace} (h : DataW.trod enc Tryz.prog w 0 (fun _ => true) true n 5 cs = some y) : ∃ z : Int, cs = [.int .u8 z] ∧ (0 ≤ z ∧ z ≤ 255) := by
  obtain ⟨z, hz, _, hwf⟩ := DataW.trod_int Tryz.underlying5 h
  refine ⟨z, hz, ?_⟩
  simp [Lit.wf] at hwf
  have h1 : IntKind.u8.min = 0 := by decide
  have h2 : IntKind.u8.max = 255 := by decide
  omega

/-- A slice of bytes as an argument. -/
theorem open_bytes {r : Reach} {b0 : Nat} {v : Value} {d : DataW H} {p : List MemPlace} (hv : Value.okWide Tryz.prog w r b0 40 v) (h : DataW.Trod enc Tryz.prog w 0 (fun _ => true) true 40 v d p) :
    ∃ l : List Int, Sl w w.heap.size 1 v (bv l) ∧ l.length ≤ 9223372036854775807 ∧ ∀ z ∈ l, 0 ≤ z ∧ z ≤ 255 := by
  obtain ⟨A, n, c, rfl⟩ := okWide_slice Tryz.underlying40 hv
  obtain ⟨fuel, hf⟩ := h
  obtain ⟨v', l, hcs, hs, hl, hr⟩ := open_rows (α := Int) (size := 1) Tryz.underlying40 cells_u8 (by omega) (fun z => [.int .u8 z]) (fun _ => rfl) (fun z => 0 ≤ z ∧ z ≤ 255) (fun n cs' y hy => u8_cells hy) hf
  simp only [Value.cells, List.cons.injEq, and_true] at hcs
  subst hcs
  refine ⟨l, ?_, hl, hr⟩
  have : (l.flatMap fun z => [Value.int .u8 z]) = bv l := by
    clear hs hr hl
    induction l with
    | nil => rfl
    | cons z l ih => rw [List.flatMap_cons, ih]; rfl
  rwa [this] at hs

theorem code_cells {n : Nat} {cs : List Value} {y : DataW H × List MemPlace} (h : DataW.trod enc Tryz.prog w 0 (fun _ => true) true n 30 cs = some y) :
    ∃ (v : Value) (l : List P2.Ins), cs = [v] ∧ Sl w w.heap.size 5 v (P2.codeC l) ∧ l.length ≤ 9223372036854775807 := by
  obtain ⟨v, l, hcs, hs, hl, _⟩ := open_rows (α := P2.Ins) (size := 5) Tryz.underlying30 cells_ins (by omega) P2.insC P2.insC_length (fun _ => True) (fun n cs' y hy => by
    obtain ⟨i, hi⟩ := ins_cells hy
    exact ⟨i, hi, trivial⟩) h
  exact ⟨v, l, hcs, hs, hl⟩

theorem fun_cells {n : Nat} {cs : List Value} {y : DataW H × List MemPlace} (h : DataW.trod enc Tryz.prog w 0 (fun _ => true) true n 32 cs = some y) :
    ∃ x : P2.Fn × Value, cs = P2.fnC x ∧ (Sl w w.heap.size 5 x.2 (P2.codeC x.1.2) ∧ x.1.2.length ≤ 9223372036854775807) := by
  obtain ⟨xs, n, rfl, _, hlen, hxl, hgf⟩ := DataW.trod_struct Tryz.underlying32 h
  rw [cells_fun] at hlen
  match cs, hlen with
  | [c0, c1], _ =>
    have hone : oneCellFields Tryz.prog _ = true := (by kernel_rfl : oneCellFields Tryz.prog #[⟨"Needs", 3, 0, false, "", "", 0⟩, ⟨"Code", 30, 1, false, "", "", 8⟩] = true)
    obtain ⟨v0, y0, e0, _, h0⟩ := trod_field hone rfl hxl hgf 0 _ rfl
    obtain ⟨v1, y1, e1, _, h1⟩ := trod_field hone rfl hxl hgf 1 _ rfl
    obtain ⟨a0, k0, _, _⟩ := DataW.trod_int Tryz.underlying3 h0
    obtain ⟨v, l, k1, hs, hl⟩ := code_cells h1
    simp only [List.cons.injEq, and_true, List.getElem?_cons_zero, List.getElem?_cons_succ, Option.some.injEq] at e0 e1 k0 k1
    subst e0; subst e1; subst k0; subst k1
    exact ⟨((a0, l), c1), rfl, hs, hl⟩

theorem open_prog {r : Reach} {b0 : Nat} {v : Value} {d : DataW H} {p : List MemPlace} (hv : Value.okWide Tryz.prog w r b0 24 v) (h : DataW.Trod enc Tryz.prog w 0 (fun _ => true) true 24 v d p) :
    ∃ (pv : Value) (q : List P2.Fn), v = .agg #[pv] ∧ P2.Prog w pv q := by
  obtain ⟨cs, rfl, hsz⟩ := okWide_struct Tryz.underlying24 hv
  obtain ⟨fuel, hf⟩ := h
  obtain ⟨xs, n, rfl, _, hlen, hxl, hgf⟩ := DataW.trod_struct Tryz.underlying24 hf
  rw [cells_prog] at hlen
  obtain ⟨l⟩ := cs
  simp only [Value.cells] at hlen hgf
  match l, hlen with
  | [c0], _ =>
    have hone : oneCellFields Tryz.prog _ = true := (by kernel_rfl : oneCellFields Tryz.prog #[⟨"Funcs", 22, 0, false, "", "", 0⟩] = true)
    obtain ⟨v0, y0, e0, _, h0⟩ := trod_field hone rfl hxl hgf 0 _ rfl
    obtain ⟨v, fl, k0, hs, hl, hr⟩ := open_rows (α := P2.Fn × Value) (size := 2) Tryz.underlying22 cells_fun (by omega) P2.fnC P2.fnC_length (fun x => Sl w w.heap.size 5 x.2 (P2.codeC x.1.2) ∧ x.1.2.length ≤ 9223372036854775807) (fun n cs' y hy => fun_cells hy) h0
    simp only [List.cons.injEq, and_true, List.getElem?_cons_zero, Option.some.injEq] at e0 k0
    subst e0; subst k0
    refine ⟨c0, fl.map (·.1), rfl, ⟨fl.map (·.2), by simp, ?_, fun k hk c hc => ?_⟩, by simpa using hl, fun f hf => ?_⟩
    · have : ((fl.map (·.1)).zip (fl.map (·.2))) = fl := by rw [List.zip_map']; simp
      rw [this]; exact hs
    · have hk' : k < fl.length := by simpa using hk
      rw [List.getElem?_map, List.getElem?_eq_getElem hk'] at hc
      simp only [Option.map_some, Option.some.injEq] at hc
      subst hc
      rw [List.getElem_map]
      exact (hr _ (List.getElem_mem hk')).1
    · obtain ⟨x, hx, rfl⟩ := List.mem_map.1 hf
      exact (hr x hx).2
end
end Go.Proofs.YtggdbceommmllaaGreatDoor
