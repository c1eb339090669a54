/- Arguments of the script chapter's laws, opened: slices of events, an event, ints, a string; what is asked of the library out of 'laid' and the shapes. -/
import Derived.Test.YtkobmoabnnjejaaDoorZ1
import Derived.Test.YtkobmoabnnjejaaDoorS1c
import Derived.Deep.Slices
import Derived.Stop.LaidErr
import Derived.Lib.LaidTab
import Derived.Lib.SmallJoins
import Derived.MakeChecks
import Derived.Shelf.Vars
import Derived.Lib.SmallJoins
namespace Go.Proofs.YtkobmoabnnjejaaDoor
open Go.ChangeShapes Go.WideShapes Go.ChangeAt Go.RowKit Go.Joins Go.Deep
set_option maxRecDepth 100000

theorem list_of {α : Type} (n : Nat) (R : Nat → α → Prop) (h : ∀ i, i < n → ∃ a, R i a) : ∃ l : List α, l.length = n ∧ ∀ (i : Nat) (hi : i < l.length), R i l[i] := by
  induction n with
  | zero => exact ⟨[], rfl, fun i hi => absurd hi (by simp)⟩
  | succ n ih =>
    obtain ⟨l, hl, hr⟩ := ih fun i hi => h i (by omega)
    obtain ⟨a, ha⟩ := h n (by omega)
    refine ⟨l ++ [a], by simp [hl], fun i hi => ?_⟩
    rw [List.getElem_append]
    split
    · exact hr i _
    · have : i = n := by simp [hl] at hi; omega
      subst this
      simpa using ha
/-- Cells element by element are the cells of the flat list. -/
theorem range_flat {α : Type} {w : World} {b off : Nat} (g : α → List Value) (m : Nat) (hm : 0 < m) (hg : ∀ a, (g a).length = m) (l : List α)
    (h : ∀ (k : Nat) (hk : k < l.length) (j : Nat) (u : Value), j < m → (g l[k])[j]? = some u → w.cell? ⟨b, off + (k * m + j), none⟩ = some u) : w.rangeAt b off (l.flatMap g) := by
  intro j u hj
  have hlt : j < l.length * m := by
    have := (List.getElem?_eq_some_iff.1 hj).1
    rwa [flat_length g m hg] at this
  have hk : j / m < l.length := (Nat.div_lt_iff_lt_mul hm).2 hlt
  have hr : j % m < m := Nat.mod_lt _ hm
  have he : j = j / m * m + j % m := by rw [Nat.mul_comm]; exact (Nat.div_add_mod j m).symm
  rw [he, flat_get g m hg l _ _ hr, List.getElem?_eq_getElem hk] at hj
  have := h _ hk _ u hr hj
  rwa [← he] at this
theorem addr_of_cell {w : World} {a : Addr} {v : Value} (h : w.cell? a = some v) : a = ⟨a.block, a.off, none⟩ := by
  obtain ⟨b, o, s⟩ := a
  cases s with
  | none => rfl
  | some s => simp [World.cell?] at h; split at h <;> simp at h

section
variable {H : Type} {enc : TypeId × Value → H} {w : World}

theorem trod_field {P : Program} {base : Nat} {spare : Nat → Bool} {held : Bool} {fs : Array Field} (hone : oneCellFields P fs = true) {cs : List Value} {ys : List (DataW H × List MemPlace)} {n : Nat} (hl : cs.length = fs.size) (hy : ys.length = fs.size)
    (hg : ∀ (j : Nat) (f : Field), fs[j]? = some f → DataW.trod enc P w base spare held n f.type ((cs.drop f.offset).take (P.cellsOf f.type)) = ys[j]?) (j : Nat) (f : Field) (hj : fs[j]? = some f) :
    ∃ v y, cs[j]? = some v ∧ ys[j]? = some y ∧ DataW.trod enc P w base spare held n f.type [v] = some y := by
  obtain ⟨ho, hk⟩ := hone_of hone j f hj
  have hjl : j < fs.size := (Array.getElem?_eq_some_iff.1 hj).1
  have h1 := hg j f hj
  rw [ho, hk] at h1
  have e : (cs.drop j).take 1 = [cs[j]'(by omega)] := by
    rw [List.drop_eq_getElem_cons (by omega)]
    rfl
  rw [e] at h1
  have hys : ys[j]? = some (ys[j]'(by omega)) := List.getElem?_eq_getElem (by omega)
  exact ⟨_, _, List.getElem?_eq_getElem (by omega), hys, h1.trans hys⟩

/-- A slice whose elements of 'size' cells each are told by g. -/
theorem open_rows {α : Type} {t e : TypeId} {size fuel : Nat} {cs : List Value} {x : DataW H × List MemPlace} (ht : Tryd.prog.underlying t = some (.slice e)) (hsz : Tryd.prog.cellsOf e = size) (hpos : 0 < size)
    (g : α → List Value) (hg : ∀ a, (g a).length = size) (R : α → Prop) (hel : ∀ n cs' y, DataW.trod enc Tryd.prog w 0 (fun _ => true) true n e cs' = some y → ∃ a, cs' = g a ∧ R a)
    (h : DataW.trod enc Tryd.prog w 0 (fun _ => true) true fuel t cs = some x) :
    ∃ (v : Value) (l : List α), cs = [v] ∧ Sl w w.heap.size size v (l.flatMap g) ∧ l.length ≤ 9223372036854775807 ∧ ∀ a ∈ l, R a := by
  rcases open_slice ht h with ⟨rfl, _⟩ | ⟨a, len, cap, m, n, D, Pl, rfl, _, hlc, hcm, hm, _, hi⟩
  · exact ⟨_, [], rfl, Sl.none_, by simp, fun a ha => by cases ha⟩
  · have hmc : m = cap := by simpa using hm
    obtain ⟨l, hl, hr⟩ := list_of len (fun i a' => R a' ∧ ∀ j u, j < size → (g a')[j]? = some u → w.cell? ((a.add (i * size)).add j) = some u) fun i hil => by
      obtain ⟨cs', hc, htr⟩ := hi i (by omega)
      rw [hsz] at hc
      obtain ⟨a', rfl, hR⟩ := hel n cs' _ htr
      obtain ⟨_, _, hat⟩ := World.cells?_some hc
      exact ⟨a', hR, fun j u hj hu => (hat j hj).trans hu⟩
    have hcap : len ≤ 9223372036854775807 := by simp only [maxLen] at hcm; omega
    refine ⟨_, l, rfl, ⟨some a, len, cap, rfl, hlc, by rw [flat_length g size hg, hl], fun hpos' => ?_⟩, by omega, fun a' ha' => ?_⟩
    · have h0 : 0 < l.length := by omega
      have hc0 := (hr 0 h0).2 0 ((g l[0])[0]'(by rw [hg]; exact hpos)) hpos (List.getElem?_eq_getElem _)
      have ha := addr_of_cell (w := w) (a := a) (v := (g l[0])[0]'(by rw [hg]; exact hpos)) (by
        have e : (a.add (0 * size)).add 0 = a := by simp [Addr.add]
        rwa [e] at hc0)
      obtain ⟨b, o, s⟩ := a
      simp only [Addr.mk.injEq, true_and] at ha
      subst ha
      refine ⟨b, o, rfl, ?_, range_flat g size hpos hg l fun k hk j u hj hu => ?_⟩
      · have := World.block_lt_of_cell? w _ hc0
        simpa [Addr.add] using this
      · have := (hr k hk).2 j u hj hu
        rwa [Addr.add_mid, Addr.add_mid, Nat.add_assoc] at this
    · obtain ⟨k, hk, rfl⟩ := List.getElem_of_mem ha'
      exact (hr k hk).1

theorem cells_ev : Tryd.prog.cellsOf 24 = 2 := by kernel_rfl
theorem i64_of {z : Int} (hwf : (Lit.int .i64 z).wf = true) : -9223372036854775808 ≤ z ∧ z ≤ 9223372036854775807 := by
  simp [Lit.wf] at hwf
  have h1 : IntKind.i64.min = -9223372036854775808 := by decide
  have h2 : IntKind.i64.max = 9223372036854775807 := by decide
  omega
theorem ev_cells {n : Nat} {cs : List Value} {y : DataW H × List MemPlace} (h : DataW.trod enc Tryd.prog w 0 (fun _ => true) true n 24 cs = some y) :
    ∃ r : P21.Ev, cs = P21.evC r ∧ P21.EvWf r := by
  obtain ⟨xs, n, rfl, _, hlen, hxl, hg⟩ := DataW.trod_struct Tryd.underlying24 h
  rw [cells_ev] at hlen
  match cs, hlen with
  | [c0, c1], _ =>
    have hone : oneCellFields Tryd.prog _ = true := (by kernel_rfl : oneCellFields Tryd.prog #[⟨"Kind", 3, 0, false, "", "", 0⟩, ⟨"N", 2, 1, false, "", "", 8⟩] = true)
    obtain ⟨v0, y0, e0, _, h0⟩ := trod_field hone rfl hxl hg 0 _ rfl
    obtain ⟨v1, y1, e1, _, h1⟩ := trod_field hone rfl hxl hg 1 _ rfl
    obtain ⟨a0, k0, _, q0⟩ := DataW.trod_int Tryd.underlying3 h0
    obtain ⟨a1, k1, _, q1⟩ := DataW.trod_int Tryd.underlying2 h1
    simp only [List.cons.injEq, and_true, List.getElem?_cons_zero, List.getElem?_cons_succ, Option.some.injEq] at e0 e1 k0 k1
    subst e0 e1 k0 k1
    exact ⟨⟨a0, a1⟩, rfl, ⟨i64_of q0, i64_of q1⟩⟩
/-- A slice of events as an argument. -/
theorem open_evs {r : Reach} {b0 : Nat} {v : Value} {d : DataW H} {p : List MemPlace} (hv : Value.okWide Tryd.prog w r b0 22 v) (h : DataW.Trod enc Tryd.prog w 0 (fun _ => true) true 22 v d p) :
    ∃ l : List P21.Ev, P21.Evs w v l := by
  obtain ⟨A, n, c, rfl⟩ := okWide_slice Tryd.underlying22 hv
  obtain ⟨fuel, hf⟩ := h
  obtain ⟨v', l, hcs, hs, hl, hr⟩ := open_rows (α := P21.Ev) (size := 2) Tryd.underlying22 cells_ev (by omega) P21.evC P21.evC_length P21.EvWf (fun n cs' y hy => ev_cells hy) hf
  simp only [Value.cells, List.cons.injEq, and_true] at hcs
  subst hcs
  exact ⟨l, hs, hr⟩
/-- An event as an argument. -/
theorem open_ev {r : Reach} {b0 : Nat} {v : Value} {d : DataW H} {p : List MemPlace} (hv : Value.okWide Tryd.prog w r b0 24 v) (h : DataW.Trod enc Tryd.prog w 0 (fun _ => true) true 24 v d p) :
    ∃ k n : Int, v = .agg #[.int .i64 k, .int .i64 n] ∧ P21.EvWf ⟨k, n⟩ := by
  obtain ⟨cs, rfl, _⟩ := okWide_struct Tryd.underlying24 hv
  obtain ⟨fuel, hf⟩ := h
  obtain ⟨⟨k, n⟩, hcs, hw⟩ := ev_cells hf
  refine ⟨k, n, ?_, hw⟩
  simp only [Value.cells] at hcs
  congr 1
  exact Array.toList_inj.1 hcs
theorem open_int {r : Reach} {b0 : Nat} {v : Value} {d : DataW H} {p : List MemPlace} (hv : Value.okWide Tryd.prog w r b0 3 v) (h : DataW.Trod enc Tryd.prog w 0 (fun _ => true) true 3 v d p) :
    ∃ n : Int, v = .int .i64 n ∧ (-9223372036854775808 ≤ n ∧ n ≤ 9223372036854775807) := by
  obtain ⟨n, rfl⟩ := okWide_int Tryd.underlying3 hv
  obtain ⟨fuel, hf⟩ := h
  obtain ⟨z, hz, _, hwf⟩ := DataW.trod_int Tryd.underlying3 hf
  simp only [Value.cells, List.cons.injEq, and_true, Value.int.injEq, true_and] at hz
  subst hz
  exact ⟨n, rfl, i64_of hwf⟩
theorem open_str {r : Reach} {b0 : Nat} {v : Value} {d : DataW H} {p : List MemPlace} (h : DataW.Trod enc Tryd.prog w 0 (fun _ => true) true 9 v d p) (hv : Value.okWide Tryd.prog w r b0 9 v) :
    ∃ s : ByteArray, v = .string s ∧ s.size ≤ maxLen := by
  obtain ⟨s, rfl⟩ := okWide_string Tryd.underlying9 hv
  obtain ⟨fuel, hf⟩ := h
  obtain ⟨z, hz, _, hwf⟩ := DataW.trod_string Tryd.underlying9 hf
  simp only [Value.cells, List.cons.injEq, and_true, Value.string.injEq] at hz
  subst hz
  exact ⟨s, rfl, hwf⟩
end
theorem starES : "*" ++ "errors.errorString" = "*errors.errorString" := by decide
theorem rowES (u : TypeId) (h : Tryd.prog.typeName? 3 u = some "*errors.errorString") : u = 116 :=
  typeName_ptr_named (nm := "errors.errorString") (by rw [starES]; kernel_rfl) (by kernel_rfl) (by decide) u (by rw [starES]; exact h)
theorem cellsES : Tryd.prog.cellsOf 118 = 1 := by kernel_rfl
theorem cellsStr : Tryd.prog.cellsOf 9 = 1 := by kernel_rfl
theorem gMax : ((begin Tryd.prog (fun _ _ => 0) default).world.heap[1]?).bind Obj.row? = some (#[.int .i64 0], 3) := by kernel_rfl
theorem lab_of {W : World} (h : laidMetH Tryd.prog Rows.scriptPrintsRow.laid W) (hsh : W.ShapedOpen Tryd.prog) : P21.Lab W := by
  rw [MakeChecks.laidMetH_plain _ _ _ (by kernel_rfl)] at h
  have h2 := laidMet.tail (laidMet.tail h)
  have h3 := laidMet.tail h2
  have h4 := laidMet.tail h3
  refine ⟨Lib.tabIs_of_head (g := 0) (t := 93) (e := 82) (n := 20) (by kernel_rfl) (by kernel_rfl) (by kernel_rfl) (by kernel_rfl) (by kernel_rfl) (by kernel_rfl) h2, ?_, ?_, ?_⟩
  · exact cell_of_shapedOpen_int (t := 3) (zero := #[.int .i64 0]) hsh (by decide +kernel) gMax rfl (by kernel_rfl) (by kernel_rfl) Tryd.underlying3
  · have hg : Tryd.prog.globalNamed "strconv.ErrSyntax" = some 2 := by kernel_rfl
    obtain ⟨a, s, hv, -⟩ := laid_sentinel h4 hg (ti := 62) (by kernel_rfl) Tryd.underlying62 rowES Tryd.underlying116 Tryd.underlying118 rfl rfl Tryd.underlying9 cellsES cellsStr
    exact ⟨_, by have := World.var?_cell hg hv 0; simpa using this, .inr ⟨_, _, rfl⟩⟩
  · have hg : Tryd.prog.globalNamed "strconv.ErrRange" = some 3 := by kernel_rfl
    obtain ⟨a, s, hv, -⟩ := laid_sentinel h3 hg (ti := 62) (by kernel_rfl) Tryd.underlying62 rowES Tryd.underlying116 Tryd.underlying118 rfl rfl Tryd.underlying9 cellsES cellsStr
    exact ⟨_, by have := World.var?_cell hg hv 0; simpa using this, .inr ⟨_, _, rfl⟩⟩
end Go.Proofs.YtkobmoabnnjejaaDoor
