/- Arguments of the audit chapter's laws, opened: shots. -/
import Derived.Test.YtajbchecjbddgaaGreatDoorZ1
import Derived.Test.YtajbchecjbddgaaGreatDoorH4
import Derived.Deep.Slices
import Derived.Lib.SmallJoins
import Derived.MakeChecks
namespace Go.Proofs.YtajbchecjbddgaaGreatDoor
open Go.ChangeShapes Go.WideShapes Go.ChangeAt Go.RowKit Go.Joins Go.Deep
set_option maxRecDepth 100000

theorem list_of {α : Type} (n : Nat) (R : Nat → α → Prop) (h : ∀ i, i < n → ∃ a, R i a) : ∃ l : List α, l.length = n ∧ ∀ (i : Nat) (hi : i < l.length), R i l[i] := by
  induction n with
  | zero => exact ⟨[], rfl, fun i hi => absurd hi (by simp)⟩
  | succ n ih =>
    obtain ⟨l, hl, hr⟩ := ih fun i hi => h i (by omega)
    obtain ⟨a, ha⟩ := h n (by omega)
    refine ⟨l ++ [a], by simp [hl], fun i hi => ?_⟩
    rw [List.getElem_append]
    split
    · exact hr i _
    · have : i = n := by simp [hl] at hi; omega
      subst this
      simpa using ha
/-- Cells element by element are the cells of the flat list. -/
theorem range_flat {α : Type} {w : World} {b off : Nat} (g : α → List Value) (m : Nat) (hm : 0 < m) (hg : ∀ a, (g a).length = m) (l : List α)
    (h : ∀ (k : Nat) (hk : k < l.length) (j : Nat) (u : Value), j < m → (g l[k])[j]? = some u → w.cell? ⟨b, off + (k * m + j), none⟩ = some u) : w.rangeAt b off (l.flatMap g) := by
  intro j u hj
  have hlt : j < l.length * m := by
    have := (List.getElem?_eq_some_iff.1 hj).1
    rwa [flat_length g m hg] at this
  have hk : j / m < l.length := (Nat.div_lt_iff_lt_mul hm).2 hlt
  have hr : j % m < m := Nat.mod_lt _ hm
  have he : j = j / m * m + j % m := by rw [Nat.mul_comm]; exact (Nat.div_add_mod j m).symm
  rw [he, flat_get g m hg l _ _ hr, List.getElem?_eq_getElem hk] at hj
  have := h _ hk _ u hr hj
  rwa [← he] at this
theorem addr_of_cell {w : World} {a : Addr} {v : Value} (h : w.cell? a = some v) : a = ⟨a.block, a.off, none⟩ := by
  obtain ⟨b, o, s⟩ := a
  cases s with
  | none => rfl
  | some s => simp [World.cell?] at h; split at h <;> simp at h

theorem iv_flat : ∀ l : List Int, P20.iv l = l.flatMap fun z => [Value.int .i64 z]
  | [] => rfl
  | x :: l => by
    have := iv_flat l
    unfold P20.iv at this ⊢
    rw [List.map_cons, this, List.flatMap_cons]
    rfl
theorem zip_parts {α β : Type} : ∀ l : List (α × β), (l.map (·.1)).zip (l.map (·.2)) = l
  | [] => rfl
  | x :: l => by rw [List.map_cons, List.map_cons, List.zip_cons_cons, zip_parts l]
section
variable {H : Type} {enc : TypeId × Value → H} {w : World}

theorem trod_field {P : Program} {base : Nat} {spare : Nat → Bool} {held : Bool} {fs : Array Field} (hone : oneCellFields P fs = true) {cs : List Value} {ys : List (DataW H × List MemPlace)} {n : Nat} (hl : cs.length = fs.size) (hy : ys.length = fs.size)
    (hg : ∀ (j : Nat) (f : Field), fs[j]? = some f → DataW.trod enc P w base spare held n f.type ((cs.drop f.offset).take (P.cellsOf f.type)) = ys[j]?) (j : Nat) (f : Field) (hj : fs[j]? = some f) :
    ∃ v y, cs[j]? = some v ∧ ys[j]? = some y ∧ DataW.trod enc P w base spare held n f.type [v] = some y := by
  obtain ⟨ho, hk⟩ := hone_of hone j f hj
  have hjl : j < fs.size := (Array.getElem?_eq_some_iff.1 hj).1
  have h1 := hg j f hj
  rw [ho, hk] at h1
  have e : (cs.drop j).take 1 = [cs[j]'(by omega)] := by
    rw [List.drop_eq_getElem_cons (by omega)]
    rfl
  rw [e] at h1
  have hys : ys[j]? = some (ys[j]'(by omega)) := List.getElem?_eq_getElem (by omega)
  exact ⟨_, _, List.getElem?_eq_getElem (by omega), hys, h1.trans hys⟩

/-- A slice whose elements of 'size' cells each are told by g. -/
theorem open_rows {α : Type} {t e : TypeId} {size fuel : Nat} {cs : List Value} {x : DataW H × List MemPlace} (ht : Tryz.prog.underlying t = some (.slice e)) (hsz : Tryz.prog.cellsOf e = size) (hpos : 0 < size)
    (g : α → List Value) (hg : ∀ a, (g a).length = size) (R : α → Prop) (hel : ∀ n cs' y, DataW.trod enc Tryz.prog w 0 (fun _ => true) true n e cs' = some y → ∃ a, cs' = g a ∧ R a)
    (h : DataW.trod enc Tryz.prog w 0 (fun _ => true) true fuel t cs = some x) :
    ∃ (v : Value) (l : List α), cs = [v] ∧ Sl w w.heap.size size v (l.flatMap g) ∧ l.length ≤ 9223372036854775807 ∧ ∀ a ∈ l, R a := by
  rcases open_slice ht h with ⟨rfl, _⟩ | ⟨a, len, cap, m, n, D, Pl, rfl, _, hlc, hcm, hm, _, hi⟩
  · exact ⟨_, [], rfl, Sl.none_, by simp, fun a ha => by cases ha⟩
  · have hmc : m = cap := by simpa using hm
    obtain ⟨l, hl, hr⟩ := list_of len (fun i a' => R a' ∧ ∀ j u, j < size → (g a')[j]? = some u → w.cell? ((a.add (i * size)).add j) = some u) fun i hil => by
      obtain ⟨cs', hc, htr⟩ := hi i (by omega)
      rw [hsz] at hc
      obtain ⟨a', rfl, hR⟩ := hel n cs' _ htr
      obtain ⟨_, _, hat⟩ := World.cells?_some hc
      exact ⟨a', hR, fun j u hj hu => (hat j hj).trans hu⟩
    have hcap : len ≤ 9223372036854775807 := by simp only [maxLen] at hcm; omega
    refine ⟨_, l, rfl, ⟨some a, len, cap, rfl, hlc, by rw [flat_length g size hg, hl], fun hpos' => ?_⟩, by omega, fun a' ha' => ?_⟩
    · have h0 : 0 < l.length := by omega
      have hc0 := (hr 0 h0).2 0 ((g l[0])[0]'(by rw [hg]; exact hpos)) hpos (List.getElem?_eq_getElem _)
      have ha := addr_of_cell (w := w) (a := a) (v := (g l[0])[0]'(by rw [hg]; exact hpos)) (by
        have e : (a.add (0 * size)).add 0 = a := by simp [Addr.add]
        rwa [e] at hc0)
      obtain ⟨b, o, s⟩ := a
      simp only [Addr.mk.injEq, true_and] at ha
      subst ha
      refine ⟨b, o, rfl, ?_, range_flat g size hpos hg l fun k hk j u hj hu => ?_⟩
      · have := World.block_lt_of_cell? w _ hc0
        simpa [Addr.add] using this
      · have := (hr k hk).2 j u hj hu
        rwa [Addr.add_mid, Addr.add_mid, Nat.add_assoc] at this
    · obtain ⟨k, hk, rfl⟩ := List.getElem_of_mem ha'
      exact (hr k hk).1

theorem cells_row : Tryz.prog.cellsOf 69 = 7 := by kernel_rfl
theorem i64_of {z : Int} (hwf : (Lit.int .i64 z).wf = true) : -9223372036854775808 ≤ z ∧ z ≤ 9223372036854775807 := by
  simp [Lit.wf] at hwf
  have h1 : IntKind.i64.min = -9223372036854775808 := by decide
  have h2 : IntKind.i64.max = 9223372036854775807 := by decide
  omega
theorem row_cells {n : Nat} {cs : List Value} {y : DataW H × List MemPlace} (h : DataW.trod enc Tryz.prog w 0 (fun _ => true) true n 69 cs = some y) :
    ∃ r : P7.Row, cs = P7.rowC r ∧ P7.RowWf r := by
  obtain ⟨xs, n, rfl, _, hlen, hxl, hg⟩ := DataW.trod_struct Tryz.underlying69 h
  rw [cells_row] at hlen
  match cs, hlen with
  | [c0, c1, c2, c3, c4, c5, c6], _ =>
    have hone : oneCellFields Tryz.prog _ = true := (by kernel_rfl : oneCellFields Tryz.prog #[⟨"Parent", 3, 0, false, "", "", 0⟩, ⟨"In", 3, 1, false, "", "", 8⟩, ⟨"Func", 3, 2, false, "", "", 16⟩, ⟨"Kind", 3, 3, false, "", "", 24⟩, ⟨"V", 2, 4, false, "", "", 32⟩, ⟨"Steps", 3, 5, false, "", "", 40⟩, ⟨"Closes", 9, 6, false, "", "", 48⟩] = true)
    obtain ⟨v0, y0, e0, _, h0⟩ := trod_field hone rfl hxl hg 0 _ rfl
    obtain ⟨v1, y1, e1, _, h1⟩ := trod_field hone rfl hxl hg 1 _ rfl
    obtain ⟨v2, y2, e2, _, h2⟩ := trod_field hone rfl hxl hg 2 _ rfl
    obtain ⟨v3, y3, e3, _, h3⟩ := trod_field hone rfl hxl hg 3 _ rfl
    obtain ⟨v4, y4, e4, _, h4⟩ := trod_field hone rfl hxl hg 4 _ rfl
    obtain ⟨v5, y5, e5, _, h5⟩ := trod_field hone rfl hxl hg 5 _ rfl
    obtain ⟨v6, y6, e6, _, h6⟩ := trod_field hone rfl hxl hg 6 _ rfl
    obtain ⟨a0, k0, _, q0⟩ := DataW.trod_int Tryz.underlying3 h0
    obtain ⟨a1, k1, _, q1⟩ := DataW.trod_int Tryz.underlying3 h1
    obtain ⟨a2, k2, _, q2⟩ := DataW.trod_int Tryz.underlying3 h2
    obtain ⟨a3, k3, _, q3⟩ := DataW.trod_int Tryz.underlying3 h3
    obtain ⟨a4, k4, _, q4⟩ := DataW.trod_int Tryz.underlying2 h4
    obtain ⟨a5, k5, _, q5⟩ := DataW.trod_int Tryz.underlying3 h5
    obtain ⟨a6, k6, _, q6⟩ := DataW.trod_string Tryz.underlying9 h6
    simp only [List.cons.injEq, and_true, List.getElem?_cons_zero, List.getElem?_cons_succ, Option.some.injEq] at e0 e1 e2 e3 e4 e5 e6 k0 k1 k2 k3 k4 k5 k6
    subst e0 e1 e2 e3 e4 e5 e6 k0 k1 k2 k3 k4 k5 k6
    exact ⟨⟨a0, a1, a2, a3, a4, a5, a6⟩, rfl, ⟨i64_of q0, i64_of q1, i64_of q2, i64_of q3, i64_of q4, i64_of q5, q6⟩⟩
theorem cells_scope : Tryz.prog.cellsOf 49 = 6 := by kernel_rfl
theorem scope_cells {n : Nat} {cs : List Value} {y : DataW H × List MemPlace} (h : DataW.trod enc Tryz.prog w 0 (fun _ => true) true n 49 cs = some y) :
    ∃ r : P20.Sc, cs = P20.scC r ∧ P20.ScWf r := by
  obtain ⟨xs, n, rfl, _, hlen, hxl, hg⟩ := DataW.trod_struct Tryz.underlying49 h
  rw [cells_scope] at hlen
  match cs, hlen with
  | [c0, c1, c2, c3, c4, c5], _ =>
    have hone : oneCellFields Tryz.prog _ = true := (by kernel_rfl : oneCellFields Tryz.prog #[⟨"Row", 3, 0, false, "", "", 0⟩, ⟨"K", 3, 1, false, "", "", 8⟩, ⟨"In", 3, 2, false, "", "", 16⟩, ⟨"Asked", 4, 3, false, "", "", 24⟩, ⟨"Closed", 4, 4, false, "", "", 25⟩, ⟨"Live", 3, 5, false, "", "", 32⟩] = true)
    obtain ⟨v0, y0, e0, _, h0⟩ := trod_field hone rfl hxl hg 0 _ rfl
    obtain ⟨v1, y1, e1, _, h1⟩ := trod_field hone rfl hxl hg 1 _ rfl
    obtain ⟨v2, y2, e2, _, h2⟩ := trod_field hone rfl hxl hg 2 _ rfl
    obtain ⟨v3, y3, e3, _, h3⟩ := trod_field hone rfl hxl hg 3 _ rfl
    obtain ⟨v4, y4, e4, _, h4⟩ := trod_field hone rfl hxl hg 4 _ rfl
    obtain ⟨v5, y5, e5, _, h5⟩ := trod_field hone rfl hxl hg 5 _ rfl
    obtain ⟨a0, k0, _, q0⟩ := DataW.trod_int Tryz.underlying3 h0
    obtain ⟨a1, k1, _, q1⟩ := DataW.trod_int Tryz.underlying3 h1
    obtain ⟨a2, k2, _, q2⟩ := DataW.trod_int Tryz.underlying3 h2
    obtain ⟨a3, k3, _⟩ := DataW.trod_bool Tryz.underlying4 h3
    obtain ⟨a4, k4, _⟩ := DataW.trod_bool Tryz.underlying4 h4
    obtain ⟨a5, k5, _, q5⟩ := DataW.trod_int Tryz.underlying3 h5
    simp only [List.cons.injEq, and_true, List.getElem?_cons_zero, List.getElem?_cons_succ, Option.some.injEq] at e0 e1 e2 e3 e4 e5 k0 k1 k2 k3 k4 k5
    subst e0 e1 e2 e3 e4 e5 k0 k1 k2 k3 k4 k5
    exact ⟨⟨a0, a1, a2, a3, a4, a5⟩, rfl, ⟨i64_of q0, i64_of q1, i64_of q2, i64_of q5⟩⟩
theorem cells_int : Tryz.prog.cellsOf 3 = 1 := by kernel_rfl
theorem ints_field {n : Nat} {cs : List Value} {y : DataW H × List MemPlace} (h : DataW.trod enc Tryz.prog w 0 (fun _ => true) true n 36 cs = some y) :
    ∃ (v : Value) (l : List Int), cs = [v] ∧ Sl w w.heap.size 1 v (P20.iv l) ∧ ∀ z ∈ l, P20.i64R z := by
  obtain ⟨v, l, h1, h2, _, h3⟩ := open_rows (α := Int) (size := 1) Tryz.underlying36 cells_int (by omega) (fun z => [Value.int .i64 z]) (fun _ => rfl) P20.i64R (fun n cs' y hy => by
    obtain ⟨a, k, _, q⟩ := DataW.trod_int Tryz.underlying3 hy
    exact ⟨a, k, i64_of q⟩) h
  refine ⟨v, l, h1, ?_, h3⟩
  rw [iv_flat]
  exact h2
theorem cells_worker : Tryz.prog.cellsOf 38 = 4 := by kernel_rfl
theorem worker_cells {n : Nat} {cs : List Value} {y : DataW H × List MemPlace} (h : DataW.trod enc Tryz.prog w 0 (fun _ => true) true n 38 cs = some y) :
    ∃ r : P20.Wk × Value × Value, cs = P20.wkC r ∧ P20.WkWf r.1 ∧ Sl w w.heap.size 1 r.2.1 (P20.iv r.1.st) ∧ Sl w w.heap.size 1 r.2.2 (P20.iv r.1.dq) := by
  obtain ⟨xs, n, rfl, _, hlen, hxl, hg⟩ := DataW.trod_struct Tryz.underlying38 h
  rw [cells_worker] at hlen
  match cs, hlen with
  | [c0, c1, c2, c3], _ =>
    have hone : oneCellFields Tryz.prog _ = true := (by kernel_rfl : oneCellFields Tryz.prog #[⟨"On", 4, 0, false, "", "", 0⟩, ⟨"Parked", 4, 1, false, "", "", 1⟩, ⟨"Stack", 36, 2, false, "", "", 8⟩, ⟨"Deque", 36, 3, false, "", "", 32⟩] = true)
    obtain ⟨v0, y0, e0, _, h0⟩ := trod_field hone rfl hxl hg 0 _ rfl
    obtain ⟨v1, y1, e1, _, h1⟩ := trod_field hone rfl hxl hg 1 _ rfl
    obtain ⟨v2, y2, e2, _, h2⟩ := trod_field hone rfl hxl hg 2 _ rfl
    obtain ⟨v3, y3, e3, _, h3⟩ := trod_field hone rfl hxl hg 3 _ rfl
    obtain ⟨a0, k0, _⟩ := DataW.trod_bool Tryz.underlying4 h0
    obtain ⟨a1, k1, _⟩ := DataW.trod_bool Tryz.underlying4 h1
    obtain ⟨u2, l2, k2, s2, z2⟩ := ints_field h2
    obtain ⟨u3, l3, k3, s3, z3⟩ := ints_field h3
    simp only [List.cons.injEq, and_true, List.getElem?_cons_zero, List.getElem?_cons_succ, Option.some.injEq] at e0 e1 e2 e3 k0 k1 k2 k3
    subst e0 e1 e2 e3 k0 k1 k2 k3
    exact ⟨(⟨a0, a1, l2, l3⟩, c2, c3), rfl, ⟨z2, z3⟩, s2, s3⟩
/-- Three one-cell slices are a shot. -/
theorem shot_cells {T : TypeId} (hT : Tryz.prog.underlying T = some (.struct #[⟨"Rows", 22, 0, false, "", "", 0⟩, ⟨"Scopes", 23, 1, false, "", "", 24⟩, ⟨"Workers", 24, 2, false, "", "", 48⟩])) (hc : Tryz.prog.cellsOf T = 3)
    {n : Nat} {cs : List Value} {y : DataW H × List MemPlace} (h : DataW.trod enc Tryz.prog w 0 (fun _ => true) true n T cs = some y) :
    ∃ (s : P20.Sh) (vr vs vw : Value), cs = [vr, vs, vw] ∧ P20.Shm w vr vs vw s := by
  obtain ⟨xs, n, rfl, _, hlen, hxl, hg⟩ := DataW.trod_struct hT h
  rw [hc] at hlen
  match cs, hlen with
  | [c0, c1, c2], _ =>
    have hone : oneCellFields Tryz.prog _ = true := (by kernel_rfl : oneCellFields Tryz.prog #[⟨"Rows", 22, 0, false, "", "", 0⟩, ⟨"Scopes", 23, 1, false, "", "", 24⟩, ⟨"Workers", 24, 2, false, "", "", 48⟩] = true)
    obtain ⟨v0, y0, e0, _, h0⟩ := trod_field hone rfl hxl hg 0 _ rfl
    obtain ⟨v1, y1, e1, _, h1⟩ := trod_field hone rfl hxl hg 1 _ rfl
    obtain ⟨v2, y2, e2, _, h2⟩ := trod_field hone rfl hxl hg 2 _ rfl
    obtain ⟨u0, l0, k0, s0, n0, r0⟩ := open_rows (α := P7.Row) (size := 7) Tryz.underlying22 cells_row (by omega) P7.rowC P7.rowC_length P7.RowWf (fun n cs' y hy => row_cells hy) h0
    obtain ⟨u1, l1, k1, s1, _, r1⟩ := open_rows (α := P20.Sc) (size := 6) Tryz.underlying23 cells_scope (by omega) P20.scC P20.scC_length P20.ScWf (fun n cs' y hy => scope_cells hy) h1
    obtain ⟨u2, l2, k2, s2, _, r2⟩ := open_rows (α := P20.Wk × Value × Value) (size := 4) Tryz.underlying24 cells_worker (by omega) P20.wkC P20.wkC_length (fun r => P20.WkWf r.1 ∧ Sl w w.heap.size 1 r.2.1 (P20.iv r.1.st) ∧ Sl w w.heap.size 1 r.2.2 (P20.iv r.1.dq)) (fun n cs' y hy => worker_cells hy) h2
    simp only [List.cons.injEq, and_true, List.getElem?_cons_zero, List.getElem?_cons_succ, Option.some.injEq] at e0 e1 e2 k0 k1 k2
    subst e0 e1 e2 k0 k1 k2
    refine ⟨⟨l0, l1, l2.map (·.1)⟩, c0, c1, c2, rfl, ⟨s0, n0, r0⟩, s1, ⟨l2.map (·.2), by simp, ?_, fun k hk c hc => ?_⟩, r1, fun x hx => ?_⟩
    · rw [zip_parts]
      exact s2
    · rw [List.getElem?_map] at hc
      have hk' : k < l2.length := by simpa using hk
      rw [List.getElem?_eq_getElem hk'] at hc
      simp only [Option.map_some, Option.some.injEq] at hc
      have := (r2 l2[k] (List.getElem_mem hk')).2
      rw [hc] at this
      rw [List.getElem_map]
      exact this
    · obtain ⟨x', hx', rfl⟩ := List.mem_map.1 hx
      exact (r2 x' hx').1
/-- A shot as an argument. -/
theorem open_shot {r : Reach} {b0 : Nat} {v : Value} {d : DataW H} {p : List MemPlace} (hv : Value.okWide Tryz.prog w r b0 26 v) (h : DataW.Trod enc Tryz.prog w 0 (fun _ => true) true 26 v d p) :
    ∃ (s : P20.Sh) (vr vs vw : Value), v = .agg #[vr, vs, vw] ∧ P20.Shm w vr vs vw s := by
  obtain ⟨cs, rfl, _⟩ := okWide_struct Tryz.underlying26 hv
  obtain ⟨fuel, hf⟩ := h
  obtain ⟨s, vr, vs, vw, hcs, hw⟩ := shot_cells Tryz.underlying26 (by kernel_rfl) hf
  refine ⟨s, vr, vs, vw, ?_, hw⟩
  simp only [Value.cells] at hcs
  congr 1
  exact Array.toList_inj.1 hcs
theorem open_int {r : Reach} {b0 : Nat} {v : Value} {d : DataW H} {p : List MemPlace} (hv : Value.okWide Tryz.prog w r b0 3 v) (h : DataW.Trod enc Tryz.prog w 0 (fun _ => true) true 3 v d p) :
    ∃ n : Int, v = .int .i64 n ∧ (-9223372036854775808 ≤ n ∧ n ≤ 9223372036854775807) := by
  obtain ⟨n, rfl⟩ := okWide_int Tryz.underlying3 hv
  obtain ⟨fuel, hf⟩ := h
  obtain ⟨z, hz, _, hwf⟩ := DataW.trod_int Tryz.underlying3 hf
  simp only [Value.cells, List.cons.injEq, and_true, Value.int.injEq, true_and] at hz
  subst hz
  exact ⟨n, rfl, i64_of hwf⟩
end
end Go.Proofs.YtajbchecjbddgaaGreatDoor
