/- Asm: programs that grow, in memory: their functions' rows are the call's own, no two in one block. -/
import Derived.Test.YtggdbceommmllaaDoorA3n
import Derived.Test.YtggdbceommmllaaDoorSc
namespace Go.Proofs.YtggdbceommmllaaDoor
open Go.RowKit
namespace P3
open P2 PC NumL CutL

section
variable {P : Program}
theorem wp_append_sl {o : Oper} {a : Act} {w : World} {K : Act → World → Prop} {Q : Exit → Act → World → Prop} (s x : Operand) (t : TypeId)
    (ho : o.op = .call { callee := .builtin .append, args := #[s, x], argTypes := #[t, t] })
    (base : Nat) (e : TypeId) (z : Value) (size bytes : Nat) (ht : P.underlying t = some (.slice e)) (hinfo : (P.info? e).map (fun i => (i.zero, i.size, i.bytes)) = some (some z, size, bytes))
    (hzs : z.cells.size = size) (hsz : 0 < size)
    (v : Value) (n : Nat) (xs : List Value) (hs : a.eval s = v) (hown : w.ownsRow base e size v n xs)
    (b off m c : Nat) (ys : List Value) (hx : a.eval x = .slice (some ⟨b, off, none⟩) m c) (hr : w.rangeAt b off ys) (hm : ys.length = m * size) (h1 : ∀ u ∈ ys, u.oneCell' = true)
    (h63 : n + m ≤ 1099511627776) (hbytes : (n + m) * bytes ≤ 140737488355328) (hbase : base ≤ w.heap.size)
    (h : ∀ v' w', w'.ownsRow base e size v' (n + m) (xs ++ ys) → w.grownBy w' v.ownBlock → (v'.ownBlock = v.ownBlock ∨ v'.ownBlock = some w.heap.size) → K (a.put o.dst v') w') : o.wp P a w K Q := by
  obtain ⟨i, hi, hz, hz1, hz2⟩ := info_parts hinfo
  obtain ⟨v', w', hr, h2, h3, _, h5⟩ := run_append_own_at (P := P) w base t o.type e i z size bytes ht hi hz hz1 hz2 hzs hsz v n xs hown ⟨b, off, none⟩ m c ys hm (fun j u hj => by rw [Addr.add_mid]; exact hr j u hj) h1 (by simp only [maxLen]; omega) hbytes hbase
  unfold Oper.wp execOp
  simp only [ho, resolve, invoke, builtin, Sem.run_bind, Sem.run_pure, Result.andThen_ok, List.map_toArray, List.map_cons, List.map_nil, hs, hx, hr]
  exact h v' w' h2 h3 h5
theorem wp_store_cell {o : Oper} {a : Act} {w : World} {K : Act → World → Prop} {Q : Exit → Act → World → Prop}
    (ty : TypeId) (x y : Operand) (ho : o.op = .store ty x y) (g j : Nat) (hx : a.eval x = .pointer (some ⟨g, j, none⟩)) (v : Value) (hy : a.eval y = v)
    (hc : (w.cell? ⟨g, j, none⟩).isSome = true) (hf : w.frozen? ⟨g, j, none⟩ = false) (hi : (P.info? ty).map (·.size) = some 1) (h1 : v.oneCell' = true)
    (h : K (a.put o.dst undef) (w.setCell ⟨g, j, none⟩ v)) : o.wp P a w K Q := by
  unfold Oper.wp execOp
  simp only [ho, hx, hy, Instr.storeAt, Instr.sureAddr, Sem.run_bind, Sem.run_pure, Result.andThen_ok, run_storeVar_cell w g j ty v hc hf hi h1]
  exact h
end
theorem grownBy_setCell_at (W : World) (b o : Nat) (v : Value) : W.grownBy (W.setCell ⟨b, o, none⟩ v) (some b) :=
  ⟨rfl, rfl, rfl, by simp [World.setCell], fun k _ hk => Below.heap_setCell W ⟨b, o, none⟩ v k (fun e => hk (by rw [e]))⟩
theorem info_fn : (Tryd.prog.info? 46).map (fun i => (i.zero, i.size, i.bytes)) = some (some (.agg #[.int .i64 0, .slice none 0 0]), 2, 32) := by kernel_rfl
theorem info_ins : (Tryd.prog.info? 33).map (fun i => (i.zero, i.size, i.bytes)) = some (some (.agg #[.int .i64 0, .int .i64 0, .int .i64 0, .int .i64 0, .int .i64 0]), 5, 40) := by kernel_rfl

/-- Functions whose rows are all the call's own, no two of them in one block. -/
structure FnsD (w : World) (B : Nat) (v : Value) (p : List Fn) (cv : List Value) : Prop where
  len : cv.length = p.length
  row : w.ownsRow B 46 2 v p.length ((p.zip cv).flatMap fnC)
  code : ∀ (k : Nat) (hk : k < p.length) (c : Value), cv[k]? = some c → w.ownsRow B 33 5 c p[k].2.length (P2.codeC p[k].2)
  apart : ∀ (j k : Nat) (c d : Value), j < k → cv[j]? = some c → cv[k]? = some d → c.ownBlock = none ∨ c.ownBlock ≠ d.ownBlock
section
variable {w w' : World} {B : Nat} {v : Value} {p : List Fn} {cv : List Value}
theorem FnsD.nil : FnsD w B (.slice none 0 0) [] [] := ⟨rfl, World.ownsRow_nil _ _ _ _, fun k hk => absurd hk (by simp), fun j k c d _ h => by simp at h⟩
theorem FnsD.fns (h : FnsD w B v p cv) : Fns w w.heap.size v p := ⟨cv, h.len, Sl.own h.row, fun k hk c hc => Sl.own (h.code k hk c hc)⟩
theorem FnsD.kept {row : Option Nat} (h : FnsD w B v p cv) (hg : w.grownBy w' row) (hr : ∀ g, row = some g → ∃ cs t fr, w.heap[g]? = some (.cells cs t fr) ∧ 46 ≠ t ∧ 33 ≠ t) : FnsD w' B v p cv :=
  ⟨h.len, own_kept h.row hg fun g e => by obtain ⟨cs, t, fr, a, b, c⟩ := hr g e; exact ⟨cs, t, fr, a, b⟩, fun k hk c hc => own_kept (h.code k hk c hc) hg fun g e => by obtain ⟨cs, t, fr, a, b, c⟩ := hr g e; exact ⟨cs, t, fr, a, c⟩, h.apart⟩
theorem FnsD.below (h : FnsD w B v p cv) (hb : Below w.heap.size w w') : FnsD w' B v p cv := h.kept (grown_of_below hb) fun g e => by cases e
/-- The block of a row of the call's own. -/
theorem own_block {e size n : Nat} {x : Value} {xs : List Value} (h : w.ownsRow B e size x n xs) {g : Nat} (hg : x.ownBlock = some g) : ∃ cs, w.heap[g]? = some (.cells cs e (0, 0)) := by
  rcases h.2 with ⟨rfl, _⟩ | ⟨g', cap, cur, rfl, _, hh, _⟩
  · simp [Value.ownBlock] at hg
  · have : g' = g := by simpa [Value.ownBlock] using hg
    subst this
    exact ⟨cur, hh⟩
theorem types_ne : (46 : Nat) ≠ 33 := by decide
/-- A function more, without instructions. -/
theorem FnsD.head {v' : Value} {m : Int} (h : FnsD w B v p cv) (hg : w.grownBy w' v.ownBlock) (hn : w'.ownsRow B 46 2 v' (p.length + 1) ((p.zip cv).flatMap fnC ++ [.int .i64 m, .slice none 0 0])) :
    FnsD w' B v' (p ++ [(m, [])]) (cv ++ [.slice none 0 0]) := by
  have hk : ∀ {n : Nat} {x : Value} {ys : List Value}, w.ownsRow B 33 5 x n ys → w'.ownsRow B 33 5 x n ys := by
    intro n x ys ho
    refine own_kept ho hg fun g e => ?_
    obtain ⟨cs, hh⟩ := own_block h.row e
    exact ⟨cs, _, _, hh, types_ne.symm⟩
  refine ⟨by simp [h.len], ?_, ?_, ?_⟩
  · refine own_len hn (by simp) ?_
    rw [List.zip_append h.len.symm, List.flatMap_append]
    simp [fnC]
  · intro k hlt c' hc'
    by_cases hkp : k < p.length
    · have hl := h.len
      rw [List.getElem?_append_left (by omega)] at hc'
      have e : (p ++ [(m, [])])[k] = p[k] := List.getElem_append_left hkp
      rw [e]
      exact hk (h.code k hkp c' hc')
    · have hkl : k = p.length := by simp at hlt; omega
      subst hkl
      have hl := h.len
      rw [List.getElem?_append_right (by omega), h.len, Nat.sub_self] at hc'
      have hcc : c' = .slice none 0 0 := by simpa using hc'.symm
      subst hcc
      have e : (p ++ [(m, [])])[p.length] = (m, []) := by simp
      rw [e]
      exact World.ownsRow_nil _ _ _ _
  · intro j k c d hjk hc hd
    by_cases hkp : k < cv.length
    · rw [List.getElem?_append_left (by omega)] at hc
      rw [List.getElem?_append_left hkp] at hd
      exact h.apart j k c d hjk hc hd
    · rw [List.getElem?_append_right (by omega)] at hd
      have hk0 : k - cv.length = 0 := by
        have : k - cv.length < 1 := by simpa using (List.getElem?_eq_some_iff.1 hd).1
        omega
      rw [hk0] at hd
      have hdd : d = .slice none 0 0 := by simpa using hd.symm
      subst hdd
      cases hb : c.ownBlock with
      | none => exact .inl rfl
      | some g => exact .inr (by simp [Value.ownBlock])
/-- The cells of the last function. -/
theorem FnsD.last {r : List Fn} {f : Fn} (h : FnsD w B v (r ++ [f]) cv) : ∃ cr c g cap, cv = cr ++ [c] ∧ cr.length = r.length ∧ v = .slice (some ⟨g, 0, none⟩) (r.length + 1) cap ∧ B ≤ g ∧ g < w.heap.size ∧ r.length + 1 ≤ cap ∧
    w.cell? ⟨g, r.length * 2, none⟩ = some (.int .i64 f.1) ∧ w.cell? ⟨g, r.length * 2 + 1, none⟩ = some c ∧ (∀ j, w.frozen? ⟨g, j, none⟩ = false) ∧ w.ownsRow B 33 5 c f.2.length (P2.codeC f.2) := by
  have hl := h.len
  rw [List.length_append, List.length_singleton] at hl
  have hne : cv ≠ [] := by rintro rfl; simp at hl
  obtain ⟨cr, c, rfl⟩ : ∃ r f, cv = r ++ [f] := ⟨cv.dropLast, cv.getLast hne, (List.dropLast_concat_getLast hne).symm⟩
  rw [List.length_append, List.length_singleton] at hl
  have hcr : cr.length = r.length := by omega
  have hrow := h.row
  rw [List.length_append, List.length_singleton] at hrow
  obtain ⟨g, cap, e1, e2, e3, e4, e5, e6⟩ := own_open hrow (by omega)
  have hz : ((r ++ [f]).zip (cr ++ [c]))[r.length]? = some (f, c) := by
    rw [List.zip_append hcr.symm, List.getElem?_append_right (by rw [List.length_zip]; omega), List.length_zip, hcr, Nat.min_self, Nat.sub_self]
    rfl
  refine ⟨cr, c, g, cap, rfl, hcr, e1, e2, e3, e4, ?_, ?_, e6, ?_⟩
  · have := e5 (r.length * 2 + 0) (.int .i64 f.1) (by rw [flat_get fnC 2 fnC_length _ r.length 0 (by omega), hz]; rfl)
    simpa using this
  · exact e5 (r.length * 2 + 1) c (by rw [flat_get fnC 2 fnC_length _ r.length 1 (by omega), hz]; rfl)
  · have := h.code r.length (by simp) c (by rw [List.getElem?_append_right (by omega), hcr, Nat.sub_self]; rfl)
    simpa using this
/-- An instruction more, in the last function. -/
theorem FnsD.push {r : List Fn} {f : Fn} {cr : List Value} {c c' : Value} {g cap : Nat} {i : Ins} (h : FnsD w B (.slice (some ⟨g, 0, none⟩) (r.length + 1) cap) (r ++ [f]) (cr ++ [c])) (hcr : cr.length = r.length) (hg : w.grownBy w' c.ownBlock)
    (hn : w'.ownsRow B 33 5 c' (f.2.length + 1) (P2.codeC f.2 ++ P2.insC i)) (hat : c'.ownBlock = c.ownBlock ∨ c'.ownBlock = some w.heap.size) :
    FnsD (w'.setCell ⟨g, r.length * 2 + 1, none⟩ c') B (.slice (some ⟨g, 0, none⟩) (r.length + 1) cap) (r ++ [(f.1, f.2 ++ [i])]) (cr ++ [c']) := by
  have hrow := h.row
  rw [List.length_append, List.length_singleton] at hrow
  have hc := h.code r.length (by simp) c (by rw [List.getElem?_append_right (by omega), hcr, Nat.sub_self]; rfl)
  have hrow' : w'.ownsRow B 46 2 (.slice (some ⟨g, 0, none⟩) (r.length + 1) cap) (r.length + 1) (((r ++ [f]).zip (cr ++ [c])).flatMap fnC) := by
    refine own_kept hrow hg fun g e => ?_
    obtain ⟨cs, hh⟩ := own_block hc e
    exact ⟨cs, _, _, hh, types_ne⟩
  obtain ⟨cs, hgb⟩ := own_block hrow' (g := g) rfl
  have hs := grownBy_setCell_at w' g (r.length * 2 + 1) c'
  have hkI : ∀ {n : Nat} {x : Value} {ys : List Value}, w'.ownsRow B 33 5 x n ys → (w'.setCell ⟨g, r.length * 2 + 1, none⟩ c').ownsRow B 33 5 x n ys := by
    intro n x ys ho
    exact own_kept ho hs fun g' e => by injection e with e; subst e; exact ⟨cs, _, _, hgb, types_ne.symm⟩
  have hzip : (r ++ [f]).zip (cr ++ [c]) = r.zip cr ++ [(f, c)] := List.zip_append hcr.symm
  have hlz : (r.zip cr).length = r.length := by rw [List.length_zip]; omega
  refine ⟨by simp [hcr], ?_, ?_, ?_⟩
  · have hset := own_set hrow' (r.length * 2 + 1) c'
    rw [flat_set fnC 2 fnC_length c' _ r.length 1 (f, c) ((f.1, f.2 ++ [i]), c') (by omega) (by rw [hzip, List.getElem?_append_right (by omega), hlz, Nat.sub_self]; rfl) rfl] at hset
    refine own_len hset (by simp) ?_
    rw [hzip, List.set_append_right _ _ (by omega), hlz, Nat.sub_self, List.zip_append hcr.symm]
    rfl
  · intro k hlt d hd
    by_cases hkp : k < r.length
    · rw [List.getElem?_append_left (by omega)] at hd
      have e : (r ++ [(f.1, f.2 ++ [i])])[k] = r[k] := List.getElem_append_left hkp
      rw [e]
      have h0 := h.code k (by simp; omega) d (by rw [List.getElem?_append_left (by omega)]; exact hd)
      have e2 : (r ++ [f])[k]'(by simp; omega) = r[k] := List.getElem_append_left hkp
      rw [e2] at h0
      refine hkI (h0.kept hg ?_)
      exact h.apart k r.length d c hkp (by rw [List.getElem?_append_left (by omega)]; exact hd) (by rw [List.getElem?_append_right (by omega), hcr, Nat.sub_self]; rfl)
    · have hkl : k = r.length := by simp at hlt; omega
      subst hkl
      rw [List.getElem?_append_right (by omega), hcr, Nat.sub_self] at hd
      have hdd : c' = d := by simpa using hd
      subst hdd
      have e : (r ++ [(f.1, f.2 ++ [i])])[r.length] = (f.1, f.2 ++ [i]) := by simp
      rw [e]
      refine hkI (own_len hn (by simp) ?_)
      simp [P2.codeC]
  · intro j k a d hjk ha hd
    by_cases hkp : k < cr.length
    · rw [List.getElem?_append_left (by omega)] at ha
      rw [List.getElem?_append_left hkp] at hd
      exact h.apart j k a d hjk (by rw [List.getElem?_append_left (by omega)]; exact ha) (by rw [List.getElem?_append_left hkp]; exact hd)
    · rw [List.getElem?_append_right (by omega)] at hd
      have hk0 : k - cr.length = 0 := by
        have : k - cr.length < 1 := by simpa using (List.getElem?_eq_some_iff.1 hd).1
        omega
      rw [hk0] at hd
      have hdd : c' = d := by simpa using hd
      subst hdd
      have hj : j < cr.length := by omega
      rw [List.getElem?_append_left hj] at ha
      have h0 := h.code j (by simp; omega) a (by rw [List.getElem?_append_left hj]; exact ha)
      have h1 := h.apart j r.length a c (by omega) (by rw [List.getElem?_append_left hj]; exact ha) (by rw [List.getElem?_append_right (by omega), hcr, Nat.sub_self]; rfl)
      rcases h1 with h1 | h1
      · exact .inl h1
      · right
        rcases hat with hat | hat
        · rw [hat]; exact h1
        · rw [hat]
          intro e
          have := (h0.lt _ e).2
          omega
end
end P3
end Go.Proofs.YtggdbceommmllaaDoor
