/- Merged: Uq Ur. -/
import Derived.Test.YtajbchecjbddgaaGreatDoorH3
import Derived.Test.YtajbchecjbddgaaGreatDoorUh
import Derived.Test.YtajbchecjbddgaaGreatDoorH1
import Derived.Test.YtajbchecjbddgaaGreatDoorH4
/- Audit: became. -/
namespace Go.Proofs.YtajbchecjbddgaaGreatDoor
open Go.RowKit
namespace P20
open P7

def nv (l : List Nat) : List Int := l.map Int.ofNat
/-- Block K holds n slices, each owning its numbers, each in a block of its own, from a base on. -/
structure KidsF (W : World) (K base n : Nat) (f : Nat → Value) (G : Nat → List Nat) : Prop where
  cell : ∀ p, p < n → W.cell? ⟨K, p, none⟩ = some (f p) ∧ W.frozen? ⟨K, p, none⟩ = false
  lt : K < base
  kl : K < W.heap.size
  own : ∀ p, p < n → W.ownsRow base 3 1 (f p) (G p).length (iv (nv (G p)))
  apart : ∀ p q, p < n → q < n → p ≠ q → ∀ g, (f p).ownBlock = some g → (f q).ownBlock ≠ some g
theorem own_same {W W' : World} {base e size n : Nat} {v : Value} {xs : List Value} (h : W.ownsRow base e size v n xs) (hk : ∀ g, v.ownBlock = some g → W'.heap[g]? = W.heap[g]?) : W'.ownsRow base e size v n xs := by
  obtain ⟨h1, h2⟩ := h
  refine ⟨h1, ?_⟩
  rcases h2 with h2 | ⟨g, cap, cur, rfl, hb, hg, h3⟩
  · exact .inl h2
  · exact .inr ⟨g, cap, cur, rfl, hb, (hk g rfl).trans hg, h3⟩
theorem setCell_away (W : World) (a : Addr) (v : Value) {g : Nat} (h : g ≠ a.block) : (W.setCell a v).heap[g]? = W.heap[g]? := by
  simp [World.setCell, Array.getElem?_modify, Ne.symm h]
section
variable {W W' : World} {K base n : Nat} {f : Nat → Value} {G G' : Nat → List Nat}
theorem KidsF.next (h : KidsF W K base n f G) (hb : Below W.heap.size W W') : KidsF W' K base n f G where
  cell := fun p hp => ⟨(hb.cell (p := ⟨K, p, none⟩) h.kl).trans (h.cell p hp).1, (hb.frozen (p := ⟨K, p, none⟩) h.kl).trans (h.cell p hp).2⟩
  lt := h.lt
  kl := Nat.lt_of_lt_of_le h.kl hb.size
  own := fun p hp => own_same (h.own p hp) fun g hg => hb.block g ((h.own p hp).lt g hg).2
  apart := h.apart
theorem KidsF.congr (h : KidsF W K base n f G) (hG : ∀ p, p < n → G' p = G p) : KidsF W K base n f G' where
  cell := h.cell
  lt := h.lt
  kl := h.kl
  own := fun p hp => by rw [hG p hp]; exact h.own p hp
  apart := h.apart
/-- One number put behind, and the slice laid where it was. -/
theorem KidsF.push {p x : Nat} {v' : Value} (h : KidsF W K base n f G) (hp : p < n) (hown : W'.ownsRow base 3 1 v' ((G p).length + 1) (iv (nv (G p)) ++ [.int .i64 (x : Int)])) (hg : W.grownBy W' (f p).ownBlock) (hat : v'.ownBlock = (f p).ownBlock ∨ v'.ownBlock = some W.heap.size) :
    KidsF (W'.setCell ⟨K, p, none⟩ v') K base n (fun q => if q = p then v' else f q) (fun q => if q = p then G p ++ [x] else G q) where
  cell := fun q hq => by
    have hKb : W'.heap[K]? = W.heap[K]? := hg.block K h.kl fun e => by
      have := ((h.own p hp).lt K e.symm).1
      have := h.lt
      omega
    have e1 : ∀ j, W'.cell? ⟨K, j, none⟩ = W.cell? ⟨K, j, none⟩ := fun j => World.cell?_of_block (a := ⟨K, j, none⟩) hKb
    have e2 : ∀ j, W'.frozen? ⟨K, j, none⟩ = W.frozen? ⟨K, j, none⟩ := fun j => World.frozen?_of_block (a := ⟨K, j, none⟩) hKb
    refine ⟨?_, by rw [World.frozen?_setCell, e2]; exact (h.cell q hq).2⟩
    by_cases e : q = p
    · subst e
      rw [if_pos rfl]
      exact World.cell?_setCell_same W' _ _ ((e1 _).trans (h.cell q hq).1)
    · rw [if_neg e, World.cell?_setCell_other W' _ _ _ (by intro e'; injection e' with _ e'; exact e e'.symm)]
      exact (e1 _).trans (h.cell q hq).1
  lt := h.lt
  kl := by rw [set_size]; exact Nat.lt_of_lt_of_le h.kl hg.size
  own := fun q hq => by
    have hne : ∀ {v : Value} {m : Nat} {xs : List Value}, W'.ownsRow base 3 1 v m xs → (W'.setCell ⟨K, p, none⟩ v').ownsRow base 3 1 v m xs := fun ho => own_same ho fun g hg' => by
      have h1 := (ho.lt g hg').1
      have h2 := h.lt
      exact setCell_away _ _ _ (show g ≠ K by omega)
    by_cases e : q = p
    · subst e
      rw [if_pos rfl, if_pos rfl]
      refine hne ?_
      have e3 : iv (nv (G q ++ [x])) = iv (nv (G q)) ++ [.int .i64 (x : Int)] := by simp [iv, nv]
      rw [e3, List.length_append]
      exact hown
    · rw [if_neg e, if_neg e]
      refine hne ((h.own q hq).kept hg ?_)
      cases hq' : (f q).ownBlock with
      | none => exact .inl rfl
      | some g =>
        refine .inr fun e' => ?_
        exact h.apart q p hq hp e g hq' (by rw [← e'])
  apart := fun q r hq hr hqr g => by
    have hl : ∀ m, m < n → ∀ g, (f m).ownBlock = some g → g < W.heap.size := fun m hm g hg => ((h.own m hm).lt g hg).2
    by_cases e : q = p
    · subst e
      rw [if_pos rfl, if_neg (fun e => hqr e.symm)]
      intro h1 h2
      rcases hat with h3 | h3
      · exact h.apart q r hq hr hqr g (h3.symm.trans h1) h2
      · rw [h1] at h3
        have := hl r hr g h2
        injection h3 with h3
        omega
    · rw [if_neg e]
      by_cases e2 : r = p
      · subst e2
        rw [if_pos rfl]
        intro h1 h2
        rcases hat with h3 | h3
        · exact h.apart q r hq hr hqr g h1 (h3.symm.trans h2)
        · rw [h2] at h3
          have := hl q hq g h1
          injection h3 with h3
          omega
      · rw [if_neg e2]
        exact h.apart q r hq hr hqr g
theorem KidsF.below {B : Nat} (h : KidsF W K base n f G) {w0 : World} (hb : Below B w0 W) {p : Nat} {v' : Value} (hp : p < n) (hg : W.grownBy W' (f p).ownBlock) (hB : B ≤ K) (hsz : B ≤ W.heap.size) : Below B w0 (W'.setCell ⟨K, p, none⟩ v') :=
  (hb.grown hg hsz fun k hk => by
    have := ((h.own p hp).lt k hk).1
    have := h.lt
    omega).setCell (p := ⟨K, p, none⟩) hB v'
end

/-- Block K holds n slices that read as these numbers, their blocks from lo on, below hi. -/
def KidsR (W : World) (K lo hi n : Nat) (F : Nat → List Nat) : Prop :=
  K < lo ∧ hi ≤ W.heap.size ∧ lo ≤ hi ∧ ∀ p, p < n → W.frozen? ⟨K, p, none⟩ = false ∧ ∃ A m c, W.cell? ⟨K, p, none⟩ = some (.slice A m c) ∧ m ≤ c ∧ m = (F p).length ∧
    (0 < m → ∃ g off, A = some ⟨g, off, none⟩ ∧ lo ≤ g ∧ g < hi ∧ ∀ t, t < m → W.cell? ⟨g, off + t, none⟩ = some (.int .i64 ((F p).getD t 0 : Nat)))
section
variable {W W' : World} {K lo hi n : Nat} {F F' : Nat → List Nat}
theorem KidsF.reads {f : Nat → Value} {base : Nat} {G : Nat → List Nat} (h : KidsF W K base n f G) (hb : base ≤ W.heap.size) : KidsR W K base W.heap.size n G := by
  refine ⟨h.lt, Nat.le_refl _, hb, fun p hp => ⟨(h.cell p hp).2, ?_⟩⟩
  have h1 := (h.cell p hp).1
  have h2 := h.own p hp
  have hl : (iv (nv (G p))).length = (G p).length := by simp [iv, nv]
  rcases h2.2 with ⟨h3, h4⟩ | ⟨g, cap, cur, h3, _⟩
  · rw [h3] at h1
    exact ⟨_, _, _, h1, Nat.le_refl _, h4.symm, fun h => by omega⟩
  · by_cases h0 : 0 < (G p).length
    · obtain ⟨g', cap', e, h5, h6, h7, h8, h9⟩ := own_open h2 h0
      rw [e] at h1
      refine ⟨_, _, _, h1, h7, rfl, fun _ => ⟨g', 0, rfl, h5, h6, fun t ht => ?_⟩⟩
      rw [Nat.zero_add]
      refine h8 t _ ?_
      simp [iv, nv, List.getD_eq_getElem?_getD, List.getElem?_eq_getElem ht]
    · rw [h3] at h1
      have hc : (G p).length ≤ cap := by omega
      exact ⟨_, _, _, h1, hc, rfl, fun h => by omega⟩
theorem KidsR.keep (h : KidsR W K lo hi n F) (hk : W'.heap[K]? = W.heap[K]?) (hr : ∀ g, lo ≤ g → g < hi → W'.heap[g]? = W.heap[g]?) (hs : W.heap.size ≤ W'.heap.size) : KidsR W' K lo hi n F := by
  obtain ⟨h1, h2, h3, h4⟩ := h
  refine ⟨h1, by omega, h3, fun p hp => ?_⟩
  obtain ⟨g1, A, m, c, g2, g3, g4, g5⟩ := h4 p hp
  refine ⟨(World.frozen?_of_block (a := ⟨K, p, none⟩) hk).trans g1, A, m, c, (World.cell?_of_block (a := ⟨K, p, none⟩) hk).trans g2, g3, g4, fun hm => ?_⟩
  obtain ⟨g, off, e1, e2, e3, e4⟩ := g5 hm
  exact ⟨g, off, e1, e2, e3, fun t ht => (World.cell?_of_block (a := ⟨g, off + t, none⟩) (hr g e2 e3)).trans (e4 t ht)⟩
theorem KidsR.next (h : KidsR W K lo hi n F) (hb : Below W.heap.size W W') : KidsR W' K lo hi n F :=
  h.keep (hb.block K (Nat.lt_of_lt_of_le h.1 (Nat.le_trans h.2.2.1 h.2.1))) (fun g _ hg => hb.block g (Nat.lt_of_lt_of_le hg h.2.1)) hb.size
theorem KidsR.other {b j : Nat} (h : KidsR W K lo hi n F) (hb : hi ≤ b) (v : Value) : KidsR (W.setCell ⟨b, j, none⟩ v) K lo hi n F :=
  h.keep (setCell_away W ⟨b, j, none⟩ v (Nat.ne_of_lt (Nat.lt_of_lt_of_le h.1 (Nat.le_trans h.2.2.1 hb)))) (fun _ _ hg => setCell_away W ⟨b, j, none⟩ v (Nat.ne_of_lt (Nat.lt_of_lt_of_le hg hb))) (Nat.le_of_eq (set_size (w := W) ⟨b, j, none⟩ v).symm)
theorem KidsR.congr (h : KidsR W K lo hi n F) (hF : ∀ p, p < n → F' p = F p) : KidsR W K lo hi n F' := by
  obtain ⟨h1, h2, h3, h4⟩ := h
  refine ⟨h1, h2, h3, fun p hp => ?_⟩
  rw [hF p hp]
  exact h4 p hp
/-- The first number of one taken away. -/
theorem KidsR.pop {p g off m c : Nat} {v : Value} (h : KidsR W K lo hi n F) (hp : p < n) (hc : W.cell? ⟨K, p, none⟩ = some (.slice (some ⟨g, off, none⟩) m c)) (hm : 0 < m) (hv : ∃ A, v = .slice A (m - 1) (c - 1) ∧ (0 < m - 1 → A = some ⟨g, off + 1, none⟩)) :
    KidsR (W.setCell ⟨K, p, none⟩ v) K lo hi n (fun q => if q = p then (F p).tail else F q) := by
  obtain ⟨h1, h2, h3, h4⟩ := h
  refine ⟨h1, by rw [set_size]; exact h2, h3, fun q hq => ?_⟩
  obtain ⟨g1, A, m', c', g2, g3, g4, g5⟩ := h4 q hq
  refine ⟨by rw [World.frozen?_setCell]; exact g1, ?_⟩
  by_cases e : q = p
  · subst e
    rw [hc] at g2
    injection g2 with g2
    injection g2 with e1 e2 e3
    subst e1 e2 e3
    obtain ⟨A', rfl, hA'⟩ := hv
    refine ⟨A', m - 1, c - 1, World.cell?_setCell_same W _ _ hc, by omega, by show m - 1 = (if q = q then (F q).tail else F q).length; rw [if_pos rfl, List.length_tail]; omega, fun hm1 => ?_⟩
    obtain ⟨g', off', e1, e2, e3, e4⟩ := g5 hm
    injection e1 with e1
    injection e1 with e1 e5
    subst e1 e5
    refine ⟨g, off + 1, hA' hm1, e2, e3, fun t ht => ?_⟩
    show (W.setCell ⟨K, q, none⟩ (.slice A' (m - 1) (c - 1))).cell? ⟨g, off + 1 + t, none⟩ = some (.int .i64 ((if q = q then (F q).tail else F q).getD t 0 : Nat))
    rw [World.cell?_setCell_other W _ _ _ (by intro e'; injection e' with e' _; omega), if_pos rfl, Nat.add_assoc, Nat.add_comm 1 t, e4 (t + 1) (by omega)]
    congr 3
    rw [List.getD_eq_getElem?_getD, List.getD_eq_getElem?_getD, List.getElem?_tail]
  · have hq' : (if q = p then (F p).tail else F q) = F q := if_neg e
    refine ⟨A, m', c', ?_, g3, by show m' = (if q = p then (F p).tail else F q).length; rw [hq']; exact g4, fun hm' => ?_⟩
    · rw [World.cell?_setCell_other W _ _ _ (by intro e'; injection e' with _ e'; exact e e'.symm)]
      exact g2
    · obtain ⟨g', off', e1, e2, e3, e4⟩ := g5 hm'
      refine ⟨g', off', e1, e2, e3, fun t ht => ?_⟩
      show (W.setCell ⟨K, p, none⟩ v).cell? ⟨g', off' + t, none⟩ = some (.int .i64 ((if q = p then (F p).tail else F q).getD t 0 : Nat))
      rw [World.cell?_setCell_other W _ _ _ (by intro e'; injection e' with e' _; omega), hq']
      exact e4 t ht
end
end P20
end Go.Proofs.YtajbchecjbddgaaGreatDoor

/- Audit: became, walked. -/
namespace Go.Proofs.YtajbchecjbddgaaGreatDoor
open Go.RowKit
namespace P20
open P7

def tN (l m : List Row) (i : Nat) : Nat := (FF l m i).getD 0
def toL (l m : List Row) (k : Nat) : List Int := (List.range l.length).map fun j => if j < k then ((tN l m j : Nat) : Int) else 0
theorem toL_length (l m : List Row) (k : Nat) : (toL l m k).length = l.length := by simp [toL]
theorem toL_get (l m : List Row) {k j : Nat} (hj : j < l.length) : (iv (toL l m k))[j]? = some (.int .i64 (if j < k then ((tN l m j : Nat) : Int) else 0)) := by
  simp [iv, toL, hj]
theorem toL_set {l m : List Row} {k : Nat} (hk : k < l.length) : (iv (toL l m k)).set k (.int .i64 (tN l m k : Nat)) = iv (toL l m (k + 1)) := by
  refine List.ext_getElem? fun j => ?_
  by_cases hj : j < l.length
  · rw [List.getElem?_set, toL_get l m hj, toL_get l m hj]
    by_cases e : k = j
    · subst e
      rw [if_pos rfl, if_pos (by simp [toL]; exact hk), if_pos (by omega)]
    · rw [if_neg e]
      by_cases h : j < k
      · rw [if_pos h, if_pos (by omega)]
      · rw [if_neg h, if_neg (by omega)]
  · rw [List.getElem?_eq_none (by simp [toL]; omega), List.getElem?_eq_none (by simp [toL]; omega)]
theorem toL_same {l m : List Row} {k : Nat} (h0 : tN l m k = 0) : iv (toL l m k) = iv (toL l m (k + 1)) := by
  refine List.ext_getElem? fun j => ?_
  by_cases hj : j < l.length
  · rw [toL_get l m hj, toL_get l m hj]
    by_cases e : k = j
    · subst e
      rw [if_neg (by omega), if_pos (by omega), h0]
      rfl
    · by_cases h : j < k
      · rw [if_pos h, if_pos (by omega)]
      · rw [if_neg h, if_neg (by omega)]
  · rw [List.getElem?_eq_none (by simp [toL]; omega), List.getElem?_eq_none (by simp [toL]; omega)]
section
variable {P : Program}
theorem wp_append_sl {o : Oper} {a : Act} {w : World} {K : Act → World → Prop} {Q : Exit → Act → World → Prop} (s x : Operand) (t : TypeId)
    (ho : o.op = .call { callee := .builtin .append, args := #[s, x], argTypes := #[t, t] })
    (base : Nat) (e : TypeId) (z : Value) (size bytes : Nat) (ht : P.underlying t = some (.slice e)) (hinfo : (P.info? e).map (fun i => (i.zero, i.size, i.bytes)) = some (some z, size, bytes))
    (hzs : z.cells.size = size) (hsz : 0 < size)
    (v : Value) (n : Nat) (xs : List Value) (hs : a.eval s = v) (hown : w.ownsRow base e size v n xs)
    (b off m c : Nat) (ys : List Value) (hx : a.eval x = .slice (some ⟨b, off, none⟩) m c) (hr : w.rangeAt b off ys) (hm : ys.length = m * size) (h1 : ∀ u ∈ ys, u.oneCell' = true)
    (h63 : n + m ≤ 1099511627776) (hbytes : (n + m) * bytes ≤ 140737488355328) (hbase : base ≤ w.heap.size)
    (h : ∀ v' w', w'.ownsRow base e size v' (n + m) (xs ++ ys) → w.grownBy w' v.ownBlock → (v'.ownBlock = v.ownBlock ∨ v'.ownBlock = some w.heap.size) → K (a.put o.dst v') w') : o.wp P a w K Q := by
  obtain ⟨i, hi, hz, hz1, hz2⟩ := info_parts hinfo
  obtain ⟨v', w', hr, h2, h3, _, h5⟩ := run_append_own_at (P := P) w base t o.type e i z size bytes ht hi hz hz1 hz2 hzs hsz v n xs hown ⟨b, off, none⟩ m c ys hm (fun j u hj => by rw [Addr.add_mid]; exact hr j u hj) h1 (by simp only [maxLen]; omega) hbytes hbase
  unfold Oper.wp execOp
  simp only [ho, resolve, invoke, builtin, Sem.run_bind, Sem.run_pure, Result.andThen_ok, List.map_toArray, List.map_cons, List.map_nil, hs, hx, hr]
  exact h v' w' h2 h3 h5
theorem wp_store_cell {o : Oper} {a : Act} {w : World} {K : Act → World → Prop} {Q : Exit → Act → World → Prop}
    (ty : TypeId) (x y : Operand) (ho : o.op = .store ty x y) (g j : Nat) (hx : a.eval x = .pointer (some ⟨g, j, none⟩)) (v : Value) (hy : a.eval y = v)
    (hc : (w.cell? ⟨g, j, none⟩).isSome = true) (hf : w.frozen? ⟨g, j, none⟩ = false) (hi : (P.info? ty).map (·.size) = some 1) (h1 : v.oneCell' = true)
    (h : K (a.put o.dst undef) (w.setCell ⟨g, j, none⟩ v)) : o.wp P a w K Q := by
  unfold Oper.wp execOp
  simp only [ho, hx, hy, Instr.storeAt, Instr.sureAddr, Sem.run_bind, Sem.run_pure, Result.andThen_ok, PC.run_storeVar_cell w g j ty v hc hf hi h1]
  exact h
end
theorem own_zeros (w : World) (n : Nat) (t : TypeId) (hn : n ≤ 1000) : (w.alloc (.cells (madeCells #[.int .i64 0] n) t)).ownsRow w.heap.size t 1 (.slice (some ⟨w.heap.size, 0, none⟩) n n) n (List.replicate n (.int .i64 0)) := by
  refine ⟨by simp, .inr ⟨w.heap.size, n, _, rfl, Nat.le_refl _, heap_alloc_last w _, Nat.le_refl _, by simp only [maxLen]; omega, by simp [size_madeCells], ?_⟩⟩
  have e : (madeCells #[Value.int .i64 0] n).toList = List.replicate n (.int .i64 0) := by
    refine List.ext_getElem (by simp [size_madeCells]) fun j h1 h2 => ?_
    simp [madeCells, Nat.mod_one]
  rw [e, Nat.mul_one, List.take_of_length_le (by simp)]
theorem toL_zero (l m : List Row) : iv (toL l m 0) = List.replicate l.length (.int .i64 0) := by
  refine List.ext_getElem? fun j => ?_
  by_cases hj : j < l.length
  · rw [toL_get l m hj, if_neg (by omega), List.getElem?_replicate, if_pos hj]
  · rw [List.getElem?_eq_none (by simp [toL]; omega), List.getElem?_eq_none (by simp; omega)]
section
variable {l m : List Row}
theorem tN_ff (h : GrownT l m = true) {i : Nat} (hi : i < l.length) : FF l m i = some (tN l m i) := by
  obtain ⟨k, hk, _⟩ := FF_some h hi
  unfold tN
  rw [hk]
  rfl
theorem tN_lt (h : GrownT l m = true) {i : Nat} (hi : i < l.length) : tN l m i < m.length := by
  obtain ⟨hl, hm, _⟩ := GrownT_iff.1 h
  exact FF_lt hl hm hi (tN_ff h hi)
/-- The number that is due: the head of what is left of a row's kids. -/
theorem tN_head (h : GrownT l m = true) {i p : Nat} (hi : i < l.length) (hp : (at_ l i).p = (p : Int)) : ((kids m (tN l m p : Nat)).drop (kidsTo l (p : Int) i).length)[0]? = some (tN l m i) ∧ p < i := by
  obtain ⟨hl, hm, _⟩ := GrownT_iff.1 h
  have h0 : i ≠ 0 := by
    intro e
    rw [e, hl.root.1] at hp
    omega
  obtain ⟨p', q, a1, a2, a3, a4, a5⟩ := FF_par h hi h0 (tN_ff h hi)
  have : p' = p := by omega
  subst this
  have hq : q = tN l m p' := by
    rw [tN_ff h (by omega)] at a3
    exact (Option.some.inj a3).symm
  subst hq
  refine ⟨?_, a2⟩
  rw [List.getElem?_drop, Nat.add_zero]
  unfold rank at a5
  rw [hp] at a5
  exact a5
theorem tN_next (h : GrownT l m = true) {i p : Nat} {F : Nat → List Nat} (hi : i < l.length) (hp : (at_ l i).p = (p : Int)) (hF : ∀ q, q < l.length → F (tN l m q) = (kids m (tN l m q : Nat)).drop (kidsTo l (q : Int) i).length) :
    ∀ q, q < l.length → (if tN l m q = tN l m p then (F (tN l m p)).tail else F (tN l m q)) = (kids m (tN l m q : Nat)).drop (kidsTo l (q : Int) (i + 1)).length := by
  intro q hq
  have hpi := (tN_head h hi hp).2
  rw [kidsTo_succ, hp]
  by_cases e : q = p
  · subst e
    rw [if_pos rfl, if_pos rfl, hF q hq, List.tail_drop, List.length_append]
    rfl
  · rw [if_neg (fun e' => e (FF_inj h q p hq (by omega) _ (tN_ff h hq) (by rw [e']; exact tN_ff h (by omega)))), if_neg (by omega), List.append_nil]
    exact hF q hq
end
/-- What became returns. -/
def BecP (w : World) (l m : List Row) (e : Ending) (w' : World) : Prop :=
  (∃ T, e = .returned (.slice (some ⟨T, 0, none⟩) l.length l.length) ∧ w'.ownsRow w.heap.size 3 1 (.slice (some ⟨T, 0, none⟩) l.length l.length) l.length (iv (toL l m l.length))) ∧ Below w.heap.size w w'
set_option maxRecDepth 100000 in
set_option maxHeartbeats 8000000 in
theorem becameA_any {w : World} {vl vm : Value} {l m : List Row} (hL : Sl w w.heap.size 7 vl (rowsC l)) (hM : Sl w w.heap.size 7 vm (rowsC m)) (hG : GrownT l m = true) (hl : l.length ≤ 40) (hm : m.length ≤ 40) :
    Calls Tryz.prog 15 #[vl, vm] w (BecP w l m) := by
  obtain ⟨hTl, hTm, -⟩ := GrownT_iff.1 hG
  have HG := Lib.hid hG
  have HTL := Lib.hid hTl
  have HTM := Lib.hid hTm
  obtain ⟨Al, cl, rfl, hncl, hAl⟩ := rows_open hL
  obtain ⟨Am, cm, rfl, hncm, hAm⟩ := rows_open hM
  have HAL := Lib.hid hAl
  have HAM := Lib.hid hAm
  obtain ⟨nl, hnl⟩ := name_of l.length
  obtain ⟨nm, hnm⟩ := name_of m.length
  have HNL := Lib.hid hnl
  have HNM := Lib.hid hnm
  unfold BecP
  rw [hnl] at hncl hl ⊢
  rw [hnm] at hncm hm ⊢
  clear hAl hAm hL hM hG hTl hTm hnl hnm
  have hmk := run_make_row' (P := Tryz.prog) 74 36 (.slice none 0 0) 24 Tryz.underlying74 (by kernel_rfl) rfl .i64 .i64 nm (by omega) (by omega)
  have hmk2 := run_make_row' (P := Tryz.prog) 36 3 (.int .i64 0) 8 Tryz.underlying36 (by kernel_rfl) rfl .i64 .i64 nl (by omega) (by omega)
  obtain ⟨MC, hMC⟩ := name_of (madeCells #[.slice none 0 0] nm)
  obtain ⟨MD, hMD⟩ := name_of (madeCells #[.int .i64 0] nl)
  rw [hMC] at hmk
  rw [hMD] at hmk2
  have HMC := Lib.hid hMC
  have HMD := Lib.hid hMD
  have hKF : KidsF (w.alloc (.cells MC 36)) w.heap.size (w.heap.size + 1) nm (fun _ => .slice none 0 0) (fun p => kidsTo m (p : Int) 0) := by
    have R1 := World.rowIs_made w (.slice none 0 0) nm 36
    rw [hMC] at R1
    exact ⟨fun p hp => ⟨R1.cell hp, R1.frozen p⟩, Nat.lt_succ_self _, by simp, fun p hp => World.ownsRow_nil _ _ _ _, fun p q _ _ _ g h => by cases h⟩
  have HKF := Lib.hid hKF
  have hmx : Tryz.prog.follows .mixedOrders = true := by kernel_rfl
  clear hMC hMD hKF
  go_enter Tryz.func15, Tryz.ntmps15
  go_wp2_with fail
  go_loopw [17] (fun x wr => ∃ (j : Nat) (f : Nat → Value), j ≤ nm ∧ x = .int .i64 j ∧ Hid (KidsF wr w.heap.size (w.heap.size + 1) nm f (fun p => kidsTo m (p : Int) j)) ∧ Below w.heap.size w wr ∧ w.heap.size + 1 ≤ wr.heap.size) (fun x _ => nm - (intOf x).toNat)
  case atStart => exact ⟨0, _, Nat.zero_le _, rfl, HKF, by go_grown, by simp⟩
  case round =>
    obtain ⟨j, f, hj, rfl, HKJ, hB, hsz⟩ := hrel
    clear HKF
    by_cases hlt : j < nm
    · obtain ⟨g, off, rfl, hg, c0, c1, c2, c3, c4, c5, c6⟩ := HAM.out j (by rw [HNM.out]; exact hlt)
      have hup := HTM.out.up j (by rw [HNM.out]; exact hlt) (by rw [HNM.out]; exact hlt)
      have HKS : Hid (∀ p, kidsTo m (p : Int) (j + 1) = if (at_ m j).p = (p : Int) then kidsTo m (p : Int) j ++ [j] else kidsTo m (p : Int) j) := Lib.hid (fun p => by rw [kidsTo_succ]; split <;> simp)
      obtain ⟨⟨rp, ri, rf, rk, rv, rs, rc⟩, hr⟩ := name_of (at_ m j)
      rw [hr] at c0 c1 c2 c3 c4 c5 c6 hup HKS
      dsimp only at c0 c1 c2 c3 c4 c5 c6 hup HKS
      have d0 := (hB.cell (p := ⟨g, _, none⟩) hg).trans c0
      have d1 := (hB.cell (p := ⟨g, _, none⟩) hg).trans c1
      have d2 := (hB.cell (p := ⟨g, _, none⟩) hg).trans c2
      have d3 := (hB.cell (p := ⟨g, _, none⟩) hg).trans c3
      have d4 := (hB.cell (p := ⟨g, _, none⟩) hg).trans c4
      have d5 := (hB.cell (p := ⟨g, _, none⟩) hg).trans c5
      have d6 := (hB.cell (p := ⟨g, _, none⟩) hg).trans c6
      have hb1 : Below wr.heap.size wr (wr.alloc (.cells #[.int .i64 rp, .int .i64 ri, .int .i64 rf, .int .i64 rk, .int .i64 rv, .int .i64 rs, .string rc] 69)) := (Below.refl _ _).alloc (Nat.le_refl _) _
      have hblk := heap_alloc_last wr (.cells #[.int .i64 rp, .int .i64 ri, .int .i64 rf, .int .i64 rk, .int .i64 rv, .int .i64 rs, .string rc] 69)
      obtain ⟨W1, hW1⟩ := name_of (wr.alloc (.cells #[.int .i64 rp, .int .i64 ri, .int .i64 rf, .int .i64 rk, .int .i64 rv, .int .i64 rs, .string rc] 69))
      have hl1 : wr.heap.size < W1.heap.size := by rw [← hW1]; simp
      rw [hW1] at hb1 hblk
      have HB1 := Lib.hid (hB.next hb1)
      have HBLK := Lib.hid hblk
      have HK1 := Lib.hid (HKJ.out.next hb1)
      have e0 : W1.cell? ⟨wr.heap.size, 0, none⟩ = some (.int .i64 rp) := by rw [cell_of_row _ _ _ _ _ _ hblk]; rfl
      clear c0 c1 c2 c3 c4 c5 c6 hr hB hb1 hblk
      by_cases hp : 0 ≤ rp
      · have f1 : decide (0 ≤ rp) = true := decide_eq_true hp
        obtain ⟨p, rfl⟩ := Int.eq_ofNat_of_zero_le hp
        have hpj : p < nm := by omega
        obtain ⟨v, hv⟩ := name_of (f p)
        have e1 := HK1.out.cell p hpj
        rw [hv] at e1
        have hhp : Hid (f p = v) := Lib.hid hv
        have hvS : ∃ A n c, v = .slice A n c := by
          rcases (HK1.out.own p hpj).2 with ⟨h, _⟩ | ⟨g, cap, cur, h, _⟩
          · exact ⟨_, _, _, hv.symm.trans h⟩
          · exact ⟨_, _, _, hv.symm.trans h⟩
        obtain ⟨Av, kv, cv, rfl⟩ := hvS
        clear hp hup hv
        go_wp2_with ((with_reducible (show wpList _ _ _ (Oper.mk _ (Op.store _ _ _) _ _ _ _ :: _) _ _)); refine wpList_store_new rfl 69 69 (.tmp 7) (.tmp 21) rfl _ _ wr.heap.size rfl rfl rfl (by kernel_rfl) rfl rfl ?_)
        have hownp := HK1.out.own p hpj
        rw [hhp.out] at hownp
        have hkv : (kidsTo m (p : Int) j).length = kv := by
          rcases hownp.2 with ⟨h, h0⟩ | ⟨g, cap, cur, h, _⟩
          · injection h with _ h _
            omega
          · injection h with _ h _
            exact h.symm
        have hk40 := kidsTo_len m (p : Int) j
        have hb2 : Below W1.heap.size W1 (W1.alloc (.cells #[.int .i64 j] 3)).drew := ((Below.refl _ _).alloc (Nat.le_refl _) _).next below_drewU
        have HKD := Lib.hid (HK1.out.next hb2)
        have hownD := HKD.out.own p hpj
        rw [hhp.out, hkv] at hownD
        have HOWD := Lib.hid hownD
        have hBD := HB1.out.next hb2
        have HBD := Lib.hid hBD
        have hblkD := blk_next HBLK.out hb2
        have HBLKD := Lib.hid hblkD
        have e1d := HKD.out.cell p hpj
        rw [hhp.out] at e1d
        have HRD : Hid ((W1.alloc (.cells #[.int .i64 j] 3)).drew.rangeAt W1.heap.size 0 [.int .i64 (j : Int)]) := Lib.hid (fun q u hq => by
          match q, hq with
          | 0, hq =>
            simp at hq
            subst hq
            simp)
        have hsD : w.heap.size + 1 ≤ (W1.alloc (.cells #[.int .i64 j] 3)).drew.heap.size := Nat.le_trans (Nat.le_trans hsz (Nat.le_of_lt hl1)) hb2.size
        have HSD := Lib.hid hsD
        obtain ⟨WD, hWD⟩ := name_of (W1.alloc (.cells #[.int .i64 j] 3)).drew
        have HWD := Lib.hid hWD
        rw [hWD] at HKD HOWD HBD HBLKD HRD HSD
        have HHP := Lib.hid hhp.out
        have HKV := Lib.hid hkv
        clear hownp hb2 hownD hBD hblkD hsD hWD
        refine wp_region_held_drew (S := (fun W => W.cell? ⟨wr.heap.size, 0, none⟩ = some (.int .i64 (p : Int)))) (by kernel_rfl) e0 (fun hH => ?_)
        refine Rg.take (i := 0) (d := 25) (v := .slice (some ⟨w.heap.size, 0, none⟩) nm nm) rfl rfl (by kernel_rfl) (by kernel_rfl) (by kernel_rfl) (fun _ _ _ h => h) (by kernel_rfl) (fun W hSW => ?_) hH ?_
        · clear hSW
          go_simp
        simp only [List.setIfInBounds_toArray, List.set_cons_zero, List.set_cons_succ]
        refine Rg.take (i := 1) (d := 26) (v := .pointer (some ⟨wr.heap.size, 0, none⟩)) rfl rfl (by kernel_rfl) (by kernel_rfl) (by kernel_rfl) (fun _ _ _ h => h) (by kernel_rfl) (fun W hSW => ?_) hH ?_
        · clear hSW
          go_simp
        simp only [List.setIfInBounds_toArray, List.set_cons_zero, List.set_cons_succ]
        refine Rg.take (i := 2) (d := 27) (v := .int .i64 (p : Int)) rfl rfl (by kernel_rfl) (by kernel_rfl) (by kernel_rfl) (fun _ _ _ h => h) (by kernel_rfl) (fun W hSW => ?_) hH ?_
        · skip
          go_simp
        simp only [List.setIfInBounds_toArray, List.set_cons_zero, List.set_cons_succ]
        refine Rg.take (i := 3) (d := 28) (v := .slice (some ⟨w.heap.size, 0, none⟩) nm nm) rfl rfl (by kernel_rfl) (by kernel_rfl) (by kernel_rfl) (fun _ _ _ h => h) (by kernel_rfl) (fun W hSW => ?_) hH ?_
        · clear hSW
          go_simp
        simp only [List.setIfInBounds_toArray, List.set_cons_zero, List.set_cons_succ]
        refine Rg.take (i := 4) (d := 29) (v := .pointer (some ⟨wr.heap.size, 0, none⟩)) rfl rfl (by kernel_rfl) (by kernel_rfl) (by kernel_rfl) (fun _ _ _ h => h) (by kernel_rfl) (fun W hSW => ?_) hH ?_
        · clear hSW
          go_simp
        simp only [List.setIfInBounds_toArray, List.set_cons_zero, List.set_cons_succ]
        refine Rg.take (i := 5) (d := 30) (v := .int .i64 (p : Int)) rfl rfl (by kernel_rfl) (by kernel_rfl) (by kernel_rfl) (fun _ _ _ h => h) (by kernel_rfl) (fun W hSW => ?_) hH ?_
        · skip
          go_simp
        simp only [List.setIfInBounds_toArray, List.set_cons_zero, List.set_cons_succ]
        refine Rg.take (i := 6) (d := 31) (v := .pointer (some ⟨w.heap.size, p, none⟩)) rfl rfl (by kernel_rfl) (by kernel_rfl) (by kernel_rfl) (fun _ _ _ h => h) (by kernel_rfl) (fun W hSW => ?_) hH ?_
        · clear hSW
          go_simp
        simp only [List.setIfInBounds_toArray, List.set_cons_zero, List.set_cons_succ]
        refine Rg.take (i := 8) (d := 33) (v := .int .i64 j) rfl rfl (by kernel_rfl) (by kernel_rfl) (by kernel_rfl) (fun _ _ _ h => h) (by kernel_rfl) (fun W hSW => ?_) hH ?_
        · clear hSW
          go_simp
        simp only [List.setIfInBounds_toArray, List.set_cons_zero, List.set_cons_succ]
        have e0d : (W1.alloc (.cells #[.int .i64 j] 3)).drew.cell? ⟨wr.heap.size, 0, none⟩ = some (.int .i64 (p : Int)) := by rw [HWD.out, cell_of_row _ _ _ _ _ _ HBLKD.out]; rfl
        refine wpAnyH_ready (rs := [7, 9]) (by kernel_rfl) (by simp) (AllReadyH.cons rfl (fun K hK => ?_) (AllReadyH.cons rfl (fun K hK => ?_) AllReadyH.nil))
        · go_simp
          refine hK.out _ _ e0 (fun hH => ?_)
          clear hK K
          refine wpAnyH_ready (rs := [9]) (by kernel_rfl) (by simp) (AllReadyH.cons rfl (fun K hK => ?_) AllReadyH.nil)
          go_simp
          refine hK.out _ _ e0d (fun hH => ?_)
          clear hK K
          rw [HWD.out]
          clear e0 e1 e1d
          refine wpAnyH_ready (rs := [10]) (by kernel_rfl) (by simp) (AllReadyH.cons rfl (fun K hK => ?_) AllReadyH.nil)
          rw [if_pos (by rfl)]
          refine wp_append_sl (.tmp 32) (.tmp 34) 36 rfl (w.heap.size + 1) 3 (.int .i64 0) 1 8 Tryz.underlying36 (by kernel_rfl) rfl (by omega) (.slice Av kv cv) kv _ rfl HOWD.out W1.heap.size 0 1 1 [.int .i64 (j : Int)] rfl HRD.out rfl (by simp [Value.oneCell']) (by omega) (by omega) HSD.out ?_
          intro v6 w6 hown6 hg6 hat6
          have hK6 : KidsF (w6.setCell ⟨w.heap.size, p, none⟩ v6) w.heap.size (w.heap.size + 1) nm (fun q => if q = p then v6 else f q) (fun q => kidsTo m (q : Int) (j + 1)) := by
            refine (HKD.out.push (x := j) hpj (by rw [HKV.out]; exact hown6) (by rw [HHP.out]; exact hg6) (by rw [HHP.out]; exact hat6)).congr fun q hq => ?_
            show kidsTo m (q : Int) (j + 1) = if q = p then kidsTo m (p : Int) j ++ [j] else kidsTo m (q : Int) j
            rw [HKS.out]
            by_cases e : q = p
            · rw [if_pos e, if_pos (by rw [e]), e]
            · rw [if_neg e, if_neg (by omega)]
          have hB6 : Below w.heap.size w (w6.setCell ⟨w.heap.size, p, none⟩ v6) := HKD.out.below HBD.out hpj (by rw [HHP.out]; exact hg6) (Nat.le_refl _) HBD.out.size
          have hs6 : w.heap.size + 1 ≤ (w6.setCell ⟨w.heap.size, p, none⟩ v6).heap.size := by rw [set_size]; exact Nat.le_trans HSD.out hg6.size
          have hblk6 := grown_block hg6 HBLKD.out (own_ne HOWD.out HBLKD.out (by decide))
          have hKb : w6.heap[w.heap.size]? = WD.heap[w.heap.size]? := hg6.block _ HKD.out.kl fun e => by
            have := (HOWD.out.lt _ e.symm).1
            omega
          have c6 : (w6.cell? ⟨w.heap.size, p, none⟩).isSome = true := by
            rw [World.cell?_of_block (a := ⟨w.heap.size, p, none⟩) hKb, (HKD.out.cell p hpj).1]
            rfl
          have z6 : w6.frozen? ⟨w.heap.size, p, none⟩ = false := (World.frozen?_of_block (a := ⟨w.heap.size, p, none⟩) hKb).trans (HKD.out.cell p hpj).2
          have r6 : w6.cell? ⟨wr.heap.size, 0, none⟩ = some (.int .i64 (p : Int)) := by rw [cell_of_row _ _ _ _ _ _ hblk6]; rfl
          have hne6 : wr.heap.size ≠ w.heap.size := by omega
          have r7 : (w6.setCell ⟨w.heap.size, p, none⟩ v6).cell? ⟨wr.heap.size, 0, none⟩ = some (.int .i64 (p : Int)) := by rw [World.cell?_setCell_other _ _ _ _ (by intro e'; injection e' with e' _; exact hne6 e'.symm)]; exact r6
          have ho6 : v6.oneCell' = true := by
            rcases hown6.2 with ⟨h, _⟩ | ⟨_, _, _, h, _⟩ <;> rw [h] <;> rfl
          have HK6 := Lib.hid hK6
          have HB6 := Lib.hid hB6
          clear hown6 hg6 hat6 hK6 hB6 hblk6 hKb
          go_simp
          refine hK.out _ _ r6 (fun hH => ?_)
          clear hK K
          refine Rg.take (i := 11) (d := 36) (v := .pointer (some ⟨w.heap.size, p, none⟩)) rfl rfl (by kernel_rfl) (by kernel_rfl) (by kernel_rfl) (fun _ _ _ h => h) (by kernel_rfl) (fun W hSW => ?_) hH ?_
          · clear hSW
            go_simp
          simp only [List.setIfInBounds_toArray, List.set_cons_zero, List.set_cons_succ]
          refine wpAnyH_ready (rs := [12]) (by kernel_rfl) (by simp) (AllReadyH.cons rfl (fun K hK => ?_) AllReadyH.nil)
          rw [if_pos (by rfl)]
          refine wp_store_cell 36 (.tmp 36) (.tmp 35) rfl w.heap.size p rfl v6 rfl c6 z6 (by kernel_rfl) ho6 ?_
          go_simp
          refine hK.out _ _ r7 (fun hH => ?_)
          clear hK K c6 z6 r6 r7 hH
          refine wpAnyH_done (by kernel_rfl) ?_ _
          go_wp2_with fail
          exact ⟨⟨j + 1, _, by omega, by go_num, HK6, HB6.out, hs6⟩, by simp [intOf]; omega⟩
        · go_simp
          refine hK.out _ _ e0d (fun hH => ?_)
          clear hK K
          refine wpAnyH_ready (rs := [7]) (by kernel_rfl) (by simp) (AllReadyH.cons rfl (fun K hK => ?_) AllReadyH.nil)
          go_simp
          refine hK.out _ _ e0d (fun hH => ?_)
          clear hK K
          rw [HWD.out]
          clear e0 e1 e1d
          refine wpAnyH_ready (rs := [10]) (by kernel_rfl) (by simp) (AllReadyH.cons rfl (fun K hK => ?_) AllReadyH.nil)
          rw [if_pos (by rfl)]
          refine wp_append_sl (.tmp 32) (.tmp 34) 36 rfl (w.heap.size + 1) 3 (.int .i64 0) 1 8 Tryz.underlying36 (by kernel_rfl) rfl (by omega) (.slice Av kv cv) kv _ rfl HOWD.out W1.heap.size 0 1 1 [.int .i64 (j : Int)] rfl HRD.out rfl (by simp [Value.oneCell']) (by omega) (by omega) HSD.out ?_
          intro v6 w6 hown6 hg6 hat6
          have hK6 : KidsF (w6.setCell ⟨w.heap.size, p, none⟩ v6) w.heap.size (w.heap.size + 1) nm (fun q => if q = p then v6 else f q) (fun q => kidsTo m (q : Int) (j + 1)) := by
            refine (HKD.out.push (x := j) hpj (by rw [HKV.out]; exact hown6) (by rw [HHP.out]; exact hg6) (by rw [HHP.out]; exact hat6)).congr fun q hq => ?_
            show kidsTo m (q : Int) (j + 1) = if q = p then kidsTo m (p : Int) j ++ [j] else kidsTo m (q : Int) j
            rw [HKS.out]
            by_cases e : q = p
            · rw [if_pos e, if_pos (by rw [e]), e]
            · rw [if_neg e, if_neg (by omega)]
          have hB6 : Below w.heap.size w (w6.setCell ⟨w.heap.size, p, none⟩ v6) := HKD.out.below HBD.out hpj (by rw [HHP.out]; exact hg6) (Nat.le_refl _) HBD.out.size
          have hs6 : w.heap.size + 1 ≤ (w6.setCell ⟨w.heap.size, p, none⟩ v6).heap.size := by rw [set_size]; exact Nat.le_trans HSD.out hg6.size
          have hblk6 := grown_block hg6 HBLKD.out (own_ne HOWD.out HBLKD.out (by decide))
          have hKb : w6.heap[w.heap.size]? = WD.heap[w.heap.size]? := hg6.block _ HKD.out.kl fun e => by
            have := (HOWD.out.lt _ e.symm).1
            omega
          have c6 : (w6.cell? ⟨w.heap.size, p, none⟩).isSome = true := by
            rw [World.cell?_of_block (a := ⟨w.heap.size, p, none⟩) hKb, (HKD.out.cell p hpj).1]
            rfl
          have z6 : w6.frozen? ⟨w.heap.size, p, none⟩ = false := (World.frozen?_of_block (a := ⟨w.heap.size, p, none⟩) hKb).trans (HKD.out.cell p hpj).2
          have r6 : w6.cell? ⟨wr.heap.size, 0, none⟩ = some (.int .i64 (p : Int)) := by rw [cell_of_row _ _ _ _ _ _ hblk6]; rfl
          have hne6 : wr.heap.size ≠ w.heap.size := by omega
          have r7 : (w6.setCell ⟨w.heap.size, p, none⟩ v6).cell? ⟨wr.heap.size, 0, none⟩ = some (.int .i64 (p : Int)) := by rw [World.cell?_setCell_other _ _ _ _ (by intro e'; injection e' with e' _; exact hne6 e'.symm)]; exact r6
          have ho6 : v6.oneCell' = true := by
            rcases hown6.2 with ⟨h, _⟩ | ⟨_, _, _, h, _⟩ <;> rw [h] <;> rfl
          have HK6 := Lib.hid hK6
          have HB6 := Lib.hid hB6
          clear hown6 hg6 hat6 hK6 hB6 hblk6 hKb
          go_simp
          refine hK.out _ _ r6 (fun hH => ?_)
          clear hK K
          refine Rg.take (i := 11) (d := 36) (v := .pointer (some ⟨w.heap.size, p, none⟩)) rfl rfl (by kernel_rfl) (by kernel_rfl) (by kernel_rfl) (fun _ _ _ h => h) (by kernel_rfl) (fun W hSW => ?_) hH ?_
          · clear hSW
            go_simp
          simp only [List.setIfInBounds_toArray, List.set_cons_zero, List.set_cons_succ]
          refine wpAnyH_ready (rs := [12]) (by kernel_rfl) (by simp) (AllReadyH.cons rfl (fun K hK => ?_) AllReadyH.nil)
          rw [if_pos (by rfl)]
          refine wp_store_cell 36 (.tmp 36) (.tmp 35) rfl w.heap.size p rfl v6 rfl c6 z6 (by kernel_rfl) ho6 ?_
          go_simp
          refine hK.out _ _ r7 (fun hH => ?_)
          clear hK K c6 z6 r6 r7 hH
          refine wpAnyH_done (by kernel_rfl) ?_ _
          go_wp2_with fail
          exact ⟨⟨j + 1, _, by omega, by go_num, HK6, HB6.out, hs6⟩, by simp [intOf]; omega⟩
      · have f1 : decide (0 ≤ rp) = false := decide_eq_false hp
        have HKN : Hid (KidsF W1 w.heap.size (w.heap.size + 1) nm f (fun p => kidsTo m (p : Int) (j + 1))) := Lib.hid (HK1.out.congr fun p hp' => by
          show kidsTo m (p : Int) (j + 1) = kidsTo m (p : Int) j
          rw [HKS.out, if_neg (by omega)])
        clear hp hup
        go_wp2_with ((with_reducible (show wpList _ _ _ (Oper.mk _ (Op.store _ _ _) _ _ _ _ :: _) _ _)); refine wpList_store_new rfl 69 69 (.tmp 7) (.tmp 21) rfl _ _ wr.heap.size rfl rfl rfl (by kernel_rfl) rfl rfl ?_)
        exact ⟨⟨j + 1, f, by omega, by go_num, HKN, HB1.out, by omega⟩, by simp [intOf]; omega⟩
    · obtain rfl : j = nm := by omega
      have hKR : KidsR wr w.heap.size (w.heap.size + 1) wr.heap.size j (fun p => kidsTo m (p : Int) j) := HKJ.out.reads hsz
      have hKR2 := hKR.next ((Below.refl _ _).alloc (Nat.le_refl _) (.cells MD 3))
      have hOW := own_zeros wr nl 3 (by omega)
      rw [HMD.out] at hOW
      have hOW2 : (wr.alloc (.cells MD 3)).ownsRow wr.heap.size 3 1 (.slice (some ⟨wr.heap.size, 0, none⟩) nl nl) nl (iv (toL l m 0)) := by
        rw [toL_zero, HNL.out]
        exact hOW
      have HKR2 := Lib.hid hKR2
      have HOW2 := Lib.hid hOW2
      have hB2 : Below w.heap.size w (wr.alloc (.cells MD 3)) := hB.next ((Below.refl _ _).alloc (Nat.le_refl _) _)
      have HB2 := Lib.hid hB2
      have HFS : Hid (∀ q, q < nl → kidsTo m (tN l m q : Nat) j = (kids m (tN l m q : Nat)).drop (kidsTo l (q : Int) 0).length) := Lib.hid (fun q hq => by
        unfold kids
        rw [HNM.out]
        rfl)
      have hz : wr.heap.size < (wr.alloc (.cells MD 3)).heap.size := by simp
      clear hKR hKR2 hOW hOW2 hB HKJ hB2
      go_wp2_with fail
      obtain ⟨T, hT⟩ := name_of wr.heap.size
      obtain ⟨V1, hV1⟩ := name_of (wr.alloc (.cells MD 3))
      rw [hT] at HKR2 HOW2 hz hsz ⊢
      rw [hV1] at HKR2 HOW2 HB2 hz ⊢
      clear hV1 hT
      go_loopw [43] (fun x wr => ∃ (i : Nat) (F : Nat → List Nat), i ≤ nl ∧ x = .int .i64 i ∧ Hid (KidsR wr w.heap.size (w.heap.size + 1) T j F) ∧ Hid (∀ q, q < nl → F (tN l m q) = (kids m (tN l m q : Nat)).drop (kidsTo l (q : Int) i).length) ∧ Hid (wr.ownsRow T 3 1 (.slice (some ⟨T, 0, none⟩) nl nl) nl (iv (toL l m i))) ∧ Below w.heap.size w wr ∧ T < wr.heap.size) (fun x _ => nl - (intOf x).toNat)
      case atStart => exact ⟨0, _, Nat.zero_le _, rfl, HKR2, HFS, HOW2, HB2.out, hz⟩
      case round =>
        clear HKR2 HFS HOW2 HB2 hz
        obtain ⟨i, F, hi, rfl, HKI, HF, HO, hB, hz⟩ := hrel
        by_cases hlt2 : i < nl
        · obtain ⟨g, off, rfl, hg, c0, c1, c2, c3, c4, c5, c6⟩ := HAL.out i (by rw [HNL.out]; exact hlt2)
          have hup := HTL.out.up i (by rw [HNL.out]; exact hlt2) (by rw [HNL.out]; exact hlt2)
          obtain ⟨⟨rp, ri, rf, rk, rv, rs, rc⟩, hr⟩ := name_of (at_ l i)
          have HR := Lib.hid hr
          rw [hr] at c0 c1 c2 c3 c4 c5 c6 hup
          dsimp only at c0 c1 c2 c3 c4 c5 c6 hup
          have d0 := (hB.cell (p := ⟨g, _, none⟩) hg).trans c0
          have d1 := (hB.cell (p := ⟨g, _, none⟩) hg).trans c1
          have d2 := (hB.cell (p := ⟨g, _, none⟩) hg).trans c2
          have d3 := (hB.cell (p := ⟨g, _, none⟩) hg).trans c3
          have d4 := (hB.cell (p := ⟨g, _, none⟩) hg).trans c4
          have d5 := (hB.cell (p := ⟨g, _, none⟩) hg).trans c5
          have d6 := (hB.cell (p := ⟨g, _, none⟩) hg).trans c6
          have hb1 : Below wr.heap.size wr (wr.alloc (.cells #[.int .i64 rp, .int .i64 ri, .int .i64 rf, .int .i64 rk, .int .i64 rv, .int .i64 rs, .string rc] 69)) := (Below.refl _ _).alloc (Nat.le_refl _) _
          have hblk := heap_alloc_last wr (.cells #[.int .i64 rp, .int .i64 ri, .int .i64 rf, .int .i64 rk, .int .i64 rv, .int .i64 rs, .string rc] 69)
          obtain ⟨W1, hW1⟩ := name_of (wr.alloc (.cells #[.int .i64 rp, .int .i64 ri, .int .i64 rf, .int .i64 rk, .int .i64 rv, .int .i64 rs, .string rc] 69))
          rw [hW1] at hb1 hblk
          have HB1 := Lib.hid (hB.next hb1)
          have HK1 := Lib.hid (HKI.out.next hb1)
          have HO1 : Hid (W1.ownsRow T 3 1 (.slice (some ⟨T, 0, none⟩) nl nl) nl (iv (toL l m i))) := Lib.hid (own_same HO.out fun g hg => hb1.block g (HO.out.lt g hg).2)
          have hz1 : T < W1.heap.size := Nat.lt_of_lt_of_le hz hb1.size
          have e0 : W1.cell? ⟨wr.heap.size, 0, none⟩ = some (.int .i64 rp) := by rw [cell_of_row _ _ _ _ _ _ hblk]; rfl
          clear c0 c1 c2 c3 c4 c5 c6 hr hB hb1 hblk HKI HO hz
          by_cases hp : 0 ≤ rp
          · have f1 : decide (0 ≤ rp) = true := decide_eq_true hp
            obtain ⟨p, rfl⟩ := Int.eq_ofNat_of_zero_le hp
            have hrp : (at_ l i).p = (p : Int) := by rw [HR.out]
            obtain ⟨hhd, hpi⟩ := tN_head HG.out (i := i) (p := p) (by rw [HNL.out]; exact hlt2) hrp
            have HNX := Lib.hid (tN_next HG.out (i := i) (p := p) (F := F) (by rw [HNL.out]; exact hlt2) hrp (fun q hq => HF.out q (by rw [← HNL.out]; exact hq)))
            have hkl := tN_lt HG.out (i := p) (by rw [HNL.out]; omega)
            rw [HNM.out] at hkl
            have hFk := HF.out p (by omega)
            obtain ⟨g', cap', eT, -, -, -, hTc, hTf⟩ := own_open HO1.out (by omega)
            injection eT with eT _ _
            injection eT with eT
            injection eT with eT _ _
            subst eT
            have hTp := hTc p _ (toL_get l m (by rw [HNL.out]; omega))
            rw [if_pos hpi] at hTp
            have hTi := hTc i _ (toL_get l m (by rw [HNL.out]; omega))
            have hTz := hTf i
            obtain ⟨k, hk⟩ := name_of (tN l m p)
            have HKK := Lib.hid hk
            rw [hk] at hhd hkl hFk hTp HNX
            rw [← hFk] at hhd
            obtain ⟨z1, A, mm, cc, z2, z3, z4, z5⟩ := HK1.out.2.2.2 k hkl
            have hm0 : 0 < mm := by
              rw [z4]
              exact (List.getElem?_eq_some_iff.1 hhd).1
            obtain ⟨gg, oo, rfl, z6, z7, z8⟩ := z5 hm0
            have z9 := z8 0 hm0
            rw [Nat.add_zero, List.getD_eq_getElem?_getD, hhd, Option.getD_some] at z9
            obtain ⟨y, hy⟩ := name_of (tN l m i)
            have HY := Lib.hid hy
            rw [hy] at z9
            have hKT : w.heap.size ≠ T := by omega
            have z10 : (W1.setCell ⟨T, i, none⟩ (.int .i64 (y : Int))).cell? ⟨w.heap.size, k, none⟩ = some (.slice (some ⟨gg, oo, none⟩) mm cc) := by
              rw [World.cell?_setCell_other _ _ _ _ (by intro e'; injection e' with e' _; exact hKT e'.symm)]
              exact z2
            have z11 : (W1.setCell ⟨T, i, none⟩ (.int .i64 (y : Int))).frozen? ⟨w.heap.size, k, none⟩ = false := by rw [World.frozen?_setCell]; exact z1
            have HK2 := Lib.hid (HK1.out.other (j := i) (Nat.le_refl _) (.int .i64 (y : Int)))
            have hO2 := own_set HO1.out i (.int .i64 (y : Int))
            rw [← hy, toL_set (by rw [HNL.out]; exact hlt2), hy] at hO2
            have HO2 := Lib.hid hO2
            have HB2 := Lib.hid (own_below_set HB1.out (show w.heap.size ≤ T by omega) i (.int .i64 (y : Int)))
            clear hp hup hhd hFk hTc hTf z4 z5 z6 z7 z8 hk hy hO2 hrp HR
            go_wp2_with ((with_reducible (show wpList _ _ _ (Oper.mk _ (Op.store _ _ _) _ _ _ _ :: _) _ _)); refine wpList_store_new rfl 69 69 (.tmp 10) (.tmp 47) rfl _ _ wr.heap.size rfl rfl rfl (by kernel_rfl) rfl rfl ?_)
            have HK3 := HK2.out.pop (v := .slice (if cc = 1 then some ⟨gg, oo, none⟩ else some ⟨gg, oo + 1, none⟩) (mm - 1) (cc - 1)) hkl z10 hm0 ⟨_, rfl, fun h => if_neg (by omega)⟩
            refine ⟨⟨i + 1, fun q => if q = k then (F k).tail else F q, by omega, by go_num, Lib.hid HK3, Lib.hid (fun q hq => HNX.out q (by rw [HNL.out]; exact hq)), Lib.hid (own_same HO2.out fun g hg => setCell_away _ _ _ ?_), HB2.out.setCell (p := ⟨w.heap.size, k, none⟩) (Nat.le_refl _) _, by rw [set_size, set_size]; exact hz1⟩, by simp [intOf]; omega⟩
            have h1 := (HO2.out.lt g hg).1
            show g ≠ w.heap.size
            omega
          · have f1 : decide (0 ≤ rp) = false := decide_eq_false hp
            have hi0 : i = 0 := by
              rcases Nat.eq_zero_or_pos i with e | e
              · exact e
              · exact absurd (hup.2 (by omega)) hp
            have h0 : tN l m i = 0 := by
              have := tN_ff HG.out (i := i) (by rw [HNL.out]; exact hlt2)
              rw [hi0, FF_root HG.out] at this
              rw [hi0]
              exact (Option.some.inj this).symm
            have HO2 : Hid (W1.ownsRow T 3 1 (.slice (some ⟨T, 0, none⟩) nl nl) nl (iv (toL l m (i + 1)))) := Lib.hid (by rw [← toL_same h0]; exact HO1.out)
            have HF2 : Hid (∀ q, q < nl → F (tN l m q) = (kids m (tN l m q : Nat)).drop (kidsTo l (q : Int) (i + 1)).length) := Lib.hid (fun q hq => by
              rw [kidsTo_succ, HR.out, if_neg (by show ¬ rp = (q : Int); omega), List.append_nil]
              exact HF.out q hq)
            clear hp hup hi0 h0
            go_wp2_with ((with_reducible (show wpList _ _ _ (Oper.mk _ (Op.store _ _ _) _ _ _ _ :: _) _ _)); refine wpList_store_new rfl 69 69 (.tmp 10) (.tmp 47) rfl _ _ wr.heap.size rfl rfl rfl (by kernel_rfl) rfl rfl ?_)
            exact ⟨⟨i + 1, F, by omega, by go_num, HK1, HF2, HO2, HB1.out, hz1⟩, by simp [intOf]; omega⟩
        · obtain rfl : i = nl := by omega
          have HO2 : Hid (wr.ownsRow w.heap.size 3 1 (.slice (some ⟨T, 0, none⟩) i i) i (iv (toL l m i))) := Lib.hid (by
            obtain ⟨h1, h2⟩ := HO.out
            refine ⟨h1, ?_⟩
            rcases h2 with h2 | ⟨g, cap, cur, e, hb, hh, h3⟩
            · exact .inl h2
            · exact .inr ⟨g, cap, cur, e, by omega, hh, h3⟩)
          clear HO
          go_wp2_with fail
          go_ret
          exact ⟨⟨_, rfl, HO2.out⟩, hB⟩
end P20
end Go.Proofs.YtajbchecjbddgaaGreatDoor
