/- Merged: K M N Rg Ow V Pc Sc. -/
import Derived.Test.YtajbchecjbddgaaGreatDoorProg
import Derived.Handy
import Derived.WalkLawsBesides
import Derived.WalkSpells
import Derived.Deep.WholeRow
import Derived.Deep.MidRow
import Derived.Deep.QuietTactic
import Derived.BigQuiet
import Derived.Maps.AppendAt
import Derived.Deep.AppendLies
import Derived.Lib.Hide
import Derived.Deep.RegionHeld3
import Derived.OneCell
/- Laws of one operation, met by name in a walk: a value that the kernel reckons; a whole row stored into the newest block; a part of it loaded. -/
namespace Go.Proofs.YtajbchecjbddgaaGreatDoor
open Go.RowKit

theorem wpList_build {P : Program} {ops : Array Oper} {rest : List Oper} {o : Oper} {a : Act} {w : World} {Q : Exit → Act → World → Prop} (hgd : o.guard = none)
    (t : TypeId) (parts : Array (Nat × Operand)) (ho : o.op = .build t parts) (v : Value) (hr : (Instr.build t (parts.map fun (i, x) => (i, a.eval x))).run P w = .ok v w)
    (h : wpList P ops Q rest (a.put o.dst v) w) : wpList P ops Q (o :: rest) a w :=
  wpList_plain hgd fun _ hK => by
    unfold Oper.wp execOp
    simp only [ho, Sem.run_bind, hr, Result.andThen_ok, Sem.run_pure]
    exact hK _ _ h

theorem wpList_store_new {P : Program} {ops : Array Oper} {rest : List Oper} {o : Oper} {a : Act} {w : World} {Q : Exit → Act → World → Prop} (hgd : o.guard = none)
    (t t' : TypeId) (x y : Operand) (ho : o.op = .store t x y) (c c' : Array Value) (n : Nat) (hn : n = w.heap.size) (hx : a.eval x = .pointer (some ⟨n, 0, none⟩)) (hy : a.eval y = .agg c')
    (hi : (P.info? t).map (·.size) = some c'.size) (hc : c.size = c'.size) (h1 : c'.all (·.oneCell') = true)
    (h : wpList P ops Q rest (a.put o.dst undef) (w.alloc (.cells c' t'))) : wpList P ops Q (o :: rest) a (w.alloc (.cells c t')) := by
  subst hn
  refine wpList_plain hgd fun _ hK => ?_
  unfold Oper.wp execOp
  have hs : (storeVar t ⟨w.heap.size, 0, none⟩ (.agg c')).run P (w.alloc (.cells c t')) = .ok () (w.alloc (.cells c' t')) := by
    rw [run_storeVar_row _ _ t' t c c' (heap_alloc_last w _) hi hc h1, World.setRow_alloc_new]
  simp only [ho, hx, hy, Instr.storeAt, Instr.sureAddr, Sem.run_bind, Sem.run_pure, Result.andThen_ok, hs]
  exact hK _ _ h

theorem wpList_load_new {P : Program} {ops : Array Oper} {rest : List Oper} {o : Oper} {a : Act} {w : World} {Q : Exit → Act → World → Prop} (hgd : o.guard = none)
    (ty t' : TypeId) (x : Operand) (ho : o.op = .load ty x) (c : Array Value) (n off : Nat) (hn : n = w.heap.size) (hx : a.eval x = .pointer (some ⟨n, off, none⟩)) (cs : List Value) (d : TypeDesc)
    (hu : P.underlying ty = some d) (hd : d.isRow = true) (hi : (P.info? ty).map (·.size) = some cs.length) (hcs : ∀ j v, cs[j]? = some v → c[off + j]? = some v)
    (h : wpList P ops Q rest (a.put o.dst (.agg cs.toArray)) (w.alloc (.cells c t'))) : wpList P ops Q (o :: rest) a (w.alloc (.cells c t')) :=
  wpList_load_mid hgd ty x ho n off hx cs d (fun j v hj => by rw [World.cell?_alloc_at _ _ _ _ hn]; exact hcs j v hj) hu hd hi h

/-- What was the newest block is still there behind a call that turned nothing below. -/
theorem newest_kept {w w1 : World} {o : Obj} {B : Nat} (hb : Below B (w.alloc o) w1) (hB : B = w.heap.size + 1) : w1.heap[w.heap.size]? = some o :=
  (hb.block _ (by omega)).trans (heap_alloc_last w o)
theorem newest_cells {w w1 : World} {cs : Array Value} {t : TypeId} {B : Nat} (hb : Below B (w.alloc (.cells cs t)) w1) (hB : B = w.heap.size + 1) :
    ∀ j, w1.cell? ⟨w.heap.size, j, none⟩ = cs[j]? := fun j => cell_of_row w1 _ j cs t (0, 0) (newest_kept hb hB)
theorem below_size {w w1 : World} {o : Obj} {B : Nat} (hb : Below B (w.alloc o) w1) : w.heap.size < w1.heap.size := by
  have := hb.size
  simp at this
  omega

end Go.Proofs.YtajbchecjbddgaaGreatDoor

/- Words for memory: a slice value that reads as a list of cells; how such readings are kept. -/
namespace Go.Proofs.YtajbchecjbddgaaGreatDoor
open Go.RowKit

theorem ret_int {k : IntKind} {a b : Int} (h : a = b) : Ending.returned (.int k a) = Ending.returned (.int k b) := by rw [h]
theorem ret_bool {a b : Bool} (h : a = b) : Ending.returned (.bool a) = Ending.returned (.bool b) := by rw [h]
theorem _root_.Go.RowKit.Below.of_alloc {w w1 : World} {o : Obj} (hb : Below (w.alloc o).heap.size (w.alloc o) w1) : Below w.heap.size w w1 :=
  ((Below.refl _ _).alloc (Nat.le_refl _) o).trans (hb.mono (by simp))
/-- One call behind another one: nothing below the first world's size has turned. -/
theorem _root_.Go.RowKit.Below.next {a b c : World} (h : Below a.heap.size a b) (k : Below b.heap.size b c) : Below a.heap.size a c := h.trans (k.mono h.size)

/-- The slice value v reads as the cells xs ('size' cells an element), all below block B. -/
def Sl (w : World) (B size : Nat) (v : Value) (xs : List Value) : Prop :=
  ∃ A n c, v = .slice A n c ∧ n ≤ c ∧ xs.length = n * size ∧ (0 < n → ∃ b off, A = some ⟨b, off, none⟩ ∧ b < B ∧ w.rangeAt b off xs)

section
variable {w w' : World} {B B' size : Nat} {v : Value} {xs : List Value}
theorem range_keep {b off : Nat} (h : w.rangeAt b off xs) (hk : ∀ o, w'.cell? ⟨b, o, none⟩ = w.cell? ⟨b, o, none⟩) : w'.rangeAt b off xs := fun j u hj => (hk _).trans (h j u hj)
theorem Sl.keep (h : Sl w B size v xs) (hk : ∀ b o, b < B → w'.cell? ⟨b, o, none⟩ = w.cell? ⟨b, o, none⟩) : Sl w' B size v xs := by
  obtain ⟨A, n, c, h1, h2, h3, h4⟩ := h
  refine ⟨A, n, c, h1, h2, h3, fun hn => ?_⟩
  obtain ⟨b, off, e, hb, hr⟩ := h4 hn
  exact ⟨b, off, e, hb, range_keep hr fun o => hk b o hb⟩
theorem Sl.more (h : Sl w B size v xs) (hB : B ≤ B') : Sl w B' size v xs := by
  obtain ⟨A, n, c, h1, h2, h3, h4⟩ := h
  refine ⟨A, n, c, h1, h2, h3, fun hn => ?_⟩
  obtain ⟨b, off, e, hb, hr⟩ := h4 hn
  exact ⟨b, off, e, by omega, hr⟩
theorem Sl.below (h : Sl w B size v xs) (hb : Below B w w') : Sl w' B size v xs := h.keep fun b o hlt => hb.cell (p := ⟨b, o, none⟩) hlt
/-- At the heap's size: the reading behind a call. -/
theorem Sl.next (h : Sl w w.heap.size size v xs) (hb : Below w.heap.size w w') : Sl w' w'.heap.size size v xs := (h.below hb).more hb.size
theorem Sl.none_ : Sl w B size (.slice none 0 0) [] := ⟨none, 0, 0, rfl, Nat.le_refl _, by simp, fun h => absurd h (by omega)⟩
/-- A literal that was just laid. -/
theorem Sl.lit (w : World) (cs : Array Value) (t : TypeId) (n : Nat) (hs : cs.size = n * size) (hB : w.heap.size < B) : Sl (w.alloc (.cells cs t)) B size (.slice (some ⟨w.heap.size, 0, none⟩) n n) cs.toList := by
  refine ⟨_, n, n, rfl, Nat.le_refl _, by simpa using hs, fun _ => ⟨_, 0, rfl, hB, fun j u hj => ?_⟩⟩
  rw [cell_of_row _ _ _ cs t (0, 0) (heap_alloc_last w _)]
  simpa using hj
theorem Sl.own {base e n : Nat} (h : w.ownsRow base e size v n xs) : Sl w w.heap.size size v xs := by
  obtain ⟨h1, h2⟩ := h
  rcases h2 with ⟨rfl, rfl⟩ | ⟨g, cap, cur, rfl, hg, hh, hn, hc, hs, hx⟩
  · have : xs = [] := List.eq_nil_of_length_eq_zero (by simpa using h1)
    subst this
    exact Sl.none_
  · refine ⟨_, n, cap, rfl, hn, h1, fun _ => ⟨g, 0, rfl, lt_of_block hh, fun j u hj => ?_⟩⟩
    rw [cell_of_row _ _ _ cur e (0, 0) hh]
    subst hx
    rw [List.getElem?_take] at hj
    split at hj
    · simpa using hj
    · cases hj
theorem range_at {b off : Nat} (h : w.rangeAt b off xs) (j : Nat) (hj : j < xs.length) : w.cell? ⟨b, off + j, none⟩ = some xs[j] := h j _ (List.getElem?_eq_getElem hj)
end

def bv (l : List Int) : List Value := l.map (Value.int .u8)
@[simp] theorem bv_length (l : List Int) : (bv l).length = l.length := by simp [bv]
theorem range_bv {w : World} {b off : Nat} {l : List Int} (h : w.rangeAt b off (bv l)) (j : Nat) (hj : j < l.length) : w.cell? ⟨b, off + j, none⟩ = some (.int .u8 (l.getD j 0)) := by
  refine h j _ ?_
  simp [bv, List.getD_eq_getElem?_getD, List.getElem?_eq_getElem hj]
theorem take_ext {l m : List Int} {k : Nat} (hl : k < l.length) (hm : k < m.length) (h : l.take k = m.take k) (he : l.getD k 0 = m.getD k 0) : l.take (k + 1) = m.take (k + 1) := by
  simp only [List.getD_eq_getElem?_getD, List.getElem?_eq_getElem hl, List.getElem?_eq_getElem hm, Option.getD_some] at he
  rw [List.take_succ_eq_append_getElem hl, List.take_succ_eq_append_getElem hm, h, he]

end Go.Proofs.YtajbchecjbddgaaGreatDoor

/- append onto a row of the call's own, the source any slice that reads as cells (nil, empty or not); blocks that another append leaves alone; flat lists of equal parts. -/
namespace Go.Proofs.YtajbchecjbddgaaGreatDoor
open Go.RowKit

section
variable {P : Program}

theorem append_nil_src (w : World) (base : Nat) (t ty e : TypeId) (i : TypeInfo) (size : Nat) (ht : P.underlying t = some (.slice e)) (hi : P.info? e = some i)
    (v : Value) (n : Nat) (xs : List Value) (hown : w.ownsRow base e size v n xs) (c : Nat) : (Builtin.append_ #[t, t] ty #[v, .slice none 0 c]).run P w = .ok v w := by
  rcases hown.2 with ⟨rfl, rfl⟩ | ⟨g, cap, cur, rfl, _, _, hnc, _⟩
  · simp [Builtin.append_, run_underlying ht, sizeOf, typeInfo, hi, Builtin.lenOf, Builtin.firstCells]
  · simp [Builtin.append_, run_underlying ht, sizeOf, typeInfo, hi, Builtin.lenOf, Builtin.firstCells, hnc, storeCells]

theorem wpList_append_sl {ops : Array Oper} {rest : List Oper} {o : Oper} {a : Act} {w : World} {Q : Exit → Act → World → Prop} (hgd : o.guard = none) (s x : Operand) (t : TypeId)
    (ho : o.op = .call { callee := .builtin .append, args := #[s, x], argTypes := #[t, t] })
    (base : Nat) (e : TypeId) (z : Value) (size bytes : Nat) (ht : P.underlying t = some (.slice e)) (hinfo : (P.info? e).map (fun i => (i.zero, i.size, i.bytes)) = some (some z, size, bytes))
    (hzs : z.cells.size = size) (hsz : 0 < size)
    (v : Value) (n : Nat) (xs : List Value) (hs : a.eval s = v) (hown : w.ownsRow base e size v n xs)
    (B m : Nat) (sv : Value) (ys : List Value) (hx : a.eval x = sv) (hr : Sl w B size sv ys) (hm : ys.length = m * size) (h1 : ∀ u ∈ ys, u.oneCell' = true)
    (h63 : n + m ≤ 1099511627776) (hbytes : (n + m) * bytes ≤ 140737488355328) (hbase : base ≤ w.heap.size)
    (h : ∀ v' w', w'.ownsRow base e size v' (n + m) (xs ++ ys) → w.grownBy w' v.ownBlock → (v'.ownBlock = v.ownBlock ∨ v'.ownBlock = some w.heap.size) → wpList P ops Q rest (a.put o.dst v') w') :
    wpList P ops Q (o :: rest) a w := by
  obtain ⟨i, hi, hz, hz1, hz2⟩ := info_parts hinfo
  obtain ⟨A, k, c, rfl, hkc, hk, hA⟩ := hr
  have hmk : m = k := by
    have : m * size = k * size := by omega
    exact Nat.eq_of_mul_eq_mul_right hsz this
  subst hmk
  rcases Nat.eq_zero_or_pos m with h0 | h0
  · subst h0
    have hy : ys = [] := List.eq_nil_of_length_eq_zero (by simpa using hm)
    subst hy
    rcases A with _ | ad
    · refine wpList_plain hgd fun K hK => ?_
      have hrun := append_nil_src (P := P) w base t o.type e i size ht hi v n xs hown c
      unfold Oper.wp execOp
      simp only [ho, resolve, invoke, builtin, Sem.run_bind, Sem.run_pure, Result.andThen_ok, List.map_toArray, List.map_cons, List.map_nil, hs, hx, hrun]
      exact hK _ _ (h v w (by simpa using hown) (World.grownBy.refl w _) (.inl rfl))
    · refine wpList_append_own_at w hgd s x t ho base e i z size bytes ht hi hz hz1 hz2 hzs hsz v n xs hs hown ad 0 c [] hx (by simp) (fun j u hj => by simp at hj) h1 (by simp only [maxLen]; omega) hbytes hbase ?_
      exact fun v' w' a1 a2 _ a4 => h v' w' a1 a2 a4
  · obtain ⟨b, off, rfl, _, hc⟩ := hA h0
    refine wpList_append_own_at w hgd s x t ho base e i z size bytes ht hi hz hz1 hz2 hzs hsz v n xs hs hown ⟨b, off, none⟩ m c ys hx hm (fun j u hj => by rw [Addr.add_mid]; exact hc j u hj) h1 (by simp only [maxLen]; omega) hbytes hbase ?_
    exact fun v' w' a1 a2 _ a4 => h v' w' a1 a2 a4
end

/-- A block of another element type is not the row. -/
theorem own_ne {w : World} {base e size n g : Nat} {v : Value} {xs : List Value} {cs : Array Value} {t : TypeId} {fr : Nat × Nat} (h : w.ownsRow base e size v n xs) (hg : w.heap[g]? = some (.cells cs t fr)) (hne : e ≠ t) : some g ≠ v.ownBlock := by
  rcases h.2 with ⟨rfl, _⟩ | ⟨g', cap, cur, rfl, _, hh, _⟩
  · simp [Value.ownBlock]
  · intro he
    have : g' = g := by simpa [Value.ownBlock] using he.symm
    subst this
    rw [hh] at hg
    injection hg with hg
    injection hg with _ ht
    exact hne ht
theorem grown_block {w w' : World} {row : Option Nat} {g : Nat} {o : Obj} (hg : w.grownBy w' row) (h : w.heap[g]? = some o) (hne : some g ≠ row) : w'.heap[g]? = some o :=
  (hg.block g (lt_of_block h) hne).trans h
/-- Behind an append onto a row of the call's own: nothing below 'base' has turned. -/
theorem below_append {w0 w w' : World} {base e size n : Nat} {v : Value} {xs : List Value} (hb : Below w0.heap.size w0 w) (h : w.ownsRow base e size v n xs) (hg : w.grownBy w' v.ownBlock) (hbase : w0.heap.size ≤ base) : Below w0.heap.size w0 w' :=
  hb.grown hg hb.size fun k hk => by have := (h.lt k hk).1; omega

/-- A flat list of equal parts, at a place. -/
theorem flat_get {α β : Type} (g : α → List β) (m : Nat) (hg : ∀ a, (g a).length = m) : ∀ (l : List α) (k j : Nat), j < m → (l.flatMap g)[k * m + j]? = (l[k]?).bind fun a => (g a)[j]?
  | [], k, j, hj => by simp
  | a :: l, 0, j, hj => by simp [List.getElem?_append_left (by rw [hg]; exact hj : j < (g a).length)]
  | a :: l, k + 1, j, hj => by
    have := flat_get g m hg l k j hj
    rw [List.flatMap_cons, List.getElem?_append_right (by rw [hg, Nat.succ_mul]; omega), hg, show (k + 1) * m + j - m = k * m + j by rw [Nat.succ_mul]; omega, this]
    simp
theorem flat_length {α β : Type} (g : α → List β) (m : Nat) (hg : ∀ a, (g a).length = m) (l : List α) : (l.flatMap g).length = l.length * m := by
  induction l with
  | nil => simp
  | cons a l ih => rw [List.flatMap_cons, List.length_append, hg, ih, List.length_cons, Nat.succ_mul, Nat.add_comm]

end Go.Proofs.YtajbchecjbddgaaGreatDoor

/- Laws on regions that draw their order: one operation taken with its frame laid out; many unwanted operations skipped at once. No program in sight. -/
namespace Go.Proofs.YtajbchecjbddgaaGreatDoor
namespace Rg

section
variable {P : Program} {ops : Array Oper} {Q : Exit → Act → World → Prop} {md : Region.Mode} {S : World → Prop}
theorem take {i d : Nat} {oi : Oper} {v : Value} {fuel : Nat} {listed : Array Bool} {t : Array Value} {df} {w : World} (hi : ops[i]? = some oi) (hd : oi.dst = some d)
    (hs : Region.noSelect ops = true) (hf : Region.free md ops listed i = true) (hr : (Region.ready md ops listed).contains i = true)
    (hQ : ∀ c (a : Act) w, Q (.panic c) (a.put (some d) v) w → Q (.panic c) a w) (hw : Region.wanted oi (yielded ops t) = true) (hy : ∀ w, S w → (execOp (Act.eval ⟨t, df⟩) oi).run P w = .ok (.value v) w) (hS : S w)
    (h : wpAnyH P md ops Q S fuel (listed.setIfInBounds i true) ⟨t.setIfInBounds d v, df⟩ w) : wpAnyH P md ops Q S (fuel + 1) listed ⟨t, df⟩ w :=
  wpAnyH_take hi hs hf hr (by rw [hd]; exact hQ) (Or.inl ⟨hw, hy⟩) hS (by rw [hd]; exact h)

def puts : List Nat → Array Value → Array Value
  | [], t => t
  | d :: ds, t => puts ds (t.setIfInBounds d undef)
def marks : List Nat → Array Bool → Array Bool
  | [], t => t
  | i :: is, t => marks is (t.setIfInBounds i true)
def skipsOk (md : Region.Mode) (ops : Array Oper) : List Nat → List Nat → Array Bool → Array Value → Bool
  | [], [], _, _ => true
  | i :: is, d :: ds, l, t => (match ops[i]? with
    | none => false
    | some o => decide (o.dst = some d) && Region.free md ops l i && (Region.ready md ops l).contains i && !Region.wanted o (yielded ops t)) && skipsOk md ops is ds (l.setIfInBounds i true) (t.setIfInBounds d undef)
  | _, _, _, _ => false
theorem skips (hs : Region.noSelect ops = true) (hQ : ∀ c (a : Act) d v w, Q (.panic c) (a.put (some d) v) w → Q (.panic c) a w) {df} {w : World} (hS : S w) : ∀ (is ds : List Nat) (fuel : Nat) (l : Array Bool) (t : Array Value),
    skipsOk md ops is ds l t = true → wpAnyH P md ops Q S fuel (marks is l) ⟨puts ds t, df⟩ w → wpAnyH P md ops Q S (fuel + is.length) l ⟨t, df⟩ w := by
  intro is
  induction is with
  | nil =>
    intro ds fuel l t hok h
    cases ds with
    | nil => exact h
    | cons d ds => cases hok
  | cons i is ih =>
    intro ds fuel l t hok h
    cases ds with
    | nil => cases hok
    | cons d ds =>
      rw [skipsOk, Bool.and_eq_true] at hok
      obtain ⟨h1, h2⟩ := hok
      cases ho : ops[i]? with
      | none => rw [ho] at h1; cases h1
      | some o =>
        rw [ho] at h1
        simp only [Bool.and_eq_true, decide_eq_true_eq, Bool.not_eq_true'] at h1
        obtain ⟨⟨⟨g1, g2⟩, g3⟩, g4⟩ := h1
        refine wpAnyH_take (fuel := fuel + is.length) ho hs g2 g3 (by rw [g1]; exact fun c a w => hQ c a _ _ w) (Or.inr ⟨g4, rfl⟩) hS ?_
        rw [g1]
        exact ih ds fuel _ _ h2 h
theorem skips_of (is ds : List Nat) {fuel fuel' : Nat} {l : Array Bool} {t : Array Value} {df} {w : World} (hs : Region.noSelect ops = true) (hQ : ∀ c (a : Act) d v w, Q (.panic c) (a.put (some d) v) w → Q (.panic c) a w) (hS : S w)
    (hf : fuel = fuel' + is.length) (hok : skipsOk md ops is ds l t = true) (h : wpAnyH P md ops Q S fuel' (marks is l) ⟨puts ds t, df⟩ w) : wpAnyH P md ops Q S fuel l ⟨t, df⟩ w := by
  subst hf
  exact skips hs hQ hS is ds fuel' l t hok h
end
end Rg
end Go.Proofs.YtajbchecjbddgaaGreatDoor

/- Rows of the call's own: what is read, and what is stored. No program in sight. -/
namespace Go.Proofs.YtajbchecjbddgaaGreatDoor
open Go.RowKit

section
variable {w w' : World} {base size n : Nat} {e : TypeId} {v : Value} {xs : List Value}
theorem own_open (h : w.ownsRow base e size v n xs) (hn : 0 < n) : ∃ g cap, v = .slice (some ⟨g, 0, none⟩) n cap ∧ base ≤ g ∧ g < w.heap.size ∧ n ≤ cap ∧ (∀ j u, xs[j]? = some u → w.cell? ⟨g, j, none⟩ = some u) ∧ ∀ j, w.frozen? ⟨g, j, none⟩ = false := by
  rcases h.2 with ⟨rfl, h0⟩ | ⟨g, cap, cur, rfl, hg, hh, hnc, hc, hs, hx⟩
  · omega
  · refine ⟨g, cap, rfl, hg, lt_of_block hh, hnc, fun j u hj => ?_, fun j => ?_⟩
    · rw [cell_of_row _ _ _ cur e (0, 0) hh]
      subst hx
      rw [List.getElem?_take] at hj
      split at hj
      · simpa using hj
      · cases hj
    · simp [World.frozen?, hh]
theorem own_set {g cap : Nat} (h : w.ownsRow base e size (.slice (some ⟨g, 0, none⟩) n cap) n xs) (j : Nat) (u : Value) : (w.setCell ⟨g, j, none⟩ u).ownsRow base e size (.slice (some ⟨g, 0, none⟩) n cap) n (xs.set j u) := by
  refine ⟨by rw [List.length_set]; exact h.1, ?_⟩
  rcases h.2 with ⟨he, _⟩ | ⟨g', cap', cur, he, hg, hh, hnc, hc, hs, hx⟩
  · cases he
  · injection he with e1 e2 e3
    injection e1 with e1
    injection e1 with e1 e4
    subst e1 e3
    refine .inr ⟨g, cap, cur.setIfInBounds j u, rfl, hg, ?_, hnc, hc, by simpa using hs, ?_⟩
    · simp [World.setCell, Array.getElem?_modify, hh]
    · rw [Array.toList_setIfInBounds, List.take_set, hx]
theorem own_below_set {g : Nat} {B : Nat} {w0 : World} (hb : Below B w0 w) (hB : B ≤ g) (j : Nat) (u : Value) : Below B w0 (w.setCell ⟨g, j, none⟩ u) := hb.setCell (p := ⟨g, j, none⟩) hB u
theorem set_size (a : Addr) (u : Value) : (w.setCell a u).heap.size = w.heap.size := by simp [World.setCell]
end
/-- An empty literal. -/
theorem own_empty (w : World) (e : TypeId) (size base : Nat) (hb : base ≤ w.heap.size) : (w.alloc (.cells #[] e)).ownsRow base e size (.slice (some ⟨w.heap.size, 0, none⟩) 0 0) 0 [] :=
  ⟨by simp, .inr ⟨w.heap.size, 0, #[], rfl, hb, heap_alloc_last w _, Nat.le_refl _, by simp [maxLen], by simp, by simp⟩⟩
/-- A flat list of equal parts, one cell of one part set. -/
theorem flat_set {α : Type} (g : α → List Value) (m : Nat) (hg : ∀ a, (g a).length = m) (u : Value) : ∀ (l : List α) (q j : Nat) (a b : α), j < m → l[q]? = some a → (g a).set j u = g b → (l.flatMap g).set (q * m + j) u = (l.set q b).flatMap g
  | [], q, j, a, b, _, h, _ => by simp at h
  | c :: l, 0, j, a, b, hj, h, hs => by
    simp only [List.getElem?_cons_zero, Option.some.injEq] at h
    subst h
    rw [List.flatMap_cons, List.set_cons_zero, List.flatMap_cons, Nat.zero_mul, Nat.zero_add, List.set_append_left _ _ (by rw [hg]; exact hj), hs]
  | c :: l, q + 1, j, a, b, hj, h, hs => by
    rw [List.getElem?_cons_succ] at h
    rw [List.flatMap_cons, List.set_cons_succ, List.flatMap_cons, List.set_append_right _ _ (by rw [hg, Nat.succ_mul]; omega), hg, show (q + 1) * m + j - m = q * m + j by rw [Nat.succ_mul]; omega, flat_set g m hg u l q j a b hj h hs]
end Go.Proofs.YtajbchecjbddgaaGreatDoor

/- A whole row stored into, and loaded out of, a block that is known whole; results of which one lies in a block. -/
namespace Go.Proofs.YtajbchecjbddgaaGreatDoor
open Go.RowKit

theorem setRow_below (w : World) (g : Nat) (cs : Array Value) : Below g w (w.setRow g cs) :=
  ⟨rfl, rfl, rfl, by simp [World.setRow], fun k hk => setRow_other w g k cs (by omega)⟩
theorem setRow_size (w : World) (g : Nat) (cs : Array Value) : (w.setRow g cs).heap.size = w.heap.size := by simp [World.setRow]

section
variable {P : Program}

theorem wpList_store_blk {ops : Array Oper} {rest : List Oper} {o : Oper} {a : Act} {w : World} {Q : Exit → Act → World → Prop} (hgd : o.guard = none)
    (ty t : TypeId) (x y : Operand) (ho : o.op = .store ty x y) (g : Nat) (hx : a.eval x = .pointer (some ⟨g, 0, none⟩)) (cs : Array Value) (hy : a.eval y = .agg cs)
    (old : Array Value) (hg : w.heap[g]? = some (.cells old t (0, 0))) (hi : (P.info? ty).map (·.size) = some cs.size) (hs : old.size = cs.size) (h1 : cs.all (·.oneCell') = true)
    (h : ∀ w', w'.heap[g]? = some (.cells cs t (0, 0)) → (∀ k, k ≠ g → w'.heap[k]? = w.heap[k]?) → w'.heap.size = w.heap.size → Below g w w' → wpList P ops Q rest (a.put o.dst undef) w') :
    wpList P ops Q (o :: rest) a w :=
  wpList_plain hgd fun _ hK => by
    unfold Oper.wp execOp
    simp only [ho, hx, hy, Instr.storeAt, Instr.sureAddr, Sem.run_bind, Sem.run_pure, Result.andThen_ok, run_storeVar_row w g t ty old cs hg hi hs h1]
    exact hK _ _ (h _ (setRow_heap w g old cs t _ hg) (fun k hk => setRow_other w g k cs hk) (setRow_size _ _ _) (setRow_below _ _ _))

theorem wpList_load_blk {ops : Array Oper} {rest : List Oper} {o : Oper} {a : Act} {w : World} {Q : Exit → Act → World → Prop} (hgd : o.guard = none)
    (ty t : TypeId) (x : Operand) (ho : o.op = .load ty x) (g : Nat) (hx : a.eval x = .pointer (some ⟨g, 0, none⟩)) (cs : Array Value) (fr : Nat × Nat) (hg : w.heap[g]? = some (.cells cs t fr))
    (d : TypeDesc) (hu : P.underlying ty = some d) (hd : (match d with | .struct _ | .array _ _ => true | _ => false) = true) (hi : (P.info? ty).map (·.size) = some cs.size)
    (h : wpList P ops Q rest (a.put o.dst (.agg cs)) w) : wpList P ops Q (o :: rest) a w :=
  wpList_load_row hgd ty x ho g hx t cs fr d hg hu hd hi h

/-- One result, in a block that is known whole. -/
theorem results_cell_one {fn : Func} {p : Tmp} {ty : TypeId} (h : fn.results = #[.cell p ty]) (tmps : Array Value) (w : World) (g : Nat) (te : TypeId) (cs : Array Value) (fr : Nat × Nat) (d : TypeDesc)
    (hp : tmps.getD p undef = .pointer (some ⟨g, 0, none⟩)) (hg : w.heap[g]? = some (.cells cs te fr))
    (hu : P.underlying ty = some d) (hd : (match d with | .struct _ | .array _ _ => true | _ => false) = true) (hi : (P.info? ty).map (·.size) = some cs.size) :
    (results fn tmps).run P w = .ok (.agg cs) w := by
  have hp' : tmps[p]?.getD undef = .pointer (some ⟨g, 0, none⟩) := by simpa using hp
  simp [results, h, hp', asAddr, run_loadVar_row w g te ty cs fr d hg hu hd hi]
/-- Two results, the first in a block that is known whole. -/
theorem results_cell_tmp {fn : Func} {p t : Tmp} {ty : TypeId} (h : fn.results = #[.cell p ty, .tmp t]) (tmps : Array Value) (w : World) (g : Nat) (te : TypeId) (cs : Array Value) (fr : Nat × Nat) (d : TypeDesc)
    (hp : tmps.getD p undef = .pointer (some ⟨g, 0, none⟩)) (hg : w.heap[g]? = some (.cells cs te fr))
    (hu : P.underlying ty = some d) (hd : (match d with | .struct _ | .array _ _ => true | _ => false) = true) (hi : (P.info? ty).map (·.size) = some cs.size) :
    (results fn tmps).run P w = .ok (.tuple #[.agg cs, tmps.getD t undef]) w := by
  have hp' : tmps[p]?.getD undef = .pointer (some ⟨g, 0, none⟩) := by simpa using hp
  simp [results, h, hp', asAddr, run_loadVar_row w g te ty cs fr d hg hu hd hi]
/-- Three results, the first in a block. -/
theorem results_cell_tmp2 {fn : Func} {p t u : Tmp} {ty : TypeId} (h : fn.results = #[.cell p ty, .tmp t, .tmp u]) (tmps : Array Value) (w : World) (g : Nat) (te : TypeId) (cs : Array Value) (fr : Nat × Nat) (d : TypeDesc)
    (hp : tmps.getD p undef = .pointer (some ⟨g, 0, none⟩)) (hg : w.heap[g]? = some (.cells cs te fr))
    (hu : P.underlying ty = some d) (hd : (match d with | .struct _ | .array _ _ => true | _ => false) = true) (hi : (P.info? ty).map (·.size) = some cs.size) :
    (results fn tmps).run P w = .ok (.tuple #[.agg cs, tmps.getD t undef, tmps.getD u undef]) w := by
  have hp' : tmps[p]?.getD undef = .pointer (some ⟨g, 0, none⟩) := by simpa using hp
  simp [results, h, hp', asAddr, run_loadVar_row w g te ty cs fr d hg hu hd hi]
end
end Go.Proofs.YtajbchecjbddgaaGreatDoor

/- Common words: rows of the call's own, strings, worlds; no chapter's own. -/
namespace Go.Proofs.YtajbchecjbddgaaGreatDoor
open Go.RowKit

theorem _root_.Go.Proofs.YtajbchecjbddgaaGreatDoor.Sl.new (w : World) {size : Nat} {xs : List Value} (cs : Array Value) (t : TypeId) (n k : Nat) (hk : k = w.heap.size) (hs : cs.size = n * size) (hx : xs = cs.toList) :
    Sl (w.alloc (.cells cs t)) (w.alloc (.cells cs t)).heap.size size (.slice (some ⟨k, 0, none⟩) n n) xs := by subst hk; subst hx; exact Sl.lit w cs t n hs (by simp)
namespace PC
theorem name_of {α : Type} (a : α) : ∃ x, a = x := ⟨a, rfl⟩
theorem blk_next {w w' : World} {g : Nat} {o : Obj} (h : w.heap[g]? = some o) (hb : Below w.heap.size w w') : w'.heap[g]? = some o := (hb.block _ (lt_of_block h)).trans h
theorem below_drew' {w : World} : Below w.heap.size w w.drew := ⟨rfl, rfl, rfl, Nat.le_refl _, fun _ _ => rfl⟩
theorem below_drewn {w : World} (n : Nat) : Below w.heap.size w (w.drewN n) := below_drewN (Below.refl _ _) n
theorem own_below {w w' : World} {base e size n : Nat} {v : Value} {xs : List Value} (h : w.ownsRow base e size v n xs) (hb : Below w.heap.size w w') : w'.ownsRow base e size v n xs :=
  h.kept (row := none) ⟨hb.os, hb.tape, hb.output, hb.size, fun k hk _ => hb.block k hk⟩ (by
    rcases h.2 with ⟨rfl, _⟩ | ⟨g, cap, cur, rfl, _⟩
    · exact .inl rfl
    · right; simp [Value.ownBlock])
theorem own_len {w : World} {base e size n m : Nat} {v : Value} {xs ys : List Value} (h : w.ownsRow base e size v n xs) (hn : n = m) (hx : xs = ys) : w.ownsRow base e size v m ys := by subst hn; subst hx; exact h

theorem grown_of_below {w w' : World} (hb : Below w.heap.size w w') : w.grownBy w' none := ⟨hb.os, hb.tape, hb.output, hb.size, fun k hk _ => hb.block k hk⟩
theorem own_slice {w : World} {base e size n : Nat} {v : Value} {xs : List Value} (h : w.ownsRow base e size v n xs) : ∃ A m c, v = .slice A m c := by
  rcases h.2 with ⟨rfl, _⟩ | ⟨g, cap, cur, rfl, _⟩ <;> exact ⟨_, _, _, rfl⟩
theorem own_one {w : World} {base e size n : Nat} {v : Value} {xs : List Value} (h : w.ownsRow base e size v n xs) : v.oneCell' = true := by
  rcases h.2 with ⟨rfl, _⟩ | ⟨g, cap, cur, rfl, _⟩ <;> rfl
theorem own_mono {w : World} {base B e size n : Nat} {v : Value} {xs : List Value} (h : w.ownsRow base e size v n xs) (hb : B ≤ base) : w.ownsRow B e size v n xs :=
  ⟨h.1, h.2.imp id fun ⟨g, cap, cur, a, b, c⟩ => ⟨g, cap, cur, a, Nat.le_trans hb b, c⟩⟩
theorem own_kept {w w' : World} {B e size n : Nat} {x : Value} {xs : List Value} {row : Option Nat} (h : w.ownsRow B e size x n xs) (hg : w.grownBy w' row) (hr : ∀ g, row = some g → ∃ cs t fr, w.heap[g]? = some (.cells cs t fr) ∧ e ≠ t) : w'.ownsRow B e size x n xs := by
  refine h.kept hg ?_
  rcases row with _ | g
  · cases hx : x.ownBlock
    · exact .inl rfl
    · exact .inr (by simp)
  · obtain ⟨cs, t, fr, hh, hne⟩ := hr g rfl
    exact .inr fun e => own_ne h hh hne e.symm

/-- Rows of numbers. -/
def iv (l : List Nat) : List Value := l.map fun k => Value.int .i64 (k : Nat)
@[simp] theorem iv_length (l : List Nat) : (iv l).length = l.length := by simp [iv]
theorem iv_append (l m : List Nat) : iv (l ++ m) = iv l ++ iv m := by simp [iv]
theorem iv_one (l : List Nat) : ∀ u ∈ iv l, u.oneCell' = true := by
  intro u hu
  obtain ⟨x, _, rfl⟩ := List.mem_map.1 hu
  rfl
theorem range_iv {w : World} {b off : Nat} {l : List Nat} (h : w.rangeAt b off (iv l)) (j : Nat) (hj : j < l.length) : w.cell? ⟨b, off + j, none⟩ = some (.int .i64 (l.getD j 0 : Nat)) := by
  refine h j _ ?_
  simp [iv, List.getD_eq_getElem?_getD, List.getElem?_eq_getElem hj]
theorem info_int : (Tryz.prog.info? 3).map (fun i => (i.zero, i.size, i.bytes)) = some (some (.int .i64 0), 1, 8) := by kernel_rfl

/-! ### strings -/
theorem str_inj {s t : ByteArray} (h : s.toList = t.toList) : s = t := by
  rw [ByteArray.toList_eq, ByteArray.toList_eq] at h
  have := Array.toList_inj.1 h
  obtain ⟨d⟩ := s
  obtain ⟨d'⟩ := t
  simp only at this
  rw [this]
theorem str_beq (s : ByteArray) : (s.toList == s.toList) = true := beq_iff_eq.2 rfl
theorem str_bne {s t : ByteArray} (h : s ≠ t) : (s.toList == t.toList) = false := by
  rw [beq_eq_false_iff_ne]
  exact fun e => h (str_inj e)
theorem str_dec (s t : ByteArray) : (s.toList == t.toList) = decide (s = t) := by
  by_cases h : s = t
  · rw [h, str_beq, decide_eq_true rfl]
  · rw [str_bne h, decide_eq_false h]
theorem bs_append (l m : List UInt8) : (⟨l.toArray⟩ : ByteArray) ++ ⟨m.toArray⟩ = ⟨(l ++ m).toArray⟩ := by
  apply ByteArray.ext
  simp
theorem bs_list (s : ByteArray) : (⟨s.data.toList.toArray⟩ : ByteArray) = s := rfl
theorem bs_inj {l m : List UInt8} (h : (⟨l.toArray⟩ : ByteArray) = ⟨m.toArray⟩) : l = m := by
  injection h with h
  simpa using h
theorem str_nil {c : ByteArray} (h : c.size = 0) : c.data.toList = [] := List.eq_nil_of_length_eq_zero (by simpa using h)
theorem str_empty' {c : ByteArray} (h : c.size = 0) : c.toList = [] := by rw [ByteArray.toList_eq, str_nil h]
theorem str_empty {c : ByteArray} (h : c.size = 0) : (!c.toList.isEmpty) = false := by rw [str_empty' h]; rfl
theorem str_full' {c : ByteArray} (h : ¬ c.size = 0) : c.toList.isEmpty = false := by
  rw [ByteArray.toList_eq]
  cases hl : c.data.toList with
  | nil => exact absurd (by have : c.data.toList.length = 0 := by rw [hl]; rfl
                            simpa using this) h
  | cons => rfl
theorem str_full {c : ByteArray} (h : ¬ c.size = 0) : (!c.toList.isEmpty) = true := by rw [str_full' h]; rfl
end PC
end Go.Proofs.YtajbchecjbddgaaGreatDoor

/- A store of one cell into a place that is known: what it leaves; no chapter's own. -/
namespace Go.Proofs.YtajbchecjbddgaaGreatDoor
open Go.RowKit
namespace PC
section
variable {P : Program}
theorem run_storeVar_cell (w : World) (b o : Nat) (ty : TypeId) (v : Value) (hc : (w.cell? ⟨b, o, none⟩).isSome = true) (hf : w.frozen? ⟨b, o, none⟩ = false) (hi : (P.info? ty).map (·.size) = some 1)
    (h1 : v.oneCell' = true) : (storeVar ty ⟨b, o, none⟩ v).run P w = .ok () (w.setCell ⟨b, o, none⟩ v) := by
  have := run_storeCells_cells (P := P) b o [v] 0 w (fun j hj => by
    have : j = 0 := by simpa using hj
    subst this
    exact hc) (fun j hj => by
    have : j = 0 := by simpa using hj
    subst this
    exact hf) (fun x hx => by simp at hx; subst hx; exact h1)
  have hcs : v.cells = #[v] := by cases v <;> first | rfl | cases h1
  cases hq : P.info? ty with
  | none => simp [hq] at hi
  | some i =>
    have hs : i.size = 1 := by simpa [hq] using hi
    simp only [Nat.add_zero] at this
    simp [storeVar, sizeOf, typeInfo, hq, hcs, hs, this, World.setCells]
theorem wpList_store_cell {ops : Array Oper} {rest : List Oper} {o : Oper} {a : Act} {w : World} {Q : Exit → Act → World → Prop} (hgd : o.guard = none)
    (ty : TypeId) (x y : Operand) (ho : o.op = .store ty x y) (g j : Nat) (hx : a.eval x = .pointer (some ⟨g, j, none⟩)) (v : Value) (hy : a.eval y = v)
    (cs : Array Value) (t : TypeId) (hg : w.heap[g]? = some (.cells cs t (0, 0))) (hj : j < cs.size) (hi : (P.info? ty).map (·.size) = some 1) (h1 : v.oneCell' = true)
    (h : ∀ w', w'.heap[g]? = some (.cells (cs.setIfInBounds j v) t (0, 0)) → (∀ k, k ≠ g → w'.heap[k]? = w.heap[k]?) → w'.heap.size = w.heap.size → Below g w w' → wpList P ops Q rest (a.put o.dst undef) w') :
    wpList P ops Q (o :: rest) a w :=
  wpList_plain hgd fun _ hK => by
    have hc := cell_of_row w g j cs t (0, 0) hg
    have hb := (Below.refl g w).setCell (p := ⟨g, j, none⟩) (Nat.le_refl _) v
    unfold Oper.wp execOp
    simp only [ho, hx, hy, Instr.storeAt, Instr.sureAddr, Sem.run_bind, Sem.run_pure, Result.andThen_ok, run_storeVar_cell w g j ty v (by rw [hc]; simp [hj]) (by simp [World.frozen?, hg]) hi h1]
    exact hK _ _ (h _ (by simp [World.setCell, Array.getElem?_modify, hg]) (fun k hk => Below.heap_setCell w ⟨g, j, none⟩ v k hk) (by simp [World.setCell]) hb)
end
end PC
end Go.Proofs.YtajbchecjbddgaaGreatDoor
