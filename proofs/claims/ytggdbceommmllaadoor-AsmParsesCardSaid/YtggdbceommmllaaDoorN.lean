/- append onto a row of the call's own, the source any slice that reads as cells (nil, empty or not); blocks that another append leaves alone; flat lists of equal parts. -/
import Derived.Test.YtggdbceommmllaaDoorM
import Derived.Maps.AppendAt
import Derived.Deep.AppendLies
import Derived.Lib.Hide
namespace Go.Proofs.YtggdbceommmllaaDoor
open Go.RowKit

section
variable {P : Program}

theorem append_nil_src (w : World) (base : Nat) (t ty e : TypeId) (i : TypeInfo) (size : Nat) (ht : P.underlying t = some (.slice e)) (hi : P.info? e = some i)
    (v : Value) (n : Nat) (xs : List Value) (hown : w.ownsRow base e size v n xs) (c : Nat) : (Builtin.append_ #[t, t] ty #[v, .slice none 0 c]).run P w = .ok v w := by
  rcases hown.2 with ⟨rfl, rfl⟩ | ⟨g, cap, cur, rfl, _, _, hnc, _⟩
  · simp [Builtin.append_, run_underlying ht, sizeOf, typeInfo, hi, Builtin.lenOf, Builtin.firstCells]
  · simp [Builtin.append_, run_underlying ht, sizeOf, typeInfo, hi, Builtin.lenOf, Builtin.firstCells, hnc, storeCells]

theorem wpList_append_sl {ops : Array Oper} {rest : List Oper} {o : Oper} {a : Act} {w : World} {Q : Exit → Act → World → Prop} (hgd : o.guard = none) (s x : Operand) (t : TypeId)
    (ho : o.op = .call { callee := .builtin .append, args := #[s, x], argTypes := #[t, t] })
    (base : Nat) (e : TypeId) (z : Value) (size bytes : Nat) (ht : P.underlying t = some (.slice e)) (hinfo : (P.info? e).map (fun i => (i.zero, i.size, i.bytes)) = some (some z, size, bytes))
    (hzs : z.cells.size = size) (hsz : 0 < size)
    (v : Value) (n : Nat) (xs : List Value) (hs : a.eval s = v) (hown : w.ownsRow base e size v n xs)
    (B m : Nat) (sv : Value) (ys : List Value) (hx : a.eval x = sv) (hr : Sl w B size sv ys) (hm : ys.length = m * size) (h1 : ∀ u ∈ ys, u.oneCell' = true)
    (h63 : n + m ≤ 1099511627776) (hbytes : (n + m) * bytes ≤ 140737488355328) (hbase : base ≤ w.heap.size)
    (h : ∀ v' w', w'.ownsRow base e size v' (n + m) (xs ++ ys) → w.grownBy w' v.ownBlock → (v'.ownBlock = v.ownBlock ∨ v'.ownBlock = some w.heap.size) → wpList P ops Q rest (a.put o.dst v') w') :
    wpList P ops Q (o :: rest) a w := by
  obtain ⟨i, hi, hz, hz1, hz2⟩ := info_parts hinfo
  obtain ⟨A, k, c, rfl, hkc, hk, hA⟩ := hr
  have hmk : m = k := by
    have : m * size = k * size := by omega
    exact Nat.eq_of_mul_eq_mul_right hsz this
  subst hmk
  rcases Nat.eq_zero_or_pos m with h0 | h0
  · subst h0
    have hy : ys = [] := List.eq_nil_of_length_eq_zero (by simpa using hm)
    subst hy
    rcases A with _ | ad
    · refine wpList_plain hgd fun K hK => ?_
      have hrun := append_nil_src (P := P) w base t o.type e i size ht hi v n xs hown c
      unfold Oper.wp execOp
      simp only [ho, resolve, invoke, builtin, Sem.run_bind, Sem.run_pure, Result.andThen_ok, List.map_toArray, List.map_cons, List.map_nil, hs, hx, hrun]
      exact hK _ _ (h v w (by simpa using hown) (World.grownBy.refl w _) (.inl rfl))
    · refine wpList_append_own_at w hgd s x t ho base e i z size bytes ht hi hz hz1 hz2 hzs hsz v n xs hs hown ad 0 c [] hx (by simp) (fun j u hj => by simp at hj) h1 (by simp only [maxLen]; omega) hbytes hbase ?_
      exact fun v' w' a1 a2 _ a4 => h v' w' a1 a2 a4
  · obtain ⟨b, off, rfl, _, hc⟩ := hA h0
    refine wpList_append_own_at w hgd s x t ho base e i z size bytes ht hi hz hz1 hz2 hzs hsz v n xs hs hown ⟨b, off, none⟩ m c ys hx hm (fun j u hj => by rw [Addr.add_mid]; exact hc j u hj) h1 (by simp only [maxLen]; omega) hbytes hbase ?_
    exact fun v' w' a1 a2 _ a4 => h v' w' a1 a2 a4
end

/-- A block of another element type is not the row. -/
theorem own_ne {w : World} {base e size n g : Nat} {v : Value} {xs : List Value} {cs : Array Value} {t : TypeId} {fr : Nat × Nat} (h : w.ownsRow base e size v n xs) (hg : w.heap[g]? = some (.cells cs t fr)) (hne : e ≠ t) : some g ≠ v.ownBlock := by
  rcases h.2 with ⟨rfl, _⟩ | ⟨g', cap, cur, rfl, _, hh, _⟩
  · simp [Value.ownBlock]
  · intro he
    have : g' = g := by simpa [Value.ownBlock] using he.symm
    subst this
    rw [hh] at hg
    injection hg with hg
    injection hg with _ ht
    exact hne ht
theorem grown_block {w w' : World} {row : Option Nat} {g : Nat} {o : Obj} (hg : w.grownBy w' row) (h : w.heap[g]? = some o) (hne : some g ≠ row) : w'.heap[g]? = some o :=
  (hg.block g (lt_of_block h) hne).trans h
/-- Behind an append onto a row of the call's own: nothing below 'base' has turned. -/
theorem below_append {w0 w w' : World} {base e size n : Nat} {v : Value} {xs : List Value} (hb : Below w0.heap.size w0 w) (h : w.ownsRow base e size v n xs) (hg : w.grownBy w' v.ownBlock) (hbase : w0.heap.size ≤ base) : Below w0.heap.size w0 w' :=
  hb.grown hg hb.size fun k hk => by have := (h.lt k hk).1; omega

/-- A flat list of equal parts, at a place. -/
theorem flat_get {α β : Type} (g : α → List β) (m : Nat) (hg : ∀ a, (g a).length = m) : ∀ (l : List α) (k j : Nat), j < m → (l.flatMap g)[k * m + j]? = (l[k]?).bind fun a => (g a)[j]?
  | [], k, j, hj => by simp
  | a :: l, 0, j, hj => by simp [List.getElem?_append_left (by rw [hg]; exact hj : j < (g a).length)]
  | a :: l, k + 1, j, hj => by
    have := flat_get g m hg l k j hj
    rw [List.flatMap_cons, List.getElem?_append_right (by rw [hg, Nat.succ_mul]; omega), hg, show (k + 1) * m + j - m = k * m + j by rw [Nat.succ_mul]; omega, this]
    simp
theorem flat_length {α β : Type} (g : α → List β) (m : Nat) (hg : ∀ a, (g a).length = m) (l : List α) : (l.flatMap g).length = l.length * m := by
  induction l with
  | nil => simp
  | cons a l ih => rw [List.flatMap_cons, List.length_append, hg, ih, List.length_cons, Nat.succ_mul, Nat.add_comm]

end Go.Proofs.YtggdbceommmllaaDoor
