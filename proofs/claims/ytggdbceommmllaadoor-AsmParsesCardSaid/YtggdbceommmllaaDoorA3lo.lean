/- Asm: operands, the words for it. -/
import Derived.Test.YtggdbceommmllaaDoorA3k
namespace Go.Proofs.YtggdbceommmllaaDoor
open Go.RowKit
namespace P3
open P2 PC NumL CutL

/-! ### Plain -/
def cntTo (op : Nat) : Nat → Nat
  | 0 => 0
  | k + 1 => cntTo op k + if form op k = 0 then 0 else 1
theorem cntF_to {op : Nat} (h : op ≤ 16) : countF op = cntTo op 4 := by
  have hall : ∀ o, o < 17 → countF o = cntTo o 4 := by decide
  exact hall op (by omega)
theorem cntTo_le (op : Nat) : ∀ k, cntTo op k ≤ k
  | 0 => Nat.le_refl _
  | k + 1 => by have := cntTo_le op k; unfold cntTo; split <;> omega
theorem cntTo_mono (op : Nat) {j : Nat} : ∀ k, j ≤ k → cntTo op j ≤ cntTo op k
  | 0, h => by rw [Nat.le_zero.1 h]; exact Nat.le_refl _
  | k + 1, h => by
    rcases Nat.lt_or_ge k j with h1 | h1
    · rw [show j = k + 1 by omega]; exact Nat.le_refl _
    · have := cntTo_mono op k h1; rw [cntTo]; omega
theorem opsR_at {op k : Nat} (hk : k < 4) (ws : List (List UInt8)) (i : Ins) : opsR op ([0, 1, 2, 3].drop k) ws i = (if form op k = 0 then opsR op ([0, 1, 2, 3].drop (k + 1)) ws i else match readF (form op k) (ws.headD []) with
    | none => .inl 11
    | some v => if inR (kind op k) v = true then opsR op ([0, 1, 2, 3].drop (k + 1)) ws.tail (setF i k v) else .inl 10) := by
  have h : k = 0 ∨ k = 1 ∨ k = 2 ∨ k = 3 := by omega
  rcases h with rfl | rfl | rfl | rfl <;> rfl
theorem opsR_end (op : Nat) (ws : List (List UInt8)) (i : Ins) : opsR op ([0, 1, 2, 3].drop 4) ws i = .inr i := rfl
theorem chk_set {i : Ins} {op k : Nat} (h : chk i = 0) (ho : i.1 = op) (hk : k < 4) (v : Int) : chk (setF i k v) = if inR (kind op k) v = true then 0 else 10 := by
  obtain ⟨h1, h2⟩ := chk_zero h
  rw [ho] at h1
  have b0 : inR (kind op 0) i.2.1 = true := by rw [← ho]; exact h2 0 (by omega)
  have b1 : inR (kind op 1) i.2.2.1 = true := by rw [← ho]; exact h2 1 (by omega)
  have b2 : inR (kind op 2) i.2.2.2.1 = true := by rw [← ho]; exact h2 2 (by omega)
  have b3 : inR (kind op 3) i.2.2.2.2 = true := by rw [← ho]; exact h2 3 (by omega)
  have hc : k = 0 ∨ k = 1 ∨ k = 2 ∨ k = 3 := by omega
  rcases hc with rfl | rfl | rfl | rfl <;> simp [setF, chk, fits, ho, h1, b0, b1, b2, b3]
theorem chk_start {op : Nat} (h : op ≤ 16) : chk ((op : Int), 0, 0, 0, 0) = 0 := by
  have hall : ∀ o : Nat, o < 17 → chk ((o : Int), 0, 0, 0, 0) = 0 := by decide
  exact hall op (by omega)
theorem setF_op (i : Ins) (k : Nat) (v : Int) : (setF i k v).1 = i.1 := by unfold setF; split <;> rfl
/-- The cells of an instruction. -/
def insC (i : Ins) : Array Value := #[.int .i64 i.1, .int .i64 i.2.1, .int .i64 i.2.2.1, .int .i64 i.2.2.2.1, .int .i64 i.2.2.2.2]
theorem insC_set {k : Nat} (hk : k < 4) (i : Ins) (v : Int) : (insC i).setIfInBounds (1 + k) (.int .i64 v) = insC (setF i k v) := by
  have h : k = 0 ∨ k = 1 ∨ k = 2 ∨ k = 3 := by omega
  rcases h with rfl | rfl | rfl | rfl <;> rfl
theorem insC_at {k : Nat} (hk : k < 4) (i : Ins) : (insC i)[1 + k]? = some (.int .i64 (fl i k)) := by
  have h : k = 0 ∨ k = 1 ∨ k = 2 ∨ k = 3 := by omega
  rcases h with rfl | rfl | rfl | rfl <;> rfl
/-- What a reading of an instruction returns. -/
def resI : Int ⊕ Ins → Value
  | .inl c => .tuple #[insV (0, 0, 0, 0, 0), .int .i64 c]
  | .inr i => .tuple #[insV i, .int .i64 0]
def InsPost (r : Int ⊕ Ins) (w : World) (e : Ending) (w' : World) : Prop := e = .returned (resI r) ∧ Below w.heap.size w w'
theorem ip_of {r : Int ⊕ Ins} {v : Value} {w w' : World} {e : Ending} (h : resI r = v) (he : e = .returned v) (hb : Below w.heap.size w w') : InsPost r w e w' := ⟨by rw [he, h], hb⟩
theorem idx_forms (op : Nat) {k : Nat} (hk : k < 4) (W : World) : (Instr.index 67 (.agg #[.int .u8 (form op 0 : Nat), .int .u8 (form op 1 : Nat), .int .u8 (form op 2 : Nat), .int .u8 (form op 3 : Nat)]) (.int .i64 k)).run Tryd.prog W = .ok (.int .u8 (form op k : Nat)) W := by
  have i0 : (Instr.index 67 (.agg #[.int .u8 (form op 0 : Nat), .int .u8 (form op 1 : Nat), .int .u8 (form op 2 : Nat), .int .u8 (form op 3 : Nat)]) (.int .i64 (0 : Nat))).run Tryd.prog W = .ok (.int .u8 (form op 0 : Nat)) W := by kernel_rfl
  have i1 : (Instr.index 67 (.agg #[.int .u8 (form op 0 : Nat), .int .u8 (form op 1 : Nat), .int .u8 (form op 2 : Nat), .int .u8 (form op 3 : Nat)]) (.int .i64 (1 : Nat))).run Tryd.prog W = .ok (.int .u8 (form op 1 : Nat)) W := by kernel_rfl
  have i2 : (Instr.index 67 (.agg #[.int .u8 (form op 0 : Nat), .int .u8 (form op 1 : Nat), .int .u8 (form op 2 : Nat), .int .u8 (form op 3 : Nat)]) (.int .i64 (2 : Nat))).run Tryd.prog W = .ok (.int .u8 (form op 2 : Nat)) W := by kernel_rfl
  have i3 : (Instr.index 67 (.agg #[.int .u8 (form op 0 : Nat), .int .u8 (form op 1 : Nat), .int .u8 (form op 2 : Nat), .int .u8 (form op 3 : Nat)]) (.int .i64 (3 : Nat))).run Tryd.prog W = .ok (.int .u8 (form op 3 : Nat)) W := by kernel_rfl
  have h : k = 0 ∨ k = 1 ∨ k = 2 ∨ k = 3 := by omega
  rcases h with rfl | rfl | rfl | rfl
  · exact i0
  · exact i1
  · exact i2
  · exact i3
theorem idx_ptr (B : Nat) {k : Nat} (hk : k < 4) (W : World) : (Instr.index 102 (.agg #[.pointer (some ⟨B, 1, none⟩), .pointer (some ⟨B, 2, none⟩), .pointer (some ⟨B, 3, none⟩), .pointer (some ⟨B, 4, none⟩)]) (.int .i64 k)).run Tryd.prog W = .ok (.pointer (some ⟨B, 1 + k, none⟩)) W := by
  have i0 : (Instr.index 102 (.agg #[.pointer (some ⟨B, 1, none⟩), .pointer (some ⟨B, 2, none⟩), .pointer (some ⟨B, 3, none⟩), .pointer (some ⟨B, 4, none⟩)]) (.int .i64 (0 : Nat))).run Tryd.prog W = .ok (.pointer (some ⟨B, 1 + 0, none⟩)) W := by kernel_rfl
  have i1 : (Instr.index 102 (.agg #[.pointer (some ⟨B, 1, none⟩), .pointer (some ⟨B, 2, none⟩), .pointer (some ⟨B, 3, none⟩), .pointer (some ⟨B, 4, none⟩)]) (.int .i64 (1 : Nat))).run Tryd.prog W = .ok (.pointer (some ⟨B, 1 + 1, none⟩)) W := by kernel_rfl
  have i2 : (Instr.index 102 (.agg #[.pointer (some ⟨B, 1, none⟩), .pointer (some ⟨B, 2, none⟩), .pointer (some ⟨B, 3, none⟩), .pointer (some ⟨B, 4, none⟩)]) (.int .i64 (2 : Nat))).run Tryd.prog W = .ok (.pointer (some ⟨B, 1 + 2, none⟩)) W := by kernel_rfl
  have i3 : (Instr.index 102 (.agg #[.pointer (some ⟨B, 1, none⟩), .pointer (some ⟨B, 2, none⟩), .pointer (some ⟨B, 3, none⟩), .pointer (some ⟨B, 4, none⟩)]) (.int .i64 (3 : Nat))).run Tryd.prog W = .ok (.pointer (some ⟨B, 1 + 3, none⟩)) W := by kernel_rfl
  have h : k = 0 ∨ k = 1 ∨ k = 2 ∨ k = 3 := by omega
  rcases h with rfl | rfl | rfl | rfl
  · exact i0
  · exact i1
  · exact i2
  · exact i3
theorem blk_set {w : World} {g j : Nat} {cs : Array Value} {t : TypeId} {fr : Nat × Nat} (h : w.heap[g]? = some (.cells cs t fr)) (u : Value) : (w.setCell ⟨g, j, none⟩ u).heap[g]? = some (.cells (cs.setIfInBounds j u) t fr) := by
  simp [World.setCell, Array.getElem?_modify, h]
theorem blk_set_other {w : World} {g k j : Nat} {o : Obj} (h : w.heap[k]? = some o) (hne : k ≠ g) (u : Value) : (w.setCell ⟨g, j, none⟩ u).heap[k]? = some o := by
  rw [← h]; exact Below.heap_setCell w ⟨g, j, none⟩ u k hne
theorem sl_tail {w : World} {B b off n c : Nat} {x : Value} {xs : List Value} (h : Sl w B 1 (.slice (some ⟨b, off, none⟩) (n + 1) c) (x :: xs)) : Sl w B 1 (.slice (some ⟨b, off + 1, none⟩) n (c - 1)) xs := by
  obtain ⟨A, m, c', he, hnc, hn, hA⟩ := h
  injection he with e1 e2 e3
  subst e1 e2 e3
  obtain ⟨b', off', e, hb, hr⟩ := hA (by omega)
  injection e with e
  injection e with e1 e2 _
  subst e1 e2
  refine ⟨_, n, c - 1, rfl, by omega, by simpa using hn, fun _ => ⟨b, off + 1, rfl, hb, fun j u hj => ?_⟩⟩
  have := hr (j + 1) u (by simpa using hj)
  rwa [show off + (j + 1) = off + 1 + j by omega] at this
theorem alloc_keep (w : World) (o : Obj) {k : Nat} (h : k < w.heap.size) : (w.alloc o).heap[k]? = w.heap[k]? := ((Below.refl w.heap.size w).alloc (Nat.le_refl _) o).block k h
theorem blk3 (w : World) (a b c : Obj) : (((w.alloc a).alloc b).alloc c).heap[w.heap.size]? = some a ∧ (((w.alloc a).alloc b).alloc c).heap[w.heap.size + 1]? = some b ∧ (((w.alloc a).alloc b).alloc c).heap[w.heap.size + 1 + 1]? = some c := by
  have h1 : (w.alloc a).heap.size = w.heap.size + 1 := by simp
  have h2 : ((w.alloc a).alloc b).heap.size = w.heap.size + 1 + 1 := by simp
  refine ⟨?_, ?_, ?_⟩
  · rw [alloc_keep _ _ (by omega), alloc_keep _ _ (by omega), heap_alloc_last]
  · rw [alloc_keep _ _ (by omega), ← h1, heap_alloc_last]
  · rw [← h2, heap_alloc_last]
theorem slice_tail (W : World) (b off m c : Nat) (hc : m + 1 ≤ c) : (Instr.slice 72 (.slice (some ⟨b, off, none⟩) (m + 1) c) (some (.int .i64 1)) none none).run Tryd.prog W = .ok (.slice (some ⟨b, if c = 1 then off else off + 1, none⟩) m (c - 1)) W := by
  obtain ⟨i, hi, hsz⟩ : ∃ i, Tryd.prog.info? 9 = some i ∧ i.size = 1 := by
    have h0 := info_str
    generalize Tryd.prog.info? 9 = o at h0
    cases o with
    | none => cases h0
    | some i =>
      simp only [Option.map_some, Option.some.injEq, Prod.mk.injEq] at h0
      exact ⟨i, rfl, h0.2.1⟩
  have h1 : (1 : Int) ≤ (m : Int) + 1 := by omega
  by_cases h : c = 1
  · subst h
    simp [Instr.slice, Instr.sliceBounds, Instr.sliceBound, run_underlying Tryd.underlying72, asIntOf, sizeOf, typeInfo, hi, h1]
  · simp [Instr.slice, Instr.sliceBounds, Instr.sliceBound, run_underlying Tryd.underlying72, asIntOf, sizeOf, typeInfo, hi, h1, h, hsz, Addr.add]
end P3
end Go.Proofs.YtggdbceommmllaaDoor
