/- Asm: Line. -/
import Derived.Test.YtggdbceommmllaaDoorA3e
import Derived.Deep.OwnRows
namespace Go.Proofs.YtggdbceommmllaaDoor
open Go.RowKit
namespace P3
open P2 PC NumL CutL

/-! ### plain -/
theorem joinC_len (c : UInt8) {m : Nat} : ∀ ws : List (List UInt8), (∀ w ∈ ws, w.length ≤ m) → (joinC c ws).length ≤ ws.length * (m + 1)
  | [], _ => by simp [joinC]
  | [x], h => by
    have := h x List.mem_cons_self
    rw [joinC, List.length_cons, List.length_nil]; omega
  | x :: y :: r, h => by
    have h1 := h x List.mem_cons_self
    have h2 := joinC_len c (y :: r) (fun w hw => h w (List.mem_cons_of_mem _ hw))
    rw [joinC, List.length_append, List.length_cons, List.length_cons (a := x), Nat.succ_mul]
    omega
theorem writeF_len (f : Nat) {x : Int} (h0 : -9223372036854775808 ≤ x) (h1 : x ≤ 9223372036854775807) : (writeF f x).length ≤ 22 := by
  have := Lib.itoa_length_le x h0 h1
  unfold writeF
  split
  · omega
  · rw [List.length_cons]; omega
def wTo (op : Nat) (i : Ins) (k : Nat) : List (List UInt8) := nameL op :: opersL op i (List.range k)
theorem wTo_succ (op : Nat) (i : Ins) (k : Nat) : wTo op i (k + 1) = wTo op i k ++ if form op k = 0 then [] else [writeF (form op k) (fl i k)] := by
  unfold wTo opersL
  rw [List.range_succ, List.flatMap_append, List.cons_append]
  simp
theorem wTo_len (op : Nat) (i : Ins) (k : Nat) : 1 ≤ (wTo op i k).length ∧ (wTo op i k).length ≤ k + 1 := by
  induction k with
  | zero => exact ⟨Nat.le_refl _, Nat.le_refl _⟩
  | succ k ih =>
    rw [wTo_succ, List.length_append]
    split
    · simp; omega
    · simp; omega
structure InsWf (i : Ins) : Prop where
  f : ∀ k, -9223372036854775808 ≤ fl i k ∧ fl i k ≤ 9223372036854775807
theorem wTo_words (op : Nat) {i : Ins} (hw : InsWf i) (k : Nat) : ∀ w ∈ wTo op i k, w.length ≤ 22 := by
  induction k with
  | zero =>
    intro w hm
    simp only [wTo, opersL, List.range_zero, List.flatMap_nil, List.mem_cons, List.not_mem_nil, or_false] at hm
    rw [hm]
    have := name_len op
    omega
  | succ k ih =>
    intro w hm
    rw [wTo_succ, List.mem_append] at hm
    rcases hm with h | h
    · exact ih w h
    · split at h
      · cases h
      · rw [List.mem_cons] at h
        rcases h with h | h
        · rw [h]; exact writeF_len _ (hw.f k).1 (hw.f k).2
        · cases h
theorem lineA_wTo {i : Ins} {op : Nat} (h : i.1 = op) : lineA i = joinC 32 (wTo op i 4) := by
  unfold lineA wordsL wTo
  rw [h, Int.toNat_natCast]
  rfl
theorem lineA_len {i : Ins} {op : Nat} (h : i.1 = op) (hw : InsWf i) : (lineA i).length ≤ 115 := by
  rw [lineA_wTo h]
  have h1 := joinC_len 32 (wTo op i 4) (wTo_words op hw 4)
  have h2 := (wTo_len op i 4).2
  have := Nat.mul_le_mul_right 23 h2
  omega
theorem inR_bd {k x : Int} (h : inR k x = true) : -2147483648 ≤ x ∧ x ≤ 2147483647 := by
  unfold inR at h
  have h := of_decide_eq_true h
  have h1 : -2147483648 ≤ lo k := by unfold lo; split <;> omega
  have h2 : hi k ≤ 2147483647 := by
    unfold hi
    split
    · omega
    · split
      · omega
      · split
        · omega
        · split
          · omega
          · split <;> omega
  omega
theorem chk_zero {i : Ins} (h : chk i = 0) : opOk i.1 = true ∧ ∀ k, k < 4 → inR (kind i.1 k) (fl i k) = true := by
  unfold chk at h
  split at h
  · cases h
  · rename_i h1
    split at h
    · rename_i h2
      unfold fits at h2
      simp only [Bool.and_eq_true] at h2
      obtain ⟨⟨⟨a, b⟩, c⟩, d⟩ := h2
      refine ⟨by simpa using h1, fun k hk => ?_⟩
      match k, hk with
      | 0, _ => exact a
      | 1, _ => exact b
      | 2, _ => exact c
      | 3, _ => exact d
    · cases h
theorem chk_wf {i : Ins} (h : chk i = 0) : InsWf i := by
  refine ⟨fun k => ?_⟩
  obtain ⟨_, h2⟩ := chk_zero h
  by_cases hk : k < 4
  · have := inR_bd (h2 k hk); omega
  · have h3 := inR_bd (h2 3 (by omega))
    have : fl i k = fl i 3 := by
      match k, hk with
      | k + 4, _ => rfl
    rw [this]; omega
theorem op_nat {i : Ins} (h : opOk i.1 = true) : ∃ op : Nat, i.1 = (op : Int) ∧ op ≤ 16 := by
  unfold opOk at h
  have h := of_decide_eq_true h
  exact ⟨i.1.toNat, by omega, by omega⟩

/-! ### words in memory -/
def wv (l : List (List UInt8)) : List Value := l.map fun x => .string ⟨x.toArray⟩
@[simp] theorem wv_length (l : List (List UInt8)) : (wv l).length = l.length := by simp [wv]
theorem wv_append (l m : List (List UInt8)) : wv (l ++ m) = wv l ++ wv m := by simp [wv]
theorem wv_one (l : List (List UInt8)) : ∀ u ∈ wv l, u.oneCell' = true := by
  intro u hu
  obtain ⟨x, _, rfl⟩ := List.mem_map.1 hu
  rfl
theorem info_str : (Tryd.prog.info? 9).map (fun i => (i.zero, i.size, i.bytes)) = some (some (.string ⟨#[]⟩), 1, 16) := by kernel_rfl
theorem idx_entry (op : Nat) (h : op ≤ 16) (W : World) : (Instr.index 70 (.agg tabE) (.int .i64 op)).run Tryd.prog W = .ok (.agg #[.string (nameS op), .int .u8 (form op 0 : Nat), .int .u8 (form op 1 : Nat), .int .u8 (form op 2 : Nat), .int .u8 (form op 3 : Nat)]) W := by
  rcases op_cases h with rfl | rfl | rfl | rfl | rfl | rfl | rfl | rfl | rfl | rfl | rfl | rfl | rfl | rfl | rfl | rfl | rfl <;> kernel_rfl
set_option maxHeartbeats 2000000 in
theorem join_any {w : World} {g c : Nat} {ws : List (List UInt8)} (hs : Sl w w.heap.size 1 (.slice (some ⟨g, 0, none⟩) ws.length c) (wv ws)) (h0 : ws ≠ []) (hl : ws.length ≤ 100000) (hj : (joinC 32 ws).length ≤ 1000000) :
    Calls Tryd.prog 26 #[.slice (some ⟨g, 0, none⟩) ws.length c] w fun e w' => e = .returned (.string ⟨(joinC 32 ws).toArray⟩) ∧ Below w.heap.size w w' := by
  obtain ⟨A, n, c', he, hnc, hn, hA⟩ := hs
  injection he with e1 e2 e3
  subst e1 e2 e3
  have hpos : 0 < ws.length := List.length_pos_iff.2 h0
  obtain ⟨b, off, e, hb, hr⟩ := hA hpos
  injection e with e
  injection e with e1 e2 _
  subst e1 e2
  have hJ := Tryd.strings_Join g 0 c (ws.map fun x => (⟨x.toArray⟩ : ByteArray)) ⟨#[32]⟩ w (fun j x hx => hr j _ (by
    unfold wv
    rw [List.getElem?_map] at hx ⊢
    cases hw : ws[j]? with
    | none => rw [hw] at hx; cases hx
    | some y => rw [hw] at hx; injection hx with hx; rw [← hx]; rfl)) hb (by simp; omega) (by simpa using hnc) (by
      rw [List.map_map, show ((fun s : ByteArray => s.data.toList) ∘ fun x : List UInt8 => (⟨x.toArray⟩ : ByteArray)) = id from rfl, List.map_id, show (⟨#[32]⟩ : ByteArray).data.toList = [32] from rfl, join_joinC]
      omega)
  rw [List.map_map, show ((fun s : ByteArray => s.data.toList) ∘ fun x : List UInt8 => (⟨x.toArray⟩ : ByteArray)) = id from rfl, List.map_id, show (⟨#[32]⟩ : ByteArray).data.toList = [32] from rfl, join_joinC, List.length_map] at hJ
  obtain ⟨y, hy⟩ := name_of (⟨(joinC 32 ws).toArray⟩ : ByteArray)
  rw [hy] at hJ ⊢
  obtain ⟨q, hq⟩ := name_of ws.length
  rw [hq] at hJ hnc ⊢
  clear hA hr hn hy hq h0 hj
  go_enter Tryd.func26, Tryd.ntmps26
  go_wp2_with fail
  refine hJ.mono ?_
  rintro e w1 ⟨rfl, hb1⟩
  go_wp2_with fail
  go_ret
  exact ⟨rfl, hb1⟩

theorem idx_four (a b c n : Int) {k : Nat} (hk : k < 4) (W : World) : (Instr.index 73 (.agg #[.int .i64 a, .int .i64 b, .int .i64 c, .int .i64 n]) (.int .i64 k)).run Tryd.prog W = .ok (.int .i64 (fl (0, a, b, c, n) k)) W := by
  have i0 : (Instr.index 73 (.agg #[.int .i64 a, .int .i64 b, .int .i64 c, .int .i64 n]) (.int .i64 (0 : Nat))).run Tryd.prog W = .ok (.int .i64 a) W := by kernel_rfl
  have i1 : (Instr.index 73 (.agg #[.int .i64 a, .int .i64 b, .int .i64 c, .int .i64 n]) (.int .i64 (1 : Nat))).run Tryd.prog W = .ok (.int .i64 b) W := by kernel_rfl
  have i2 : (Instr.index 73 (.agg #[.int .i64 a, .int .i64 b, .int .i64 c, .int .i64 n]) (.int .i64 (2 : Nat))).run Tryd.prog W = .ok (.int .i64 c) W := by kernel_rfl
  have i3 : (Instr.index 73 (.agg #[.int .i64 a, .int .i64 b, .int .i64 c, .int .i64 n]) (.int .i64 (3 : Nat))).run Tryd.prog W = .ok (.int .i64 n) W := by kernel_rfl
  have h : k = 0 ∨ k = 1 ∨ k = 2 ∨ k = 3 := by omega
  rcases h with rfl | rfl | rfl | rfl
  · exact i0
  · exact i1
  · exact i2
  · exact i3
theorem own_lit (w : World) (cs : Array Value) (t : TypeId) (size n : Nat) (hs : cs.size = n * size) (hn : n ≤ 1000000) : (w.alloc (.cells cs t)).ownsRow w.heap.size t size (.slice (some ⟨w.heap.size, 0, none⟩) n n) n cs.toList :=
  ⟨by simpa using hs, .inr ⟨w.heap.size, n, cs, rfl, Nat.le_refl _, heap_alloc_last w _, Nat.le_refl _, by simp only [maxLen]; omega, hs, by rw [List.take_of_length_le (by simp [hs])]⟩⟩
/-- An entry in memory. -/
structure EnC (op X : Nat) (W : World) : Prop where
  lt : X < W.heap.size
  n : W.cell? ⟨X, 0, none⟩ = some (.string (nameS op))
  f : ∀ k, k < 4 → W.cell? ⟨X, 1 + k, none⟩ = some (.int .u8 (form op k : Nat))
theorem four {P : Nat → Prop} (h0 : P 0) (h1 : P 1) (h2 : P 2) (h3 : P 3) : ∀ k, k < 4 → P k := by
  intro k hk
  have h : k = 0 ∨ k = 1 ∨ k = 2 ∨ k = 3 := by omega
  rcases h with rfl | rfl | rfl | rfl <;> assumption
theorem enc_new (W : World) (op : Nat) (t : TypeId) : EnC op W.heap.size (W.alloc (.cells #[.string (nameS op), .int .u8 (form op 0 : Nat), .int .u8 (form op 1 : Nat), .int .u8 (form op 2 : Nat), .int .u8 (form op 3 : Nat)] t)) :=
  ⟨by simp, by rw [World.cell?_alloc_at _ _ _ _ rfl]; rfl, four (by rw [World.cell?_alloc_at _ _ _ _ rfl]; rfl) (by rw [World.cell?_alloc_at _ _ _ _ rfl]; rfl) (by rw [World.cell?_alloc_at _ _ _ _ rfl]; rfl) (by rw [World.cell?_alloc_at _ _ _ _ rfl]; rfl)⟩
theorem set_same {W : World} {p : Addr} {u v : Value} (h : W.cell? p = some v) : (W.setCell p u).cell? p = some u := World.cell?_setCell_same' _ _ _ (by rw [h]; rfl)
theorem set_off {W : World} {g i j : Nat} {u v : Value} (h : W.cell? ⟨g, j, none⟩ = some v) (e : i ≠ j) : (W.setCell ⟨g, i, none⟩ u).cell? ⟨g, j, none⟩ = some v := (World.cell?_setCell_other _ _ _ _ (fun c => by injection c with _ c _; exact e c)).trans h
theorem enc_set {W : World} {g : Nat} {v0 v1 v2 v3 v4 : Value} (op : Nat) (h0 : W.cell? ⟨g, 0, none⟩ = some v0) (h1 : W.cell? ⟨g, 1, none⟩ = some v1) (h2 : W.cell? ⟨g, 2, none⟩ = some v2) (h3 : W.cell? ⟨g, 3, none⟩ = some v3) (h4 : W.cell? ⟨g, 4, none⟩ = some v4) :
    EnC op g (((((W.setCell ⟨g, 0, none⟩ (.string (nameS op))).setCell ⟨g, 1, none⟩ (.int .u8 (form op 0 : Nat))).setCell ⟨g, 2, none⟩ (.int .u8 (form op 1 : Nat))).setCell ⟨g, 3, none⟩ (.int .u8 (form op 2 : Nat))).setCell ⟨g, 4, none⟩ (.int .u8 (form op 3 : Nat))) := by
  refine ⟨?_, ?_, four ?_ ?_ ?_ ?_⟩
  · simpa [World.setCell] using World.block_lt_of_cell? _ _ h0
  · exact set_off (set_off (set_off (set_off (set_same h0) (by omega)) (by omega)) (by omega)) (by omega)
  · exact set_off (set_off (set_off (set_same (set_off h1 (by omega))) (by omega)) (by omega)) (by omega)
  · exact set_off (set_off (set_same (set_off (set_off h2 (by omega)) (by omega))) (by omega)) (by omega)
  · exact set_off (set_same (set_off (set_off (set_off h3 (by omega)) (by omega)) (by omega))) (by omega)
  · exact set_same (set_off (set_off (set_off (set_off h4 (by omega)) (by omega)) (by omega)) (by omega))
theorem below_five {w1 W : World} (h : Below w1.heap.size w1 W) (v0 v1 v2 v3 v4 : Value) : Below w1.heap.size w1 (((((W.setCell ⟨w1.heap.size, 0, none⟩ v0).setCell ⟨w1.heap.size, 1, none⟩ v1).setCell ⟨w1.heap.size, 2, none⟩ v2).setCell ⟨w1.heap.size, 3, none⟩ v3).setCell ⟨w1.heap.size, 4, none⟩ v4) :=
  ((((h.setCell (p := ⟨w1.heap.size, 0, none⟩) (Nat.le_refl _) v0).setCell (p := ⟨w1.heap.size, 1, none⟩) (Nat.le_refl _) v1).setCell (p := ⟨w1.heap.size, 2, none⟩) (Nat.le_refl _) v2).setCell (p := ⟨w1.heap.size, 3, none⟩) (Nat.le_refl _) v3).setCell (p := ⟨w1.heap.size, 4, none⟩) (Nat.le_refl _) v4
theorem ent_after {W w3 : World} {cs : Array Value} {t : TypeId} (hb : Below (W.alloc (.cells cs t)).drew.heap.size (W.alloc (.cells cs t)).drew w3) : (∀ j v, cs[j]? = some v → w3.cell? ⟨W.heap.size, j, none⟩ = some v) ∧ ∀ j, w3.frozen? ⟨W.heap.size, j, none⟩ = false := by
  have hk : w3.heap[W.heap.size]? = some (.cells cs t (0, 0)) := (hb.block _ (by show _ < (W.alloc _).heap.size; simp)).trans (heap_alloc_last W _)
  exact ⟨fun j v hj => by rw [cell_of_row _ _ _ cs t (0, 0) hk]; exact hj, fun j => by simp [World.frozen?, hk]⟩
abbrev LnS (B op : Nat) (w1 W : World) : Prop := Below w1.heap.size w1 W ∧ W.cell? ⟨B, 0, none⟩ = some (.int .i64 op)
theorem LnS.next {B op : Nat} {w1 W W' : World} (h : LnS B op w1 W) (hb : Below W.heap.size W W') (hlt : B < w1.heap.size) : LnS B op w1 W' :=
  ⟨h.1.next hb, (hb.cell (p := ⟨B, 0, none⟩) (Nat.lt_of_lt_of_le hlt h.1.size)).trans h.2⟩
theorem LnS.alloc {B op : Nat} {w1 W : World} {o : Obj} (h : LnS B op w1 W) (hlt : B < w1.heap.size) : LnS B op w1 (W.alloc o) := h.next ((Below.refl _ _).alloc (Nat.le_refl _) o) hlt
theorem LnS.call1 {B op : Nat} {w1 w3 : World} (hb : Below w1.drew.heap.size w1.drew w3) (h : LnS B op w1 w1.drew) (hlt : B < w1.heap.size) : LnS B op w1 w3 := h.next hb hlt
theorem LnS.call2 {B op : Nat} {w1 w3 : World} {o : Obj} (hb : Below (w1.alloc o).drew.heap.size (w1.alloc o).drew w3) (h : LnS B op w1 w1.drew) (hlt : B < w1.heap.size) : LnS B op w1 w3 :=
  (h.alloc (o := o) hlt).next (W := w1.drew.alloc o) hb hlt
theorem LnS.al2 {B op : Nat} {w1 : World} {o : Obj} (h : LnS B op w1 w1.drew) (hlt : B < w1.heap.size) : LnS B op w1 (w1.alloc o).drew := h.alloc (o := o) hlt
theorem LnS.nx {B op : Nat} {w1 W W' : World} (hb : Below W.heap.size W W') (h : LnS B op w1 W) (hlt : B < w1.heap.size) : LnS B op w1 W' := h.next hb hlt
theorem LnS.set {B op : Nat} {w1 W : World} (h : LnS B op w1 W) (hlt : B < w1.heap.size) (j : Nat) (u : Value) : LnS B op w1 (W.setCell ⟨w1.heap.size, j, none⟩ u) :=
  ⟨h.1.setCell (p := ⟨w1.heap.size, j, none⟩) (Nat.le_refl _) u, (World.cell?_setCell_other _ _ _ _ (fun c => by injection c with c _ _; omega)).trans h.2⟩
set_option maxRecDepth 10000 in
set_option maxHeartbeats 8000000 in
theorem line_any (i : Ins) (w : World) (hp : Lb w) : Calls Tryd.prog 13 #[insV i] w fun e w' => e = .returned (.tuple #[.string ⟨(if chk i = 0 then lineA i else []).toArray⟩, .int .i64 (chk i)]) ∧ Below w.heap.size w w' := by
  have HP := Lib.hid hp
  obtain ⟨o, a, b, c, n⟩ := i
  have hB0 : Below w.heap.size w (w.alloc (.cells #[.int .i64 o, .int .i64 a, .int .i64 b, .int .i64 c, .int .i64 n] 33)) := by go_grown
  have hC := check_any (o, a, b, c, n) (w.alloc (.cells #[.int .i64 o, .int .i64 a, .int .i64 b, .int .i64 c, .int .i64 n] 33))
  unfold insV at hC ⊢
  dsimp only at hC ⊢
  by_cases hc : chk (o, a, b, c, n) = 0
  · rw [if_pos hc, hc]
    rw [hc] at hC
    obtain ⟨op, ho, ho16⟩ := op_nat (chk_zero hc).1
    dsimp only at ho
    subst ho
    have hwf := chk_wf hc
    have HWF := Lib.hid hwf
    have hla := lineA_wTo (i := ((op : Int), a, b, c, n)) (op := op) rfl
    have hll := lineA_len (i := ((op : Int), a, b, c, n)) (op := op) rfl hwf
    rw [hla] at hll ⊢
    have HLL := Lib.hid hll
    obtain ⟨i, hi⟩ := name_of ((op : Int), a, b, c, n)
    rw [hi] at HWF HLL ⊢
    have hf0 : fl i 0 = a := by rw [← hi]; rfl
    have hf1 : fl i 1 = b := by rw [← hi]; rfl
    have hf2 : fl i 2 = c := by rw [← hi]; rfl
    have hf3 : fl i 3 = n := by rw [← hi]; rfl
    have HF := Lib.hid (And.intro hf0 (And.intro hf1 (And.intro hf2 hf3)))
    clear hi hc hp hwf hla hll hf0 hf1 hf2 hf3
    go_enter Tryd.func13, Tryd.ntmps13
    go_wp2_with fail
    refine hC.mono ?_
    rintro e w1 ⟨rfl, hb1⟩
    have hB1 := hB0.next hb1
    have c0 : w1.cell? ⟨w.heap.size, 0, none⟩ = some (.int .i64 op) := (hb1.cell (p := ⟨w.heap.size, 0, none⟩) (by simp)).trans (by simp)
    have c1 : w1.cell? ⟨w.heap.size, 1, none⟩ = some (.int .i64 a) := (hb1.cell (p := ⟨w.heap.size, 1, none⟩) (by simp)).trans (by simp)
    have c2 : w1.cell? ⟨w.heap.size, 2, none⟩ = some (.int .i64 b) := (hb1.cell (p := ⟨w.heap.size, 2, none⟩) (by simp)).trans (by simp)
    have c3 : w1.cell? ⟨w.heap.size, 3, none⟩ = some (.int .i64 c) := (hb1.cell (p := ⟨w.heap.size, 3, none⟩) (by simp)).trans (by simp)
    have c4 : w1.cell? ⟨w.heap.size, 4, none⟩ = some (.int .i64 n) := (hb1.cell (p := ⟨w.heap.size, 4, none⟩) (by simp)).trans (by simp)
    have hlt1 : w.heap.size < w1.heap.size := by have := hb1.size; simp at this; omega
    have hix := fun W => idx_entry op ho16 W
    clear hC
    go_wp2_with fail
    have hS : LnS w.heap.size op w1 w1.drew := ⟨below_drew', c0⟩
    go_region_held3 (fun W => LnS w.heap.size op w1 W) (first | assumption | (with_reducible exact LnS.al2 hS hlt1) | ((with_reducible refine LnS.alloc ?_ ?_) <;> assumption) | ((with_reducible refine LnS.set (LnS.set (LnS.set (LnS.set (LnS.set ?_ ?_ _ _) ?_ _ _) ?_ _ _) ?_ _ _) ?_ _ _) <;> assumption) | ((with_reducible apply LnS.nx) <;> assumption)) (first | (go_at_call 30; (with_reducible refine (entries_any _).mono ?_); rintro e w3 ⟨rfl, hb3⟩; have hW3 : LnS w.heap.size op w1 w3 := (by first | exact LnS.call1 hb3 hS hlt1 | exact LnS.call2 hb3 hS hlt1); try (obtain ⟨hk, hfz⟩ := ent_after hb3; have k0 := hk 0 _ rfl; have k1 := hk 1 _ rfl; have k2 := hk 2 _ rfl; have k3 := hk 3 _ rfl; have k4 := hk 4 _ rfl; have f0 := hfz 0; have f1 := hfz 1; have f2 := hfz 2; have f3 := hfz 3; have f4 := hfz 4; clear hk hfz)))
    · have hEn := enc_new w3 op 69
      have hBW := hW3.1.alloc hW3.1.size (.cells #[.string (nameS op), .int .u8 (form op 0 : Nat), .int .u8 (form op 1 : Nat), .int .u8 (form op 2 : Nat), .int .u8 (form op 3 : Nat)] 69)
      obtain ⟨W, hW⟩ := name_of (w3.alloc (.cells #[.string (nameS op), .int .u8 (form op 0 : Nat), .int .u8 (form op 1 : Nat), .int .u8 (form op 2 : Nat), .int .u8 (form op 3 : Nat)] 69))
      obtain ⟨X, hX⟩ := name_of w3.heap.size
      rw [hW] at hEn hBW ⊢
      rw [hX] at hEn ⊢
      clear hX hW3 hb3
      clear hW
      have hBB := hB1.next hBW
      have d1 := (hBW.cell (p := ⟨w.heap.size, 1, none⟩) hlt1).trans c1
      have d2 := (hBW.cell (p := ⟨w.heap.size, 2, none⟩) hlt1).trans c2
      have d3 := (hBW.cell (p := ⟨w.heap.size, 3, none⟩) hlt1).trans c3
      have d4 := (hBW.cell (p := ⟨w.heap.size, 4, none⟩) hlt1).trans c4
      have HEN := Lib.hid hEn
      have hn0 := hEn.n
      have hw0 : w.heap.size < W.heap.size := Nat.lt_of_lt_of_le hlt1 hBW.size
      clear c0 c1 c2 c3 c4 hEn hix hS
      have hown0 := own_lit W #[.string (nameS op)] 9 1 1 rfl (by omega)
      go_wp2_with fail
      go_loopw [6, 30] (fun out x wr => ∃ k : Nat, k ≤ 4 ∧ x = .int .i64 k ∧ wr.ownsRow W.heap.size 9 1 out (wTo op i k).length (wv (wTo op i k)) ∧ Below W.heap.size W wr) (fun _ x _ => 4 - (intOf x).toNat)
      case atStart => exact ⟨0, Nat.zero_le _, rfl, hown0, (Below.refl _ _).alloc (Nat.le_refl _) _⟩
      case round =>
        obtain ⟨k, hk, rfl, hown, hB⟩ := hrel
        have hwl := (wTo_len op i k).2
        by_cases hlt : k < 4
        · have hix4 := fun W => idx_four a b c n hlt W
          have HSU := Lib.hid (wTo_succ op i k)
          have hfk := (hB.cell (p := ⟨X, _, none⟩) HEN.out.lt).trans (HEN.out.f k hlt)
          have hxk : fl (0, a, b, c, n) k = fl i k := by
            obtain ⟨h0, h1, h2, h3⟩ := HF.out
            exact four (P := fun k => fl (0, a, b, c, n) k = fl i k) h0.symm h1.symm h2.symm h3.symm k hlt
          rw [hxk] at hix4
          have hxb := HWF.out.f k
          obtain ⟨x, hx⟩ := name_of (fl i k)
          rw [hx] at hix4 HSU hxb
          have hff : form op k < 256 := by
            have hall : ∀ o, o < 17 → ∀ k, k < 4 → form o k < 256 := by decide
            exact hall op (by omega) k hlt
          obtain ⟨f, hf⟩ := name_of (form op k)
          rw [hf] at hfk HSU hff
          obtain ⟨x0, x1⟩ := hxb
          clear hx hf hxk
          by_cases hf0 : f = 0
          · have z0 : ((f : Int) == 0) = true := by simp [hf0]
            have HF0 := Lib.hid hf0
            clear hf0
            go_wp2_with fail
            refine ⟨⟨k + 1, hlt, by go_num, ?_, hB⟩, by simp [intOf]; omega⟩
            rw [HSU.out, if_pos HF0.out, List.append_nil]
            exact hown
          · have z0 : ((f : Int) == 0) = false := by rw [beq_eq_false_iff_ne]; omega
            have HF0 := Lib.hid hf0
            have hWr := write_any f x x0 x1 wr (HP.out.next (hBB.next hB))
            have hwfl := writeF_len f x0 x1
            obtain ⟨y, hy⟩ := name_of (⟨(writeF f x).toArray⟩ : ByteArray)
            rw [hy] at hWr
            have HY : Hid (wv [writeF f x] = [.string y]) := Lib.hid (by rw [← hy]; rfl)
            clear hy hf0
            go_wp2_with fail
            refine hWr.mono ?_
            rintro e w5 ⟨rfl, hb5⟩
            have hown5 := own_below hown hb5
            have hB5 := hB.next hb5
            have hs2 : Sl (w5.alloc (.cells #[.string y] 9)) (w5.alloc (.cells #[.string y] 9)).heap.size 1 (.slice (some ⟨w5.heap.size, 0, none⟩) 1 1) (wv [writeF f x]) := Sl.new w5 _ _ 1 _ rfl rfl HY.out
            have hown2 := hown5.alloc (.cells #[.string y] 9)
            have hB2 := hB5.alloc hB5.size (.cells #[.string y] 9)
            obtain ⟨L, hL⟩ := name_of (wTo op i k).length
            rw [hL] at hown2 hwl
            have HL := Lib.hid hL
            clear hWr hown hown5 hB hB5 hb5 hL
            go_wp2_with (at_builtin; refine wpList_append_sl rfl (.tmp 39) (.tmp 46) 72 rfl W.heap.size 9 (.string ⟨#[]⟩) 1 16 Tryd.underlying72 info_str rfl (by omega) _ _ _ rfl hown2 _ 1 _ _ rfl hs2 rfl (wv_one _) (by omega) (by omega) hB2.size ?_; intro v6 w6 hown6 hg6 hat6; have hB6 := below_append hB2 hown2 hg6 (Nat.le_refl _); obtain ⟨A6, m6, c6, rfl⟩ := own_slice hown6; clear hown2 hs2 hg6 hat6 hB2)
            refine ⟨⟨k + 1, hlt, by go_num, ?_, hB6⟩, by simp [intOf]; omega⟩
            rw [HSU.out, if_neg HF0.out, wv_append]
            exact own_len hown6 (by rw [List.length_append, HL.out]; rfl) rfl
        · obtain rfl : k = 4 := by omega
          have hpos := (wTo_len op i 4).1
          obtain ⟨g, cap, rfl, -, -, -, -, -⟩ := own_open hown hpos
          have hJ := join_any (Sl.own hown) (by intro e; rw [e] at hpos; simp at hpos) (by omega) (by have := HLL.out; omega)
          obtain ⟨L, hL⟩ := name_of (wTo op i 4).length
          obtain ⟨y, hy⟩ := name_of (⟨(joinC 32 (wTo op i 4)).toArray⟩ : ByteArray)
          have HY := Lib.hid hy
          rw [hL, hy] at hJ
          rw [hL]
          clear hL hy hown hpos hwl
          go_wp2_with fail
          refine hJ.mono ?_
          rintro e w6 ⟨rfl, hb6⟩
          go_wp2_with fail
          go_ret2
          exact ⟨by rw [HY.out]; rfl, (hBB.next hB).next hb6⟩
    · have hEn := enc_new w3 op 69
      have hBW := hW3.1.alloc hW3.1.size (.cells #[.string (nameS op), .int .u8 (form op 0 : Nat), .int .u8 (form op 1 : Nat), .int .u8 (form op 2 : Nat), .int .u8 (form op 3 : Nat)] 69)
      obtain ⟨W, hW⟩ := name_of (w3.alloc (.cells #[.string (nameS op), .int .u8 (form op 0 : Nat), .int .u8 (form op 1 : Nat), .int .u8 (form op 2 : Nat), .int .u8 (form op 3 : Nat)] 69))
      obtain ⟨X, hX⟩ := name_of w3.heap.size
      rw [hW] at hEn hBW ⊢
      rw [hX] at hEn ⊢
      clear hX hW3 hb3
      clear hW
      have hBB := hB1.next hBW
      have d1 := (hBW.cell (p := ⟨w.heap.size, 1, none⟩) hlt1).trans c1
      have d2 := (hBW.cell (p := ⟨w.heap.size, 2, none⟩) hlt1).trans c2
      have d3 := (hBW.cell (p := ⟨w.heap.size, 3, none⟩) hlt1).trans c3
      have d4 := (hBW.cell (p := ⟨w.heap.size, 4, none⟩) hlt1).trans c4
      have HEN := Lib.hid hEn
      have hn0 := hEn.n
      have hw0 : w.heap.size < W.heap.size := Nat.lt_of_lt_of_le hlt1 hBW.size
      clear c0 c1 c2 c3 c4 hEn hix hS
      have hown0 := own_lit W #[.string (nameS op)] 9 1 1 rfl (by omega)
      go_wp2_with fail
      go_loopw [6, 30] (fun out x wr => ∃ k : Nat, k ≤ 4 ∧ x = .int .i64 k ∧ wr.ownsRow W.heap.size 9 1 out (wTo op i k).length (wv (wTo op i k)) ∧ Below W.heap.size W wr) (fun _ x _ => 4 - (intOf x).toNat)
      case atStart => exact ⟨0, Nat.zero_le _, rfl, hown0, (Below.refl _ _).alloc (Nat.le_refl _) _⟩
      case round =>
        obtain ⟨k, hk, rfl, hown, hB⟩ := hrel
        have hwl := (wTo_len op i k).2
        by_cases hlt : k < 4
        · have hix4 := fun W => idx_four a b c n hlt W
          have HSU := Lib.hid (wTo_succ op i k)
          have hfk := (hB.cell (p := ⟨X, _, none⟩) HEN.out.lt).trans (HEN.out.f k hlt)
          have hxk : fl (0, a, b, c, n) k = fl i k := by
            obtain ⟨h0, h1, h2, h3⟩ := HF.out
            exact four (P := fun k => fl (0, a, b, c, n) k = fl i k) h0.symm h1.symm h2.symm h3.symm k hlt
          rw [hxk] at hix4
          have hxb := HWF.out.f k
          obtain ⟨x, hx⟩ := name_of (fl i k)
          rw [hx] at hix4 HSU hxb
          have hff : form op k < 256 := by
            have hall : ∀ o, o < 17 → ∀ k, k < 4 → form o k < 256 := by decide
            exact hall op (by omega) k hlt
          obtain ⟨f, hf⟩ := name_of (form op k)
          rw [hf] at hfk HSU hff
          obtain ⟨x0, x1⟩ := hxb
          clear hx hf hxk
          by_cases hf0 : f = 0
          · have z0 : ((f : Int) == 0) = true := by simp [hf0]
            have HF0 := Lib.hid hf0
            clear hf0
            go_wp2_with fail
            refine ⟨⟨k + 1, hlt, by go_num, ?_, hB⟩, by simp [intOf]; omega⟩
            rw [HSU.out, if_pos HF0.out, List.append_nil]
            exact hown
          · have z0 : ((f : Int) == 0) = false := by rw [beq_eq_false_iff_ne]; omega
            have HF0 := Lib.hid hf0
            have hWr := write_any f x x0 x1 wr (HP.out.next (hBB.next hB))
            have hwfl := writeF_len f x0 x1
            obtain ⟨y, hy⟩ := name_of (⟨(writeF f x).toArray⟩ : ByteArray)
            rw [hy] at hWr
            have HY : Hid (wv [writeF f x] = [.string y]) := Lib.hid (by rw [← hy]; rfl)
            clear hy hf0
            go_wp2_with fail
            refine hWr.mono ?_
            rintro e w5 ⟨rfl, hb5⟩
            have hown5 := own_below hown hb5
            have hB5 := hB.next hb5
            have hs2 : Sl (w5.alloc (.cells #[.string y] 9)) (w5.alloc (.cells #[.string y] 9)).heap.size 1 (.slice (some ⟨w5.heap.size, 0, none⟩) 1 1) (wv [writeF f x]) := Sl.new w5 _ _ 1 _ rfl rfl HY.out
            have hown2 := hown5.alloc (.cells #[.string y] 9)
            have hB2 := hB5.alloc hB5.size (.cells #[.string y] 9)
            obtain ⟨L, hL⟩ := name_of (wTo op i k).length
            rw [hL] at hown2 hwl
            have HL := Lib.hid hL
            clear hWr hown hown5 hB hB5 hb5 hL
            go_wp2_with (at_builtin; refine wpList_append_sl rfl (.tmp 39) (.tmp 46) 72 rfl W.heap.size 9 (.string ⟨#[]⟩) 1 16 Tryd.underlying72 info_str rfl (by omega) _ _ _ rfl hown2 _ 1 _ _ rfl hs2 rfl (wv_one _) (by omega) (by omega) hB2.size ?_; intro v6 w6 hown6 hg6 hat6; have hB6 := below_append hB2 hown2 hg6 (Nat.le_refl _); obtain ⟨A6, m6, c6, rfl⟩ := own_slice hown6; clear hown2 hs2 hg6 hat6 hB2)
            refine ⟨⟨k + 1, hlt, by go_num, ?_, hB6⟩, by simp [intOf]; omega⟩
            rw [HSU.out, if_neg HF0.out, wv_append]
            exact own_len hown6 (by rw [List.length_append, HL.out]; rfl) rfl
        · obtain rfl : k = 4 := by omega
          have hpos := (wTo_len op i 4).1
          obtain ⟨g, cap, rfl, -, -, -, -, -⟩ := own_open hown hpos
          have hJ := join_any (Sl.own hown) (by intro e; rw [e] at hpos; simp at hpos) (by omega) (by have := HLL.out; omega)
          obtain ⟨L, hL⟩ := name_of (wTo op i 4).length
          obtain ⟨y, hy⟩ := name_of (⟨(joinC 32 (wTo op i 4)).toArray⟩ : ByteArray)
          have HY := Lib.hid hy
          rw [hL, hy] at hJ
          rw [hL]
          clear hL hy hown hpos hwl
          go_wp2_with fail
          refine hJ.mono ?_
          rintro e w6 ⟨rfl, hb6⟩
          go_wp2_with fail
          go_ret2
          exact ⟨by rw [HY.out]; rfl, (hBB.next hB).next hb6⟩
    · have hEn := enc_set op k0 k1 k2 k3 k4
      have hBW := below_five hW3.1 (.string (nameS op)) (.int .u8 (form op 0 : Nat)) (.int .u8 (form op 1 : Nat)) (.int .u8 (form op 2 : Nat)) (.int .u8 (form op 3 : Nat))
      obtain ⟨W, hW⟩ := name_of (((((w3.setCell ⟨w1.heap.size, 0, none⟩ (.string (nameS op))).setCell ⟨w1.heap.size, 1, none⟩ (.int .u8 (form op 0 : Nat))).setCell ⟨w1.heap.size, 2, none⟩ (.int .u8 (form op 1 : Nat))).setCell ⟨w1.heap.size, 3, none⟩ (.int .u8 (form op 2 : Nat))).setCell ⟨w1.heap.size, 4, none⟩ (.int .u8 (form op 3 : Nat)))
      rw [hW] at hEn hBW ⊢
      clear hW3 hb3 k0 k1 k2 k3 k4 f0 f1 f2 f3 f4
      clear hW
      have hBB := hB1.next hBW
      have d1 := (hBW.cell (p := ⟨w.heap.size, 1, none⟩) hlt1).trans c1
      have d2 := (hBW.cell (p := ⟨w.heap.size, 2, none⟩) hlt1).trans c2
      have d3 := (hBW.cell (p := ⟨w.heap.size, 3, none⟩) hlt1).trans c3
      have d4 := (hBW.cell (p := ⟨w.heap.size, 4, none⟩) hlt1).trans c4
      have HEN := Lib.hid hEn
      have hn0 := hEn.n
      have hw0 : w.heap.size < W.heap.size := Nat.lt_of_lt_of_le hlt1 hBW.size
      clear c0 c1 c2 c3 c4 hEn hix hS
      have hown0 := own_lit W #[.string (nameS op)] 9 1 1 rfl (by omega)
      go_wp2_with fail
      go_loopw [6, 30] (fun out x wr => ∃ k : Nat, k ≤ 4 ∧ x = .int .i64 k ∧ wr.ownsRow W.heap.size 9 1 out (wTo op i k).length (wv (wTo op i k)) ∧ Below W.heap.size W wr) (fun _ x _ => 4 - (intOf x).toNat)
      case atStart => exact ⟨0, Nat.zero_le _, rfl, hown0, (Below.refl _ _).alloc (Nat.le_refl _) _⟩
      case round =>
        obtain ⟨k, hk, rfl, hown, hB⟩ := hrel
        have hwl := (wTo_len op i k).2
        by_cases hlt : k < 4
        · have hix4 := fun W => idx_four a b c n hlt W
          have HSU := Lib.hid (wTo_succ op i k)
          have hfk := (hB.cell (p := ⟨w1.heap.size, _, none⟩) HEN.out.lt).trans (HEN.out.f k hlt)
          have hxk : fl (0, a, b, c, n) k = fl i k := by
            obtain ⟨h0, h1, h2, h3⟩ := HF.out
            exact four (P := fun k => fl (0, a, b, c, n) k = fl i k) h0.symm h1.symm h2.symm h3.symm k hlt
          rw [hxk] at hix4
          have hxb := HWF.out.f k
          obtain ⟨x, hx⟩ := name_of (fl i k)
          rw [hx] at hix4 HSU hxb
          have hff : form op k < 256 := by
            have hall : ∀ o, o < 17 → ∀ k, k < 4 → form o k < 256 := by decide
            exact hall op (by omega) k hlt
          obtain ⟨f, hf⟩ := name_of (form op k)
          rw [hf] at hfk HSU hff
          obtain ⟨x0, x1⟩ := hxb
          clear hx hf hxk
          by_cases hf0 : f = 0
          · have z0 : ((f : Int) == 0) = true := by simp [hf0]
            have HF0 := Lib.hid hf0
            clear hf0
            go_wp2_with fail
            refine ⟨⟨k + 1, hlt, by go_num, ?_, hB⟩, by simp [intOf]; omega⟩
            rw [HSU.out, if_pos HF0.out, List.append_nil]
            exact hown
          · have z0 : ((f : Int) == 0) = false := by rw [beq_eq_false_iff_ne]; omega
            have HF0 := Lib.hid hf0
            have hWr := write_any f x x0 x1 wr (HP.out.next (hBB.next hB))
            have hwfl := writeF_len f x0 x1
            obtain ⟨y, hy⟩ := name_of (⟨(writeF f x).toArray⟩ : ByteArray)
            rw [hy] at hWr
            have HY : Hid (wv [writeF f x] = [.string y]) := Lib.hid (by rw [← hy]; rfl)
            clear hy hf0
            go_wp2_with fail
            refine hWr.mono ?_
            rintro e w5 ⟨rfl, hb5⟩
            have hown5 := own_below hown hb5
            have hB5 := hB.next hb5
            have hs2 : Sl (w5.alloc (.cells #[.string y] 9)) (w5.alloc (.cells #[.string y] 9)).heap.size 1 (.slice (some ⟨w5.heap.size, 0, none⟩) 1 1) (wv [writeF f x]) := Sl.new w5 _ _ 1 _ rfl rfl HY.out
            have hown2 := hown5.alloc (.cells #[.string y] 9)
            have hB2 := hB5.alloc hB5.size (.cells #[.string y] 9)
            obtain ⟨L, hL⟩ := name_of (wTo op i k).length
            rw [hL] at hown2 hwl
            have HL := Lib.hid hL
            clear hWr hown hown5 hB hB5 hb5 hL
            go_wp2_with (at_builtin; refine wpList_append_sl rfl (.tmp 39) (.tmp 46) 72 rfl W.heap.size 9 (.string ⟨#[]⟩) 1 16 Tryd.underlying72 info_str rfl (by omega) _ _ _ rfl hown2 _ 1 _ _ rfl hs2 rfl (wv_one _) (by omega) (by omega) hB2.size ?_; intro v6 w6 hown6 hg6 hat6; have hB6 := below_append hB2 hown2 hg6 (Nat.le_refl _); obtain ⟨A6, m6, c6, rfl⟩ := own_slice hown6; clear hown2 hs2 hg6 hat6 hB2)
            refine ⟨⟨k + 1, hlt, by go_num, ?_, hB6⟩, by simp [intOf]; omega⟩
            rw [HSU.out, if_neg HF0.out, wv_append]
            exact own_len hown6 (by rw [List.length_append, HL.out]; rfl) rfl
        · obtain rfl : k = 4 := by omega
          have hpos := (wTo_len op i 4).1
          obtain ⟨g, cap, rfl, -, -, -, -, -⟩ := own_open hown hpos
          have hJ := join_any (Sl.own hown) (by intro e; rw [e] at hpos; simp at hpos) (by omega) (by have := HLL.out; omega)
          obtain ⟨L, hL⟩ := name_of (wTo op i 4).length
          obtain ⟨y, hy⟩ := name_of (⟨(joinC 32 (wTo op i 4)).toArray⟩ : ByteArray)
          have HY := Lib.hid hy
          rw [hL, hy] at hJ
          rw [hL]
          clear hL hy hown hpos hwl
          go_wp2_with fail
          refine hJ.mono ?_
          rintro e w6 ⟨rfl, hb6⟩
          go_wp2_with fail
          go_ret2
          exact ⟨by rw [HY.out]; rfl, (hBB.next hB).next hb6⟩
  · rw [if_neg hc]
    obtain ⟨q, hq⟩ := name_of (chk (o, a, b, c, n))
    rw [hq] at hC hc ⊢
    have z0 : (q == 0) = false := by simpa using hc
    have z1 : (q != 0) = true := by simpa using hc
    clear hq hc hp
    go_enter Tryd.func13, Tryd.ntmps13
    go_wp2_with fail
    refine hC.mono ?_
    rintro e w1 ⟨rfl, hb1⟩
    go_wp2_with fail
    go_ret2
    exact ⟨rfl, hB0.next hb1⟩
end P3
end Go.Proofs.YtggdbceommmllaaDoor
