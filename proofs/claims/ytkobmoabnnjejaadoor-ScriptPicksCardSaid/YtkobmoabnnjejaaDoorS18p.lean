/- Script: the law's pairs: the first ones that an iterator of picks tells. -/
import Derived.Test.YtkobmoabnnjejaaDoorS18
import Derived.Maps.AppendAt
namespace Go.Proofs.YtkobmoabnnjejaaDoor
open Go.RowKit Go.Shelf
namespace P21
open PC

attribute [local go_sem] Oper.semAt_some

def pairC (x : Nat × Int) : List Value := [.int .i64 (x.1 : Int), .int .i64 x.2]
def pairsC (l : List (Nat × Int)) : List Value := l.flatMap pairC
theorem pairsC_len (l : List (Nat × Int)) : (pairsC l).length = l.length * 2 := flat_length pairC 2 (fun _ => rfl) l
theorem pairsC_append (l m : List (Nat × Int)) : pairsC (l ++ m) = pairsC l ++ pairsC m := List.flatMap_append
theorem info_pair : (Tryd.prog.info? 50).map (fun i => (i.zero, i.size, i.bytes)) = some (some (.agg #[.int .i64 0, .int .i64 0]), 2, 16) := by kernel_rfl
theorem cell_two_new (w : World) (x y : Value) (t : TypeId) : ∀ j u, [x, y][j]? = some u → (w.alloc (.cells #[x, y] t)).cell? ((⟨w.heap.size, 0, none⟩ : Addr).add j) = some u := by
  intro j u hj
  match j, hj with
  | 0, hj =>
    simp only [List.getElem?_cons_zero, Option.some.injEq] at hj
    subst hj
    simp [Addr.add]
  | 1, hj =>
    simp only [List.getElem?_cons_zero, List.getElem?_cons_succ, Option.some.injEq] at hj
    subst hj
    simp [Addr.add]
theorem eq_func_nil {P : Program} (w : World) (d : Nat) (t : TypeId) (ps rs : Array TypeId) (va : Bool) (f : FuncId) (c : Array Value) (h : P.underlying t = some (.func ps rs va)) : (Op.equalIn (d + 1) t (.func (.func f) #[] c) .nilFunc).run P w = .ok false w := by
  simp [Op.equalIn, run_underlying h]
theorem run_eql_func_nil {P : Program} (w : World) (t : TypeId) (ps rs : Array TypeId) (va : Bool) (f : FuncId) (c : Array Value) (h : P.underlying t = some (.func ps rs va)) : (binOp .eql t (.func (.func f) #[] c) .nilFunc).run P w = .ok (.bool false) w := by
  simp only [binOp]
  simp [Op.equal, Op.maxDepth, eq_func_nil w 9999 t ps rs va f c h]
/-- What pairs answers. -/
def PairsPost (w : World) (l : List (Nat × Int)) (e : Ending) (w' : World) : Prop := (∃ v, e = .returned v ∧ Sl w' w'.heap.size 2 v (pairsC l)) ∧ Below w.heap.size w w'
theorem pairs_post {w w' : World} {l : List (Nat × Int)} {v : Value} {e : Ending} (he : e = .returned v) (hv : Sl w' w'.heap.size 2 v (pairsC l)) (hb : Below w.heap.size w w') : PairsPost w l e w' := ⟨⟨v, he, hv⟩, hb⟩
set_option maxRecDepth 100000 in
set_option maxHeartbeats 4000000 in
theorem pairs_any {w : World} {Bs : Nat} {sv : Value} {l : List Ev} (hBs : Bs < w.heap.size) (hc : w.cell? ⟨Bs, 0, none⟩ = some sv) (h : Sl w w.heap.size 2 sv (evsC l)) (hlen : l.length ≤ 100000) (q : Nat) (hq1 : 1 ≤ q) (hq2 : q ≤ 100000) :
    Calls Tryd.prog 22 #[.func (.func 37) #[] #[.pointer (some ⟨Bs, 0, none⟩)], .int .i64 q] w (PairsPost w ((picksTo l l.length).take q)) := by
  have HS := Lib.hid h
  have HC := Lib.hid hc
  clear h hc
  have f1 : decide ((q : Int) < 1) = false := by simp; omega
  obtain ⟨i0, hi, hz0, hz1, hz2⟩ := info_parts info_pair
  have hnf := fun W => run_eql_func_nil W 48 _ _ _ 37 #[.pointer (some ⟨Bs, 0, none⟩)] Tryd.underlying48
  refine (callsIn_wide (n := 10)).1 ?_
  refine callsIn_of_wp_marks Tryd.func22 rfl trivial ?_ rfl
  simp only [Tryd.ntmps22, List.size_toArray, List.length_cons, List.length_nil, Nat.reduceAdd, Nat.reduceSub, Array.replicate_succ, Array.replicate_zero, List.push_toArray, List.append_toArray, List.nil_append, List.cons_append]
  gi_wp2
  have bq := Boxed.new w 3 (.int .i64 q)
  have bo := Boxed.new ((w.alloc (.cells #[.int .i64 q] 3)).alloc (.cells #[] 50)) 45 (.slice (some ⟨w.heap.size + 1, 0, none⟩) 0 0)
  have ho := own_empty (w.alloc (.cells #[.int .i64 q] 3)) 50 2 w.heap.size (by simp)
  rw [World.size_alloc] at ho
  simp only [World.size_alloc] at bo
  have hB3 : Below w.heap.size w (((w.alloc (.cells #[.int .i64 q] 3)).alloc (.cells #[] 50)).alloc (.cells #[.slice (some ⟨w.heap.size + 1, 0, none⟩) 0 0] 45)) := by go_grown
  have hSeq := picks_stops Fence.wide 9 trivial rfl (by omega) Bs w.heap.size sv l hlen (((w.alloc (.cells #[.int .i64 q] 3)).alloc (.cells #[] 50)).alloc (.cells #[.slice (some ⟨w.heap.size + 1, 0, none⟩) 0 0] 45)) (by simp; omega) hB3.size ((hB3.cell (p := ⟨Bs, 0, none⟩) hBs).trans HC.out) (HS.out.below hB3)
  refine wpIn_rangeFunc_ownG rfl (by omega) (gf := 37) (lb := #[.pointer (some ⟨Bs, 0, none⟩)]) rfl trivial (enters_of Tryd.func37 (by kernel_rfl) rfl)
    hSeq belowK_t (belowK_b (by simp; omega)) (Below.refl _ _) (fun _ => rfl)
    (fun pre W => ((∃ v, Boxed W (w.heap.size + 1 + 1) 45 v ∧ W.ownsRow w.heap.size 50 2 v pre.length (pairsC pre) ∧ pre.length < q) ∧ Boxed W w.heap.size 3 (.int .i64 q)) ∧ Below w.heap.size w W)
    (fun c pre W => ((∃ v, Boxed W (w.heap.size + 1 + 1) 45 v ∧ W.ownsRow w.heap.size 50 2 v pre.length (pairsC pre) ∧ (c = .exit 0 ∧ pre.length = q)) ∧ Boxed W w.heap.size 3 (.int .i64 q)) ∧ Below w.heap.size w W)
    ?own ?ownx ⟨⟨⟨_, bo, ho.alloc _, by simp; omega⟩, (bq.alloc _).alloc _⟩, hB3⟩
    (fun x => { tmps := #[.func (.func 37) #[] #[.pointer (some ⟨Bs, 0, none⟩)], .int .i64 q, undef, .pointer (some ⟨w.heap.size, 0, none⟩), .slice none 0 0, .pointer (some ⟨w.heap.size + 1 + 1, 0, none⟩), .int .i64 (x.1 : Int), .int .i64 x.2, .slice (some ⟨w.heap.size + 1, 0, none⟩) 0 0, .func (.func 37) #[] #[.pointer (some ⟨Bs, 0, none⟩)], .bool false, .bool false, .int .i64 q, .bool false, .bool false, undef, .func (.func 37) #[] #[.pointer (some ⟨Bs, 0, none⟩)], .int .i64 (x.1 : Int), .int .i64 x.2, undef, undef, undef, undef, undef, undef, undef, undef, undef, undef, undef], defers := [] }) ?assign ?body ?done ?stop
  case own =>
    exact OwnFrom.and (OwnFrom.and (Own.from (holdsRow_own w.heap.size (w.heap.size + 1 + 1) 45 50 2 (fun pre : List (Nat × Int) => pre.length) pairsC (fun pre _ => pre.length < q)) _) (Own.from (boxed_own w.heap.size 3 (fun _ : List (Nat × Int) => .int .i64 q)) _)) (ownFrom_below (Nat.le_refl _) (by simp; omega))
  case ownx =>
    intro c
    exact OwnFrom.and (OwnFrom.and (Own.from (holdsRow_own w.heap.size (w.heap.size + 1 + 1) 45 50 2 (fun pre : List (Nat × Int) => pre.length) pairsC (fun pre _ => c = .exit 0 ∧ pre.length = q)) _) (Own.from (boxed_own w.heap.size 3 (fun _ : List (Nat × Int) => .int .i64 q)) _)) (ownFrom_below (Nat.le_refl _) (by simp; omega))
  case assign =>
    intro l x W K hK
    gi_wp2
    exact hK
  case body =>
    rintro l' pre x W ⟨⟨⟨v, hv, hrow, hlt0⟩, hbq⟩, hB⟩ hlt
    have hc := hv.cell
    have hcq := hbq.cell
    have hpl : pre.length < 100000 := by omega
    by_cases hlast : pre.length + 1 < q
    · have g1 : decide ((q : Int) ≤ (pre.length : Int) + 1) = false := by simp; omega
      gi_wp2_with (gi_at_builtin; refine wpListIn_append_own _ rfl _ _ 45 rfl w.heap.size 50 i0 (.agg #[.int .i64 0, .int .i64 0]) 2 16 Tryd.underlying45 hi hz0 hz1 hz2 rfl (by decide) _ _ _ rfl (hrow.alloc _) ⟨W.heap.size, 0, none⟩ 1 1 (pairC x) rfl rfl (cell_two_new _ _ _ _) (by simp [pairC, Value.oneCell']) (by simp only [maxLen]; omega) (by omega) (by have := hB.size; first | omega | (simp; omega)) ?_; intro v' w1 hown' hgrow _; obtain ⟨g', cap', rfl⟩ := ownsRow_succ hown'; obtain ⟨hv1, hv2, hr2, hk2, hb2⟩ := hv.appended (by decide) hrow hB.size (by first | omega | (simp; omega)) hown' hgrow; have hc1 := hv1.cell; have hf1 := hv1.frozen; have hbq3 := ((hbq.alloc _).kept hgrow (hbq.not_row (by decide) hrow)).other (show w.heap.size ≠ w.heap.size + 1 + 1 by omega) (.slice (some ⟨g', 0, none⟩) (pre.length + 1) cap'); have hc3 := hv2.cell; have hcq3 := hbq3.cell)
      exact ⟨hk2.from _, hb2, ⟨⟨_, hv2, own_len hr2 (by simp) (by rw [pairsC_append]; rfl), by simpa using hlast⟩, hbq3⟩, hB.trans hb2⟩
    · have g1 : decide ((q : Int) ≤ (pre.length : Int) + 1) = true := by simp; omega
      gi_wp2_with (gi_at_builtin; refine wpListIn_append_own _ rfl _ _ 45 rfl w.heap.size 50 i0 (.agg #[.int .i64 0, .int .i64 0]) 2 16 Tryd.underlying45 hi hz0 hz1 hz2 rfl (by decide) _ _ _ rfl (hrow.alloc _) ⟨W.heap.size, 0, none⟩ 1 1 (pairC x) rfl rfl (cell_two_new _ _ _ _) (by simp [pairC, Value.oneCell']) (by simp only [maxLen]; omega) (by omega) (by have := hB.size; first | omega | (simp; omega)) ?_; intro v' w1 hown' hgrow _; obtain ⟨g', cap', rfl⟩ := ownsRow_succ hown'; obtain ⟨hv1, hv2, hr2, hk2, hb2⟩ := hv.appended (by decide) hrow hB.size (by first | omega | (simp; omega)) hown' hgrow; have hc1 := hv1.cell; have hf1 := hv1.frozen; have hbq3 := ((hbq.alloc _).kept hgrow (hbq.not_row (by decide) hrow)).other (show w.heap.size ≠ w.heap.size + 1 + 1 by omega) (.slice (some ⟨g', 0, none⟩) (pre.length + 1) cap'); have hc3 := hv2.cell; have hcq3 := hbq3.cell)
      exact ⟨hk2.from _, ⟨⟨_, hv2, own_len hr2 (by simp) (by rw [pairsC_append]; rfl), rfl, by simp; omega⟩, hbq3⟩, hB.trans hb2⟩
  case done =>
    rintro D ys W hD rfl ⟨⟨⟨v, hv, hrow, hlt⟩, hbq⟩, hB⟩ hK
    have hc := hv.cell
    have HT : Hid ((picksTo l l.length).take q = picksTo l l.length) := Lib.hid (List.take_of_length_le (by omega))
    gi_wp2
    refine ⟨by simp, .inl ⟨_, _, rfl, run_takeDeferred hK, ?_⟩⟩
    exact ⟨_, results_tmp rfl _ _ _, pairs_post rfl (by rw [HT.out]; exact Sl.own (ownsRow_putObj hrow _ hK rfl)) (hB.trans (belowK_b (w := w) (Nat.le_refl _) W D _ _ (by simp at hD; omega) hK rfl rfl))⟩
  case stop =>
    rintro D c pre W hD hSp ⟨⟨⟨v, hv, hrow, ⟨rfl, hlen2⟩⟩, hbq⟩, hB⟩ hK
    have hc := hv.cell
    have HT : Hid ((picksTo l l.length).take q = pre) := Lib.hid (by
      have h1 := List.prefix_iff_eq_take.1 hSp
      rw [hlen2] at h1
      exact h1.symm)
    gi_wp2
    refine ⟨by simp, .inl ⟨_, _, rfl, run_takeDeferred hK, ?_⟩⟩
    exact ⟨_, results_tmp rfl _ _ _, pairs_post rfl (by rw [HT.out]; exact Sl.own (ownsRow_putObj hrow _ hK rfl)) (hB.trans (belowK_b (w := w) (Nat.le_refl _) W D _ _ (by simp at hD; omega) hK rfl rfl))⟩
end P21
end Go.Proofs.YtkobmoabnnjejaaDoor
