/- Table: Parse. -/
import Derived.Test.YthpfoegmoldkgaaGreatDoorTbb
import Derived.Test.YthpfoegmoldkgaaGreatDoorTbc
import Derived.Test.YthpfoegmoldkgaaGreatDoorTbd
import Derived.Test.YthpfoegmoldkgaaGreatDoorTb9
import Derived.Test.YthpfoegmoldkgaaGreatDoorTb6
import Derived.RangeFuncCalls
import Derived.RangeFuncNested
import Derived.OwnWalkIn
namespace Go.Proofs.YthpfoegmoldkgaaGreatDoor
open Go.RowKit Go.Shelf
namespace P7
open CutL NumL PC

attribute [local go_sem] Oper.semAt_some

theorem wpListIn_store_new {F : Fence} {m : Nat} {P : Program} {ops : Array Oper} {rest : List Oper} {o : Oper} {a : Act} {w : World} {Q : Exit → Act → World → Prop} (hgd : o.guard = none)
    (t t' : TypeId) (x y : Operand) (ho : o.op = .store t x y) (c c' : Array Value) (n : Nat) (hn : n = w.heap.size) (hx : a.eval x = .pointer (some ⟨n, 0, none⟩)) (hy : a.eval y = .agg c')
    (hi : (P.info? t).map (·.size) = some c'.size) (hc : c.size = c'.size) (h1 : c'.all (·.oneCell') = true)
    (h : wpListIn F m P ops Q rest (a.put o.dst undef) (w.alloc (.cells c' t'))) : wpListIn F m P ops Q (o :: rest) a (w.alloc (.cells c t')) := by
  subst hn
  refine wpListIn_plain hgd fun K hK => ?_
  have hs : (storeVar t ⟨w.heap.size, 0, none⟩ (.agg c')).run P (w.alloc (.cells c t')) = .ok () (w.alloc (.cells c' t')) := by
    rw [run_storeVar_row _ _ t' t c c' (heap_alloc_last w _) hi hc h1, World.setRow_alloc_new]
  unfold Oper.wpIn
  refine ⟨?_, ?_⟩
  · simp [Oper.about, ho]
  · rw [Oper.semAt_plain F _ _ (by rw [ho]; intro c hc'; cases hc')]
    simp only [execOp, ho, hx, hy, Instr.storeAt, Instr.sureAddr, Sem.run_bind, Sem.run_pure, Result.andThen_ok, hs]
    exact hK _ _ h
theorem info_rowP : (Tryz.prog.info? 34).map (fun i => (i.zero, i.size, i.bytes)) = some (some (rowV rowD), 7, 64) := by kernel_rfl
theorem results_parse {tmps : Array Value} {w : World} {g2 g3 g4 : Nat} {v x y : Value} (h2 : tmps.getD 2 undef = .pointer (some ⟨g2, 0, none⟩)) (h3 : tmps.getD 3 undef = .pointer (some ⟨g3, 0, none⟩)) (h4 : tmps.getD 4 undef = .pointer (some ⟨g4, 0, none⟩))
    (c2 : w.cell? ⟨g2, 0, none⟩ = some v) (c3 : w.cell? ⟨g3, 0, none⟩ = some x) (c4 : w.cell? ⟨g4, 0, none⟩ = some y) :
    (results Tryz.f7 tmps).run Tryz.prog w = .ok (.tuple #[v, x, y]) w := by
  have h2' : tmps[2]?.getD undef = .pointer (some ⟨g2, 0, none⟩) := by simpa using h2
  have h3' : tmps[3]?.getD undef = .pointer (some ⟨g3, 0, none⟩) := by simpa using h3
  have h4' : tmps[4]?.getD undef = .pointer (some ⟨g4, 0, none⟩) := by simpa using h4
  simp [results, Tryz.results7, h2', h3', h4', go_sem, asAddr, c2, c3, c4]
theorem lines_any (s : ByteArray) (W : World) : Calls Tryz.prog 19 #[.string s] W fun e W' =>
    e = .returned (.func (.func 28) #[] #[.pointer (some ⟨W.heap.size, 0, none⟩)]) ∧ W' = W.alloc (.cells #[.string s] 9) := by
  have hmf : ∀ fn first cap w, (Instr.makeFunc fn first cap).run Tryz.prog w = .ok (.func fn first cap) w := fun _ _ _ _ => rfl
  go_enter Tryz.func19, Tryz.ntmps19
  go_wp2
  go_ret
  exact ⟨rfl, rfl⟩
/-- What a round keeps: what is no cells from a block on, and the iterator's box. -/
structure Kept (B Bs : Nat) (W W' : World) : Prop where
  kf : KeepsFrom B W W'
  bx : W'.heap[Bs]? = W.heap[Bs]?
theorem Kept.trans {B Bs : Nat} {X Y Z : World} (h : Kept B Bs X Y) (k : Kept B Bs Y Z) : Kept B Bs X Z := ⟨h.kf.trans k.kf, k.bx.trans h.bx⟩
theorem Kept.below {B Bs : Nat} {X Y : World} (h : Below X.heap.size X Y) (hs : Bs < X.heap.size) : Kept B Bs X Y :=
  ⟨⟨h.size, fun k _ _ hk _ => (h.block k (Array.getElem?_eq_some_iff.1 hk).1).trans hk⟩, h.block Bs hs⟩
theorem Kept.set {B Bs : Nat} (X : World) {b : Nat} (h : Bs ≠ b) (v : Value) : Kept B Bs X (X.setCell ⟨b, 0, none⟩ v) := ⟨(KeepsOthers.setCell X _ v).from B, setCell_block_other X b v h⟩

def rowsP (pre : List (Nat × List UInt8)) : List Row := (foldP pre).getD []
/-- What stands after so many lines. -/
def PI (w : World) (pre : List (Nat × List UInt8)) (W : World) : Prop :=
  (((∃ v, Boxed W (w.heap.size + 1 + 1 + 1) 22 v ∧ W.ownsRow w.heap.size 34 7 v pre.length (rowsC (rowsP pre)) ∧ foldP pre ≠ none) ∧ Boxed W w.heap.size 22 (.slice none 0 0)) ∧
    (Boxed W (w.heap.size + 1) 3 (.int .i64 0) ∧ Boxed W (w.heap.size + 1 + 1) 25 (.int .i64 0))) ∧ (Below w.heap.size w W ∧ w.heap.size + 1 + 1 + 1 + 1 < W.heap.size)
/-- What stands when a line was wrong. -/
def PX (w : World) (c : Code) (pre : List (Nat × List UInt8)) (W : World) : Prop :=
  (∃ k E : Int, (Boxed W w.heap.size 22 (.slice none 0 0) ∧ Boxed W (w.heap.size + 1) 3 (.int .i64 k) ∧ Boxed W (w.heap.size + 1 + 1) 25 (.int .i64 E)) ∧ c = .ret ∧ foldP pre = none ∧ E ≠ 0) ∧ Below w.heap.size w W
theorem box_own {B : Nat} {t : TypeId} {v : Value} {X Y : World} {row : Option Nat} (h : Boxed X B t v) (hg : X.grownBy Y row) (hrow : ∀ r, row = some r → ∃ o : Obj, X.heap[r]? = some o ∧ o.isCells = false) : Boxed Y B t v :=
  boxed_own (β := Unit) B t (fun _ => v) () X Y row h hg hrow
theorem PX.own (w : World) (B : Nat) (hB : w.heap.size ≤ B) (c : Code) : OwnFrom B (PX w c) := by
  refine OwnFrom.and (Own.from (fun s X Y row hs hg hr => ?_) _) (ownFrom_below (Nat.le_refl _) hB)
  obtain ⟨k, E, ⟨h1, h2, h3⟩, h4⟩ := hs
  exact ⟨k, E, ⟨box_own h1 hg hr, box_own h2 hg hr, box_own h3 hg hr⟩, h4⟩
theorem PI.own (w : World) (B : Nat) (hB : w.heap.size ≤ B) : OwnFrom B (PI w) := by
  refine OwnFrom.and (OwnFrom.and (OwnFrom.and (Own.from (holdsRow_own w.heap.size (w.heap.size + 1 + 1 + 1) 22 34 7 (fun pre : List (Nat × List UInt8) => pre.length) (fun pre => rowsC (rowsP pre)) (fun pre _ => foldP pre ≠ none)) _) (Own.from (boxed_own _ _ (fun _ => .slice none 0 0)) _)) (OwnFrom.and (Own.from (boxed_own _ _ (fun _ => .int .i64 0)) _) (Own.from (boxed_own _ _ (fun _ => .int .i64 0)) _))) (OwnFrom.and (ownFrom_below (Nat.le_refl _) hB) (fun _ _ _ _ hs hg _ => Nat.lt_of_lt_of_le hs hg.size))
theorem PI.set {w : World} {Bs : Nat} (hBs : w.heap.size + 1 + 1 + 1 < Bs) (pre : List (Nat × List UInt8)) (W : World) (v : Value) (h : PI w pre W) (hb : Boxed W Bs 9 v) (v' : Value) : PI w pre (W.setCell ⟨Bs, 0, none⟩ v') := by
  obtain ⟨⟨⟨⟨u, h1, h2, h3⟩, h4⟩, h5, h6⟩, h7, h8⟩ := h
  exact ⟨⟨⟨⟨u, h1.other (by omega) _, h2.kept (grownBy_setCell' W Bs v') (.inr (hb.not_row (by decide) h2).symm), h3⟩, h4.other (by omega) _⟩, h5.other (by omega) _, h6.other (by omega) _⟩, h7.setCell (p := ⟨Bs, 0, none⟩) (by simp; omega) _, by simpa using h8⟩
theorem box_put {W : World} {B D : Nat} {t : TypeId} {v : Value} (h : Boxed W B t v) (hne : B ≠ D) (o : Obj) : Boxed (W.putObj D o) B t v := (World.putObj_heap_other hne).trans h
theorem parsep_none {r : Option (List Row)} {w w' : World} {k E : Int} {e : Ending} (h : r = none) (hE : E ≠ 0) (he : e = .returned (.tuple #[.slice none 0 0, .int .i64 k, .int .i64 E])) (hb : Below w.heap.size w w') : ParseP r w e w' := by
  unfold ParseP; rw [h]; exact ⟨⟨k, E, hE, he⟩, hb⟩
theorem parsep_some {r : Option (List Row)} {l : List Row} {w w' : World} {v : Value} {e : Ending} (h : r = some l) (hs : Sl w' w'.heap.size 7 v (rowsC l)) (he : e = .returned (.tuple #[v, .int .i64 0, .int .i64 0])) (hb : Below w.heap.size w w') : ParseP r w e w' := by
  unfold ParseP; rw [h]
  obtain ⟨A, c, rfl, -⟩ := rows_open hs
  exact ⟨⟨A, c, he, hs⟩, hb⟩
theorem px_end {w W W1 : World} {B Bs : Nat} {a : Act} {pre : List (Nat × List UInt8)} {v3 v4 : Value} {k E : Int} (hk : Kept B Bs W W1) (h2 : Boxed W1 w.heap.size 22 (.slice none 0 0)) (h3 : Boxed W1 (w.heap.size + 1) 3 v3)
    (h4 : Boxed W1 (w.heap.size + 1 + 1) 25 v4) (hB : Below w.heap.size w W1) (hE : E ≠ 0) (hn : foldP pre = none) (Kp : World → World → Prop) :
    ownPostG B Kp (PI w) (PX w) pre W .ret a (((W1.setCell ⟨w.heap.size, 0, none⟩ (.slice none 0 0)).setCell ⟨w.heap.size + 1, 0, none⟩ (.int .i64 k)).setCell ⟨w.heap.size + 1 + 1, 0, none⟩ (.int .i64 E)) := by
  refine ⟨hk.kf.trans ((((KeepsOthers.setCell _ _ _).trans (KeepsOthers.setCell _ _ _)).trans (KeepsOthers.setCell _ _ _)).from B), ⟨k, E, ⟨?_, ?_, ?_⟩, rfl, hn, hE⟩, ?_⟩
  · exact ((h2.set _).other (show w.heap.size ≠ w.heap.size + 1 by omega) _).other (show w.heap.size ≠ w.heap.size + 1 + 1 by omega) _
  · exact ((h3.other (show w.heap.size + 1 ≠ w.heap.size by omega) _).set _).other (show w.heap.size + 1 ≠ w.heap.size + 1 + 1 by omega) _
  · exact ((h4.other (show w.heap.size + 1 + 1 ≠ w.heap.size by omega) _).other (show w.heap.size + 1 + 1 ≠ w.heap.size + 1 by omega) _).set _
  · exact ((hB.setCell (p := ⟨w.heap.size, 0, none⟩) (Nat.le_refl _) _).setCell (p := ⟨w.heap.size + 1, 0, none⟩) (by simp) _).setCell (p := ⟨w.heap.size + 1 + 1, 0, none⟩) (by simp; omega) _
theorem row_new (w : World) (r : Row) : ∀ j u, (rowC r)[j]? = some u → (w.alloc (.cells #[.int .i64 r.p, .int .i64 r.i, .int .i64 r.f, .int .i64 r.k, .int .i64 r.v, .int .i64 r.s, .string r.c] 34)).cell? ((⟨w.heap.size, 0, none⟩ : Addr).add j) = some u := by
  intro j u hj
  rw [show ((⟨w.heap.size, 0, none⟩ : Addr).add j) = ⟨w.heap.size, j, none⟩ by simp [Addr.add]; exact fun h => h.symm, cell_of_row _ _ _ _ _ (0, 0) (heap_alloc_last w _)]
  simpa [rowC] using hj
theorem rowC_oneP (r : Row) : ∀ u ∈ rowC r, u.oneCell' = true := by
  intro u hu
  simp only [rowC, List.mem_cons, List.not_mem_nil, or_false] at hu
  rcases hu with h | h | h | h | h | h | h <;> subst h <;> rfl
set_option maxRecDepth 100000 in
set_option maxHeartbeats 8000000 in
theorem parse_all : ParseAll := by
  intro t ht w hTL
  have HTL := Lib.hid hTL
  clear hTL
  have f0 : decide (131072 < (t.size : Int)) = false := decide_eq_false (by omega)
  by_cases h0 : t.size = 0
  · have hbe : (t.toList == (⟨#[]⟩ : ByteArray).toList) = true := by rw [str_empty' h0, str_empty' (c := ⟨#[]⟩) rfl]; rfl
    have hie : t.toList.isEmpty = true := by rw [str_empty' h0]; rfl
    have HM : Hid (parseM t.data.toList = none) := Lib.hid (by
      have : t.data.toList = [] := List.eq_nil_of_length_eq_zero (by rw [bsl_len]; exact h0)
      rw [this]; rfl)
    clear h0 ht
    go_enter Tryz.func7, Tryz.ntmps7
    go_wp2_with fail
    refine bodyPost_ret (results_parse rfl rfl rfl (v := .slice none 0 0) (x := .int .i64 0) (y := .int .i64 17) (by go_simp) (by go_simp) (by go_simp)) rfl ?_
    exact parsep_none HM.out (by decide) rfl (by go_grown)
  · have hne : (t.toList == (⟨#[]⟩ : ByteArray).toList) = false := str_bne (fun h => by rw [h] at h0; exact h0 rfl)
    have hne2 := str_full' (c := t) (by omega)
    have HM : Hid (parseM t.data.toList = foldP (seqL (t.size + 1) 1 t.data.toList)) := Lib.hid (by
      rw [parseM_fold (fun e => h0 (by rw [← bsl_len, e]; rfl)), bsl_len])
    obtain ⟨xs, hxs⟩ := name_of (seqL (t.size + 1) 1 t.data.toList)
    have hbd := seqL_bd (t.size + 1) 1 t.data.toList
    rw [hxs, bsl_len] at hbd
    rw [hxs] at HM
    have HXS := Lib.hid hxs
    have HBD := Lib.hid hbd
    clear hxs hbd h0
    refine (callsIn_wide (n := 10)).1 ?_
    refine callsIn_of_wp_marks Tryz.func7 rfl trivial ?_ rfl
    simp only [Tryz.ntmps7, List.size_toArray, List.length_cons, List.length_nil, Nat.reduceAdd, Nat.reduceSub, Array.replicate_succ, Array.replicate_zero, List.push_toArray, List.append_toArray, List.nil_append, List.cons_append]
    gi_wp2
    refine ⟨trivial, (callsIn_wide.2 (lines_any t _)).mono ?_⟩
    rintro e w' ⟨rfl, rfl⟩
    gi_wp2
    have b2 := Boxed.new w 22 (.slice none 0 0)
    have b3 := Boxed.new (w.alloc (.cells #[.slice none 0 0] 22)) 3 (.int .i64 0)
    have b4 := Boxed.new ((w.alloc (.cells #[.slice none 0 0] 22)).alloc (.cells #[.int .i64 0] 3)) 25 (.int .i64 0)
    have b5 := Boxed.new (((w.alloc (.cells #[.slice none 0 0] 22)).alloc (.cells #[.int .i64 0] 3)).alloc (.cells #[.int .i64 0] 25)) 22 (.slice none 0 0)
    have b6 := Boxed.new ((((w.alloc (.cells #[.slice none 0 0] 22)).alloc (.cells #[.int .i64 0] 3)).alloc (.cells #[.int .i64 0] 25)).alloc (.cells #[.slice none 0 0] 22)) 9 (.string t)
    simp only [World.size_alloc] at b3 b4 b5 b6
    have hB5 : Below w.heap.size w (((((w.alloc (.cells #[.slice none 0 0] 22)).alloc (.cells #[.int .i64 0] 3)).alloc (.cells #[.int .i64 0] 25)).alloc (.cells #[.slice none 0 0] 22)).alloc (.cells #[.string t] 9)) := by go_grown
    have hI0 : PI w [] (((((w.alloc (.cells #[.slice none 0 0] 22)).alloc (.cells #[.int .i64 0] 3)).alloc (.cells #[.int .i64 0] 25)).alloc (.cells #[.slice none 0 0] 22)).alloc (.cells #[.string t] 9)) :=
      ⟨⟨⟨⟨_, b5.alloc _, ⟨by simp [rowsP, foldP_nil, rowsC], .inl ⟨rfl, rfl⟩⟩, by rw [foldP_nil]; simp⟩, (((b2.alloc _).alloc _).alloc _).alloc _⟩, ((b3.alloc _).alloc _).alloc _, (b4.alloc _).alloc _⟩, hB5, by simp⟩
    have hSeq : SeqBox Fence.wide 9 Tryz.prog 28 #[.pointer (some ⟨w.heap.size + 1 + 1 + 1 + 1, 0, none⟩)] lineV (w.heap.size + 1 + 1 + 1 + 1) 9 (.string t) xs :=
      fun l J Jx W hJ hY hb h0 => lines1_in 9 (by omega) l _ t (by omega) xs HXS.out.symm J Jx W hJ hY hb h0
    clear b2 b3 b4 b5
    refine wpIn_rangeBox rfl (by omega) (gf := 28) (lb := #[.pointer (some ⟨w.heap.size + 1 + 1 + 1 + 1, 0, none⟩)]) rfl trivial (enters_of Tryz.func28 (by kernel_rfl) rfl)
      hSeq b6 (fun _ => rfl) (PI w) (PX w) (PI.own w _ (by simp; omega)) (PX.own w _ (by simp; omega)) (PI.set (by omega)) hI0
      (fun x => { tmps := #[.string t, undef, .pointer (some ⟨w.heap.size, 0, none⟩), .pointer (some ⟨w.heap.size + 1, 0, none⟩), .pointer (some ⟨w.heap.size + 1 + 1, 0, none⟩), .pointer (some ⟨w.heap.size + 1 + 1 + 1, 0, none⟩), .int .i64 (x.1 : Int), .string ⟨x.2.toArray⟩, undef, undef, undef, undef, .string t, .int .i64 t.size, .bool false, .string t, .bool false, .string t, .func (.func 28) #[] #[.pointer (some ⟨w.heap.size + 1 + 1 + 1 + 1, 0, none⟩)], .int .i64 (x.1 : Int), .string ⟨x.2.toArray⟩, undef, undef, undef, undef, undef, undef, undef, undef, undef, undef, undef, undef, undef, undef, undef, undef, undef, undef, undef, undef, undef, undef, undef, undef, undef, undef, undef, undef, undef, undef], defers := [] }) ?assign ?body ?done ?stop
    case assign =>
      intro l x W K hK
      gi_wp2
      exact hK
    case body =>
      rintro l' pre ⟨k, ln⟩ W ⟨⟨⟨⟨v, hv, hrow, hfp⟩, h2⟩, h3, h4⟩, hB, hBs⟩ ⟨bv, hbv⟩ hpx
      have hnb := hbv.not_row (by decide) hrow
      obtain ⟨rows, hrows⟩ : ∃ rows, foldP pre = some rows := by
        cases h : foldP pre with
        | none => exact absurd h hfp
        | some r => exact ⟨r, rfl⟩
      have hrp : rowsP pre = rows := by unfold rowsP; rw [hrows]; rfl
      rw [hrp] at hrow
      obtain ⟨A, m, c, rfl⟩ := own_slice hrow
      have hk : k = pre.length + 1 := (seqL_num _ 1 _ pre (k, ln) (by rw [HXS.out]; exact hpx)).trans (Nat.add_comm _ _)
      have hnl := hpx.length_le
      rw [List.length_append, List.length_singleton] at hnl
      have hpl : pre.length + 1 ≤ 20000 := by have := HBD.out.1; omega
      have hll : ln.length ≤ 20000 := by have h := HBD.out.2 (k, ln) (hpx.subset (by simp)); exact Nat.le_trans h ht
      have hwfs := foldP_wf 20000 (by omega) pre.length pre rows rfl (fun y hy => by have := HBD.out.2 y (hpx.subset (by simp [hy])); omega) hrows
      have hlen := foldP_len hrows
      have HWF := Lib.hid hwfs
      have HST : Hid (foldP (pre ++ [(k, ln)]) = stepL (some rows) ln) := Lib.hid (by rw [foldP_snoc, hrows])
      have HTW : Hid (TL W) := Lib.hid (HTL.out.next hB)
      have HLEN := Lib.hid hlen
      obtain ⟨ls, hls⟩ := name_of (⟨ln.toArray⟩ : ByteArray)
      have hlz : ls.size ≤ 20000 := by rw [← hls]; exact hll
      have HLS : Hid (ls.data.toList = ln) := Lib.hid (by rw [← hls])
      have hCS := CallsIn.inRound l' ((callsIn_wide (n := 10 - 1 - 1 - 1)).2 (Tryz.strings_CutSuffix ls ⟨#[10]⟩ W (by omega)))
      rw [HLS.out, show (⟨#[10]⟩ : ByteArray).data.toList = [10] from rfl] at hCS
      subst hk
      rw [hls]
      have hd : 1 ≤ 10 - 1 - 1 := by omega
      have hmx : Tryz.prog.follows .mixedOrders = true := by kernel_rfl
      have hc := hv.cell
      have c2 := h2.cell
      have c3 := h3.cell
      have c4 := h4.cell
      have z2 := h2.frozen
      have z3 := h3.frozen
      have z4 := h4.frozen
      have z5 := hv.frozen
      clear hfp hrows hrp hpx hnl hwfs hlen hls
      by_cases hsf : Lib.hasSuffix ln [10] = true
      · rw [hsf] at hCS
        have HSF := Lib.hid hsf
        have htl := trim_le ln [10]
        obtain ⟨tr, htr⟩ := name_of (⟨(Lib.trimSuffix ln [10]).toArray⟩ : ByteArray)
        have htz : tr.size ≤ 20000 := by rw [← htr]; exact Nat.le_trans htl hll
        have HTR : Hid (tr.data.toList = Lib.trimSuffix ln [10]) := Lib.hid (by rw [← htr])
        rw [htr] at hCS
        have hPr := CallsIn.inRound l' ((callsIn_wide (n := 10 - 1 - 1 - 1)).2 (parse_walk tr (by omega) W HTW.out))
        rw [HTR.out] at hPr
        clear htr htl hsf
        cases hrt : rowT (Lib.trimSuffix ln [10]) with
        | none =>
          have HN : Hid (foldP (pre ++ [(pre.length + 1, ln)]) = none) := Lib.hid (by rw [HST.out, step_row HSF.out hrt])
          rw [hrt] at hPr
          clear hrt
          gi_wp2
          refine ⟨trivial, hCS.mono ?_⟩
          rintro e w' ⟨rfl, rfl⟩
          gi_wp2
          refine ⟨trivial, hPr.mono ?_⟩
          rintro e w2 ⟨⟨E, hE, rfl⟩, hb2⟩
          have hne : (E != 0) = true := bne_iff_ne.2 hE
          have k2 := Kept.below (B := (((((w.alloc (.cells #[.slice none 0 0] 22)).alloc (.cells #[.int .i64 0] 3)).alloc (.cells #[.int .i64 0] 25)).alloc (.cells #[.slice none 0 0] 22)).alloc (.cells #[.string t] 9)).heap.size) (hb2.next ((Below.refl w2.heap.size w2).alloc (Nat.le_refl _) (.cells #[.int .i64 0, .int .i64 0, .int .i64 0, .int .i64 0, .int .i64 0, .int .i64 0, .string ⟨#[]⟩] 34))) hBs
          have p2 : Boxed (w2.alloc (.cells #[.int .i64 0, .int .i64 0, .int .i64 0, .int .i64 0, .int .i64 0, .int .i64 0, .string ⟨#[]⟩] 34)) _ _ _ := (h2.kept (grown_of_below hb2) (by simp)).alloc _
          have p3 : Boxed (w2.alloc (.cells #[.int .i64 0, .int .i64 0, .int .i64 0, .int .i64 0, .int .i64 0, .int .i64 0, .string ⟨#[]⟩] 34)) _ _ _ := (h3.kept (grown_of_below hb2) (by simp)).alloc _
          have p4 : Boxed (w2.alloc (.cells #[.int .i64 0, .int .i64 0, .int .i64 0, .int .i64 0, .int .i64 0, .int .i64 0, .string ⟨#[]⟩] 34)) _ _ _ := (h4.kept (grown_of_below hb2) (by simp)).alloc _
          have hB2 : Below w.heap.size w (w2.alloc (.cells #[.int .i64 0, .int .i64 0, .int .i64 0, .int .i64 0, .int .i64 0, .int .i64 0, .string ⟨#[]⟩] 34)) := hB.next (hb2.next ((Below.refl w2.heap.size w2).alloc (Nat.le_refl _) _))
          have c2 := p2.cell
          have c3 := p3.cell
          have c4 := p4.cell
          have z2 := p2.frozen
          have z3 := p3.frozen
          have z4 := p4.frozen
          have P2 := Lib.hid p2
          have P3 := Lib.hid p3
          have P4 := Lib.hid p4
          clear p2 p3 p4 hb2
          gi_wp2_with (refine wpListIn_store_new rfl 34 34 (.tmp 10) (.tmp 32) rfl _ _ w2.heap.size rfl rfl rfl (by kernel_rfl) rfl (by kernel_rfl) ?_)
          exact px_end k2 P2.out P3.out P4.out hB2 hE HN.out _
        | some r =>
          obtain ⟨rp, ri, rf, rk, rv, rs, rc⟩ := r
          rw [hrt] at hPr
          have HRT := Lib.hid hrt
          clear hrt
          obtain ⟨i0, hi, hz0, hz1, hz2⟩ := info_parts info_rowP
          gi_wp2
          refine ⟨trivial, hCS.mono ?_⟩
          rintro e w' ⟨rfl, rfl⟩
          gi_wp2
          refine ⟨trivial, hPr.mono ?_⟩
          rintro e w2 ⟨rfl, hb2⟩
          rw [show rowV ⟨rp, ri, rf, rk, rv, rs, rc⟩ = .agg #[.int .i64 rp, .int .i64 ri, .int .i64 rf, .int .i64 rk, .int .i64 rv, .int .i64 rs, .string rc] from rfl]
          have q2 := h2.kept (grown_of_below hb2) (by simp)
          have q3 := h3.kept (grown_of_below hb2) (by simp)
          have q4 := h4.kept (grown_of_below hb2) (by simp)
          have q5 := hv.kept (grown_of_below hb2) (by simp)
          have qr := own_kept hrow (grown_of_below hb2) (fun g e => by cases e)
          have hb3 : Below w'.heap.size w' (w2.alloc (.cells #[.int .i64 rp, .int .i64 ri, .int .i64 rf, .int .i64 rk, .int .i64 rv, .int .i64 rs, .string rc] 34)) := hb2.next ((Below.refl w2.heap.size w2).alloc (Nat.le_refl _) _)
          have hB3 := hB.next hb3
          have K3 := Kept.below (B := (((((w.alloc (.cells #[.slice none 0 0] 22)).alloc (.cells #[.int .i64 0] 3)).alloc (.cells #[.int .i64 0] 25)).alloc (.cells #[.slice none 0 0] 22)).alloc (.cells #[.string t] 9)).heap.size) hb3 hBs
          have hz3 := Nat.lt_of_lt_of_le hBs hb3.size
          have HT3 := Lib.hid (HTW.out.next hb3)
          have r2 := q2.alloc (.cells #[.int .i64 rp, .int .i64 ri, .int .i64 rf, .int .i64 rk, .int .i64 rv, .int .i64 rs, .string rc] 34)
          have r3 := q3.alloc (.cells #[.int .i64 rp, .int .i64 ri, .int .i64 rf, .int .i64 rk, .int .i64 rv, .int .i64 rs, .string rc] 34)
          have r4 := q4.alloc (.cells #[.int .i64 rp, .int .i64 ri, .int .i64 rf, .int .i64 rk, .int .i64 rv, .int .i64 rs, .string rc] 34)
          have r5 := q5.alloc (.cells #[.int .i64 rp, .int .i64 ri, .int .i64 rf, .int .i64 rk, .int .i64 rv, .int .i64 rs, .string rc] 34)
          have rr := qr.alloc (.cells #[.int .i64 rp, .int .i64 ri, .int .i64 rf, .int .i64 rk, .int .i64 rv, .int .i64 rs, .string rc] 34)
          have c5 := r5.cell
          have y5 := r5.frozen
          have hz2' : w.heap.size + 1 + 1 + 1 + 1 < w2.heap.size := Nat.lt_of_lt_of_le hBs hb2.size
          clear q2 q3 q4 q5 qr hrow hv h2 h3 h4 hb2 hb3 hc c2 c3 c4 z2 z3 z4 z5
          have R2 := Lib.hid r2
          have R3 := Lib.hid r3
          have R4 := Lib.hid r4
          have R5 := Lib.hid r5
          have RR := Lib.hid rr
          have HB3 := Lib.hid hB3
          have HK3 := Lib.hid K3
          clear r2 r3 r4 r5 rr hB3 K3
          gi_wp2_with (first | (refine wpListIn_store_new rfl 34 34 (.tmp 10) (.tmp 32) rfl _ _ w2.heap.size rfl rfl rfl (by kernel_rfl) rfl rfl ?_) | (gi_at_builtin; refine wpListIn_append_own _ rfl (.tmp 38) (.tmp 40) 22 rfl w.heap.size 34 i0 (rowV rowD) 7 64 Tryz.underlying22 hi hz0 hz1 hz2 rfl (by decide) _ _ _ rfl (RR.out.alloc _) ⟨w2.heap.size + 1, 0, none⟩ 1 1 (rowC ⟨rp, ri, rf, rk, rv, rs, rc⟩) rfl rfl (by have h := row_new (w2.alloc (.cells #[.int .i64 rp, .int .i64 ri, .int .i64 rf, .int .i64 rk, .int .i64 rv, .int .i64 rs, .string rc] 34)) ⟨rp, ri, rf, rk, rv, rs, rc⟩; rw [World.size_alloc] at h; exact h) (rowC_oneP _) (by simp only [maxLen]; omega) (by omega) (by simp; omega) ?_; intro v' w1 hown' hgrow _; obtain ⟨g', cap', rfl⟩ := ownsRow_succ hown'; obtain ⟨hv1, hv2, hr2, hk2, hb2⟩ := R5.out.appended (by decide) RR.out HB3.out.size (by omega) hown' hgrow; have hc1 := hv1.cell; have hf1 := hv1.frozen; have hc3 := hv2.cell; have HR2 := Lib.hid hr2; have HV2 := Lib.hid hv2; have HOWN := Lib.hid hown'; have HGR := Lib.hid hgrow; have HK2 := Lib.hid hk2; have HB2 := Lib.hid hb2; clear hr2 hv2 hown' hgrow hk2 hb2 hv1))
          have hsl : Sl (w1.setCell ⟨w.heap.size + 1 + 1 + 1, 0, none⟩ (.slice (some ⟨g', 0, none⟩) (pre.length + 1) cap')) (w1.setCell ⟨w.heap.size + 1 + 1 + 1, 0, none⟩ (.slice (some ⟨g', 0, none⟩) (pre.length + 1) cap')).heap.size 7 (.slice (some ⟨g', 0, none⟩) (pre.length + 1) cap') (rowsC (rows ++ [⟨rp, ri, rf, rk, rv, rs, rc⟩])) := by
            have h := Sl.own HR2.out
            rw [show rowsC (rows ++ [⟨rp, ri, rf, rk, rv, rs, rc⟩]) = rowsC rows ++ rowC ⟨rp, ri, rf, rk, rv, rs, rc⟩ by simp [rowsC, List.flatMap_append]]
            exact h
          have hsm : SmallB (rows ++ [⟨rp, ri, rf, rk, rv, rs, rc⟩]) := by
            refine ⟨by rw [List.length_append, List.length_singleton, HLEN.out]; omega, fun j hj => ?_⟩
            rw [at_eq hj]
            rcases List.mem_append.1 (List.getElem_mem hj) with h | h
            · exact Nat.le_trans (HWF.out _ h).2 (by omega)
            · rw [List.mem_singleton] at h
              rw [h]
              have h1 := (rowT_wf HRT.out (by rw [← HTR.out, bsl_len]; omega)).2
              rw [← HTR.out, bsl_len] at h1
              exact Nat.le_trans h1 (by omega)
          have hCk := CallsIn.inRound l' ((callsIn_wide (n := 10 - 1 - 1 - 1)).2 (check_any hsl hsm (k := pre.length) (by rw [List.length_append, List.length_singleton, HLEN.out]; omega)))
          obtain ⟨E, hE⟩ := name_of (right (rows ++ [(⟨rp, ri, rf, rk, rv, rs, rc⟩ : Row)]).length (rows ++ [⟨rp, ri, rf, rk, rv, rs, rc⟩]) pre.length)
          rw [hE] at hCk
          rw [List.length_append, List.length_singleton, HLEN.out] at hE
          have HE := Lib.hid hE
          clear hE hsl hsm hc1 hf1 hc3 c5 y5
          have s2 := (((R2.out.alloc _).kept HGR.out (R2.out.not_row (by decide) RR.out)).other (show w.heap.size ≠ w.heap.size + 1 + 1 + 1 by omega) (.slice (some ⟨g', 0, none⟩) (pre.length + 1) cap'))
          have s3 := (((R3.out.alloc _).kept HGR.out (R3.out.not_row (by decide) RR.out)).other (show w.heap.size + 1 ≠ w.heap.size + 1 + 1 + 1 by omega) (.slice (some ⟨g', 0, none⟩) (pre.length + 1) cap'))
          have s4 := (((R4.out.alloc _).kept HGR.out (R4.out.not_row (by decide) RR.out)).other (show w.heap.size + 1 + 1 ≠ w.heap.size + 1 + 1 + 1 by omega) (.slice (some ⟨g', 0, none⟩) (pre.length + 1) cap'))
          have hBx : (w1.setCell ⟨w.heap.size + 1 + 1 + 1, 0, none⟩ (.slice (some ⟨g', 0, none⟩) (pre.length + 1) cap')).heap[w.heap.size + 1 + 1 + 1 + 1]? = (w2.alloc (.cells #[.int .i64 rp, .int .i64 ri, .int .i64 rf, .int .i64 rk, .int .i64 rv, .int .i64 rs, .string rc] 34)).heap[w.heap.size + 1 + 1 + 1 + 1]? := by
            rw [setCell_block_other _ _ _ (by omega), HGR.out.block _ (by simp; omega) hnb]
            exact Below.heap_alloc _ _ _ (by simp; omega)
          have hKW : Kept ((((((w.alloc (.cells #[.slice none 0 0] 22)).alloc (.cells #[.int .i64 0] 3)).alloc (.cells #[.int .i64 0] 25)).alloc (.cells #[.slice none 0 0] 22)).alloc (.cells #[.string t] 9)).heap.size) (w.heap.size + 1 + 1 + 1 + 1) w' (w1.setCell ⟨w.heap.size + 1 + 1 + 1, 0, none⟩ (.slice (some ⟨g', 0, none⟩) (pre.length + 1) cap')) := HK3.out.trans ⟨HK2.out.from _, hBx⟩
          have hBW : Below w.heap.size w (w1.setCell ⟨w.heap.size + 1 + 1 + 1, 0, none⟩ (.slice (some ⟨g', 0, none⟩) (pre.length + 1) cap')) := HB3.out.trans HB2.out
          have hzW : w.heap.size + 1 + 1 + 1 + 1 < (w1.setCell ⟨w.heap.size + 1 + 1 + 1, 0, none⟩ (.slice (some ⟨g', 0, none⟩) (pre.length + 1) cap')).heap.size := Nat.lt_of_lt_of_le hz3 HK2.out.size
          have S2 := Lib.hid s2
          have S3 := Lib.hid s3
          have S4 := Lib.hid s4
          have HKW := Lib.hid hKW
          have HBW := Lib.hid hBW
          have hzw := hzW
          clear s2 s3 s4 hKW hBW hzW hBx
          obtain ⟨V, hV⟩ := name_of (w1.setCell ⟨w.heap.size + 1 + 1 + 1, 0, none⟩ (.slice (some ⟨g', 0, none⟩) (pre.length + 1) cap'))
          have HV3 := Lib.hid HV2.out
          have HR3 := Lib.hid HR2.out
          clear HV2 HR2
          rw [hV] at hCk S2 S3 S4 HKW HBW HV3 HR3 hzw ⊢
          clear hV HGR HK2 HB2 HOWN
          by_cases hE0 : E = 0
          · subst hE0
            have HON : Hid (foldP (pre ++ [(pre.length + 1, ln)]) = some (rows ++ [⟨rp, ri, rf, rk, rv, rs, rc⟩])) := Lib.hid (by rw [HST.out]; exact step_on HSF.out HRT.out (by rw [HLEN.out]; exact HE.out))
            refine ⟨trivial, hCk.mono ?_⟩
            rintro e w6 ⟨rfl, hb6⟩
            have t2 := S2.out.kept (grown_of_below hb6) (by simp)
            have t3 := S3.out.kept (grown_of_below hb6) (by simp)
            have t4 := S4.out.kept (grown_of_below hb6) (by simp)
            have t5 := HV3.out.kept (grown_of_below hb6) (by simp)
            have tr2 := own_kept HR3.out (grown_of_below hb6) (fun g e => by cases e)
            have tK := HKW.out.trans (Kept.below hb6 hzw)
            have tB := HBW.out.next hb6
            have tz := Nat.lt_of_lt_of_le hzw hb6.size
            have hon := HON.out
            clear hCk S2 S3 S4 HV3 HR3 HKW HBW hb6
            gi_wp2
            refine ⟨tK.kf, tK.bx, ⟨⟨⟨_, t5, own_len tr2 (by simp) (by unfold rowsP; rw [hon]; simp [rowsC, List.flatMap_append]), by rw [hon]; simp⟩, t2⟩, t3, t4⟩, tB, tz⟩
          · have hne : (E != 0) = true := bne_iff_ne.2 hE0
            have HN : Hid (foldP (pre ++ [(pre.length + 1, ln)]) = none) := Lib.hid (by rw [HST.out]; exact step_wrong HSF.out HRT.out (by rw [HLEN.out, HE.out]; exact hE0))
            refine ⟨trivial, hCk.mono ?_⟩
            rintro e w6 ⟨rfl, hb6⟩
            have t2 := S2.out.kept (grown_of_below hb6) (by simp)
            have t3 := S3.out.kept (grown_of_below hb6) (by simp)
            have t4 := S4.out.kept (grown_of_below hb6) (by simp)
            have tK := HKW.out.trans (Kept.below hb6 hzw)
            have tB := HBW.out.next hb6
            have c2 := t2.cell
            have c3 := t3.cell
            have c4 := t4.cell
            have z2 := t2.frozen
            have z3 := t3.frozen
            have z4 := t4.frozen
            have T2 := Lib.hid t2
            have T3 := Lib.hid t3
            have T4 := Lib.hid t4
            clear hCk S2 S3 S4 HV3 HR3 HKW HBW hb6 t2 t3 t4
            gi_wp2
            exact px_end tK T2.out T3.out T4.out tB hE0 HN.out _
      · have hsf2 : Lib.hasSuffix ln [10] = false := by simpa using hsf
        rw [hsf2] at hCS
        have HN : Hid (foldP (pre ++ [(pre.length + 1, ln)]) = none) := Lib.hid (by rw [HST.out, step_form hsf2])
        clear hsf hsf2
        obtain ⟨tr, htr⟩ := name_of (⟨(Lib.trimSuffix ln [10]).toArray⟩ : ByteArray)
        rw [htr] at hCS
        clear htr
        gi_wp2
        refine ⟨trivial, hCS.mono ?_⟩
        rintro e w' ⟨rfl, rfl⟩
        gi_wp2
        exact px_end (Kept.below (Below.refl _ _) hBs) h2 h3 h4 hB (by decide) HN.out _
    case done =>
      rintro D W hD hI hK
      obtain ⟨⟨⟨⟨v, hv, hrow, hfp⟩, h2⟩, h3, h4⟩, hB, -⟩ := hI
      obtain ⟨A, m, c, rfl⟩ := own_slice hrow
      have hc := hv.cell
      have c2 := h2.cell
      have c3 := h3.cell
      have c4 := h4.cell
      have z2 := h2.frozen
      have z3 := h3.frozen
      have z4 := h4.frozen
      have n2 := h2.not_row (by decide) hrow
      have n3 := h3.not_row (by decide) hrow
      have n4 := h4.not_row (by decide) hrow
      have g2 := ((h2.set (.slice A m c)).other (show w.heap.size ≠ w.heap.size + 1 by omega) (.int .i64 0)).other (show w.heap.size ≠ w.heap.size + 1 + 1 by omega) (.int .i64 0)
      have g3 := ((h3.other (show w.heap.size + 1 ≠ w.heap.size by omega) (.slice A m c)).set (.int .i64 0)).other (show w.heap.size + 1 ≠ w.heap.size + 1 + 1 by omega) (.int .i64 0)
      have g4 := ((h4.other (show w.heap.size + 1 + 1 ≠ w.heap.size by omega) (.slice A m c)).other (show w.heap.size + 1 + 1 ≠ w.heap.size + 1 by omega) (.int .i64 0)).set (.int .i64 0)
      have gr := ((hrow.kept (grownBy_setCell' W w.heap.size (.slice A m c)) (.inr n2.symm)).kept (grownBy_setCell' _ (w.heap.size + 1) (.int .i64 0)) (.inr n3.symm)).kept (grownBy_setCell' _ (w.heap.size + 1 + 1) (.int .i64 0)) (.inr n4.symm)
      have hDs : w.heap.size + 1 + 1 < D := by simp at hD; omega
      have gK : (((W.setCell ⟨w.heap.size, 0, none⟩ (.slice A m c)).setCell ⟨w.heap.size + 1, 0, none⟩ (.int .i64 0)).setCell ⟨w.heap.size + 1 + 1, 0, none⟩ (.int .i64 0)).heap[D]? = some (.deferred (some [])) := by
        rw [setCell_block_other _ _ _ (by omega), setCell_block_other _ _ _ (by omega), setCell_block_other _ _ _ (by omega)]
        exact hK
      have gB := ((hB.setCell (p := ⟨w.heap.size, 0, none⟩) (Nat.le_refl _) (.slice A m c)).setCell (p := ⟨w.heap.size + 1, 0, none⟩) (by simp) (.int .i64 0)).setCell (p := ⟨w.heap.size + 1 + 1, 0, none⟩) (by simp; omega) (.int .i64 0)
      have G2 := Lib.hid g2
      have G3 := Lib.hid g3
      have G4 := Lib.hid g4
      have GR := Lib.hid gr
      have GK := Lib.hid gK
      have GB := Lib.hid gB
      clear g2 g3 g4 gr gK gB n2 n3 n4 hrow hK hB
      gi_wp2
      refine ⟨by simp, .inl ⟨_, _, rfl, run_takeDeferred GK.out, ?_⟩⟩
      obtain ⟨rows, hrows⟩ : ∃ rows, foldP xs = some rows := by
        cases h : foldP xs with
        | none => exact absurd h hfp
        | some r => exact ⟨r, rfl⟩
      have hrp : rowsP xs = rows := by unfold rowsP; rw [hrows]; rfl
      refine ⟨_, results_parse rfl rfl rfl (Boxed.cell (box_put G2.out (by omega) _)) (Boxed.cell (box_put G3.out (by omega) _)) (Boxed.cell (box_put G4.out (by omega) _)), ?_⟩
      exact parsep_some (HM.out.trans hrows) (by rw [← hrp]; exact Sl.own (ownsRow_putObj GR.out _ GK.out rfl)) rfl (GB.out.trans (belowK_b (w := w) (Nat.le_refl _) _ D _ _ (by omega) GK.out rfl rfl))
    case stop =>
      rintro D c pre W hD hpre ⟨⟨k, E, ⟨h2, h3, h4⟩, rfl, hfn, hE⟩, hB⟩ hK
      have c2 := h2.cell
      have c3 := h3.cell
      have c4 := h4.cell
      have hDs : w.heap.size + 1 + 1 < D := by simp at hD; omega
      gi_wp2
      refine ⟨by simp, .inl ⟨_, _, rfl, run_takeDeferred hK, ?_⟩⟩
      refine ⟨_, results_parse rfl rfl rfl (Boxed.cell (box_put h2 (by omega) _)) (Boxed.cell (box_put h3 (by omega) _)) (Boxed.cell (box_put h4 (by omega) _)), ?_⟩
      exact parsep_none (HM.out.trans (foldP_stop hpre hfn)) hE rfl (hB.trans (belowK_b (w := w) (Nat.le_refl _) _ D _ _ (by omega) hK rfl rfl))
end P7
end Go.Proofs.YthpfoegmoldkgaaGreatDoor
