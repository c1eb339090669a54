/- Script: Window. -/
import Derived.Test.YtkobmoabnnjejaaDoorS8a
import Derived.Deep.OwnRows
import Derived.RangeFuncCalls
import Derived.RangeFuncBound
import Derived.RangeFuncNested
import Derived.Shelf.RegionOpen
namespace Go.Proofs.YtkobmoabnnjejaaDoor
open Go.RowKit Go.Shelf
namespace P21
open PC

attribute [local go_sem] Oper.semAt_some

theorem window_none {w : World} {v : Value} {l : List Ev} (h : Evs w v l) (n : Int) (hn : n < 1 ∨ (l.length : Int) < n) :
    Calls Tryd.prog 19 #[v, .int .i64 n] w fun e w' => e = .returned (.int .i64 0) ∧ Below w.heap.size w w' := by
  obtain ⟨A, c, rfl, -⟩ := evs_open h.sl
  obtain ⟨m, hm⟩ := name_of l.length
  rw [hm] at hn ⊢
  clear h hm
  by_cases h1 : n < 1
  · have f1 : decide (n < 1) = true := by simpa using h1
    clear hn
    go_enter Tryd.func19, Tryd.ntmps19
    go_wp2_with fail
    go_ret
    exact ⟨rfl, by go_grown⟩
  · have f1 : decide (n < 1) = false := by simpa using h1
    have f2 : decide ((m : Int) < n) = true := by simp; omega
    clear hn h1
    go_enter Tryd.func19, Tryd.ntmps19
    go_wp2_with fail
    go_ret
    exact ⟨rfl, by go_grown⟩
/-- Window's variables in memory. -/
structure WinC (B n : Nat) (worst picks : Int) (last : List Int) (W : World) : Prop where
  cn : W.cell? ⟨B, 0, none⟩ = some (.int .i64 n)
  cl : W.cell? ⟨B + 1 + 1, 0, none⟩ = some (.slice (some ⟨B + 1, 0, none⟩) n n)
  cw : W.cell? ⟨B + 1 + 1 + 1, 0, none⟩ = some (.int .i64 worst)
  cp : W.cell? ⟨B + 1 + 1 + 1 + 1, 0, none⟩ = some (.int .i64 picks)
  ce : ∀ j, j < n → W.cell? ⟨B + 1, j, none⟩ = some (.int .i64 (last.getD j 0))
  fe : ∀ j, j < n → W.frozen? ⟨B + 1, j, none⟩ = false
  fw : W.frozen? ⟨B + 1 + 1 + 1, 0, none⟩ = false
  fp : W.frozen? ⟨B + 1 + 1 + 1 + 1, 0, none⟩ = false
theorem setOther {W : World} {p q : Addr} {u v : Value} (h : W.cell? q = some v) (e : p.block ≠ q.block) : (W.setCell p u).cell? q = some v := (World.cell?_setCell_other _ _ _ _ (fun c => e (by rw [c]))).trans h
theorem setSame {W : World} {p : Addr} {u v : Value} (h : W.cell? p = some v) : (W.setCell p u).cell? p = some u := World.cell?_setCell_same' _ _ _ (by rw [h]; rfl)
theorem setFrozen {W : World} {p q : Addr} {u : Value} {b : Bool} (h : W.frozen? q = b) : (W.setCell p u).frozen? q = b := by rw [World.frozen?_setCell]; exact h
section
variable {B n : Nat} {a p : Int} {l : List Int} {W : World} (h : WinC B n a p l W)
include h
theorem WinC.setP (x : Int) : WinC B n a x l (W.setCell ⟨B + 1 + 1 + 1 + 1, 0, none⟩ (.int .i64 x)) :=
  ⟨setOther h.cn (by first | (simp; done) | (simp; omega) | (simp only []; omega)), setOther h.cl (by first | (simp; done) | (simp; omega) | (simp only []; omega)), setOther h.cw (by first | (simp; done) | (simp; omega) | (simp only []; omega)), setSame h.cp, fun j hj => setOther (h.ce j hj) (by first | (simp; done) | (simp; omega) | (simp only []; omega)), fun j hj => setFrozen (h.fe j hj), setFrozen h.fw, setFrozen h.fp⟩
theorem WinC.setW (x : Int) : WinC B n x p l (W.setCell ⟨B + 1 + 1 + 1, 0, none⟩ (.int .i64 x)) :=
  ⟨setOther h.cn (by first | (simp; done) | (simp; omega) | (simp only []; omega)), setOther h.cl (by first | (simp; done) | (simp; omega) | (simp only []; omega)), setSame h.cw, setOther h.cp (by first | (simp; done) | (simp; omega) | (simp only []; omega)), fun j hj => setOther (h.ce j hj) (by first | (simp; done) | (simp; omega) | (simp only []; omega)), fun j hj => setFrozen (h.fe j hj), setFrozen h.fw, setFrozen h.fp⟩
theorem WinC.setL (hl : l.length = n) (k : Nat) (hk : k < n) (x : Int) : WinC B n a p (l.set k x) (W.setCell ⟨B + 1, k, none⟩ (.int .i64 x)) := by
  refine ⟨setOther h.cn (by first | (simp; done) | (simp; omega) | (simp only []; omega)), setOther h.cl (by first | (simp; done) | (simp; omega) | (simp only []; omega)), setOther h.cw (by first | (simp; done) | (simp; omega) | (simp only []; omega)), setOther h.cp (by first | (simp; done) | (simp; omega) | (simp only []; omega)), fun j hj => ?_, fun j hj => setFrozen (h.fe j hj), setFrozen h.fw, setFrozen h.fp⟩
  by_cases e : k = j
  · subst e
    rw [setSame (h.ce k hj), List.getD_eq_getElem?_getD, List.getElem?_set, if_pos rfl, if_pos (by omega)]; rfl
  · rw [List.getD_eq_getElem?_getD, List.getElem?_set, if_neg e, ← List.getD_eq_getElem?_getD, ← h.ce j hj]
    exact World.cell?_setCell_other _ _ _ _ (fun c => e (by injection c))
end
theorem WinC.drew {B n : Nat} {a p : Int} {l : List Int} {W : World} (h : WinC B n a p l W) : WinC B n a p l W.drew := ⟨h.cn, h.cl, h.cw, h.cp, h.ce, h.fe, h.fw, h.fp⟩
/-- What the loop over the picks keeps. -/
def WinI (w : World) (n : Nat) (pre : List (Nat × Int)) (W : World) : Prop :=
  WinC w.heap.size n (wFold n pre).worst (wFold n pre).picks (wFold n pre).last W ∧ Below w.heap.size w W
set_option maxRecDepth 100000 in
set_option maxHeartbeats 4000000 in
theorem window_some {w : World} {v : Value} {l : List Ev} (h : Evs w v l) (hlen : l.length ≤ 100000) (n : Nat) (hn1 : 1 ≤ n) (hn : n ≤ l.length) :
    Calls Tryd.prog 19 #[v, .int .i64 n] w fun e w' => e = .returned (.int .i64 (windowT l n)) ∧ Below w.heap.size w w' := by
  have HE := Lib.hid h
  obtain ⟨A, c, rfl, hnc, -⟩ := evs_open h.sl
  obtain ⟨m, hm⟩ := name_of l.length
  have HM := Lib.hid hm
  rw [hm] at hn hlen ⊢
  have f1 : decide ((n : Int) < 1) = false := by simp; omega
  have f2 : decide (m < n) = false := by simp; omega
  clear h hm
  have hmk := run_make_row' (P := Tryd.prog) 75 3 (.int .i64 0) 8 Tryd.underlying75 (by kernel_rfl) rfl .i64 .i64 n (by omega) (by omega)
  obtain ⟨MC, hMC⟩ := name_of (madeCells #[.int .i64 0] n)
  rw [hMC] at hmk
  have HMC := Lib.hid hMC
  clear hMC
  refine (callsIn_wide (n := 10)).1 ?_
  refine callsIn_of_wp_marks Tryd.func19 rfl trivial ?_ rfl
  simp only [Tryd.ntmps19, List.size_toArray, List.length_cons, List.length_nil, Nat.reduceAdd, Nat.reduceSub, Array.replicate_succ, Array.replicate_zero, List.push_toArray, List.append_toArray, List.nil_append, List.cons_append]
  gi_wp2
  refine ⟨trivial, (picks_in Fence.wide _ trivial rfl _ _ _ _).mono ?_⟩
  rintro e w' ⟨rfl, rfl⟩
  gi_wp2
  have hB6 : Below w.heap.size w ((((((w.alloc (.cells #[.int .i64 n] 3)).alloc (.cells MC 3)).alloc (.cells #[.slice (some ⟨w.heap.size + 1, 0, none⟩) n n] 75)).alloc (.cells #[.int .i64 0] 3)).alloc (.cells #[.int .i64 0] 3)).alloc (.cells #[.slice A m c] 22)) := by go_grown
  have hSeq := picks_stops Fence.wide 9 trivial rfl (by omega) (w.heap.size + 1 + 1 + 1 + 1 + 1) w.heap.size (.slice A m c) l (by rw [HM.out]; exact hlen) ((((((w.alloc (.cells #[.int .i64 n] 3)).alloc (.cells MC 3)).alloc (.cells #[.slice (some ⟨w.heap.size + 1, 0, none⟩) n n] 75)).alloc (.cells #[.int .i64 0] 3)).alloc (.cells #[.int .i64 0] 3)).alloc (.cells #[.slice A m c] 22)) (by simp) hB6.size (by rw [World.cell?_alloc_at _ _ _ _ (by simp)]; rfl) (by have := HE.out.sl.below hB6; rw [HM.out] at this; exact this)
  have hI0 : WinI w n [] ((((((w.alloc (.cells #[.int .i64 n] 3)).alloc (.cells MC 3)).alloc (.cells #[.slice (some ⟨w.heap.size + 1, 0, none⟩) n n] 75)).alloc (.cells #[.int .i64 0] 3)).alloc (.cells #[.int .i64 0] 3)).alloc (.cells #[.slice A m c] 22)) := by
    have hMC := HMC.out
    subst hMC
    have bn := Boxed.new w 3 (.int .i64 n)
    have R := World.rowIs_made (w.alloc (.cells #[.int .i64 n] 3)) (.int .i64 0) n 3
    have bl := Boxed.new ((w.alloc (.cells #[.int .i64 n] 3)).alloc (.cells (madeCells #[.int .i64 0] n) 3)) 75 (.slice (some ⟨w.heap.size + 1, 0, none⟩) n n)
    have R' := (((R.alloc (.cells #[.slice (some ⟨w.heap.size + 1, 0, none⟩) n n] 75)).alloc (.cells #[.int .i64 0] 3)).alloc (.cells #[.int .i64 0] 3)).alloc (.cells #[.slice A m c] 22)
    rw [World.size_alloc] at R'
    rw [World.size_alloc, World.size_alloc] at bl
    have bw := Boxed.new (((w.alloc (.cells #[.int .i64 n] 3)).alloc (.cells (madeCells #[.int .i64 0] n) 3)).alloc (.cells #[.slice (some ⟨w.heap.size + 1, 0, none⟩) n n] 75)) 3 (.int .i64 0)
    have bp := Boxed.new ((((w.alloc (.cells #[.int .i64 n] 3)).alloc (.cells (madeCells #[.int .i64 0] n) 3)).alloc (.cells #[.slice (some ⟨w.heap.size + 1, 0, none⟩) n n] 75)).alloc (.cells #[.int .i64 0] 3)) 3 (.int .i64 0)
    simp only [World.size_alloc] at bw bp
    have hw0 : ∀ j, (wFold n []).last.getD j 0 = 0 := fun j => by
      show (List.replicate (n : Int).toNat (0 : Int)).getD j 0 = 0
      rw [List.getD_eq_getElem?_getD, List.getElem?_replicate]
      split <;> rfl
    refine ⟨⟨(((((bn.alloc _).alloc _).alloc _).alloc _).alloc _).cell, (((bl.alloc _).alloc _).alloc _).cell, ?_, ?_, fun j hj => by rw [hw0]; exact R'.cell hj, fun j hj => R'.frozen j, ?_, ?_⟩, hB6⟩
    · exact ((bw.alloc _).alloc _).cell
    · exact (bp.alloc _).cell
    · exact ((bw.alloc _).alloc _).frozen
    · exact (bp.alloc _).frozen
  refine wpIn_rangeFunc_ownG rfl (by omega) (gf := 37) (lb := #[.pointer (some ⟨w.heap.size + 1 + 1 + 1 + 1 + 1, 0, none⟩)]) rfl trivial (enters_of Tryd.func37 (by kernel_rfl) rfl)
    hSeq belowK_t (belowK_b (by simp; omega)) (Below.refl _ _) (fun _ => rfl) (WinI w n) (fun _ _ _ => False) ?own (fun _ _ _ _ _ hs _ _ => hs) hI0
    (fun x => { tmps := #[.slice A m c, .int .i64 n, undef, .pointer (some ⟨w.heap.size, 0, none⟩), .int .i64 0, .pointer (some ⟨w.heap.size + 1 + 1, 0, none⟩), .pointer (some ⟨w.heap.size + 1 + 1 + 1, 0, none⟩), .pointer (some ⟨w.heap.size + 1 + 1 + 1 + 1, 0, none⟩), undef, .int .i64 x.2, undef, undef, .int .i64 n, .bool false, .bool false, .int .i64 n, .slice A m c, .int .i64 m, .bool false, .bool false, .int .i64 n, .slice (some ⟨w.heap.size + 1, 0, none⟩) n n, .slice A m c, .func (.func 37) #[] #[.pointer (some ⟨w.heap.size + 1 + 1 + 1 + 1 + 1, 0, none⟩)], .int .i64 (x.1 : Int), .int .i64 x.2, undef, undef, undef, undef, undef, undef, undef, undef, undef, undef, undef, undef, undef, undef, undef, undef, undef, undef, undef, undef, undef, undef, undef, undef, undef, undef, undef, undef, undef, undef, undef, undef, undef, undef, undef, undef, undef], defers := [] }) ?assign ?body ?done ?stop
  case own =>
    exact OwnFrom.and (Own.from (fun s A B row hs hg hr => ⟨cell_kept hs.cn hg hr, cell_kept hs.cl hg hr, cell_kept hs.cw hg hr, cell_kept hs.cp hg hr, fun j hj => cell_kept (hs.ce j hj) hg hr, fun j hj => (frozen_kept (hs.ce j hj) hg hr).trans (hs.fe j hj), (frozen_kept hs.cw hg hr).trans hs.fw, (frozen_kept hs.cp hg hr).trans hs.fp⟩) _) (ownFrom_below (Nat.le_refl _) (by simp; omega))
  case assign =>
    intro l x W K hK
    gi_wp2
    exact hK
  case body =>
    rintro l' pre x W ⟨⟨cn, cl, cw, cp, ce, fe, fw, fp⟩, hB⟩ hlt
    have hok := wFold_ok n pre.length pre rfl
    have hI : WinC w.heap.size n (wFold n pre).worst (wFold n pre).picks (wFold n pre).last W := ⟨cn, cl, cw, cp, ce, fe, fw, fp⟩
    have HI := Lib.hid hI
    have HST := Lib.hid (wFold_snoc n pre x)
    have hle := picksTo_len l l.length
    rw [HM.out] at hlt hle
    have hp : pre.length < 100000 := by omega
    have hd : 1 ≤ 10 - 1 - 1 := by omega
    have hmx : Tryd.prog.follows .mixedOrders = true := by kernel_rfl
    obtain ⟨s, hs⟩ := name_of (wFold n pre)
    have HS := Lib.hid hs
    rw [hs] at hok cw cp ce HI HST
    clear hs hI
    obtain ⟨last, wst, pk⟩ := s
    obtain ⟨hl1, hl2, hl3, hl4⟩ := hok
    dsimp only at hl1 hl2 hl3 hl4 cw cp ce
    have hln : last.length = n := by simpa using hl1
    obtain ⟨xi, xw⟩ := x
    by_cases hx0 : 0 ≤ xw
    · by_cases hxn : xw < n
      · obtain ⟨k, rfl⟩ : ∃ k : Nat, xw = k := ⟨xw.toNat, by omega⟩
        have hk : k < n := by omega
        have ck := ce k hk
        have fk := fe k hk
        have hb3 := hl3 k (by omega)
        obtain ⟨lk, hlk⟩ := name_of (last.getD k 0)
        rw [hlk] at ck hb3
        have HLK := Lib.hid hlk
        have g1 : decide (0 ≤ (k : Int)) = true := by simp
        have g2 : decide ((k : Int) < n) = true := by simpa using hk
        clear hlk hlt hle hl4
        have L0 := ((HI.out.setP ((pre.length : Int) + 1)).setW (max wst (pre.length + 1 - lk))).setL (by omega) k hk ((pre.length : Int) + 1)
        have HL0 := Lib.hid L0.drew
        have HB3 := Lib.hid ((((hB.setCell (p := ⟨w.heap.size + 1 + 1 + 1 + 1, 0, none⟩) (by simp; omega) (.int .i64 ((pre.length : Int) + 1))).setCell (p := ⟨w.heap.size + 1 + 1 + 1, 0, none⟩) (by simp; omega) (.int .i64 (max wst (pre.length + 1 - lk)))).setCell (p := ⟨w.heap.size + 1, k, none⟩) (by simp) (.int .i64 ((pre.length : Int) + 1))).drew)
        have HB4 := Lib.hid (((((Below.refl w.heap.size W).setCell (p := ⟨w.heap.size + 1 + 1 + 1 + 1, 0, none⟩) (by simp; omega) (.int .i64 ((pre.length : Int) + 1))).setCell (p := ⟨w.heap.size + 1 + 1 + 1, 0, none⟩) (by simp; omega) (.int .i64 (max wst (pre.length + 1 - lk)))).setCell (p := ⟨w.heap.size + 1, k, none⟩) (by simp) (.int .i64 ((pre.length : Int) + 1))).drew)
        have HB5 := Lib.hid ((((KeepsOthers.setCell W ⟨w.heap.size + 1 + 1 + 1 + 1, 0, none⟩ (.int .i64 ((pre.length : Int) + 1))).trans (KeepsOthers.setCell _ ⟨w.heap.size + 1 + 1 + 1, 0, none⟩ (.int .i64 (max wst (pre.length + 1 - lk))))).trans (KeepsOthers.setCell _ ⟨w.heap.size + 1, k, none⟩ (.int .i64 ((pre.length : Int) + 1)))).trans (KeepsOthers.drew _))
        clear L0
        gi_wp2
        have J := HI.out.setP ((pre.length : Int) + 1)
        obtain ⟨W1, hW1⟩ := name_of (W.setCell ⟨w.heap.size + 1 + 1 + 1 + 1, 0, none⟩ (.int .i64 ((pre.length : Int) + 1)))
        rw [hW1] at J HL0 HB3 HB4 HB5 ⊢
        clear hW1 cn cl cw cp ce fe fw fp ck fk
        obtain ⟨cn, cl, cw, cp, ce, fe, fw, fp⟩ := id J
        have ck := ce k hk
        have fk := fe k hk
        rw [HLK.out] at ck
        clear ce fe
        gi_region_with_o (fail)
        all_goals gi_wp2
        all_goals (try go_bits)
        all_goals refine ⟨HB5.out.from _, HB4.out, ?_, HB3.out⟩
        all_goals (rw [HST.out]; unfold wStep; rw [if_pos (by exact ⟨by simp, by omega⟩)]; simp only [Int.toNat_natCast, hl2, HLK.out]; exact HL0.out)
      · have g1 : decide (0 ≤ xw) = true := by simpa using hx0
        have g2 : decide (xw < (n : Int)) = false := by simpa using hxn
        have L0 := HI.out.setP ((pre.length : Int) + 1)
        clear hx0 hxn hl4
        gi_wp2
        refine ⟨(KeepsOthers.setCell _ _ _).from _, (Below.refl w.heap.size W).setCell (p := ⟨w.heap.size + 1 + 1 + 1 + 1, 0, none⟩) (by simp; omega) _, ?_, hB.setCell (p := ⟨w.heap.size + 1 + 1 + 1 + 1, 0, none⟩) (by simp; omega) _⟩
        rw [HST.out]; unfold wStep; rw [if_neg (by show ¬ (0 ≤ xw ∧ xw < (n : Int)); simp at g1 g2; omega)]; simp only [hl2]; exact L0
    · have g1 : decide (0 ≤ xw) = false := by simpa using hx0
      have L0 := HI.out.setP ((pre.length : Int) + 1)
      clear hx0 hl4
      gi_wp2
      refine ⟨(KeepsOthers.setCell _ _ _).from _, (Below.refl w.heap.size W).setCell (p := ⟨w.heap.size + 1 + 1 + 1 + 1, 0, none⟩) (by simp; omega) _, ?_, hB.setCell (p := ⟨w.heap.size + 1 + 1 + 1 + 1, 0, none⟩) (by simp; omega) _⟩
      rw [HST.out]; unfold wStep; rw [if_neg (by show ¬ (0 ≤ xw ∧ xw < (n : Int)); simp at g1; omega)]; simp only [hl2]; exact L0
  case done =>
    rintro D ys W hD rfl ⟨hI, hB⟩ hK
    have hwt : windowT l n = wEnd (wFold n (picksTo l l.length)).picks (wFold n (picksTo l l.length)).last (wFold n (picksTo l l.length)).worst := by
      unfold windowT
      rw [if_neg (by rw [HM.out]; simp at f1 f2; omega)]
    have hok := wFold_ok n (picksTo l l.length).length _ rfl
    have hle : (picksTo l l.length).length ≤ m := Nat.le_trans (picksTo_len l l.length) (Nat.le_of_eq HM.out)
    obtain ⟨s, hs⟩ := name_of (wFold n (picksTo l l.length))
    obtain ⟨q, hq⟩ := name_of (picksTo l l.length).length
    rw [hs] at hok hI hwt
    rw [hq] at hok hle
    clear hs hq
    obtain ⟨last, wst, pk⟩ := s
    obtain ⟨hl1, hl2, hl3, hl4⟩ := hok
    dsimp only at hl1 hl2 hl3 hl4 hI hwt
    subst hl2
    have HWT := Lib.hid hwt
    have HI := Lib.hid hI
    have HL := Lib.hid hl3
    have hln : last.length = n := by omega
    clear hwt hl1 hl3
    obtain ⟨cn, cl, cw, cp, ce, fe, fw, fp⟩ := hI
    clear ce fe
    gi_wp2
    gi_loopw [49] (fun i wr => ∃ (k : Nat) (a : Int), k ≤ n ∧ i = .int .i64 k ∧ 0 ≤ a ∧ a ≤ q + 1 ∧ WinC w.heap.size n a q last wr ∧ Below w.heap.size w wr ∧ wr.heap[D]? = some (.deferred (some [])) ∧ wEnd q (last.drop k) a = windowT l n)
      (fun i _ => n - (intOf i).toNat)
    case atStart => exact ⟨0, wst, Nat.zero_le _, rfl, hl4.1, by omega, HI.out, hB, hK, by rw [HWT.out]; rfl⟩
    case round =>
      obtain ⟨k, a, hk, rfl, ha0, ha1, hC, hBr, hKr, hW⟩ := hrel
      have HC := Lib.hid hC
      obtain ⟨rn, rl, rw', rp, re, fe', fw', fp'⟩ := hC
      clear cn cl cw cp fw fp
      by_cases hlt : k < n
      · have rk := re k hlt
        have hb := HL.out k (by omega)
        have hdrop : last.drop k = last.getD k 0 :: last.drop (k + 1) := by
          rw [List.drop_eq_getElem_cons (by omega), List.getD_eq_getElem?_getD, List.getElem?_eq_getElem (by omega)]; rfl
        rw [hdrop] at hW
        obtain ⟨z, hz⟩ := name_of (last.getD k 0)
        rw [hz] at rk hb hW
        clear hz re fe' hdrop
        rw [wEnd] at hW
        by_cases hz0 : z = 0
        · have z0 : (z == 0) = true := by simpa using hz0
          rw [if_pos hz0] at hW
          have HW := Lib.hid hW
          clear hz0 hW
          gi_wp2
          refine ⟨by simp, .inl ⟨_, _, rfl, run_takeDeferred hKr, ?_⟩⟩
          exact ⟨_, results_tmp rfl _ _ _, by rw [← HW.out]; rfl, hBr.trans (belowK_b (w := w) (Nat.le_refl _) wr D _ _ (by simp at hD; omega) hKr rfl rfl)⟩
        · have z0 : (z == 0) = false := by simpa using hz0
          rw [if_neg hz0] at hW
          have HW := Lib.hid hW
          clear hz0 hW
          gi_wp2
          go_roundw
          case rel => exact ⟨k + 1, _, by omega, by simp, by omega, by omega, HC.out.setW _, hBr.setCell (p := ⟨w.heap.size + 1 + 1 + 1, 0, none⟩) (by simp; omega) _, (KeepsOthers.setCell _ _ _).same D _ hKr rfl, HW.out⟩
          case measure => simp [intOf]; omega
      · obtain rfl : k = n := by omega
        have HW := Lib.hid hW
        clear hW re fe'
        gi_wp2
        refine ⟨by simp, .inl ⟨_, _, rfl, run_takeDeferred hKr, ?_⟩⟩
        exact ⟨_, results_tmp rfl _ _ _, by rw [← HW.out, List.drop_eq_nil_of_le (by omega)]; rfl, hBr.trans (belowK_b (w := w) (Nat.le_refl _) wr D _ _ (by simp at hD; omega) hKr rfl rfl)⟩
  case stop =>
    rintro D c pre W _ _ h _
    exact h.elim
end P21
end Go.Proofs.YtkobmoabnnjejaaDoor
