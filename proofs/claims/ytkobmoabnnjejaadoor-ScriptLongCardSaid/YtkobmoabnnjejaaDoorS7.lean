/- Script: Picks, and its iterator. -/
import Derived.Test.YtkobmoabnnjejaaDoorS1c
import Derived.RangeFuncBox
import Derived.RangeFuncLeaves
import Derived.RangeFuncWrites
import Derived.Shelf.Abstract
import Derived.WalkKit
import Derived.OwnWalkIn
import Derived.TacticsInMore
import Derived.LoopNIn
import Derived.LoopIn
namespace Go.Proofs.YtkobmoabnnjejaaDoor
open Go.RowKit Go.Shelf
namespace P21
open PC

attribute [local go_sem] Oper.semAt_some

/-- The picks among the first so many events: where, and whom. -/
def picksTo (l : List Ev) (k : Nat) : List (Nat × Int) := ((List.range k).filter fun j => decide ((at_ l j).k = 0)).map fun j => (j, (at_ l j).n)
theorem picksTo_succ (l : List Ev) (k : Nat) : picksTo l (k + 1) = picksTo l k ++ if (at_ l k).k = 0 then [(k, (at_ l k).n)] else [] := by
  unfold picksTo
  rw [List.range_succ, List.filter_append, List.map_append]
  by_cases h : (at_ l k).k = 0
  · rw [if_pos h, List.filter_cons, if_pos (by simpa using h)]; rfl
  · rw [if_neg h, List.filter_cons, if_neg (by simpa using h)]; rfl
theorem picksTo_len (l : List Ev) (k : Nat) : (picksTo l k).length ≤ k := by
  unfold picksTo
  rw [List.length_map]
  exact Nat.le_trans (List.length_filter_le _ _) (by simp)
theorem picksTo_mono (l : List Ev) {j k : Nat} (h : j ≤ k) : picksTo l j <+: picksTo l k := by
  induction k with
  | zero => rw [show j = 0 by omega]; exact List.prefix_refl _
  | succ k ih =>
    by_cases e : j = k + 1
    · rw [e]; exact List.prefix_refl _
    · rw [picksTo_succ]
      exact List.IsPrefix.trans (ih (by omega)) (List.prefix_append _ _)
theorem picksTo_lt (l : List Ev) {k n : Nat} (hk : k < n) (h : (at_ l k).k = 0) : (picksTo l k).length < (picksTo l n).length := by
  have h1 := (picksTo_mono l (show k + 1 ≤ n by omega)).length_le
  rw [picksTo_succ, if_pos h, List.length_append] at h1
  simp only [List.length_cons, List.length_nil] at h1
  omega
abbrev pickV (x : Nat × Int) : Array Value := #[.int .i64 (x.1 : Int), .int .i64 x.2]

set_option maxRecDepth 100000 in
set_option maxHeartbeats 2000000 in
theorem picks1_in (F : Fence) (n : Nat) (h8 : F.fn 37) (hro : F.round = none) (hn : 1 ≤ n) (l Bs n₀ b off len cap : Nat) (es : List Ev) (hlen : es.length = len) (hmax : len ≤ 100000) (hb : b < n₀) (J Jx : List (Nat × Int) → World → Prop) (W : World) (hn₀ : n₀ ≤ W.heap.size) (hJ : AbidesFrom W.heap.size J)
    (hY : ∀ pre x W, J pre W → pre.length < (picksTo es len).length → YieldAt F (n - 1) Tryd.prog l (pickV x) W fun e W' =>
      (e = .returned (.bool true) ∧ J (pre ++ [x]) W' ∧ Below n₀ W W') ∨ (e = .returned (.bool false) ∧ Jx (pre ++ [x]) W'))
    (hBs : W.cell? ⟨Bs, 0, none⟩ = some (.slice (some ⟨b, off, none⟩) len cap)) (hc : ∀ j, j < len → W.cell? ⟨b, off + j * 2, none⟩ = some (.int .i64 (at_ es j).k) ∧ W.cell? ⟨b, off + j * 2 + 1, none⟩ = some (.int .i64 (at_ es j).n)) (h0 : J [] W) :
    CallsIn F n Tryd.prog 37 #[.func (.yield l) #[] #[], .pointer (some ⟨Bs, 0, none⟩)] W fun e W' => (∃ v, e = .returned v) ∧
      ((∃ ys, ys = picksTo es len ∧ J ys W') ∨ (∃ pre, pre <+: picksTo es len ∧ Jx pre W')) := by
  have HLEN := Lib.hid hlen
  clear hlen
  refine callsIn_of_wp Tryd.func37 rfl h8 ?_ hro
  simp only [Tryd.ntmps37, List.size_toArray, List.length_cons, List.length_nil, Nat.reduceAdd, Nat.reduceSub, Array.replicate_succ, Array.replicate_zero, List.push_toArray, List.append_toArray, List.nil_append, List.cons_append]
  gi_wp2
  gi_loopw [7] (fun i wr => ∃ k : Nat, k ≤ len ∧ i = .int .i64 k ∧ J (picksTo es k) wr ∧ Below n₀ W wr ∧ W.heap.size ≤ wr.heap.size)
    (fun i _ => len - (intOf i).toNat)
  case atStart => exact ⟨0, Nat.zero_le _, rfl, h0, Below.refl _ _, Nat.le_refl _⟩
  case round =>
    obtain ⟨k, hk, rfl, hJs, hnx, hsz⟩ := hrel
    by_cases hlt : k < len
    · obtain ⟨q1, q2⟩ := hc k hlt
      have c0 := (hnx.cell (p := ⟨b, _, none⟩) hb).trans q1
      have c1 := (hnx.cell (p := ⟨b, _, none⟩) hb).trans q2
      have HSU := Lib.hid (picksTo_succ es k)
      have HLT := Lib.hid (fun h => picksTo_lt es (k := k) (n := len) hlt h)
      have HPM := Lib.hid (picksTo_mono es (show k + 1 ≤ len by omega))
      obtain ⟨⟨ek, en⟩, he⟩ := name_of (at_ es k)
      rw [he] at c0 c1 HSU HLT
      dsimp only at c0 c1
      have hA : Below wr.heap.size wr (wr.alloc (.cells #[.int .i64 ek, .int .i64 en] 24)) := by go_grown
      have hJA : J (picksTo es k) (wr.alloc (.cells #[.int .i64 ek, .int .i64 en] 24)) := hJ _ _ _ none hJs (grown_of_below hA) (fun r e => by cases e)
      have hnA := hnx.trans (hA.mono (Nat.le_trans hn₀ hsz))
      have hszA : W.heap.size ≤ (wr.alloc (.cells #[.int .i64 ek, .int .i64 en] 24)).heap.size := Nat.le_trans hsz hA.size
      clear q1 q2 he
      by_cases hek : ek = 0
      · have f0 : (ek == 0) = true := by simpa using hek
        have HL2 := Lib.hid (HLT.out hek)
        have HS2 : Hid (picksTo es (k + 1) = picksTo es k ++ [(k, en)]) := Lib.hid (by rw [HSU.out]; dsimp only; rw [if_pos hek])
        obtain ⟨fn, tmps, assign, body, hy, hR⟩ := hY _ (k, en) _ hJA HL2.out
        clear hek
        gi_wp2
        refine hR.mono ?_
        rintro e W3 (⟨rfl, hJ3, hk3⟩ | ⟨rfl, hJx3⟩)
        · gi_wp2
          go_roundw
          case rel => exact ⟨k + 1, by omega, by simp, by rw [HS2.out]; exact hJ3, hnA.trans hk3, Nat.le_trans hszA hk3.size⟩
          case measure => simp [intOf]; omega
        · gi_wp2
          refine bodyPost_ret (results_none rfl _ _ _) rfl ?_
          exact ⟨⟨_, rfl⟩, .inr ⟨_, by rw [← HS2.out]; exact HPM.out, hJx3⟩⟩
      · have f0 : (ek == 0) = false := by simpa using hek
        have HS2 : Hid (picksTo es (k + 1) = picksTo es k) := Lib.hid (by rw [HSU.out]; dsimp only; rw [if_neg hek, List.append_nil])
        clear hek
        gi_wp2
        refine ⟨fun _ h => (by cases h), ?_⟩
        gi_wp2
        go_roundw
        case rel => exact ⟨k + 1, by omega, by simp, by rw [HS2.out]; exact hJA, hnA, hszA⟩
        case measure => simp [intOf]; omega
    · obtain rfl : k = len := by omega
      gi_wp2
      go_end0
      exact ⟨⟨_, rfl⟩, .inl ⟨_, rfl, hJs⟩⟩

set_option maxRecDepth 100000 in
set_option maxHeartbeats 1000000 in
theorem picks1_nil_in (F : Fence) (n : Nat) (h8 : F.fn 37) (hro : F.round = none) (l Bs c : Nat) (o : Option Addr) (J : List (Nat × Int) → World → Prop) (W : World) (hBs : W.cell? ⟨Bs, 0, none⟩ = some (.slice o 0 c)) (h0 : J [] W) :
    CallsIn F n Tryd.prog 37 #[.func (.yield l) #[] #[], .pointer (some ⟨Bs, 0, none⟩)] W fun e W' => (∃ v, e = .returned v) ∧ J [] W' := by
  refine callsIn_of_wp Tryd.func37 rfl h8 ?_ hro
  simp only [Tryd.ntmps37, List.size_toArray, List.length_cons, List.length_nil, Nat.reduceAdd, Nat.reduceSub, Array.replicate_succ, Array.replicate_zero, List.push_toArray, List.append_toArray, List.nil_append, List.cons_append]
  gi_wp2
  gi_loopw [7] (fun i wr => i = .int .i64 0 ∧ J [] wr) (fun _ _ => 0)
  case atStart => exact ⟨rfl, h0⟩
  case round =>
    obtain ⟨rfl, hJs⟩ := hrel
    gi_wp2
    go_end0
    exact ⟨⟨_, rfl⟩, hJs⟩
theorem picks_in (F : Fence) (n : Nat) (h6 : F.fn 23) (hro : F.round = none) (a : Option Addr) (len cap : Nat) (w : World) :
    CallsIn F n Tryd.prog 23 #[.slice a len cap] w fun e w' => e = .returned (.func (.func 37) #[] #[.pointer (some ⟨w.heap.size, 0, none⟩)]) ∧ w' = w.alloc (.cells #[.slice a len cap] 22) := by
  refine callsIn_of_wp Tryd.func23 rfl h6 ?_ hro
  simp only [Tryd.ntmps23, List.size_toArray, List.length_cons, List.length_nil, Nat.reduceAdd, Nat.reduceSub, Array.replicate_succ, Array.replicate_zero, List.push_toArray, List.append_toArray, List.nil_append, List.cons_append]
  gi_wp2
  go_ret
  exact ⟨rfl, rfl⟩
/-- **Picks's iterator, over whatever events, for every loop body that keeps what lay below n₀.** -/
theorem picks_stops (F : Fence) (n : Nat) (h8 : F.fn 37) (hro : F.round = none) (hn : 1 ≤ n) (Bs n₀ : Nat) (sv : Value) (es : List Ev) (hmax : es.length ≤ 100000) (w : World) (hBs : Bs < w.heap.size) (hn₀ : n₀ ≤ w.heap.size)
    (hc : w.cell? ⟨Bs, 0, none⟩ = some sv) (hI : Sl w n₀ 2 sv (evsC es)) :
    SeqStopsK F n Tryd.prog 37 #[.pointer (some ⟨Bs, 0, none⟩)] pickV (Below n₀) (fun ys => ys = picksTo es es.length) (fun pre => pre <+: picksTo es es.length) (picksTo es es.length).length w := fun l J Jx W hW hJ _ hY h0 => by
  have hc' := (hW.cell (p := ⟨Bs, 0, none⟩) hBs).trans hc
  have hs := hI.below (hW.mono hn₀)
  obtain ⟨A, c, rfl, hnc, hA⟩ := evs_open hs
  rcases Nat.eq_zero_or_pos es.length with h | h
  · have he : picksTo es es.length = [] := by rw [h]; rfl
    rw [h] at hc'
    exact (picks1_nil_in F n h8 hro l Bs c A J W hc' h0).mono fun e W' ⟨he', hj⟩ => ⟨he', .inl ⟨_, rfl, by rw [he]; exact hj⟩⟩
  · obtain ⟨b, off, rfl, hb, -⟩ := hA 0 h
    refine picks1_in F n h8 hro hn l Bs n₀ b off es.length c es rfl hmax hb J Jx W (Nat.le_trans hn₀ hW.size) hJ hY hc' (fun j hj => ?_) h0
    obtain ⟨b', off', he, _, h1, h2⟩ := hA j hj
    injection he with he
    injection he with e1 e2
    subst e1 e2
    exact ⟨h1, h2⟩
end P21
end Go.Proofs.YtkobmoabnnjejaaDoor
