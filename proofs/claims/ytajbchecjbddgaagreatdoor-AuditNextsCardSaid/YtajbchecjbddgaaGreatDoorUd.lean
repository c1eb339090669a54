/- Audit: the iterator over a scope and those around it. -/
import Derived.Test.YtajbchecjbddgaaGreatDoorUb
import Derived.Test.YtajbchecjbddgaaGreatDoorUc
import Derived.RangeFuncNested
import Derived.RangeFuncCalls
import Derived.Shelf.Abstract
import Derived.WalkKit
import Derived.OwnWalkIn
import Derived.TacticsInMore
import Derived.LoopNIn
import Derived.LoopIn
import Derived.Shelf.RegionOpen
import Derived.Deep.OwnRows
namespace Go.Proofs.YtajbchecjbddgaaGreatDoor
open Go.RowKit Go.Shelf
namespace P20
open P7

attribute [local go_sem] Oper.semAt_some

def natV (x : Nat) : Array Value := #[.int .i64 (x : Int)]
/-- What the iterator leans on. -/
def OutV (bx bv bm : Nat) (vr vs vw : Value) (s : Sh) (W : World) : Prop := Vm W bv bm vr vs vw s ∧ Boxed W bx 42 (.pointer (some ⟨bv, 0, none⟩))
set_option maxRecDepth 100000 in
set_option maxHeartbeats 4000000 in
theorem out1_in (n : Nat) (hn : 1 ≤ n) (l Bs bx bv bm : Nat) (vr vs vw : Value) (s : Sh) (hf : Fine s) (i : Nat) (hi : i < s.sc.length) (J Jx : List Nat → World → Prop) (W : World)
    (hJs : ∀ pre W v, J pre W → Boxed W Bs 3 v → ∀ v', J pre (W.setCell ⟨Bs, 0, none⟩ v')) (hJb : ∀ pre W W', J pre W → Below W.heap.size W W' → J pre W') (hJV : ∀ pre W, J pre W → OutV bx bv bm vr vs vw s W)
    (hY : ∀ pre x W, J pre W → (∃ v, Boxed W Bs 3 v) → pre ++ [x] <+: ch s i → YieldAt Fence.wide (n - 1) Tryz.prog l (natV x) W fun e W' =>
      (e = .returned (.bool true) ∧ J (pre ++ [x]) W' ∧ W'.heap[Bs]? = W.heap[Bs]?) ∨ (e = .returned (.bool false) ∧ Jx (pre ++ [x]) W'))
    (hB0 : Boxed W Bs 3 (.int .i64 i)) (h0 : J [] W) :
    CallsIn Fence.wide n Tryz.prog 57 #[.func (.yield l) #[] #[], .pointer (some ⟨Bs, 0, none⟩), .pointer (some ⟨bx, 0, none⟩)] W fun e W' => (∃ v, e = .returned v) ∧ ((∃ ys, ys = ch s i ∧ J ys W') ∨ (∃ pre, pre <+: ch s i ∧ Jx pre W')) := by
  have HFN := Lib.hid hf
  clear hf
  refine callsIn_of_wp Tryz.func57 rfl trivial ?_ rfl
  simp only [Tryz.ntmps57, List.size_toArray, List.length_cons, List.length_nil, Nat.reduceAdd, Nat.reduceSub, Array.replicate_succ, Array.replicate_zero, List.push_toArray, List.append_toArray, List.nil_append, List.cons_append]
  gi_wp2
  gi_loopw [] (fun wr => ∃ (cur : Nat) (pre : List Nat), cur < s.sc.length ∧ Boxed wr Bs 3 (.int .i64 cur) ∧ J pre wr ∧ Hid (pre ++ ch s cur = ch s i))
    (fun wr => match wr.cell? ⟨Bs, 0, none⟩ with | some (.int _ k) => k.toNat | _ => 0)
  case atStart => exact ⟨i, [], hi, hB0, h0, Lib.hid rfl⟩
  case round =>
    obtain ⟨cur, pre, hcl, hB, hj, HX⟩ := hrel
    have hc := hB.cell
    have HPf : Hid (pre ++ [cur] <+: ch s i) := Lib.hid (by
      rw [← HX.out]
      unfold ch
      rw [chF]
      exact ⟨_, by rw [List.append_assoc]; rfl⟩)
    obtain ⟨fn, tmps, assign, body, hy, hR⟩ := hY pre cur wr hj ⟨_, hB⟩ HPf.out
    unfold natV at hy
    clear hY
    gi_wp2
    refine hR.mono ?_
    rintro e W3 (⟨rfl, hJ3, hk3⟩ | ⟨rfl, hJx3⟩)
    · have hB3 : Boxed W3 Bs 3 (.int .i64 cur) := hk3.trans hB
      have hc3 := hB3.cell
      have hf3 := hB3.frozen
      obtain ⟨hV3, hx3⟩ := hJV _ _ hJ3
      have hcx := hx3.cell
      by_cases h0 : cur = 0
      · have e0 : decide (0 < cur) = false := decide_eq_false (by omega)
        have e0' : decide (0 < (cur : Int)) = false := decide_eq_false (by omega)
        have HE : Hid (pre ++ [cur] = ch s i) := Lib.hid (by
          rw [← HX.out, h0, ch_zero HFN.out.sc.1 (by omega)])
        clear h0
        gi_wp2
        go_end0
        exact ⟨⟨_, rfl⟩, .inl ⟨_, HE.out, hJ3⟩⟩
      · have e0 : decide (0 < cur) = true := decide_eq_true (by omega)
        have e0' : decide (0 < (cur : Int)) = true := decide_eq_true (by omega)
        obtain ⟨A, c, hvs, hnc, hA⟩ := scs_open hV3.sh.scs
        obtain ⟨g, off, hAe, hg, d0, d1, d2, d3, d4, d5⟩ := hA cur hcl
        have q1 := hV3.vb.c1
        have q3 := hV3.vb.c3
        rw [hvs, hAe] at q1
        have HV3 := Lib.hid hV3
        obtain ⟨⟨xr, xk, xn, xa, xc, xv⟩, hx⟩ := name_of (sA s.sc cur)
        rw [hx] at d0 d1 d2 d3 d4 d5
        dsimp only at d0 d1 d2 d3 d4 d5
        have HXS := Lib.hid hx
        have hclI : (cur : Int) < s.sc.length := by omega
        have hc1000 : s.sc.length ≤ 60 := HFN.out.few.sc
        have l1 := hB3.lt
        have l2 := hx3.lt
        have l3 := hV3.vb.lt
        have hmx : Tryz.prog.follows .mixedOrders = true := by kernel_rfl
        clear hA hvs hAe hV3 hx
        obtain ⟨j, hj1, hj2⟩ := arN_lt HFN.out.sc HFN.out.up hcl h0
        have HCH := Lib.hid (ch_step HFN.out.sc HFN.out.up hcl h0 hj1)
        have hrr := HFN.out.sc.1.r_row hcl h0
        have hwfx := sA_wf HV3.out.sh.scf hcl
        rw [HXS.out] at hrr hwfx
        dsimp only at hrr
        have HAR : Hid ((if 0 < xk then fnd s.sc xr xn else ofN s xr.toNat) = some j) := Lib.hid (by
          rw [← hj1]
          unfold arN
          rw [HXS.out]
          dsimp only
          rw [if_neg (show ¬ xr < 0 by omega)])
        have hNX : Hid (pre ++ [cur] ++ ch s j = ch s i) := Lib.hid (by rw [← HX.out, HCH.out, List.append_assoc]; rfl)
        have hb4 : Below W3.heap.size W3 ((W3.alloc (.cells #[.int .i64 xr, .int .i64 xk, .int .i64 xn, .bool xa, .bool xc, .int .i64 xv] 49)).drew) := ((Below.refl _ _).alloc (Nat.le_refl _) _).next below_drewU
        have hJ4 := hJb _ _ _ hJ3 hb4
        have hB4 : Boxed ((W3.alloc (.cells #[.int .i64 xr, .int .i64 xk, .int .i64 xn, .bool xa, .bool xc, .int .i64 xv] 49)).drew) Bs 3 (.int .i64 cur) := hB3.alloc _
        have hy := cell_of_row ((W3.alloc (.cells #[.int .i64 xr, .int .i64 xk, .int .i64 xn, .bool xa, .bool xc, .int .i64 xv] 49)).drew) W3.heap.size
        have y0 : ((W3.alloc (.cells #[.int .i64 xr, .int .i64 xk, .int .i64 xn, .bool xa, .bool xc, .int .i64 xv] 49)).drew).cell? ⟨W3.heap.size, 0, none⟩ = some (.int .i64 xr) := by rw [hy 0 _ _ _ (heap_alloc_last W3 _)]; rfl
        have y1 : ((W3.alloc (.cells #[.int .i64 xr, .int .i64 xk, .int .i64 xn, .bool xa, .bool xc, .int .i64 xv] 49)).drew).cell? ⟨W3.heap.size, 1, none⟩ = some (.int .i64 xk) := by rw [hy 1 _ _ _ (heap_alloc_last W3 _)]; rfl
        have y2 : ((W3.alloc (.cells #[.int .i64 xr, .int .i64 xk, .int .i64 xn, .bool xa, .bool xc, .int .i64 xv] 49)).drew).cell? ⟨W3.heap.size, 2, none⟩ = some (.int .i64 xn) := by rw [hy 2 _ _ _ (heap_alloc_last W3 _)]; rfl
        have hsz4 : W3.heap.size < ((W3.alloc (.cells #[.int .i64 xr, .int .i64 xk, .int .i64 xn, .bool xa, .bool xc, .int .i64 xv] 49)).drew).heap.size := by simp
        have HJ4 := Lib.hid hJ4
        have HB4 := Lib.hid hB4
        have HY0 := Lib.hid y0
        have HY1 := Lib.hid y1
        have HY2 := Lib.hid y2
        have HWX := Lib.hid hwfx
        clear hy y0 y1 y2 hJ4 hB4 hwfx hj1 HCH
        have HCW := Lib.hid hc
        clear hc
        gi_wp2
        rename_i K hK
        have KEY : K { tmps := #[.func (.yield l) #[] #[], .pointer (some ⟨Bs, 0, none⟩), .pointer (some ⟨bx, 0, none⟩), undef, .pointer (some ⟨W3.heap.size, 0, none⟩), .func (.yield l) #[] #[], .int .i64 (cur : Int), .bool true, .bool true, .int .i64 (cur : Int), .bool true, .bool true, .pointer (some ⟨bv, 0, none⟩), .pointer (some ⟨bv, 0, none⟩), .pointer (some ⟨bv, 0, none⟩), .pointer (some ⟨bv, 1, none⟩), .slice (some ⟨g, off, none⟩) s.sc.length c, .int .i64 (cur : Int), .pointer (some ⟨g, off + cur * 6, none⟩), .agg #[.int .i64 xr, .int .i64 xk, .int .i64 xn, .bool xa, .bool xc, .int .i64 xv], u20, u21, u22, u23, u24, u25, u26, u27, u28, u29, u30, u31, u32, u33, u34, u35, u36], defers := [] } ((W3.alloc (.cells #[.int .i64 xr, .int .i64 xk, .int .i64 xn, .bool xa, .bool xc, .int .i64 xv] 49)).drew) := by
          refine hK _ _ ?_
          have y0 := HY0.out
          have y1 := HY1.out
          have y2 := HY2.out
          obtain ⟨hV4, hx4⟩ := hJV _ _ HJ4.out
          have hB4 := HB4.out
          have HJ4' := HJ4
          clear HY0 HY1 HY2 HB4 HJ4 hb4
          obtain ⟨b4, hb4⟩ := name_of W3.heap.size
          obtain ⟨W4, hW4⟩ := name_of ((W3.alloc (.cells #[.int .i64 xr, .int .i64 xk, .int .i64 xn, .bool xa, .bool xc, .int .i64 xv] 49)).drew)
          rw [hW4] at hB4 hV4 hx4 HJ4' y0 y1 y2 hsz4 ⊢
          rw [hb4] at y0 y1 y2 hsz4 ⊢
          clear hW4 hb4 l1 l2 l3 d0 d1 d2 d3 d4 d5 hc3 hf3 hcx q1 q3 hB3 hx3
          have hcx := hx4.cell
          have hc3 := hB4.cell
          have hf3 := hB4.frozen
          have q1 := hV4.vb.c1
          have q3 := hV4.vb.c3
          have l1 := hB4.lt
          have l2 := hx4.lt
          have l3 := hV4.vb.lt
          by_cases h1 : 0 < xk
          · have e1 : decide (0 < xk) = true := decide_eq_true h1
            have hf4 : (fnd s.sc xr xn).getD 0 = j := by
              have := HAR.out
              rw [if_pos h1] at this
              rw [this]; rfl
            have hL0 := (hV4.mp.look HFN.out.sc.1 hV4.sh.scf (r := xr) (k := xn) HWX.out.r HWX.out.n).1
            have hL1 := ((hV4.mp.next below_drewU).look HFN.out.sc.1 hV4.sh.scf (r := xr) (k := xn) HWX.out.r HWX.out.n).1
            rw [hf4] at hL0 hL1
            have HV4 := Lib.hid hV4
            clear h1 hf4 hV4
            gi_wp2
            have hB5 : Boxed (W4.setCell ⟨Bs, 0, none⟩ (.int .i64 j)).drew Bs 3 (.int .i64 j) := hB4.set _
            have hJ5 := hJb _ _ _ (hJs _ _ _ HJ4'.out hB4 (.int .i64 j)) (below_drewU (w := W4.setCell ⟨Bs, 0, none⟩ (.int .i64 j)))
            have HB5 := Lib.hid hB5
            have HJ5 := Lib.hid hJ5
            have HC5 := Lib.hid hB5.cell
            clear hB5 hJ5 hB4 HV4 hx4 hclI hc1000 hsz4
            gi_region_with_o (fail)
            all_goals
              gi_wp2
              go_roundw
              case rel => exact ⟨j, _, by omega, HB5.out, HJ5.out, hNX⟩
              case measure => rw [HC5.out]; simp [HCW.out]; omega
          · have e1 : decide (0 < xk) = false := decide_eq_false h1
            obtain ⟨q, rfl⟩ : ∃ q : Nat, xr = q := ⟨xr.toNat, by omega⟩
            have hf4 : (ofN s q).getD 0 = j := by
              have := HAR.out
              rw [if_neg h1, Int.toNat_natCast] at this
              rw [this]; rfl
            have hO := (callsIn_wide (n := n - 1)).2 (of_any hV4 HFN.out.sc.1 HFN.out.few q (by omega))
            rw [hf4] at hO
            have HV4 := Lib.hid hV4
            clear h1 hf4 hV4
            gi_wp2
            refine ⟨trivial, hO.mono ?_⟩
            rintro e w5 ⟨rfl, hb5⟩
            have hB5 := hB4.kept (⟨hb5.os, hb5.tape, hb5.output, hb5.size, fun k hk _ => hb5.block k hk⟩ : W4.grownBy w5 none) (by simp)
            have hJ5 := hJb _ _ _ HJ4'.out hb5
            have hc5 := hB5.cell
            have hf5 := hB5.frozen
            gi_wp2
            go_roundw
            case rel => exact ⟨j, _, by omega, hB5.set _, hJs _ _ _ hJ5 hB5 _, hNX⟩
            case measure => rw [(hB5.set (.int .i64 j)).cell, HCW.out]; simp; omega
        have HKEY := Lib.hid KEY
        clear KEY HJ4 HB4 HY0 HY1 HY2 hK hb4 hNX HAR HWX hsz4 hJ3 hj2 hrr
        gi_region_with_o (fail)
        all_goals exact HKEY.out
    · gi_wp2
      go_end0
      exact ⟨⟨_, rfl⟩, .inr ⟨_, HPf.out, hJx3⟩⟩
end P20
end Go.Proofs.YtajbchecjbddgaaGreatDoor
