/- Audit: (view).of, (view).out. -/
import Derived.Test.YtajbchecjbddgaaGreatDoorUa
namespace Go.Proofs.YtajbchecjbddgaaGreatDoor
open Go.RowKit
namespace P20
open P7

/-- The view, its map and the shot, in one world. -/
structure Vm (w : World) (bv bm : Nat) (vr vs vw : Value) (s : Sh) : Prop where
  sh : Shm w vr vs vw s
  vb : VwB w bv bm vr vs vw
  mp : MapS w bm s
theorem Vm.next {w w' : World} {bv bm : Nat} {vr vs vw : Value} {s : Sh} (h : Vm w bv bm vr vs vw s) (hb : Below w.heap.size w w') : Vm w' bv bm vr vs vw s :=
  ⟨h.sh.next hb, h.vb.next hb, h.mp.next hb⟩
/-- What is known of a shot when its scopes are in order. -/
structure Fine (s : Sh) : Prop where
  few : FewS s
  up : ∀ j, j < s.l.length → (at_ s.l j).p < j
  sc : scOk s
set_option maxRecDepth 100000 in
set_option maxHeartbeats 8000000 in
theorem of_any {w : World} {bv bm : Nat} {vr vs vw : Value} {s : Sh} (h : Vm w bv bm vr vs vw s) (ht : toldTo s s.sc.length) (hf : FewS s) (i : Nat) (hi : i < s.l.length) :
    Calls Tryz.prog 20 #[.pointer (some ⟨bv, 0, none⟩), .int .i64 i] w fun e w' => e = .returned (.int .i64 (((ofN s i).getD 0 : Nat) : Int)) ∧ Below w.heap.size w w' := by
  have hL : ∀ N, (Instr.lookup 51 (.map (some bm)) (.agg #[.int .i64 (at_ s.l i).p, .int .i64 (at_ s.l i).i]) false).run Tryz.prog (w.drewN N) = .ok (.int .i64 (((ofN s i).getD 0 : Nat) : Int)) (w.drewN N) := fun N => by
    have hwf := h.sh.rows.wfAt hi
    exact ((h.mp.next (below_drewN N)).look ht h.sh.scf hwf.p hwf.i).1
  obtain ⟨Ar, cr, rfl, hncr, hA⟩ := rows_open h.sh.rows.sl
  obtain ⟨b, off, rfl, hb, c0, c1, -⟩ := hA i hi
  have q0 := h.vb.c0
  have q3 := h.vb.c3
  have hll := hf.l
  obtain ⟨K, hK⟩ := name_of (((ofN s i).getD 0 : Nat) : Int)
  rw [hK] at hL ⊢
  obtain ⟨⟨rp, ri, rf, rk, rv, rs, rc⟩, hr⟩ := name_of (at_ s.l i)
  rw [hr] at c0 c1 hL
  dsimp only at c0 c1 hL
  obtain ⟨nr, hnr⟩ := name_of s.l.length
  rw [hnr] at hncr q0 hi hll
  have hiI : (i : Int) < nr := by omega
  clear hA h ht hf hK hr hnr
  go_enter Tryz.func20, Tryz.ntmps20
  go_wp2_with fail
  go_quiet (fail)
  go_wp2_with fail
  go_ret
  exact ⟨rfl, below_drewN _⟩
theorem out_any (bv i : Nat) (W : World) : Calls Tryz.prog 34 #[.pointer (some ⟨bv, 0, none⟩), .int .i64 i] W fun e W' =>
    e = .returned (.func (.func 57) #[] #[.pointer (some ⟨W.heap.size + 1, 0, none⟩), .pointer (some ⟨W.heap.size, 0, none⟩)]) ∧
    W' = (W.alloc (.cells #[.pointer (some ⟨bv, 0, none⟩)] 42)).alloc (.cells #[.int .i64 i] 3) := by
  have hmf : ∀ fn first cap w, (Instr.makeFunc fn first cap).run Tryz.prog w = .ok (.func fn first cap) w := fun _ _ _ _ => rfl
  go_enter Tryz.func34, Tryz.ntmps34
  go_wp2
  go_ret
  exact ⟨rfl, rfl⟩
end P20
end Go.Proofs.YtajbchecjbddgaaGreatDoor
