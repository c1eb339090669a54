/- Audit: what closed asks of a scope, and of a row. -/
import Derived.Test.YtajbchecjbddgaaGreatDoorUe
namespace Go.Proofs.YtajbchecjbddgaaGreatDoor
open Go.RowKit
namespace P20
open P7

theorem shut_any {w : World} {bx bv bm : Nat} {vr vs vw : Value} {s : Sh} (hV : Vm w bv bm vr vs vw s) (hx : Boxed w bx 42 (.pointer (some ⟨bv, 0, none⟩))) (hf : FewS s) (i : Nat) (hi : i < s.sc.length) :
    Calls Tryz.prog 53 #[.int .i64 i, .pointer (some ⟨bx, 0, none⟩)] w fun e w' => e = .returned (.bool (sA s.sc i).c) ∧ Below w.heap.size w w' := by
  obtain ⟨A, c, hvs, hnc, hA⟩ := scs_open hV.sh.scs
  obtain ⟨g, off, rfl, hg, -, -, -, -, c4, -⟩ := hA i hi
  have q1 := hV.vb.c1
  rw [hvs] at q1
  have cx := hx.cell
  have h60 := hf.sc
  obtain ⟨xc, hxc⟩ := name_of (sA s.sc i).c
  rw [hxc] at c4 ⊢
  obtain ⟨n, hn⟩ := name_of s.sc.length
  rw [hn] at q1 hi hnc h60
  clear hA hvs hV hx hf hxc hn
  go_enter Tryz.func53, Tryz.ntmps53
  go_wp2_with fail
  go_ret
  exact ⟨rfl, Below.refl _ _⟩
/-- Is a row in a closed scope? -/
def busyB (s : Sh) (i : Nat) : Bool := (ch s ((ofN s i).getD 0)).any fun j => (sA s.sc j).c
abbrev TwS (W0 : World) (bx by_ : Nat) (a b : Value) (W : World) : Prop := Below W0.heap.size W0 W ∧ W.cell? ⟨bx, 0, none⟩ = some a ∧ W.cell? ⟨by_, 0, none⟩ = some b
theorem TwS.gr {W0 W : World} {bx by_ : Nat} {a b : Value} (h : TwS W0 bx by_ a b W) : Below W0.heap.size W0 W := h.1
theorem TwS.next {W0 W W' : World} {bx by_ : Nat} {a b : Value} (h0 : TwS W0 bx by_ a b W) (hb : Below W.heap.size W W') (h1 : bx < W0.heap.size) (h2 : by_ < W0.heap.size) : TwS W0 bx by_ a b W' :=
  ⟨h0.1.next hb, (hb.cell (p := ⟨bx, 0, none⟩) (Nat.lt_of_lt_of_le h1 h0.1.size)).trans h0.2.1, (hb.cell (p := ⟨by_, 0, none⟩) (Nat.lt_of_lt_of_le h2 h0.1.size)).trans h0.2.2⟩
theorem enters_shut (args : Array Value) (w : World) : (callFunc 53 args).run Tryz.prog w = .ok (.enter 53 args) w :=
  enters_of Tryz.func53 (by kernel_rfl) rfl args w
set_option maxRecDepth 10000 in
set_option maxHeartbeats 4000000 in
theorem busy_any {w : World} {bx by_ bv bm : Nat} {vr vs vw : Value} {s : Sh} (hV : Vm w bv bm vr vs vw s) (hx : Boxed w bx 42 (.pointer (some ⟨bv, 0, none⟩)))
    (hy : Boxed w by_ 56 (.func (.func 53) #[] #[.pointer (some ⟨bx, 0, none⟩)])) (hf : Fine s) (i : Nat) (hi : i < s.l.length) :
    Calls Tryz.prog 54 #[.int .i64 i, .pointer (some ⟨bx, 0, none⟩), .pointer (some ⟨by_, 0, none⟩)] w fun e w' => e = .returned (.bool (busyB s i)) ∧ Below w.heap.size w w' := by
  obtain ⟨k, hk, hkl⟩ := ofN_lt hf.sc hi
  have hS : TwS w bx by_ (.pointer (some ⟨bv, 0, none⟩)) (.func (.func 53) #[] #[.pointer (some ⟨bx, 0, none⟩)]) w := ⟨Below.refl _ _, hx.cell, hy.cell⟩
  have hO : ∀ W, TwS w bx by_ (.pointer (some ⟨bv, 0, none⟩)) (.func (.func 53) #[] #[.pointer (some ⟨bx, 0, none⟩)]) W → Calls Tryz.prog 20 #[.pointer (some ⟨bv, 0, none⟩), .int .i64 i] W fun e w' => e = .returned (.int .i64 (k : Int)) ∧ Below W.heap.size W w' := fun W hW => by
    have h := of_any (hV.next hW.1) hf.sc.1 hf.few i hi
    rw [hk] at h
    exact h
  have hAn : ∀ W, TwS w bx by_ (.pointer (some ⟨bv, 0, none⟩)) (.func (.func 53) #[] #[.pointer (some ⟨bx, 0, none⟩)]) W → Calls Tryz.prog 17 #[.pointer (some ⟨bv, 0, none⟩), .int .i64 (k : Int), .func (.func 53) #[] #[.pointer (some ⟨bx, 0, none⟩)]] W fun e w' => e = .returned (.bool (busyB s i)) ∧ Below W.heap.size W w' := fun W hW => by
    have h := any_any (hV.next hW.1) hf k hkl 53 #[.pointer (some ⟨bx, 0, none⟩)] (fun j => (sA s.sc j).c) enters_shut (fun W' x hW' hxl => shut_any ((hV.next hW.1).next hW') (boxNext (boxNext hx hW.1) hW') hf.few x hxl)
    unfold busyB
    rw [hk]
    exact h
  obtain ⟨t, ht⟩ := name_of (busyB s i)
  rw [ht] at hAn ⊢
  have l1 := hx.lt
  have l2 := hy.lt
  have cx := hx.cell
  have cy := hy.cell
  clear hV hx hy hf hk hkl ht hi
  go_enter Tryz.func54, Tryz.ntmps54
  go_wp2_with fail
  go_region_held3 (fun W => TwS w bx by_ (.pointer (some ⟨bv, 0, none⟩)) (.func (.func 53) #[] #[.pointer (some ⟨bx, 0, none⟩)]) W) (first | assumption | exact TwS.next hS below_drewU (by assumption) (by assumption) | exact TwS.next (by assumption) (by assumption) (by assumption) (by assumption)) (first | (go_at_call 20; (with_reducible refine (hO _ (by assumption)).mono ?_); rintro e w3 ⟨rfl, hb3⟩; have hB3 := (TwS.gr (W := _) (by assumption)).next hb3) | (go_at_call 17; (with_reducible refine (hAn _ (by assumption)).mono ?_); rintro e w4 ⟨rfl, hb4⟩; have hB4 := (TwS.gr (W := _) (by assumption)).next hb4))
  all_goals
    go_wp2_with fail
    go_ret
    exact ⟨rfl, hB4⟩
end P20
end Go.Proofs.YtajbchecjbddgaaGreatDoor
