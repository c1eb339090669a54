/- Merged: Uw Ux Ul. -/
import Derived.Test.YtajbchecjbddgaaGreatDoorUt
import Derived.Test.YtajbchecjbddgaaGreatDoorUp
import Derived.Test.YtajbchecjbddgaaGreatDoorH3
import Derived.Test.YtajbchecjbddgaaGreatDoorUk
/- Audit: the law's own questions (sample, awake). -/
namespace Go.Proofs.YtajbchecjbddgaaGreatDoor
open Go.RowKit
namespace P20
open P7

def smpL (kind : Int) : List Row := [⟨-1, 0, 0, 1, 0, 3, ⟨#[48]⟩⟩, ⟨0, 1, 1, kind, 0, 0, ⟨#[]⟩⟩]
def smpS (asked : Bool) : List Sc := [⟨-1, 0, 0, false, false, 1⟩, ⟨0, 0, 0, asked, false, 0⟩, ⟨0, 1, 0, false, true, 0⟩]
def smp (kind : Int) (asked : Bool) (dq : List Int) : Sh := ⟨smpL kind, smpS asked, [⟨true, false, [0], dq⟩]⟩
/-- A sample's four blocks. -/
structure SmpB (W : World) (h : Nat) (kind : Int) (asked : Bool) (dv : Value) : Prop where
  b1 : W.heap[h + 1]? = some (.cells #[.int .i64 (-1), .int .i64 0, .int .i64 0, .int .i64 1, .int .i64 0, .int .i64 3, .string ⟨#[48]⟩, .int .i64 0, .int .i64 1, .int .i64 1, .int .i64 kind, .int .i64 0, .int .i64 0, .string ⟨#[]⟩] 69 (0, 0))
  b2 : W.heap[h + 1 + 1]? = some (.cells #[.int .i64 (-1), .int .i64 0, .int .i64 0, .bool false, .bool false, .int .i64 1, .int .i64 0, .int .i64 0, .int .i64 0, .bool asked, .bool false, .int .i64 0, .int .i64 0, .int .i64 1, .int .i64 0, .bool false, .bool true, .int .i64 0] 49 (0, 0))
  b3 : W.heap[h + 1 + 1 + 1]? = some (.cells #[.int .i64 0] 3 (0, 0))
  b4 : W.heap[h + 1 + 1 + 1 + 1]? = some (.cells #[.bool true, .bool false, .slice (some ⟨h + 1 + 1 + 1, 0, none⟩) 1 1, dv] 38 (0, 0))
theorem SmpB.next {W W' : World} {h : Nat} {kind : Int} {asked : Bool} {dv : Value} (hs : SmpB W h kind asked dv) (hb : Below W.heap.size W W') : SmpB W' h kind asked dv :=
  ⟨blk_next hs.b1 hb, blk_next hs.b2 hb, blk_next hs.b3 hb, blk_next hs.b4 hb⟩
theorem sl_blk {W : World} {g B size n : Nat} {cs : Array Value} {t : TypeId} {fr : Nat × Nat} {xs : List Value} (hb : W.heap[g]? = some (.cells cs t fr)) (hx : cs.toList = xs) (hs : xs.length = n * size) (hB : g < B) : Sl W B size (.slice (some ⟨g, 0, none⟩) n n) xs := by
  refine ⟨_, n, n, rfl, Nat.le_refl _, hs, fun _ => ⟨g, 0, rfl, hB, fun j u hj => ?_⟩⟩
  rw [cell_of_row _ _ _ cs t fr hb, Nat.zero_add]
  subst hx
  simpa using hj
theorem SmpB.shm {W : World} {h : Nat} {kind : Int} {asked : Bool} {dv : Value} {dq : List Int} (hs : SmpB W h kind asked dv) (hd : Sl W W.heap.size 1 dv (iv dq)) (hq : ∀ y ∈ dq, i64R y) (hk : i64R kind) :
    Shm W (.slice (some ⟨h + 1, 0, none⟩) 2 2) (.slice (some ⟨h + 1 + 1, 0, none⟩) 3 3) (.slice (some ⟨h + 1 + 1 + 1 + 1, 0, none⟩) 1 1) (smp kind asked dq) where
  rows := ⟨sl_blk hs.b1 rfl rfl (lt_of_block hs.b1), by simp [smp, smpL], fun r hr => by
    simp only [smp, smpL, List.mem_cons, List.not_mem_nil, or_false] at hr
    unfold i64R at hk
    rcases hr with rfl | rfl
    · exact ⟨by decide, by decide, by decide, by decide, by decide, by decide, by decide⟩
    · exact ⟨(by constructor <;> dsimp only <;> omega), (by constructor <;> dsimp only <;> omega), (by constructor <;> dsimp only <;> omega), hk, (by constructor <;> dsimp only <;> omega), (by constructor <;> dsimp only <;> omega), (show (⟨#[]⟩ : ByteArray).size ≤ maxLen by decide)⟩⟩
  scs := sl_blk hs.b2 rfl rfl (lt_of_block hs.b2)
  wks := ⟨[(.slice (some ⟨h + 1 + 1 + 1, 0, none⟩) 1 1, dv)], rfl, sl_blk hs.b4 rfl rfl (lt_of_block hs.b4), fun k hk c hc => by
    have hk0 : k = 0 := by simpa [smp] using hk
    subst hk0
    simp only [List.getElem?_cons_zero, Option.some.injEq] at hc
    subst hc
    exact ⟨sl_blk hs.b3 rfl rfl (lt_of_block hs.b3), hd⟩⟩
  scf := fun x hx => by
    simp only [smp, smpS, List.mem_cons, List.not_mem_nil, or_false] at hx
    rcases hx with rfl | rfl | rfl <;> exact ⟨(by constructor <;> dsimp only <;> omega), (by constructor <;> dsimp only <;> omega), (by constructor <;> dsimp only <;> omega), (by constructor <;> dsimp only <;> omega)⟩
  wkf := fun x hx => by
    simp only [smp, List.mem_cons, List.not_mem_nil, or_false] at hx
    subst hx
    exact ⟨fun y hy => by simp at hy; subst hy; exact ⟨by decide, by decide⟩, hq⟩
theorem smp_few (kind : Int) (asked : Bool) (dq : List Int) (h : dq.length ≤ 60) : FewS (smp kind asked dq) where
  l := by simp [smp, smpL]
  lc := fun k hk => by
    have hk : k < 2 := hk
    have : k = 0 ∨ k = 1 := by omega
    rcases this with rfl | rfl
    · exact (show (⟨#[48]⟩ : ByteArray).size ≤ 100 by decide)
    · exact (show (⟨#[]⟩ : ByteArray).size ≤ 100 by decide)
  sc := by simp [smp, smpS]
  ws := by simp [smp]
  st := fun k hk => by
    have hk : k < 1 := hk
    have : k = 0 := by omega
    subst this
    simp [smp, wA]
  dq := fun k hk => by
    have hk : k < 1 := hk
    have : k = 0 := by omega
    subst this
    simpa [smp, wA] using h
theorem smp_2 : chkS (smp 2 false []) = 0 := by decide +kernel
theorem smp_1 : chkS (smp 1 false []) = 26 := by decide +kernel
theorem smp_21 : chkS (smp 2 false [1]) = 26 := by decide +kernel
theorem smp_4 : chkS (smp 4 false []) = 0 := by decide +kernel
theorem smp_a2 : decide (alOk (smp 2 false [])) = true := by decide +kernel
theorem smp_a4 : decide (alOk (smp 4 false [])) = false := by decide +kernel
theorem smp_a4t : decide (alOk (smp 4 true [])) = true := by decide +kernel
theorem smp_n : nxt (smp 2 false []) (smp 2 false []) = 0 := (nxt_self _).trans smp_2
theorem heap_set {W : World} {g j : Nat} {cs : Array Value} {t : TypeId} {fr : Nat × Nat} {v : Value} (hb : W.heap[g]? = some (.cells cs t fr)) : (W.setCell ⟨g, j, none⟩ v).heap[g]? = some (.cells (cs.setIfInBounds j v) t fr) := by
  simp [World.setCell, Array.getElem?_modify, hb]
set_option maxRecDepth 100000 in
set_option maxHeartbeats 4000000 in
theorem sample_any (w : World) (kind : Int) (asked : Bool) :
    Calls Tryz.prog 10 #[.int .i64 kind, .bool asked] w fun e w' => e = .returned (.agg #[.slice (some ⟨w.heap.size + 1, 0, none⟩) 2 2, .slice (some ⟨w.heap.size + 1 + 1, 0, none⟩) 3 3, .slice (some ⟨w.heap.size + 1 + 1 + 1 + 1, 0, none⟩) 1 1]) ∧ SmpB w' w.heap.size kind asked (.slice none 0 0) ∧ Below w.heap.size w w' := by
  go_enter Tryz.func10, Tryz.ntmps10
  go_wp2_with fail
  have e0 := heap_alloc_last w (.cells #[.slice (some ⟨w.heap.size + 1, 0, none⟩) 2 2, .slice (some ⟨w.heap.size + 1 + 1, 0, none⟩) 3 3, .slice (some ⟨w.heap.size + 1 + 1 + 1 + 1, 0, none⟩) 1 1] 31)
  obtain ⟨W0, hW0⟩ := name_of (w.alloc (.cells #[.slice (some ⟨w.heap.size + 1, 0, none⟩) 2 2, .slice (some ⟨w.heap.size + 1 + 1, 0, none⟩) 3 3, .slice (some ⟨w.heap.size + 1 + 1 + 1 + 1, 0, none⟩) 1 1] 31))
  have z0 : W0.heap.size = w.heap.size + 1 := by rw [← hW0]; simp
  have k0 : Below w.heap.size w W0 := by rw [← hW0]; exact (Below.refl _ _).alloc (Nat.le_refl _) _
  rw [hW0] at e0 ⊢
  clear hW0
  have e1 := heap_alloc_last W0 (.cells #[.int .i64 (-1), .int .i64 0, .int .i64 0, .int .i64 1, .int .i64 0, .int .i64 3, .string ⟨#[48]⟩, .int .i64 0, .int .i64 1, .int .i64 1, .int .i64 kind, .int .i64 0, .int .i64 0, .string ⟨#[]⟩] 69)
  obtain ⟨W1, hW1⟩ := name_of (W0.alloc (.cells #[.int .i64 (-1), .int .i64 0, .int .i64 0, .int .i64 1, .int .i64 0, .int .i64 3, .string ⟨#[48]⟩, .int .i64 0, .int .i64 1, .int .i64 1, .int .i64 kind, .int .i64 0, .int .i64 0, .string ⟨#[]⟩] 69))
  have z1 : W1.heap.size = w.heap.size + 1 + 1 := by rw [← hW1, World.size_alloc, z0]
  have k1 : Below W0.heap.size W0 W1 := by rw [← hW1]; exact (Below.refl _ _).alloc (Nat.le_refl _) _
  rw [hW1, z0] at e1
  rw [hW1]
  clear hW1
  have e2 := heap_alloc_last W1 (.cells #[.int .i64 (-1), .int .i64 0, .int .i64 0, .bool false, .bool false, .int .i64 1, .int .i64 0, .int .i64 0, .int .i64 0, .bool asked, .bool false, .int .i64 0, .int .i64 0, .int .i64 1, .int .i64 0, .bool false, .bool true, .int .i64 0] 49)
  obtain ⟨W2, hW2⟩ := name_of (W1.alloc (.cells #[.int .i64 (-1), .int .i64 0, .int .i64 0, .bool false, .bool false, .int .i64 1, .int .i64 0, .int .i64 0, .int .i64 0, .bool asked, .bool false, .int .i64 0, .int .i64 0, .int .i64 1, .int .i64 0, .bool false, .bool true, .int .i64 0] 49))
  have z2 : W2.heap.size = w.heap.size + 1 + 1 + 1 := by rw [← hW2, World.size_alloc, z1]
  have k2 : Below W1.heap.size W1 W2 := by rw [← hW2]; exact (Below.refl _ _).alloc (Nat.le_refl _) _
  rw [hW2, z1] at e2
  rw [hW2]
  clear hW2
  have e3 := heap_alloc_last W2 (.cells #[.int .i64 0] 3)
  obtain ⟨W3, hW3⟩ := name_of (W2.alloc (.cells #[.int .i64 0] 3))
  have z3 : W3.heap.size = w.heap.size + 1 + 1 + 1 + 1 := by rw [← hW3, World.size_alloc, z2]
  have k3 : Below W2.heap.size W2 W3 := by rw [← hW3]; exact (Below.refl _ _).alloc (Nat.le_refl _) _
  rw [hW3, z2] at e3
  rw [hW3]
  clear hW3
  have e4 := heap_alloc_last W3 (.cells #[.bool true, .bool false, .slice (some ⟨w.heap.size + 1 + 1 + 1, 0, none⟩) 1 1, .slice none 0 0] 38)
  obtain ⟨W4, hW4⟩ := name_of (W3.alloc (.cells #[.bool true, .bool false, .slice (some ⟨w.heap.size + 1 + 1 + 1, 0, none⟩) 1 1, .slice none 0 0] 38))
  have k4 : Below W3.heap.size W3 W4 := by rw [← hW4]; exact (Below.refl _ _).alloc (Nat.le_refl _) _
  rw [hW4, z3] at e4
  rw [hW4]
  clear hW4
  have g3 := blk_next e3 k4
  have g2 := blk_next e2 (k3.next k4)
  have g1 := blk_next e1 (k2.next (k3.next k4))
  have g0 := blk_next e0 (k1.next (k2.next (k3.next k4)))
  refine bodyPost_ret (results_cell_one rfl _ _ w.heap.size 31 _ _ _ rfl g0 Tryz.underlying31 rfl (by kernel_rfl)) rfl ?_
  exact ⟨rfl, ⟨g1, g2, g3, e4⟩, k0.next (k1.next (k2.next (k3.next k4)))⟩
end P20
end Go.Proofs.YtajbchecjbddgaaGreatDoor

/- Audit: awake. -/
namespace Go.Proofs.YtajbchecjbddgaaGreatDoor
open Go.RowKit
namespace P20
open P7

def AwP : Prop := ∀ W, Calls Tryz.prog 5 #[] W fun e w' => e = .returned (.bool true) ∧ Below W.heap.size W w'
theorem i64_small {k : Int} (h0 : 0 ≤ k) (h1 : k ≤ 9) : i64R k := ⟨by omega, by omega⟩
set_option maxRecDepth 100000 in
set_option maxHeartbeats 8000000 in
theorem awake_any : AwP := by
  intro w
  have hS := sample_any w 2 false
  obtain ⟨h, hh⟩ := name_of w.heap.size
  go_enter Tryz.func5, Tryz.ntmps5
  go_wp2_with fail
  refine hS.mono ?_
  rintro e w1 ⟨rfl, hs1, hb1⟩
  rw [hh] at hs1
  obtain ⟨W1, hW1⟩ := name_of (w1.alloc (.cells #[.slice (some ⟨h + 1, 0, none⟩) 2 2, .slice (some ⟨h + 1 + 1, 0, none⟩) 3 3, .slice (some ⟨h + 1 + 1 + 1 + 1, 0, none⟩) 1 1] 31))
  have hblk := heap_alloc_last w1 (.cells #[.slice (some ⟨h + 1, 0, none⟩) 2 2, .slice (some ⟨h + 1 + 1, 0, none⟩) 3 3, .slice (some ⟨h + 1 + 1 + 1 + 1, 0, none⟩) 1 1] 31)
  have hb2 : Below w1.heap.size w1 W1 := by rw [← hW1]; exact (Below.refl _ _).alloc (Nat.le_refl _) _
  rw [hW1] at hblk
  have HB1 := Lib.hid (hb1.next hb2)
  have HS1 := Lib.hid (hs1.next hb2)
  have HK1 := Lib.hid hblk
  have hsh := HS1.out.shm (dq := []) Sl.none_ (fun y hy => by cases hy) (i64_small (by omega) (by omega))
  have hC := checkS_any hsh (smp_few 2 false [] (by simp))
  rw [smp_2] at hC
  have y0 : W1.cell? ⟨w1.heap.size, 0, none⟩ = some (.slice (some ⟨h + 1, 0, none⟩) 2 2) := (cell_of_row _ _ _ _ _ _ hblk).trans rfl
  have y1 : W1.cell? ⟨w1.heap.size, 1, none⟩ = some (.slice (some ⟨h + 1 + 1, 0, none⟩) 3 3) := (cell_of_row _ _ _ _ _ _ hblk).trans rfl
  have y2 : W1.cell? ⟨w1.heap.size, 2, none⟩ = some (.slice (some ⟨h + 1 + 1 + 1 + 1, 0, none⟩) 1 1) := (cell_of_row _ _ _ _ _ _ hblk).trans rfl
  clear hS hb1 hb2 hs1 hblk hsh
  go_wp2_with fail
  clear hW1
  refine hC.mono ?_
  clear hC y0 y1 y2
  rintro e w2 ⟨rfl, hb⟩
  have HB2 := Lib.hid (HB1.out.next hb)
  have HS2 := Lib.hid (HS1.out.next hb)
  have HK2 := Lib.hid (blk_next HK1.out hb)
  clear hb HB1 HS1 HK1
  have y0 : w2.cell? ⟨w1.heap.size, 0, none⟩ = some (.slice (some ⟨h + 1, 0, none⟩) 2 2) := (cell_of_row _ _ _ _ _ _ HK2.out).trans rfl
  have y1 : w2.cell? ⟨w1.heap.size, 1, none⟩ = some (.slice (some ⟨h + 1 + 1, 0, none⟩) 3 3) := (cell_of_row _ _ _ _ _ _ HK2.out).trans rfl
  have y2 : w2.cell? ⟨w1.heap.size, 2, none⟩ = some (.slice (some ⟨h + 1 + 1 + 1 + 1, 0, none⟩) 1 1) := (cell_of_row _ _ _ _ _ _ HK2.out).trans rfl
  have hC := allowed_any (HS2.out.shm (dq := []) Sl.none_ (fun y hy => by cases hy) (i64_small (by omega) (by omega))) (smp_few 2 false [] (by simp))
  rw [smp_a2] at hC
  go_wp2_with fail
  refine hC.mono ?_
  clear hC y0 y1 y2
  rintro e w3 ⟨rfl, hb⟩
  have HB3 := Lib.hid (HB2.out.next hb)
  have HS3 := Lib.hid (HS2.out.next hb)
  have HK3 := Lib.hid (blk_next HK2.out hb)
  clear hb HB2 HS2 HK2
  have hC := sample_any w3 1 false
  go_wp2_with fail
  refine hC.mono ?_
  clear hC
  rintro e w4 ⟨rfl, hs, hb⟩
  have HB4 := Lib.hid (HB3.out.next hb)
  have HS4 := Lib.hid (HS3.out.next hb)
  have HK4 := Lib.hid (blk_next HK3.out hb)
  have hC := checkS_any (hs.shm (dq := []) Sl.none_ (fun y hy => by cases hy) (i64_small (by omega) (by omega))) (smp_few 1 false [] (by simp))
  rw [smp_1] at hC
  clear hb hs HB3 HS3 HK3
  go_wp2_with fail
  refine hC.mono ?_
  clear hC
  rintro e w5 ⟨rfl, hb⟩
  have HB5 := Lib.hid (HB4.out.next hb)
  have HS5 := Lib.hid (HS4.out.next hb)
  have HK5 := Lib.hid (blk_next HK4.out hb)
  clear hb HB4 HS4 HK4
  have y0 : w5.cell? ⟨w1.heap.size, 0, none⟩ = some (.slice (some ⟨h + 1, 0, none⟩) 2 2) := (cell_of_row _ _ _ _ _ _ HK5.out).trans rfl
  have y1 : w5.cell? ⟨w1.heap.size, 1, none⟩ = some (.slice (some ⟨h + 1 + 1, 0, none⟩) 3 3) := (cell_of_row _ _ _ _ _ _ HK5.out).trans rfl
  have y2 : w5.cell? ⟨w1.heap.size, 2, none⟩ = some (.slice (some ⟨h + 1 + 1 + 1 + 1, 0, none⟩) 1 1) := (cell_of_row _ _ _ _ _ _ HK5.out).trans rfl
  have hsh := HS5.out.shm (dq := []) Sl.none_ (fun y hy => by cases hy) (i64_small (by omega) (by omega))
  have hC := next_any hsh hsh (smp_few 2 false [] (by simp)) (smp_few 2 false [] (by simp))
  rw [smp_n] at hC
  clear hsh
  go_wp2_with fail
  refine hC.mono ?_
  clear hC y0 y1 y2
  rintro e w6 ⟨rfl, hb⟩
  have HB6 := Lib.hid (HB5.out.next hb)
  clear hb HB5 HS5 HK5
  have hC := sample_any w6 2 false
  obtain ⟨h2, hh2⟩ := name_of w6.heap.size
  rw [hh2] at hC
  go_wp2_with fail
  refine hC.mono ?_
  clear hC
  rintro e w7 ⟨rfl, hs1, hb1⟩
  obtain ⟨W2, hW2⟩ := name_of (w7.alloc (.cells #[.slice (some ⟨h2 + 1, 0, none⟩) 2 2, .slice (some ⟨h2 + 1 + 1, 0, none⟩) 3 3, .slice (some ⟨h2 + 1 + 1 + 1 + 1, 0, none⟩) 1 1] 31))
  have hblk := heap_alloc_last w7 (.cells #[.slice (some ⟨h2 + 1, 0, none⟩) 2 2, .slice (some ⟨h2 + 1 + 1, 0, none⟩) 3 3, .slice (some ⟨h2 + 1 + 1 + 1 + 1, 0, none⟩) 1 1] 31)
  have hb2 : Below w7.heap.size w7 W2 := by rw [← hW2]; exact (Below.refl _ _).alloc (Nat.le_refl _) _
  rw [hW2] at hblk
  rw [← hh2] at hb1
  have HB7 := Lib.hid (HB6.out.next (hb1.next hb2))
  have HS7 := Lib.hid (hs1.next hb2)
  have HK7 := Lib.hid hblk
  have HHB : Hid (w.heap.size ≤ h2 ∧ h2 + 1 + 1 + 1 + 1 < w7.heap.size) := Lib.hid ⟨by rw [← hh2]; exact HB6.out.size, lt_of_block hs1.b4⟩
  have y0 : W2.cell? ⟨w7.heap.size, 0, none⟩ = some (.slice (some ⟨h2 + 1, 0, none⟩) 2 2) := (cell_of_row _ _ _ _ _ _ hblk).trans rfl
  have y1 : W2.cell? ⟨w7.heap.size, 1, none⟩ = some (.slice (some ⟨h2 + 1 + 1, 0, none⟩) 3 3) := (cell_of_row _ _ _ _ _ _ hblk).trans rfl
  have y2 : W2.cell? ⟨w7.heap.size, 2, none⟩ = some (.slice (some ⟨h2 + 1 + 1 + 1 + 1, 0, none⟩) 1 1) := (cell_of_row _ _ _ _ _ _ hblk).trans rfl
  have hb3 : Below W2.heap.size W2 (W2.alloc (.cells #[.int .i64 1] 3)) := (Below.refl _ _).alloc (Nat.le_refl _) _
  have hbd := heap_alloc_last W2 (.cells #[.int .i64 1] 3)
  obtain ⟨W3, hW3⟩ := name_of (W2.alloc (.cells #[.int .i64 1] 3))
  rw [hW3] at hb3 hbd
  have HS8 := HS7.out.next hb3
  have HK8 := blk_next HK7.out hb3
  have y3 : W3.cell? ⟨h2 + 1 + 1 + 1 + 1, 3, none⟩ = some (.slice none 0 0) := (cell_of_row _ _ _ _ _ _ HS8.b4).trans rfl
  have y4 := frozen_of_row W3 (h2 + 1 + 1 + 1 + 1) 3 _ _ HS8.b4
  obtain ⟨W4, hW4⟩ := name_of (W3.setCell ⟨h2 + 1 + 1 + 1 + 1, 3, none⟩ (.slice (some ⟨W2.heap.size, 0, none⟩) 1 1))
  have hs4 : W4.heap.size = W3.heap.size := by rw [← hW4]; exact set_size (w := W3) _ _
  have haw : ∀ g, g ≠ h2 + 1 + 1 + 1 + 1 → W4.heap[g]? = W3.heap[g]? := fun g hg => by rw [← hW4]; exact setCell_away W3 _ _ hg
  have hl2 := HHB.out.2
  have hl7 : w7.heap.size < W2.heap.size := lt_of_block HK7.out
  have HS9 : Hid (SmpB W4 h2 2 false (.slice (some ⟨W2.heap.size, 0, none⟩) 1 1)) := Lib.hid ⟨(haw _ (by omega)).trans HS8.b1, (haw _ (by omega)).trans HS8.b2, (haw _ (by omega)).trans HS8.b3, by rw [← hW4]; exact heap_set HS8.b4⟩
  have hd9 : Sl W4 W4.heap.size 1 (.slice (some ⟨W2.heap.size, 0, none⟩) 1 1) (iv [1]) := sl_blk ((haw _ (by omega)).trans hbd) rfl rfl (by rw [hs4]; exact lt_of_block hbd)
  have hK9 := (haw w7.heap.size (by omega)).trans HK8
  have HB9 : Hid (Below w.heap.size w W4) := Lib.hid (by rw [← hW4]; exact (HB7.out.next hb3).setCell (p := ⟨h2 + 1 + 1 + 1 + 1, 3, none⟩) (show w.heap.size ≤ h2 + 1 + 1 + 1 + 1 by have := HHB.out.1; omega) _)
  have v0 : W4.cell? ⟨w7.heap.size, 0, none⟩ = some (.slice (some ⟨h2 + 1, 0, none⟩) 2 2) := (cell_of_row _ _ _ _ _ _ hK9).trans rfl
  have v1 : W4.cell? ⟨w7.heap.size, 1, none⟩ = some (.slice (some ⟨h2 + 1 + 1, 0, none⟩) 3 3) := (cell_of_row _ _ _ _ _ _ hK9).trans rfl
  have v2 : W4.cell? ⟨w7.heap.size, 2, none⟩ = some (.slice (some ⟨h2 + 1 + 1 + 1 + 1, 0, none⟩) 1 1) := (cell_of_row _ _ _ _ _ _ hK9).trans rfl
  have hC := checkS_any (HS9.out.shm (dq := [1]) hd9 (fun y hy => by simp at hy; subst hy; exact ⟨by decide, by decide⟩) (i64_small (by omega) (by omega))) (smp_few 2 false [1] (by simp))
  rw [smp_21] at hC
  clear hb1 hb2 hs1 hblk HB6 hh2 hb3 hbd HS8 HK8 hs4 haw hl2 hl7 hd9 hK9 HS9 HB7 HS7 HK7 HHB
  go_wp2_with fail
  clear hW2 hW3 hW4 y0 y1 y2 y3 y4
  refine hC.mono ?_
  clear hC v0 v1 v2
  rintro e wa ⟨rfl, hb⟩
  have HBa := Lib.hid (HB9.out.next hb)
  clear hb HB9
  have hC := sample_any wa 4 false
  go_wp2_with fail
  refine hC.mono ?_
  clear hC
  rintro e wb ⟨rfl, hs, hb⟩
  have HBb := Lib.hid (HBa.out.next hb)
  have hC := checkS_any (hs.shm (dq := []) Sl.none_ (fun y hy => by cases hy) (i64_small (by omega) (by omega))) (smp_few 4 false [] (by simp))
  rw [smp_4] at hC
  clear hb hs HBa
  go_wp2_with fail
  refine hC.mono ?_
  clear hC
  rintro e wc ⟨rfl, hb⟩
  have HBc := Lib.hid (HBb.out.next hb)
  clear hb HBb
  have hC := sample_any wc 4 false
  go_wp2_with fail
  refine hC.mono ?_
  clear hC
  rintro e wd ⟨rfl, hs, hb⟩
  have HBd := Lib.hid (HBc.out.next hb)
  have hC := allowed_any (hs.shm (dq := []) Sl.none_ (fun y hy => by cases hy) (i64_small (by omega) (by omega))) (smp_few 4 false [] (by simp))
  rw [smp_a4] at hC
  clear hb hs HBc
  go_wp2_with fail
  refine hC.mono ?_
  clear hC
  rintro e we ⟨rfl, hb⟩
  have HBe := Lib.hid (HBd.out.next hb)
  clear hb HBd
  have hC := sample_any we 4 true
  go_wp2_with fail
  refine hC.mono ?_
  clear hC
  rintro e wf ⟨rfl, hs, hb⟩
  have HBf := Lib.hid (HBe.out.next hb)
  have hC := allowed_any (hs.shm (dq := []) Sl.none_ (fun y hy => by cases hy) (i64_small (by omega) (by omega))) (smp_few 4 true [] (by simp))
  rw [smp_a4t] at hC
  clear hb hs HBe
  go_wp2_with fail
  refine hC.mono ?_
  clear hC
  rintro e wg ⟨rfl, hb⟩
  have HBg := Lib.hid (HBf.out.next hb)
  clear hb HBf
  go_wp2_with fail
  go_ret
  exact ⟨rfl, HBg.out⟩
end P20
end Go.Proofs.YtajbchecjbddgaaGreatDoor

/- Audit: what the law asks first (Few), a shot handed on (shot). -/
namespace Go.Proofs.YtajbchecjbddgaaGreatDoor
open Go.RowKit
namespace P20
open P7

def FewSP (s : Sh) (w : World) (e : Ending) (w' : World) : Prop := (∃ b : Bool, e = .returned (.bool b) ∧ (b = true → FewS s)) ∧ Below w.heap.size w w'
set_option maxRecDepth 100000 in
set_option maxHeartbeats 4000000 in
theorem few20_any {w : World} {vr vs vw : Value} {s : Sh} (hS : Shm w vr vs vw s) :
    Calls Tryz.prog 4 #[.agg #[vr, vs, vw]] w (FewSP s w) := by
  have hb1 : Below w.heap.size w (w.alloc (.cells #[vr, vs, vw] 26)) := by go_grown
  have hC := few_any (hS.next hb1).rows
  have hblk := heap_alloc_last w (.cells #[vr, vs, vw] 26)
  obtain ⟨Ar, cr, hvr, -, -⟩ := rows_open hS.rows.sl
  obtain ⟨A, c, hvs, -, -⟩ := scs_open hS.scs
  obtain ⟨Aw, cw, hvw, hncw, hAw⟩ := hS.wks.open_
  have HAW := Lib.hid hAw
  obtain ⟨n, hn⟩ := name_of s.sc.length
  obtain ⟨nr, hnr⟩ := name_of s.l.length
  obtain ⟨nw, hnw⟩ := name_of s.ws.length
  have HN := Lib.hid hn
  have HNR := Lib.hid hnr
  have HNW := Lib.hid hnw
  have HB1 := Lib.hid hb1
  rw [hn] at hvs
  rw [hnr] at hvr
  rw [hnw] at hvw hncw
  subst hvr hvs hvw
  clear hn hnr hnw hS hAw
  have y0 : (w.alloc (.cells #[.slice Ar nr cr, .slice A n c, .slice Aw nw cw] 26)).cell? ⟨w.heap.size, 0, none⟩ = some (.slice Ar nr cr) := by rw [cell_of_row _ _ _ _ _ _ hblk]; rfl
  have y1 : (w.alloc (.cells #[.slice Ar nr cr, .slice A n c, .slice Aw nw cw] 26)).cell? ⟨w.heap.size, 1, none⟩ = some (.slice A n c) := by rw [cell_of_row _ _ _ _ _ _ hblk]; rfl
  have y2 : (w.alloc (.cells #[.slice Ar nr cr, .slice A n c, .slice Aw nw cw] 26)).cell? ⟨w.heap.size, 2, none⟩ = some (.slice Aw nw cw) := by rw [cell_of_row _ _ _ _ _ _ hblk]; rfl
  clear hblk hb1
  by_cases g1 : 40 < nr
  · go_enter Tryz.func4, Tryz.ntmps4
    go_wp2_with fail
    go_ret
    exact ⟨⟨_, rfl, fun h => by cases h⟩, HB1.out⟩
  · have hFP := hC
    go_enter Tryz.func4, Tryz.ntmps4
    go_wp2_with fail
    refine hC.mono ?_
    rintro e w2 ⟨⟨b, rfl, hb⟩, rfl⟩
    have HSM := Lib.hid hb
    have HG1 := Lib.hid g1
    clear hC hFP hb
    cases b with
    | false =>
      go_wp2_with fail
      go_ret
      exact ⟨⟨_, rfl, fun h => by cases h⟩, HB1.out⟩
    | true =>
      by_cases g2 : 60 < n
      · go_wp2_with fail
        go_ret
        exact ⟨⟨_, rfl, fun h => by cases h⟩, HB1.out⟩
      · by_cases g3 : 20 < nw
        · go_wp2_with fail
          go_ret
          exact ⟨⟨_, rfl, fun h => by cases h⟩, HB1.out⟩
        · have HG2 := Lib.hid g2
          have HG3 := Lib.hid g3
          go_wp2_with fail
          go_loop [3] (fun x => ∃ j : Nat, j ≤ nw ∧ x = .int .i64 j ∧ Hid (∀ m, m < j → (wA s.ws m).st.length ≤ 60 ∧ (wA s.ws m).dq.length ≤ 60)) (fun x => nw - (intOf x).toNat)
          case atStart => exact ⟨0, Nat.zero_le _, rfl, Lib.hid (fun m hm => by omega)⟩
          case round =>
            obtain ⟨j, hj, rfl, hno⟩ := hrel
            by_cases hlt : j < nw
            · obtain ⟨gw, offw, sv, dv, rfl, hgw, d0, d1, d2, d3, hs, hd⟩ := HAW.out j (by rw [HNW.out]; exact hlt)
              have hkeep : Below w.heap.size w (w.alloc (.cells #[.slice Ar nr cr, .slice A n c, .slice (some ⟨gw, offw, none⟩) nw cw] 26)) := HB1.out
              obtain ⟨As, cs, rfl, -⟩ := ints_open hs
              obtain ⟨Ad, cd, rfl, -⟩ := ints_open hd
              have e2 := (hkeep.cell (p := ⟨gw, _, none⟩) hgw).trans d2
              have e3 := (hkeep.cell (p := ⟨gw, _, none⟩) hgw).trans d3
              obtain ⟨ns, hns⟩ := name_of (wA s.ws j).st.length
              obtain ⟨nd, hnd⟩ := name_of (wA s.ws j).dq.length
              rw [hns] at e2
              rw [hnd] at e3
              have HNS := Lib.hid hns
              have HND := Lib.hid hnd
              clear d0 d1 d2 d3 hs hd hkeep hns hnd
              by_cases g4 : 60 < ns
              · go_wp2_with fail
                go_ret
                exact ⟨⟨_, rfl, fun h => by cases h⟩, HB1.out⟩
              · by_cases g5 : 60 < nd
                · go_wp2_with fail
                  go_ret
                  exact ⟨⟨_, rfl, fun h => by cases h⟩, HB1.out⟩
                · have HR : Hid (∀ m, m < j + 1 → (wA s.ws m).st.length ≤ 60 ∧ (wA s.ws m).dq.length ≤ 60) := Lib.hid fun m hm => by
                    by_cases e : m = j
                    · rw [e, HNS.out, HND.out]; omega
                    · exact hno.out m (by omega)
                  go_wp2_with fail
                  exact ⟨⟨j + 1, by omega, by go_num, HR⟩, by simp [intOf]; omega⟩
            · obtain rfl : nw = j := by omega
              have HR : Hid (FewS s) := Lib.hid ⟨by rw [HNR.out]; have := HG1.out; omega, (HSM.out trivial).2, by rw [HN.out]; have := HG2.out; omega, by rw [HNW.out]; have := HG3.out; omega, fun k hk => (hno.out k (by rw [HNW.out] at hk; exact hk)).1, fun k hk => (hno.out k (by rw [HNW.out] at hk; exact hk)).2⟩
              go_wp2_with fail
              go_ret
              exact ⟨⟨_, rfl, fun _ => HR.out⟩, HB1.out⟩
/-- A shot handed on. -/
theorem shot_any {w : World} {Ar A Aw : Option Addr} {nr cr n c nw cw : Nat} :
    Calls Tryz.prog 7 #[.agg #[.slice Ar nr cr, .slice A n c, .slice Aw nw cw]] w fun e w' => e = .returned (.agg #[.slice Ar nr cr, .slice A n c, .slice Aw nw cw]) ∧ Below w.heap.size w w' := by
  go_enter Tryz.func7, Tryz.ntmps7
  go_wp2_with fail
  refine bodyPost_ret (results_cell_one rfl _ _ (w.heap.size + 1) 31 _ _ _ rfl (heap_alloc2_new w _ _) Tryz.underlying31 rfl (by kernel_rfl)) rfl ?_
  exact ⟨rfl, by go_grown⟩
end P20
end Go.Proofs.YtajbchecjbddgaaGreatDoor
