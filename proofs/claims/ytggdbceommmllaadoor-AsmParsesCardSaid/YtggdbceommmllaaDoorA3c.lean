/- Asm: numbers and operands written. -/
import Derived.Test.YtggdbceommmllaaDoorA3b
import Derived.Test.YtggdbceommmllaaDoorPb
import Derived.Test.YtggdbceommmllaaDoorD02
import Derived.Deep.RegionHeld3
import Derived.Lib.AppendIntMem
import Derived.Lib.ItoaMem
import Derived.Lib.ItoaLen
import Derived.Lib.ItoaNum
namespace Go.Proofs.YtggdbceommmllaaDoor
open Go.RowKit
namespace P3
open P2 PC NumL CutL

/-- What the asm chapter asks of the library's variables. -/
structure Lb (w : World) : Prop where
  pow : Lib.TabIs Tryd.prog w "internal/strconv.uint64pow10" .u64 Lib.pow10Tab
  max : ∃ m : Int, w.cell? ⟨0, 0, none⟩ = some (.int .i64 m)
theorem Lb.next {w w' : World} (h : Lb w) (hb : Below w.heap.size w w') : Lb w' := by
  obtain ⟨h1, ⟨m, h2⟩⟩ := h
  exact ⟨Lib.tabBelow_of_tabIs h1 w' hb, ⟨m, (hb.cell (World.block_lt_of_cell? _ _ h2)).trans h2⟩⟩
theorem ret_bs {a b : ByteArray} (h : a = b) : Ending.returned (.string a) = .returned (.string b) := by rw [h]
theorem cat_ (a b : ByteArray) (m n : Nat) (ha : a.size ≤ m) (hb : b.size ≤ n) : ∃ s, a ++ b = s ∧ s.size ≤ m + n := ⟨_, rfl, by rw [ByteArray.size_append]; omega⟩
theorem let_ (l : List UInt8) (m : Nat) (h : l.length ≤ m) : ∃ s : ByteArray, (⟨l.toArray⟩ : ByteArray) = s ∧ s.size ≤ m := ⟨_, rfl, by simpa [ByteArray.size] using h⟩

theorem itoa_any (n : Int) (h0 : -9223372036854775808 ≤ n) (h1 : n ≤ 9223372036854775807) (w : World) (hp : Lb w) :
    Calls Tryd.prog 27 #[.int .i64 n] w fun e w' => e = .returned (.string ⟨(Lib.itoa n).toArray⟩) ∧ Below w.heap.size w w' := by
  refine (Tryd.strconv_Itoa n h0 h1 w hp.pow).mono ?_
  rintro e w' ⟨rfl, k, os, rfl⟩
  exact ⟨rfl, Lib.below_grow _ _ (Nat.le_refl _) _ _⟩
theorem cell_after {W w3 : World} {v : Value} {t : TypeId} (hb : Below (W.alloc (.cells #[v] t)).drew.heap.size (W.alloc (.cells #[v] t)).drew w3) : w3.cell? ⟨W.heap.size, 0, none⟩ = some v := (hb.cell (p := ⟨W.heap.size, 0, none⟩) (by show _ < (W.alloc _).heap.size; simp)).trans (by show (W.alloc _).cell? _ = _; simp)
theorem conv_at (w : World) (b : Nat) (f : Nat) (hc : w.cell? ⟨b, 0, none⟩ = some (.int .u8 f)) : (convert 53 9 (.slice (some ⟨b, 0, none⟩) 1 1)).run Tryd.prog w = .ok (.string ⟨#[UInt8.ofNat f]⟩) w := by
  have h := run_convert_bytes_arg (P := Tryd.prog) w 53 5 Tryd.underlying53 Tryd.underlying5 b 0 1 1 [(f : Int)] rfl (fun i hi => by
    have : i = 0 := by omega
    subst this
    exact hc) 9 Tryd.underlying9
  rw [h]
  rfl
theorem conv_one (w : World) (d : Int) : (convert 53 9 (.slice (some ⟨w.heap.size, 0, none⟩) 1 1)).run Tryd.prog (w.alloc (.cells #[.int .u8 d] 5)) = .ok (.string ⟨#[UInt8.ofNat d.toNat]⟩) (w.alloc (.cells #[.int .u8 d] 5)) := by
  have h := run_convert_bytes_arg (P := Tryd.prog) (w.alloc (.cells #[.int .u8 d] 5)) 53 5 Tryd.underlying53 Tryd.underlying5 w.heap.size 0 1 1 [d] rfl (fun i hi => by
    have : i = 0 := by omega
    subst this
    rw [World.cell?_alloc_at _ _ _ _ rfl]
    rfl) 9 Tryd.underlying9
  rw [h]
  rfl
set_option maxHeartbeats 2000000 in
theorem write_any (f : Nat) (n : Int) (h0 : -9223372036854775808 ≤ n) (h1 : n ≤ 9223372036854775807) (w : World) (hp : Lb w) :
    Calls Tryd.prog 31 #[.int .u8 f, .int .i64 n] w fun e w' => e = .returned (.string ⟨(writeF f n).toArray⟩) ∧ Below w.heap.size w w' := by
  have HP := Lib.hid hp
  by_cases h110 : f = 110
  · have HW : Hid (writeF f n = Lib.itoa n) := Lib.hid (by unfold writeF; rw [if_pos h110])
    have e0 : ((f : Int) == 110) = true := by rw [beq_iff_eq]; omega
    have hI := itoa_any n h0 h1 w hp
    clear hp h110
    go_enter Tryd.func31, Tryd.ntmps31
    go_wp2_with fail
    refine hI.mono ?_
    rintro e w1 ⟨rfl, hb1⟩
    go_wp2_with fail
    go_ret
    exact ⟨ret_bs (by rw [HW.out]), hb1⟩
  · have HW : Hid (writeF f n = UInt8.ofNat f :: Lib.itoa n) := Lib.hid (by unfold writeF; rw [if_neg h110])
    have e0 : ((f : Int) == 110) = false := by rw [beq_eq_false_iff_ne]; omega
    have hl := Lib.itoa_length_le n h0 h1
    obtain ⟨x, hx, hxs⟩ := let_ (Lib.itoa n) 21 hl
    obtain ⟨y, hy, hys⟩ := let_ [UInt8.ofNat f] 1 (by simp)
    obtain ⟨z, hz⟩ := name_of (y ++ x)
    have HZ : Hid (z = ⟨(writeF f n).toArray⟩) := Lib.hid (by
      rw [HW.out, ← hz, ← hx, ← hy, bs_append]
      rfl)
    have n1 : ¬ (9223372036854775807 < y.size + x.size) := by omega
    clear h110 hp
    go_enter Tryd.func31, Tryd.ntmps31
    go_wp2_with fail
    have hdr : Below w.heap.size w w.drew := below_drew'
    have hcv : ∀ (W : World) (b : Nat), W.cell? ⟨b, 0, none⟩ = some (.int .u8 f) → (convert 53 9 (.slice (some ⟨b, 0, none⟩) 1 1)).run Tryd.prog W = .ok (.string y) W := fun W b h => by rw [← hy]; exact conv_at W b f h
    clear hy
    have hsz : w.drew.heap.size = w.heap.size := rfl
    go_region_held (fun W => Below w.heap.size w W) (first | assumption | exact Below.next (by assumption) (by assumption) | exact Below.alloc (by assumption) (Below.size (by assumption)) _) (first | (go_at_call 27; (with_reducible refine (itoa_any n h0 h1 _ (HP.out.next (by first | assumption | exact Below.alloc (by assumption) (Below.size (by assumption)) _))).mono ?_); rw [hx]; rintro e w3 ⟨rfl, hb3⟩; try (have c3 : w3.cell? ⟨w.heap.size, 0, none⟩ = some (.int .u8 f) := cell_after hb3)))
    all_goals
      go_wp2_with fail
      go_ret
      refine ⟨ret_bs HZ.out, ?_⟩
      first | assumption | exact Below.next (by assumption) (by assumption) | exact Below.alloc (by assumption) (Below.size (by assumption)) _
end P3
end Go.Proofs.YtggdbceommmllaaDoor
