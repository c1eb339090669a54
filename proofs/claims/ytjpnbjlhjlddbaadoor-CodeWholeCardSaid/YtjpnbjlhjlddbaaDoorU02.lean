/- Walks: code.Decode and the reference's Decode. -/
import Derived.Test.YtjpnbjlhjlddbaaDoorF02
import Derived.Test.YtjpnbjlhjlddbaaDoorE02
import Derived.Test.YtjpnbjlhjlddbaaDoorV
import Derived.IntWalk
import Derived.Deep.RegionHeld3
namespace Go.Proofs.YtjpnbjlhjlddbaaDoor
open Go.RowKit
namespace P2

def s32 (n : Int) : Int := if n < 2147483648 then n else n - 4294967296
def word (b4 b5 b6 b7 : Int) : Int := ((b4 * 256 + b5) * 256 + b6) * 256 + b7
def decI : List Int → Ins
  | [b0, b1, b2, b3, b4, b5, b6, b7] => (b0, b1, b2, b3, s32 (word b4 b5 b6 b7))
  | _ => (0, 0, 0, 0, 0)
def decE (l : List Int) : Int := if l.length = 8 then chk (decI l) else 11
def decV (l : List Int) : Ins := if decE l = 0 then decI l else (0, 0, 0, 0, 0)

def DecPost (l : List Int) (w : World) (e : Ending) (w' : World) : Prop := e = .returned (.tuple #[insV (decV l), .int .i64 (decE l)]) ∧ Below w.heap.size w w'

theorem decode_len {w : World} {B : Nat} {v : Value} {l : List Int} (hs : Sl w B 1 v (bv l)) (h : l.length ≠ 8) :
    Calls Tryd.prog 22 #[v] w (DecPost l w) := by
  obtain ⟨A, n, c, rfl, hnc, hn, hA⟩ := hs
  simp only [bv_length, Nat.mul_one] at hn
  have hE : decE l = 11 := by rw [decE, if_neg h]
  have hV : decV l = (0, 0, 0, 0, 0) := by rw [decV, hE]; rfl
  have h8 : ((n : Int) != 8) = true := by simp; omega
  have hne : n ≠ 8 := by omega
  have HE := Lib.hid hE
  have HV := Lib.hid hV
  clear hE hV hn h hA
  go_enter Tryd.func22, Tryd.ntmps22
  go_wp2_with fail
  go_returns
  exact ⟨by rw [HE.out, HV.out]; rfl, by go_grown⟩

theorem or_byte (x y : Int) (h0 : 0 ≤ x) (h1 : x < 16777216) (h2 : 0 ≤ y) (h3 : y ≤ 255) : bits .or .u32 (x * 256) y = x * 256 + y :=
  bits_join .u32 32 (by decide) (fun n a b => by rw [IntKind.wrap_u32]; exact Int.emod_eq_of_lt a b) 8 _ _ (by omega) (by omega) (by omega) h2 (by omega) (by omega)
theorem or_zero (y : Int) (h2 : 0 ≤ y) (h3 : y ≤ 255) : bits .or .u32 0 y = y := by
  have := or_byte 0 y (by omega) (by omega) h2 h3
  simpa using this
theorem wrap_s32 {n : Int} (h0 : 0 ≤ n) (h1 : n < 4294967296) : IntKind.i32.wrap n = s32 n := by
  rw [IntKind.wrap_i32]
  unfold s32
  split <;> omega
theorem s32_bounds {n : Int} (h0 : 0 ≤ n) (h1 : n < 4294967296) : -2147483648 ≤ s32 n ∧ s32 n ≤ 2147483647 := by
  unfold s32
  split <;> omega

theorem decode_eight {w : World} {b off c : Nat} {b0 b1 b2 b3 b4 b5 b6 b7 : Int} (hc : 8 ≤ c) (hr : w.rangeAt b off (bv [b0, b1, b2, b3, b4, b5, b6, b7]))
    (h0 : 0 ≤ b0 ∧ b0 ≤ 255) (h1 : 0 ≤ b1 ∧ b1 ≤ 255) (h2 : 0 ≤ b2 ∧ b2 ≤ 255) (h3 : 0 ≤ b3 ∧ b3 ≤ 255) (h4 : 0 ≤ b4 ∧ b4 ≤ 255) (h5 : 0 ≤ b5 ∧ b5 ≤ 255) (h6 : 0 ≤ b6 ∧ b6 ≤ 255) (h7 : 0 ≤ b7 ∧ b7 ≤ 255) :
    Calls Tryd.prog 22 #[.slice (some ⟨b, off, none⟩) 8 c] w (DecPost [b0, b1, b2, b3, b4, b5, b6, b7] w) := by
  have c0 : w.cell? ⟨b, off, none⟩ = some (.int .u8 b0) := hr 0 _ rfl
  have c1 : w.cell? ⟨b, off + 1, none⟩ = some (.int .u8 b1) := hr 1 _ rfl
  have c2 : w.cell? ⟨b, off + 2, none⟩ = some (.int .u8 b2) := hr 2 _ rfl
  have c3 : w.cell? ⟨b, off + 3, none⟩ = some (.int .u8 b3) := hr 3 _ rfl
  have c4 : w.cell? ⟨b, off + 4, none⟩ = some (.int .u8 b4) := hr 4 _ rfl
  have c5 : w.cell? ⟨b, off + 4 + 1, none⟩ = some (.int .u8 b5) := hr 5 _ rfl
  have c6 : w.cell? ⟨b, off + 4 + 2, none⟩ = some (.int .u8 b6) := hr 6 _ rfl
  have c7 : w.cell? ⟨b, off + 4 + 3, none⟩ = some (.int .u8 b7) := hr 7 _ rfl
  have hlt : b < w.heap.size := World.block_lt_of_cell? w _ c0
  clear hr
  have o1 := or_zero b4 h4.1 h4.2
  have o2 := or_byte b4 b5 (by omega) (by omega) h5.1 h5.2
  have o3 := or_byte (b4 * 256 + b5) b6 (by omega) (by omega) h6.1 h6.2
  have o4 := or_byte ((b4 * 256 + b5) * 256 + b6) b7 (by omega) (by omega) h7.1 h7.2
  have o5 : Hid (IntKind.i32.wrap (((b4 * 256 + b5) * 256 + b6) * 256 + b7) = s32 (((b4 * 256 + b5) * 256 + b6) * 256 + b7)) := wrap_s32 (by omega) (by omega)
  have hsb := s32_bounds (n := ((b4 * 256 + b5) * 256 + b6) * 256 + b7) (by omega) (by omega)
  have p0 : Hid (IntKind.i64.wrap b0 = b0) := IntWalk.i64_in _ (by omega)
  have p1 : Hid (IntKind.i64.wrap b1 = b1) := IntWalk.i64_in _ (by omega)
  have p2 : Hid (IntKind.i64.wrap b2 = b2) := IntWalk.i64_in _ (by omega)
  have p3 : Hid (IntKind.i64.wrap b3 = b3) := IntWalk.i64_in _ (by omega)
  have p4 : Hid (IntKind.i64.wrap (s32 (((b4 * 256 + b5) * 256 + b6) * 256 + b7)) = s32 (((b4 * 256 + b5) * 256 + b6) * 256 + b7)) := IntWalk.i64_in _ (by omega)
  obtain ⟨h0, h0'⟩ := h0
  obtain ⟨h1, h1'⟩ := h1
  obtain ⟨h2, h2'⟩ := h2
  obtain ⟨h3, h3'⟩ := h3
  obtain ⟨h4, h4'⟩ := h4
  obtain ⟨h5, h5'⟩ := h5
  obtain ⟨h6, h6'⟩ := h6
  obtain ⟨h7, h7'⟩ := h7
  go_enter Tryd.func22, Tryd.ntmps22
  go_wp2_with fail
  refine wp_loop_rounds 5 ?_
  rw [rounds_succ]
  go_wp2_with fail
  rw [rounds_succ]
  go_wp2_with fail
  rw [rounds_succ]
  go_wp2_with fail
  rw [rounds_succ]
  go_wp2_with fail
  rw [rounds_succ]
  go_wp2_with fail
  have q0 := p0.out
  have q1 := p1.out
  have q2 := p2.out
  have q3 := p3.out
  have q4 := p4.out
  have q5 := o5.out
  go_region_held3 (fun W => W.cell? ⟨b, off, none⟩ = some (.int .u8 b0) ∧ W.cell? ⟨b, off + 1, none⟩ = some (.int .u8 b1) ∧ W.cell? ⟨b, off + 2, none⟩ = some (.int .u8 b2) ∧ W.cell? ⟨b, off + 3, none⟩ = some (.int .u8 b3)) (go_keep) (fail)
  clear q0 q1 q2 q3 q4 q5
  have hE : decE [b0, b1, b2, b3, b4, b5, b6, b7] = chk (b0, b1, b2, b3, s32 (((b4 * 256 + b5) * 256 + b6) * 256 + b7)) := rfl
  have HE := Lib.hid hE
  clear hE
  go_wp2_with fail
  refine (check_any (b0, b1, b2, b3, s32 (((b4 * 256 + b5) * 256 + b6) * 256 + b7)) _).mono ?_
  rintro e w3 ⟨rfl, hb3⟩
  have hk0 := (hb3.block w.heap.size (by simp <;> omega)).trans (heap_alloc2_old w _ _)
  have hk1 := (hb3.block (w.heap.size + 1) (by simp <;> omega)).trans (heap_alloc2_new w _ _)
  have hB3 : Below w.heap.size w w3 := (by go_grown : Below w.heap.size w _).trans (hb3.mono (by simp <;> omega))
  have i0 := fun j => cell_of_row w3 w.heap.size j _ _ _ hk0
  have i1 := fun j => cell_of_row w3 (w.heap.size + 1) j _ _ _ hk1
  have hz : w.heap.size + 1 < w3.heap.size := lt_of_block hk1
  have HK0 := Lib.hid hk0
  clear hk0 hk1 hb3 i0
  by_cases hk : chk (b0, b1, b2, b3, s32 (((b4 * 256 + b5) * 256 + b6) * 256 + b7)) = 0
  · have e1 : (chk (b0, b1, b2, b3, s32 (((b4 * 256 + b5) * 256 + b6) * 256 + b7)) != 0) = false := by simpa using hk
    have hV : decV [b0, b1, b2, b3, b4, b5, b6, b7] = (b0, b1, b2, b3, s32 (((b4 * 256 + b5) * 256 + b6) * 256 + b7)) := by
      rw [decV, HE.out, if_pos hk]; rfl
    have HV := Lib.hid hV
    have HK := Lib.hid hk
    clear hV hk
    go_wp2_with (refine wpList_store_blk rfl 23 23 (.tmp 2) _ rfl w.heap.size rfl _ rfl _ HK0.out (by kernel_rfl) rfl (by kernel_rfl) ?_; intro w4 hg4 ho4 hz4 hb4)
    refine bodyPost_ret (results_cell_tmp rfl _ _ w.heap.size 23 _ _ _ rfl hg4 Tryd.underlying23 rfl (by kernel_rfl)) rfl ?_
    exact ⟨by rw [HE.out, HV.out, HK.out]; rfl, hB3.trans hb4⟩
  · have e1 : (chk (b0, b1, b2, b3, s32 (((b4 * 256 + b5) * 256 + b6) * 256 + b7)) != 0) = true := by simpa using hk
    have hV : decV [b0, b1, b2, b3, b4, b5, b6, b7] = (0, 0, 0, 0, 0) := by
      rw [decV, HE.out, if_neg hk]
    have HV := Lib.hid hV
    have HK := Lib.hid hk
    clear hV hk
    go_wp2_with (refine wpList_store_blk rfl 23 23 (.tmp 2) _ rfl w.heap.size rfl _ rfl _ HK0.out (by kernel_rfl) rfl (by kernel_rfl) ?_; intro w4 hg4 ho4 hz4 hb4)
    refine bodyPost_ret (results_cell_tmp rfl _ _ w.heap.size 23 _ _ _ rfl hg4 Tryd.underlying23 rfl (by kernel_rfl)) rfl ?_
    exact ⟨by rw [HE.out, HV.out]; rfl, hB3.trans hb4⟩

theorem decode_any {w : World} {B : Nat} {v : Value} {l : List Int} (hs : Sl w B 1 v (bv l)) (hr : ∀ z ∈ l, 0 ≤ z ∧ z ≤ 255) : Calls Tryd.prog 22 #[v] w (DecPost l w) := by
  by_cases h : l.length = 8
  · obtain ⟨A, n, c, rfl, hnc, hn, hA⟩ := hs
    simp only [bv_length, Nat.mul_one] at hn
    match l, h with
    | [b0, b1, b2, b3, b4, b5, b6, b7], _ =>
      have hn8 : n = 8 := by simpa using hn.symm
      subst hn8
      obtain ⟨b, off, rfl, _, hr'⟩ := hA (by omega)
      exact decode_eight hnc hr' (hr _ (by simp)) (hr _ (by simp)) (hr _ (by simp)) (hr _ (by simp)) (hr _ (by simp)) (hr _ (by simp)) (hr _ (by simp)) (hr _ (by simp))
  · exact decode_len hs h

end P2
end Go.Proofs.YtjpnbjlhjlddbaaDoor
