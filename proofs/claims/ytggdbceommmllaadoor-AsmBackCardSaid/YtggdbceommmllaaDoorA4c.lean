/- Walk: AsmBack. -/
import Derived.Test.YtggdbceommmllaaDoorA4b
namespace Go.Proofs.YtggdbceommmllaaDoor
open Go.RowKit
namespace P3
open P2 PC NumL CutL

set_option maxRecDepth 10000 in
set_option maxHeartbeats 8000000 in
theorem asmBack_any (i : Ins) (s : ByteArray) (w : World) (hp : Lb w) : Calls Tryd.prog 6 #[insV i, .string s] w fun e w' => e = .returned (.bool true) ∧ Below w.heap.size w w' := by
  have HP := Lib.hid hp
  have hA := fun W (hW : Below w.heap.size w W) => awake_any W (HP.out.next hW)
  by_cases h : 100 < s.size
  · have z0 : decide (100 < (s.size : Int)) = true := decide_eq_true (by omega)
    obtain ⟨o, a, b, c, n⟩ := i
    unfold insV
    simp only
    have hI := HasI.new w o a b c n
    have hAw := hA _ hI.2.2.2.2.2
    clear h hA hp
    go_enter Tryd.func6, Tryd.ntmps6
    go_wp2_with fail
    refine hAw.mono ?_
    rintro e w8 ⟨rfl, hb8⟩
    go_wp2_with fail
    go_ret
    exact ⟨rfl, hI.2.2.2.2.2.next hb8⟩
  · have z0 : decide (100 < (s.size : Int)) = false := decide_eq_false (by omega)
    have hRd := fun W (hW : Below w.heap.size w W) => read_any s (by omega) W (HP.out.next hW)
    have hL0 := fun W (hW : Below w.heap.size w W) => line_any i W (HP.out.next hW)
    by_cases hc : chk i = 0
    · rw [hc, if_pos rfl] at hL0
      have hlen := line_short hc
      have hrl := read_line hc
      obtain ⟨x, hx⟩ := name_of (⟨(lineA i).toArray⟩ : ByteArray)
      have hxs : x.size ≤ 200000 := by rw [← hx]; show (lineA i).length ≤ 200000; omega
      have hxd : x.data.toList = lineA i := by rw [← hx]
      have hR1 := fun W (hW : Below w.heap.size w W) => read_any x hxs W (HP.out.next hW)
      rw [hxd, hrl] at hR1
      rw [hx] at hL0
      clear hc hlen hrl hx hxd h hxs hp
      obtain ⟨o, a, b, c, n⟩ := i
      unfold InsPost at hR1
      rw [resI_inr] at hR1
      unfold insV at hL0 ⊢
      simp only at hL0 ⊢
      have hq := eqI_same o a b c n
      have hI := HasI.new w o a b c n
      go_enter Tryd.func6, Tryd.ntmps6
      go_wp2_with fail
      refine (hL0 _ hI.2.2.2.2.2).mono ?_
      rintro e w1 ⟨rfl, hb1⟩
      have hI1 := hI.next hb1
      have hR2 := hR1 _ hI1.2.2.2.2.2
      clear hI hb1 hL0 hR1
      go_wp2_with fail
      refine hR2.mono ?_
      rintro e w2 ⟨rfl, hb2⟩
      have hI3 := (hI1.next hb2).next (HasI.new w2 o a b c n).2.2.2.2.2
      have hI2 := HasI.new w2 o a b c n
      have i0 := hI3.1
      have i1 := hI3.2.1
      have i2 := hI3.2.2.1
      have i3 := hI3.2.2.2.1
      have i4 := hI3.2.2.2.2.1
      have q0 := hI2.1
      have q1 := hI2.2.1
      have q2 := hI2.2.2.1
      have q3 := hI2.2.2.2.1
      have q4 := hI2.2.2.2.2.1
      have hB3 := hI3.2.2.2.2.2
      clear hI1 hR2 hb2 hI3 hI2
      have hR := hRd _ hB3
      rcases hrs : readA s.data.toList with k | ⟨o', a', b', c', n'⟩
      · have hk : (k != 0) = true := by
          rw [bne_iff_ne]
          rintro rfl
          exact parse_inv.readA_ne hrs
        rw [hrs] at hR
        unfold InsPost at hR
        rw [show resI (.inl k) = .tuple #[.agg #[.int .i64 0, .int .i64 0, .int .i64 0, .int .i64 0, .int .i64 0], .int .i64 k] from rfl] at hR
        have hz := eqI_same 0 0 0 0 0
        clear hrs hRd
        go_wp2_with (first | (refine wpList_store_new rfl 33 33 (.tmp 7) (.tmp 25) rfl _ _ w2.heap.size rfl rfl rfl (by kernel_rfl) rfl (by kernel_rfl) ?_))
        refine hR.mono ?_
        rintro e w5 ⟨rfl, hb5⟩
        have hI5 := HasI.new w5 0 0 0 0 0
        have hB5 := (hB3.next hb5).next hI5.2.2.2.2.2
        have j0 := hI5.1
        have j1 := hI5.2.1
        have j2 := hI5.2.2.1
        have j3 := hI5.2.2.2.1
        have j4 := hI5.2.2.2.2.1
        have hAw := hA _ hB5
        clear hR hb5 hA
        go_wp2_with (first | (refine wpList_store_new rfl 33 33 (.tmp 9) (.tmp 37) rfl _ _ w5.heap.size rfl rfl rfl (by kernel_rfl) rfl (by kernel_rfl) ?_))
        refine hAw.mono ?_
        rintro e w8 ⟨rfl, hb8⟩
        go_wp2_with fail
        go_ret
        exact ⟨rfl, hB5.next hb8⟩
      · obtain ⟨hck, hls⟩ := line_read hrs
        have hl2 : (⟨(lineA (o', a', b', c', n')).toArray⟩ : ByteArray) = s := by rw [hls]
        rw [hrs] at hR
        unfold InsPost at hR
        rw [resI_inr] at hR
        have hL2 := fun W (hW : Below w.heap.size w W) => line_any (o', a', b', c', n') W (HP.out.next hW)
        rw [hck, if_pos rfl, hl2] at hL2
        unfold insV at hL2
        simp only at hL2
        have hbe := str_beq s
        clear hrs hRd hck hls hl2
        go_wp2_with (first | (refine wpList_store_new rfl 33 33 (.tmp 7) (.tmp 25) rfl _ _ w2.heap.size rfl rfl rfl (by kernel_rfl) rfl (by kernel_rfl) ?_))
        refine hR.mono ?_
        rintro e w5 ⟨rfl, hb5⟩
        have hI5 := HasI.new w5 o' a' b' c' n'
        have hB5 := (hB3.next hb5).next hI5.2.2.2.2.2
        have j0 := hI5.1
        have j1 := hI5.2.1
        have j2 := hI5.2.2.1
        have j3 := hI5.2.2.2.1
        have j4 := hI5.2.2.2.2.1
        have hL3 := hL2 _ hB5
        clear hR hb5 hL2
        go_wp2_with (first | (refine wpList_store_new rfl 33 33 (.tmp 9) (.tmp 37) rfl _ _ w5.heap.size rfl rfl rfl (by kernel_rfl) rfl (by kernel_rfl) ?_))
        refine hL3.mono ?_
        rintro e w6 ⟨rfl, hb6⟩
        have hB6 := hB5.next hb6
        have hAw := hA _ hB6
        clear hL3 hb6 hA j0 j1 j2 j3 j4
        go_wp2_with fail
        refine hAw.mono ?_
        rintro e w8 ⟨rfl, hb8⟩
        go_wp2_with fail
        go_ret
        exact ⟨rfl, hB6.next hb8⟩
    · have hbc : (chk i == 0) = false := beq_eq_false_iff_ne.2 hc
      rw [if_neg hc] at hL0
      obtain ⟨c0, hc0⟩ := name_of (chk i)
      rw [hc0] at hL0 hbc
      clear hc hc0 h hp
      obtain ⟨o, a, b, c, n⟩ := i
      unfold insV at hL0 ⊢
      simp only at hL0 ⊢
      have hI := HasI.new w o a b c n
      go_enter Tryd.func6, Tryd.ntmps6
      go_wp2_with fail
      refine (hL0 _ hI.2.2.2.2.2).mono ?_
      rintro e w1 ⟨rfl, hb1⟩
      have hB3 := hI.2.2.2.2.2.next hb1
      clear hI hb1 hL0
      have hR := hRd _ hB3
      rcases hrs : readA s.data.toList with k | ⟨o', a', b', c', n'⟩
      · have hk : (k != 0) = true := by
          rw [bne_iff_ne]
          rintro rfl
          exact parse_inv.readA_ne hrs
        rw [hrs] at hR
        unfold InsPost at hR
        rw [show resI (.inl k) = .tuple #[.agg #[.int .i64 0, .int .i64 0, .int .i64 0, .int .i64 0, .int .i64 0], .int .i64 k] from rfl] at hR
        have hz := eqI_same 0 0 0 0 0
        clear hrs hRd
        go_wp2_with fail
        refine hR.mono ?_
        rintro e w5 ⟨rfl, hb5⟩
        have hI5 := HasI.new w5 0 0 0 0 0
        have hB5 := (hB3.next hb5).next hI5.2.2.2.2.2
        have j0 := hI5.1
        have j1 := hI5.2.1
        have j2 := hI5.2.2.1
        have j3 := hI5.2.2.2.1
        have j4 := hI5.2.2.2.2.1
        have hAw := hA _ hB5
        clear hR hb5 hA
        go_wp2_with (first | (refine wpList_store_new rfl 33 33 (.tmp 9) (.tmp 37) rfl _ _ w5.heap.size rfl rfl rfl (by kernel_rfl) rfl (by kernel_rfl) ?_))
        refine hAw.mono ?_
        rintro e w8 ⟨rfl, hb8⟩
        go_wp2_with fail
        go_ret
        exact ⟨rfl, hB5.next hb8⟩
      · obtain ⟨hck, hls⟩ := line_read hrs
        have hl2 : (⟨(lineA (o', a', b', c', n')).toArray⟩ : ByteArray) = s := by rw [hls]
        rw [hrs] at hR
        unfold InsPost at hR
        rw [resI_inr] at hR
        have hL2 := fun W (hW : Below w.heap.size w W) => line_any (o', a', b', c', n') W (HP.out.next hW)
        rw [hck, if_pos rfl, hl2] at hL2
        unfold insV at hL2
        simp only at hL2
        have hbe := str_beq s
        clear hrs hRd hck hls hl2
        go_wp2_with fail
        refine hR.mono ?_
        rintro e w5 ⟨rfl, hb5⟩
        have hI5 := HasI.new w5 o' a' b' c' n'
        have hB5 := (hB3.next hb5).next hI5.2.2.2.2.2
        have j0 := hI5.1
        have j1 := hI5.2.1
        have j2 := hI5.2.2.1
        have j3 := hI5.2.2.2.1
        have j4 := hI5.2.2.2.2.1
        have hL3 := hL2 _ hB5
        clear hR hb5 hL2
        go_wp2_with (first | (refine wpList_store_new rfl 33 33 (.tmp 9) (.tmp 37) rfl _ _ w5.heap.size rfl rfl rfl (by kernel_rfl) rfl (by kernel_rfl) ?_))
        refine hL3.mono ?_
        rintro e w6 ⟨rfl, hb6⟩
        have hB6 := hB5.next hb6
        have hAw := hA _ hB6
        clear hL3 hb6 hA j0 j1 j2 j3 j4
        go_wp2_with fail
        refine hAw.mono ?_
        rintro e w8 ⟨rfl, hb8⟩
        go_wp2_with fail
        go_ret
        exact ⟨rfl, hB6.next hb8⟩
end P3
end Go.Proofs.YtggdbceommmllaaDoor
