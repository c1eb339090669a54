/- Merged: A4g. -/
import Derived.Test.YtggdbceommmllaaDoorW3
import Derived.Test.YtggdbceommmllaaDoorA4a
/- Walk: AsmOnly. -/
namespace Go.Proofs.YtggdbceommmllaaDoor
open Go.RowKit
namespace P3
open P2 PC NumL CutL

set_option maxRecDepth 10000 in
set_option maxHeartbeats 8000000 in
theorem asmOnly_any (s : ByteArray) (w : World) (hl : Lb w) : Calls Tryd.prog 3 #[.string s] w fun e w' => e = .returned (.bool true) ∧ Below w.heap.size w w' := by
  have HL := Lib.hid hl
  have hA := fun W (hW : Below w.heap.size w W) => awake_any W (HL.out.next hW)
  by_cases hs : 4000 < s.size
  · have hAw := hA w (Below.refl _ _)
    have z1 : decide (4000 < (s.size : Int)) = true := decide_eq_true (by omega)
    clear hA hl hs
    go_enter Tryd.func3, Tryd.ntmps3
    go_wp2_with fail
    refine hAw.mono ?_
    rintro e w5 ⟨rfl, hb5⟩
    go_wp2_with fail
    go_ret
    exact ⟨rfl, hb5⟩
  · have z1 : decide (4000 < (s.size : Int)) = false := decide_eq_false (by omega)
    obtain ⟨⟨q, k, E⟩, hR⟩ := name_of (parseA s.data.toList)
    have hsl : s.data.toList.length = s.size := bs_len s
    have hR2 := hR
    rw [parseA_small (by omega)] at hR2
    by_cases he : E = 0
    · subst he
      obtain ⟨rfl, hE, hPr⟩ := print_parse hR2
      obtain ⟨hne, a, ha1, ha2⟩ := parse_only hR2
      have hbd := parse_bd s.data.toList
      rw [hR] at hbd
      have hP1 := parse_ok (by omega) hR w hl
      have hidx := parseL_idx _ _ _ _ _ _ ha1
      have hnum := splitC_num 10 s.data.toList.dropLast
      rw [List.length_dropLast] at hnum
      have hsp : 0 < s.size := by
        rw [← hsl]
        exact List.length_pos_iff.2 hne
      have hPn := fun W (hW : Below w.heap.size w W) (v : Value) (hv : Fns W W.heap.size v q) => print_any (w := W) (v := v) (p := q) ⟨hv, hbd.1, hbd.2⟩ (HL.out.next hW)
      have hps : (⟨(printL 0 q).toArray⟩ : ByteArray) = s := by rw [hPr]
      rw [hE, if_pos rfl, hps] at hPn
      -- the text without its last byte
      obtain ⟨d, hd⟩ := name_of (s.extract 0 (s.size - 1))
      have hdd : d.data.toList = s.data.toList.dropLast := by
        rw [← hd, ext_list, List.drop_zero, List.dropLast_eq_take, hsl, Nat.sub_zero]
      have hds : d.size ≤ 4000 := by rw [← hd]; simp; omega
      have hPd := fun W (hW : Below w.heap.size w W) => parse_no (s := d) (k := a) (E := 11) (by omega) (by rw [hdd, parseA_small (by rw [List.length_dropLast]; omega)]; exact ha1) W (HL.out.next hW)
      -- the text and a line feed
      obtain ⟨t, ht, hts⟩ := cat_ s ⟨#[10]⟩ 4000 1 (by omega) (by decide)
      have htd : t.data.toList = s.data.toList ++ [10] := by rw [← ht, ByteArray.data_append, Array.toList_append]
      have hPt := fun W (hW : Below w.heap.size w W) => parse_no (s := t) (k := a + 1) (E := 14) (by omega) (by rw [htd, parseA_small (by simp; omega)]; exact ha2) W (HL.out.next hW)
      have n1 : ¬ (9223372036854775807 < s.size + 1) := by omega
      have hw1 : IntKind.i64.wrap ((s.size : Int) - 1) = ((s.size - 1 : Nat) : Int) := (IntWalk.i64_in _ (by omega)).trans (by omega)
      have hbb : (((a + 1 : Nat) : Int) == (a : Int) + 1) = true := by rw [beq_iff_eq]; omega
      have hbe := str_beq s
      obtain ⟨n, hn⟩ := name_of q.length
      rw [hn] at hP1
      have ha200 : a ≤ 200000 := by omega
      clear hR hR2 hE hPr hne ha1 ha2 hbd hidx hnum hps hdd htd hl hs hsl hn
      go_enter Tryd.func3, Tryd.ntmps3
      go_wp2_with fail
      refine hP1.mono ?_
      rintro e w1 ⟨A1, c1, rfl, hf1, hb1⟩
      have hbx1 : Below w1.heap.size w1 (w1.alloc (.cells #[.slice A1 n c1] 25)) := by go_grown
      have hB1 := hb1.next hbx1
      have hfx1 := hf1.next hbx1
      have q1 : (w1.alloc (.cells #[.slice A1 n c1] 25)).cell? ⟨w1.heap.size, 0, none⟩ = some (.slice A1 n c1) := by simp
      obtain ⟨X1, hX1⟩ := name_of (w1.alloc (.cells #[.slice A1 n c1] 25))
      rw [hX1] at hB1 hfx1 q1
      have HX1 := Lib.hid hX1
      have hP2 := hPn X1 hB1 _ hfx1
      clear hP1 hb1 hf1 hbx1 hX1 hPn hfx1
      go_wp2_with (first | (refine wpList_store_new rfl 25 25 (.tmp 3) (.tmp 21) rfl _ _ w1.heap.size rfl rfl rfl (by kernel_rfl) rfl (by kernel_rfl) ?_; rw [HX1.out]))
      refine hP2.mono ?_
      rintro e w2 ⟨rfl, hb2⟩
      have hB2 := hB1.next hb2
      have hPd2 := hPd w2 hB2
      clear hP2 hB1 hb2 q1 hPd
      go_wp2_with fail
      refine hPd2.mono ?_
      rintro e w3 ⟨A3, c3, rfl, hb3⟩
      have hB3 := (hB2.next hb3).next ((Below.refl _ _).alloc (Nat.le_refl _) (.cells #[.slice A3 0 c3] 25))
      have hPt2 := hPt _ hB3
      clear hPd2 hPt hB2 hb3
      go_wp2_with (first | (refine wpList_store_new rfl 25 25 (.tmp 8) (.tmp 61) rfl _ _ w3.heap.size rfl rfl rfl (by kernel_rfl) rfl (by kernel_rfl) ?_))
      refine hPt2.mono ?_
      rintro e w4 ⟨A4, c4, rfl, hb4⟩
      have hB4 := (hB3.next hb4).next ((Below.refl _ _).alloc (Nat.le_refl _) (.cells #[.slice A4 0 c4] 25))
      have hAw := hA _ hB4
      clear hPt2 hb4 hB3 hA
      go_wp2_with (first | (refine wpList_store_new rfl 25 25 (.tmp 11) (.tmp 68) rfl _ _ w4.heap.size rfl rfl rfl (by kernel_rfl) rfl (by kernel_rfl) ?_))
      refine hAw.mono ?_
      rintro e w5 ⟨rfl, hb5⟩
      go_wp2_with fail
      go_ret
      exact ⟨rfl, hB4.next hb5⟩
    · have hq := parse_err _ _ _ _ _ _ hR2 he
      subst hq
      have hbe : (E != 0) = true := bne_iff_ne.2 he
      have hP1 := parse_no (by omega) hR w hl
      clear hR hR2 hl hs hsl he
      go_enter Tryd.func3, Tryd.ntmps3
      go_wp2_with fail
      refine hP1.mono ?_
      rintro e w1 ⟨A1, c1, rfl, hb1⟩
      have hbx1 : Below w1.heap.size w1 (w1.alloc (.cells #[.slice A1 0 c1] 25)) := by go_grown
      have hB1 := hb1.next hbx1
      have q1 : (w1.alloc (.cells #[.slice A1 0 c1] 25)).cell? ⟨w1.heap.size, 0, none⟩ = some (.slice A1 0 c1) := by simp
      obtain ⟨X1, hX1⟩ := name_of (w1.alloc (.cells #[.slice A1 0 c1] 25))
      rw [hX1] at hB1 q1
      have HX1 := Lib.hid hX1
      have hAw := hA _ hB1
      clear hP1 hb1 hbx1 hX1 hA
      go_wp2_with (first | (refine wpList_store_new rfl 25 25 (.tmp 3) (.tmp 21) rfl _ _ w1.heap.size rfl rfl rfl (by kernel_rfl) rfl (by kernel_rfl) ?_; rw [HX1.out]))
      refine hAw.mono ?_
      rintro e w5 ⟨rfl, hb5⟩
      go_wp2_with fail
      go_ret
      exact ⟨rfl, hB1.next hb5⟩
end P3
end Go.Proofs.YtggdbceommmllaaDoor
