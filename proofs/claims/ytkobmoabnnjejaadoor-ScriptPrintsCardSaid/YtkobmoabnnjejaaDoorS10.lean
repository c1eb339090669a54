/- Walk: ScriptPrints, whole. -/
import Derived.Test.YtkobmoabnnjejaaDoorS9
import Derived.Test.YtkobmoabnnjejaaDoorS2r
namespace Go.Proofs.YtkobmoabnnjejaaDoor
open Go.RowKit
namespace P21
open PC NumL

set_option maxRecDepth 10000 in
set_option maxHeartbeats 4000000 in
/-- The end of ScriptPrints, from where the texts of the events are compared. -/
theorem prints_one {w : World} {v : Value} {l : List Ev} (hE : Evs w v l) (hp : Lab w) (ek en : Int) (hwf : EvWf ⟨ek, en⟩) :
    Calls Tryd.prog 3 #[v, .agg #[.int .i64 ek, .int .i64 en]] w fun e w' => e = .returned (.bool true) ∧ Below w.heap.size w w' := by
  have HE := Lib.hid hE
  have HP := Lib.hid hp
  obtain ⟨A, c, rfl, hnc, -⟩ := evs_open hE.sl
  obtain ⟨m, hm⟩ := name_of l.length
  rw [hm] at hnc HE ⊢
  have HM := Lib.hid hm
  clear hE hp hm
  have hB0 : Below w.heap.size w (w.alloc (.cells #[.int .i64 ek, .int .i64 en] 24)) := by go_grown
  by_cases hke : okK ek
  · have hL := line_ok ⟨ek, en⟩ hke hwf _ (HP.out.next hB0)
    unfold evV at hL
    have hW := fun W => refWord_any ek W
    have hNn := fun W => refNumber_any en hwf.n.1 hwf.n.2 W
    have hl1 := wordL_len ek
    have hl2 := Lib.itoa_length_le en hwf.n.1 hwf.n.2
    have hne : ((wordS ek).toList == (⟨#[]⟩ : ByteArray).toList) = false := str_bne (fun h => wordL_some hke (bs_inj (m := []) h))
    have h1 : (wordS ek).toList.isEmpty = false := by
      refine str_full' ?_
      intro h0
      exact wordL_some hke (List.eq_nil_of_length_eq_zero (by simpa [wordS, ByteArray.size] using h0))
    obtain ⟨x1, hx1⟩ := name_of (wordS ek)
    obtain ⟨x2, hx2⟩ := name_of (⟨(Lib.itoa en).toArray⟩ : ByteArray)
    obtain ⟨L, hL1⟩ := name_of (⟨(lineL ⟨ek, en⟩).toArray⟩ : ByteArray)
    rw [hx1] at hW hne h1
    rw [hx2] at hNn
    rw [hL1] at hL
    have z1 : x1.size ≤ 4 := by rw [← hx1]; simpa [wordS, ByteArray.size] using hl1
    have z2 : x2.size ≤ 21 := by rw [← hx2]; simpa [ByteArray.size] using hl2
    obtain ⟨s1, a1, y1⟩ := cat_ x1 ⟨#[32]⟩ 4 1 z1 (by decide)
    have a2 : s1 ++ x2 = L := by
      rw [← a1, ← hx1, ← hx2, ← hL1]
      unfold wordS lineL
      rw [show (⟨#[32]⟩ : ByteArray) = ⟨[(32 : UInt8)].toArray⟩ from rfl, bs_append, bs_append]
      simp
    have n1 : ¬ (9223372036854775807 < x1.size + 1) := by omega
    have n2 : ¬ (9223372036854775807 < s1.size + x2.size) := by omega
    have hbe := str_beq L
    clear hx1 hx2 hL1 hl1 hl2 hwf
    go_enter Tryd.func3, Tryd.ntmps3
    go_wp2_with fail
    refine hL.mono ?_
    rintro e w1 ⟨rfl, hb1⟩
    have hB1 := hB0.next hb1
    have c0 : w1.cell? ⟨w.heap.size, 0, none⟩ = some (.int .i64 ek) := (hb1.cell (p := ⟨w.heap.size, 0, none⟩) (by simp)).trans (by simp)
    have c1 : w1.cell? ⟨w.heap.size, 1, none⟩ = some (.int .i64 en) := (hb1.cell (p := ⟨w.heap.size, 1, none⟩) (by simp)).trans (by simp)
    have hlt1 : w.heap.size < w1.heap.size := by have := hb1.size; simp at this; omega
    have hW1 := hW w1
    clear hL
    go_wp2_with fail
    refine hW1.mono ?_
    rintro e w1' ⟨rfl, rfl⟩
    have hSd : EvS w1' w.heap.size 0 ek en w1'.drew := ⟨below_drew', c0, c1⟩
    clear hW1
    go_wp2_with fail
    go_region_held3 (fun W => EvS w1' w.heap.size 0 ek en W) (first | assumption | exact EvS.next (by assumption) (by assumption) (by assumption)) (first | (go_at_call 11; (with_reducible refine (hW _).mono ?_); rintro e w3 ⟨rfl, rfl⟩) | (go_at_call 12; (with_reducible refine (hNn _).mono ?_); rintro e w4 ⟨rfl, hb4⟩; have hB4 := (below_drew' (w := w1')).next hb4))
    have hB5 := hB1.next hB4
    have hPA := fun W (hW : Below w.heap.size w W) => awake_any W (HP.out.next hW)
    obtain ⟨⟨ps, pc⟩, hpr⟩ := name_of (printR l)
    have hbe2 := str_beq ps
    by_cases hm2 : m ≤ 200
    · have hPr := print_any (HE.out.next hB5) (by rw [HM.out]; omega) (HP.out.next hB5)
      rw [hpr] at hPr
      dsimp only at hPr
      go_wp2_with fail
      refine hPr.mono ?_
      rintro e w6 ⟨rfl, hb6⟩
      have hB6 := hB5.next hb6
      have hQr := refPrint_any (HE.out.next hB6) (by rw [HM.out]; omega)
      rw [hpr] at hQr
      dsimp only at hQr
      clear hPr
      go_wp2_with fail
      refine hQr.mono ?_
      rintro e w7 ⟨rfl, hb7⟩
      have hB7 := hB6.next hb7
      have hAw := hPA _ hB7
      clear hQr hPA
      go_wp2_with fail
      refine hAw.mono ?_
      rintro e w8 ⟨rfl, hb8⟩
      go_wp2_with fail
      go_ret
      exact ⟨rfl, hB7.next hb8⟩
    · have hAw := hPA _ hB5
      clear hPA hpr
      go_wp2_with fail
      refine hAw.mono ?_
      rintro e w8 ⟨rfl, hb8⟩
      go_wp2_with fail
      go_ret
      exact ⟨rfl, hB5.next hb8⟩
  · have hL := line_bad ⟨ek, en⟩ hke (w.alloc (.cells #[.int .i64 ek, .int .i64 en] 24))
    unfold evV at hL
    have hW := fun W => refWord_any ek W
    rw [show wordS ek = ⟨#[]⟩ from by unfold wordS; rw [wordL_none hke]] at hW
    clear hke
    go_enter Tryd.func3, Tryd.ntmps3
    go_wp2_with fail
    refine hL.mono ?_
    rintro e w1 ⟨rfl, hb1⟩
    have hB1 := hB0.next hb1
    have c0 : w1.cell? ⟨w.heap.size, 0, none⟩ = some (.int .i64 ek) := (hb1.cell (p := ⟨w.heap.size, 0, none⟩) (by simp)).trans (by simp)
    have hW1 := hW w1
    clear hL
    go_wp2_with fail
    refine hW1.mono ?_
    rintro e w1' ⟨rfl, rfl⟩
    clear hW1 hW c0
    have hB5 := hB1
    have hPA := fun W (hW : Below w.heap.size w W) => awake_any W (HP.out.next hW)
    obtain ⟨⟨ps, pc⟩, hpr⟩ := name_of (printR l)
    have hbe2 := str_beq ps
    by_cases hm2 : m ≤ 200
    · have hPr := print_any (HE.out.next hB5) (by rw [HM.out]; omega) (HP.out.next hB5)
      rw [hpr] at hPr
      dsimp only at hPr
      go_wp2_with fail
      refine hPr.mono ?_
      rintro e w6 ⟨rfl, hb6⟩
      have hB6 := hB5.next hb6
      have hQr := refPrint_any (HE.out.next hB6) (by rw [HM.out]; omega)
      rw [hpr] at hQr
      dsimp only at hQr
      clear hPr
      go_wp2_with fail
      refine hQr.mono ?_
      rintro e w7 ⟨rfl, hb7⟩
      have hB7 := hB6.next hb7
      have hAw := hPA _ hB7
      clear hQr hPA
      go_wp2_with fail
      refine hAw.mono ?_
      rintro e w8 ⟨rfl, hb8⟩
      go_wp2_with fail
      go_ret
      exact ⟨rfl, hB7.next hb8⟩
    · have hAw := hPA _ hB5
      clear hPA hpr
      go_wp2_with fail
      refine hAw.mono ?_
      rintro e w8 ⟨rfl, hb8⟩
      go_wp2_with fail
      go_ret
      exact ⟨rfl, hB5.next hb8⟩
end P21
end Go.Proofs.YtkobmoabnnjejaaDoor
