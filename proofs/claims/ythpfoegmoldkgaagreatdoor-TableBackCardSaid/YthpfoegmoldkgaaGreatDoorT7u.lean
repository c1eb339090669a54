/- Walks: Rows of layer 6, table.Done; TableOrder, whole. -/
import Derived.Test.YthpfoegmoldkgaaGreatDoorT7m
import Derived.Test.YthpfoegmoldkgaaGreatDoorT7t
namespace Go.Proofs.YthpfoegmoldkgaaGreatDoor
open Go.RowKit
namespace P7

theorem take_ext_any {α : Type} {l m : List α} {k : Nat} (hl : k < l.length) (hm : k < m.length) (h : l.take k = m.take k) (he : l[k] = m[k]) : l.take (k + 1) = m.take (k + 1) := by
  rw [List.take_succ_eq_append_getElem hl, List.take_succ_eq_append_getElem hm, h, he]

set_option maxHeartbeats 4000000 in
theorem rowsSame_any {w : World} {B B' : Nat} {va vb : Value} {la lb : List Row} (ha : Sl w B 7 va (rowsC la)) (hb : Sl w B' 7 vb (rowsC lb)) (hla : la.length ≤ 9223372036854775807) :
    Calls Tryz.prog 8 #[va, vb] w fun e w' => e = .returned (.bool (decide (la = lb))) ∧ Below w.heap.size w w' := by
  obtain ⟨A, c, rfl, hnc, hA⟩ := rows_open ha
  obtain ⟨A', c', rfl, hmc, hA'⟩ := rows_open hb
  obtain ⟨n, hn⟩ := name_of la.length
  obtain ⟨m, hm⟩ := name_of lb.length
  have HA := Lib.hid hA
  have HA' := Lib.hid hA'
  have HN := Lib.hid hn
  have HM := Lib.hid hm
  rw [hn] at hnc hla ⊢
  rw [hm] at hmc ⊢
  clear hA hA' ha hb hn hm
  by_cases hnm : n = m
  · subst hnm
    have e0 : ((n : Int) != n) = false := by simp
    go_enter Tryz.func8, Tryz.ntmps8
    go_wp2
    go_loopw [5] (fun i wr => ∃ k : Nat, k ≤ n ∧ i = .int .i64 k ∧ la.take k = lb.take k ∧ ∃ q, wr = w.drewN q) (fun i _ => n - (intOf i).toNat)
    case atStart => exact ⟨0, Nat.zero_le _, rfl, rfl, 0, rfl⟩
    case round =>
      obtain ⟨k, hk, rfl, ht, q, rfl⟩ := hrel
      by_cases hlt : k < n
      · have hkl : k < la.length := by have := HN.out; omega
        have hkm : k < lb.length := by have := HM.out; omega
        obtain ⟨b, off, rfl, -, a0, a1, a2, a3, a4, a5, a6⟩ := HA.out k hkl
        obtain ⟨b', off', rfl, -, a0', a1', a2', a3', a4', a5', a6'⟩ := HA'.out k hkm
        obtain ⟨⟨x0, x1, x2, x3, x4, x5, x6⟩, hx⟩ := name_of (at_ la k)
        obtain ⟨⟨y0, y1, y2, y3, y4, y5, y6⟩, hy⟩ := name_of (at_ lb k)
        rw [hx] at a0 a1 a2 a3 a4 a5 a6
        rw [hy] at a0' a1' a2' a3' a4' a5' a6'
        dsimp only at a0 a1 a2 a3 a4 a5 a6 a0' a1' a2' a3' a4' a5' a6'
        have HX := Lib.hid ((at_eq hkl).symm.trans hx)
        have HY := Lib.hid ((at_eq hkm).symm.trans hy)
        have hd := fun w => neq_row ⟨x0, x1, x2, x3, x4, x5, x6⟩ ⟨y0, y1, y2, y3, y4, y5, y6⟩ w
        have HT := Lib.hid ht
        clear hx hy ht
        by_cases he : (⟨x0, x1, x2, x3, x4, x5, x6⟩ : Row) = ⟨y0, y1, y2, y3, y4, y5, y6⟩
        · have HE := Lib.hid he
          rw [decide_eq_true he] at hd
          unfold rowV at hd
          simp only [Bool.not_true] at hd
          clear he
          go_wp2_with fail
          go_quiet (fail)
          go_wp2_with fail
          exact ⟨⟨k + 1, by omega, by go_num, take_ext_any hkl hkm HT.out (by rw [HX.out, HY.out, HE.out]), _, rfl⟩, by simp [intOf]; omega⟩
        · have HE := Lib.hid he
          rw [decide_eq_false he] at hd
          unfold rowV at hd
          simp only [Bool.not_false] at hd
          clear he
          go_wp2_with fail
          go_quiet (fail)
          go_wp2_with fail
          go_ret
          exact ⟨ret_bool (by symm; rw [decide_eq_false_iff_not]; rintro rfl; exact HE.out (HX.out.symm.trans HY.out)), below_drewN (below_drewN (Below.refl _ _) _) _⟩
      · have hkn : k = n := by omega
        subst hkn
        have HT := Lib.hid ht
        clear ht
        go_wp2_with fail
        go_ret
        refine ⟨ret_bool ?_, below_drewN (Below.refl _ _) _⟩
        have := HT.out
        rw [List.take_of_length_le (by have := HN.out; omega), List.take_of_length_le (by have := HM.out; omega)] at this
        symm
        simpa using this
  · have hne : ((n : Int) != m) = true := by simp; omega
    go_enter Tryz.func8, Tryz.ntmps8
    go_wp2
    go_ret
    exact ⟨ret_bool (by symm; rw [decide_eq_false_iff_not]; rintro rfl; exact hnm (HN.out.symm.trans HM.out)), Below.refl _ _⟩

def IdxPost (w : World) (l : List Row) (e : Ending) (w' : World) : Prop := (∃ i : Int, e = .returned (.int .i64 i) ∧ (DoneT l = decide (i < 0))) ∧ Below w.heap.size w w'
end P7
end Go.Proofs.YthpfoegmoldkgaaGreatDoor
