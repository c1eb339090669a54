/- Walks: Bytes of the statements: whether two rows of bytes are one. -/
import Derived.Test.YtjpnbjlhjlddbaaDoorM
import Derived.Lib.Hide
namespace Go.Proofs.YtjpnbjlhjlddbaaDoor
open Go.RowKit

theorem range_bvE {w : World} {b off : Nat} {l : List Int} (h : w.rangeAt b off (bv l)) (j : Nat) (hj : j < l.length) : w.cell? ⟨b, off + j, none⟩ = some (.int .u8 l[j]) := by
  refine h j _ ?_
  simp [bv, List.getElem?_eq_getElem hj]
theorem take_extE {l m : List Int} {k : Nat} (hl : k < l.length) (hm : k < m.length) (h : l.take k = m.take k) (he : l[k] = m[k]) : l.take (k + 1) = m.take (k + 1) := by
  rw [List.take_succ_eq_append_getElem hl, List.take_succ_eq_append_getElem hm, h, he]
theorem bytes_any {w : World} {B B' : Nat} {va vb : Value} {la lb : List Int} (ha : Sl w B 1 va (bv la)) (hb : Sl w B' 1 vb (bv lb)) (hla : la.length ≤ 9223372036854775807) :
    Calls Tryd.prog 14 #[va, vb] w fun e w' => e = .returned (.bool (decide (la = lb))) ∧ ∃ q, w' = w.drewN q := by
  obtain ⟨A, n, c, rfl, hnc, hn, hA⟩ := ha
  obtain ⟨A', m, c', rfl, hmc, hm, hA'⟩ := hb
  simp only [bv_length, Nat.mul_one] at hn hm
  by_cases hnm : n = m
  · subst hnm
    have hlen : lb.length = n := hm
    go_enter Tryd.func14, Tryd.ntmps14
    go_wp2
    go_loopw [5] (fun i wr => ∃ k : Nat, k ≤ n ∧ i = .int .i64 k ∧ la.take k = lb.take k ∧ ∃ q, wr = w.drewN q) (fun i _ => n - (intOf i).toNat)
    case atStart => exact ⟨0, Nat.zero_le _, rfl, rfl, 0, rfl⟩
    case round =>
      obtain ⟨k, hk, rfl, ht, q, rfl⟩ := hrel
      by_cases hlt : k < n
      · obtain ⟨b, off, rfl, hbB, hr⟩ := hA (by omega)
        obtain ⟨b', off', rfl, hbB', hr'⟩ := hA' (by omega)
        have hkl : k < la.length := by omega
        have hkm : k < lb.length := by omega
        have hc1 := range_bvE hr k (by omega)
        have hc2 := range_bvE hr' k (by omega)
        by_cases he : la[k] = lb[k]
        · have hd : (la[k] != lb[k]) = false := by simpa using he
          have HE := Lib.hid he
          have HT := Lib.hid ht
          clear he ht
          go_wp2_with fail
          go_quiet (fail)
          go_wp2_with fail
          exact ⟨⟨k + 1, by omega, by go_num, take_extE (by omega) (by omega) HT.out HE.out, _, rfl⟩, by simp [intOf]; omega⟩
        · have hd : (la[k] != lb[k]) = true := by simpa using he
          have HE := Lib.hid he
          clear he ht
          go_wp2_with fail
          go_quiet (fail)
          go_wp2_with fail
          go_ret
          exact ⟨ret_bool (by have := HE.out; symm; rw [decide_eq_false_iff_not]; rintro rfl; exact this rfl), _, World.drewN_drewN _ _ _⟩
      · have hkn : k = n := by omega
        subst hkn
        have HT := Lib.hid ht
        clear ht
        go_wp2_with fail
        go_ret
        refine ⟨ret_bool ?_, _, rfl⟩
        have := HT.out
        rw [List.take_of_length_le (by omega), List.take_of_length_le (by omega)] at this
        symm
        simpa using this
  · have hne : ((n : Int) == m) = false := by simp; omega
    go_enter Tryd.func14, Tryd.ntmps14
    go_wp2
    go_ret
    exact ⟨ret_bool (by symm; rw [decide_eq_false_iff_not]; rintro rfl; omega), 0, rfl⟩

end Go.Proofs.YtjpnbjlhjlddbaaDoor
