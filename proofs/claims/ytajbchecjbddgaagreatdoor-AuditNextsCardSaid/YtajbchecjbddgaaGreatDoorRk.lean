/- The reference's Kids. -/
import Derived.Test.YtajbchecjbddgaaGreatDoorH2
namespace Go.Proofs.YtajbchecjbddgaaGreatDoor
open Go.RowKit
namespace P7

set_option maxHeartbeats 1000000 in
theorem refKids_any {w : World} {v : Value} {l : List Row} (h : Sl w w.heap.size 7 v (rowsC l)) (hlen : l.length ≤ 1000) (i : Int) : Calls Tryz.prog 48 #[v, .int .i64 i] w (KidPost w l i) := by
  obtain ⟨A, c, rfl, hc, hr⟩ := rows_open h
  obtain ⟨n, hn⟩ := name_of l.length
  have HN := Lib.hid hn
  have HR := Lib.hid hr
  rw [hn] at hc hlen ⊢
  clear hn hr h
  go_enter Tryz.func48, Tryz.ntmps48
  go_wp2_with fail
  go_loopw [5, 6] (fun v idx wr => KidR w l i n v idx wr) (fun _ idx _ => n - (intOf idx).toNat)
  case atStart => exact ⟨0, Nat.zero_le _, rfl, World.ownsRow_nil _ _ _ _, Below.refl _ _⟩
  case round =>
    obtain ⟨k, hk, rfl, hown, hB⟩ := hrel
    by_cases hlt : k < n
    · obtain ⟨b, off, rfl, hb, h0, -⟩ := HR.out k (by have := HN.out; omega)
      have hkl := kidsTo_len l i k
      obtain ⟨rp, hr⟩ := name_of (at_ l k).p
      rw [hr] at h0
      have c0 := (hB.cell (p := ⟨b, _, none⟩) hb).trans h0
      have hsu := kidsTo_succ l i k
      rw [hr] at hsu
      have HSU := Lib.hid hsu
      clear h0 hr hsu
      by_cases hp : rp = i
      · have e0 : (rp == i) = true := by simpa using hp
        have HP := Lib.hid hp
        clear hp
        have hs2 : Sl (wr.alloc (.cells #[.int .i64 k] 3)) (wr.alloc (.cells #[.int .i64 k] 3)).heap.size 1 (.slice (some ⟨wr.heap.size, 0, none⟩) 1 1) (iv [k]) := Sl.new wr _ _ 1 _ rfl rfl rfl
        have hB2 := hB.alloc hB.size (.cells #[.int .i64 k] 3)
        have hown2 := hown.alloc (.cells #[.int .i64 k] 3)
        clear hown hB
        go_wp2_with (at_builtin; refine wpList_append_sl rfl (.tmp 20) (.tmp 22) 36 rfl w.heap.size 3 (.int .i64 0) 1 8 Tryz.underlying36 info_int rfl (by omega) _ _ _ rfl hown2 _ 1 _ _ rfl hs2 rfl (iv_one _) (by omega) (by omega) hB2.size ?_; intro v6 w6 hown6 hg6 hat6; have hB6 := below_append hB2 hown2 hg6 (Nat.le_refl _); obtain ⟨A6, m6, c6, rfl⟩ := own_slice hown6; clear hown2 hs2 hg6 hat6 hB2)
        refine ⟨⟨k + 1, hlt, by go_num, ?_, hB6⟩, by simp [intOf]; omega⟩
        rw [HSU.out, if_pos HP.out, iv_append]
        exact own_len hown6 (by simp) rfl
      · have e0 : (rp == i) = false := by simpa using hp
        have HP := Lib.hid hp
        clear hp
        go_wp2_with fail
        refine ⟨⟨k + 1, hlt, by go_num, ?_, hB⟩, by simp [intOf]; omega⟩
        rw [HSU.out, if_neg HP.out, List.append_nil]
        exact hown
    · have : k = n := by omega
      subst this
      obtain ⟨A6, m6, c6, rfl⟩ := own_slice hown
      go_wp2_with fail
      go_ret
      exact kid_post HN.out hown hB
end P7
end Go.Proofs.YtajbchecjbddgaaGreatDoor
