/- Walk: CodeUnpacks. -/
import Derived.Test.YtjpnbjlhjlddbaaDoorCc
import Derived.Test.YtjpnbjlhjlddbaaDoorUr
import Derived.Test.YtjpnbjlhjlddbaaDoorSn
namespace Go.Proofs.YtjpnbjlhjlddbaaDoor
open Go.RowKit
namespace P2

theorem unGo_bad (l : List Int) : ∀ (m : Nat) (acc : List Fn) (a : Nat), (unGo l m acc a).2.2 ≠ 0 → (unGo l m acc a).1 = []
  | 0, acc, a, h => by
    rw [unGo] at h ⊢
    by_cases h1 : a < l.length
    · rw [if_pos h1]
    · rw [if_neg h1] at h; exact absurd rfl h
  | m + 1, acc, a, h => by
    rw [unGo] at h ⊢
    by_cases h1 : (fnGo l a).2.1 = 0
    · rw [if_pos h1] at h ⊢; exact unGo_bad l m _ _ h
    · rw [if_neg h1]
theorem un_bad {l : List Int} (h : (un l).2.2 ≠ 0) : (un l).1 = [] := by
  rw [un] at h ⊢
  by_cases h1 : l.length < 1
  · rw [if_pos h1]
  · rw [if_neg h1] at h ⊢
    by_cases h2 : l.getD 0 0 < 1 ∨ 32 < l.getD 0 0
    · rw [if_pos h2]
    · rw [if_neg h2] at h ⊢; exact unGo_bad l _ _ _ h
theorem un_small {l : List Int} (hr : ∀ z ∈ l, 0 ≤ z ∧ z ≤ 255) : (un l).1.length ≤ 9223372036854775807 ∧ ∀ f ∈ (un l).1, f.2.length ≤ 9223372036854775807 := by
  by_cases h : (un l).2.2 = 0
  · obtain ⟨-, h2, -⟩ := un_ok hr h
    exact prog_small h2
  · rw [un_bad h]
    exact ⟨by simp, fun f hf => by cases hf⟩

set_option maxHeartbeats 4000000 in
theorem codeUnpacks_any {w : World} {v : Value} {l : List Int} (hs : Sl w w.heap.size 1 v (bv l)) (hmax : l.length ≤ 9223372036854775807) (hr : ∀ z ∈ l, 0 ≤ z ∧ z ≤ 255) :
    Calls Tryd.prog 9 #[v] w fun e w' => e = .returned (.bool true) ∧ Below w.heap.size w w' := by
  obtain ⟨A, k, c, rfl, hkc, hk, -⟩ := id hs
  simp only [bv_length, Nat.mul_one] at hk
  by_cases h4 : 4000 < k
  · have hmax' : k ≤ 9223372036854775807 := by omega
    clear hs hmax hr hk
    go_enter Tryd.func9, Tryd.ntmps9
    go_wp2_with fail
    refine (awake_any _).mono ?_
    rintro e w5 ⟨rfl, hb5⟩
    go_wp2_with fail
    go_ret
    exact ⟨rfl, hb5⟩
  · have h4' : k ≤ 4000 := by omega
    have hsm := un_small hr
    obtain ⟨⟨p, at_, er⟩, hu⟩ := name_of (un l)
    rw [hu] at hsm
    have hU := un_named (unpackAll hs (by omega) hr) hu
    have hlm : l.length ≤ 1000000 := by omega
    have HR := Lib.hid hr
    have HU := Lib.hid hu
    have e1 : ((at_ : Int) == at_) = true := by simp
    have e2 : (er == er) = true := by simp
    clear hk hr hmax h4 hu
    go_enter Tryd.func9, Tryd.ntmps9
    go_wp2_with fail
    refine hU.mono ?_
    rintro e w1 ⟨⟨A1, n1, c1, rfl, hF1⟩, hb1⟩
    have hb2 := Below.alloc (Below.refl _ w1) (Nat.le_refl _) (.cells #[.slice A1 n1 c1] 35)
    have k1 := heap_alloc_last w1 (.cells #[.slice A1 n1 c1] 35)
    have hs2 := (hs.next hb1).next hb2
    have hF2 := hF1.next hb2
    have hB2 := hb1.next hb2
    have hV := un_named (refUnpack_any hs2 hlm HR.out) HU.out
    clear hU hs hs2 hF1 hb1 hb2
    go_wp2_with fail
    refine hV.mono ?_
    rintro e w3 ⟨⟨A3, n3, c3, rfl, hF3⟩, hb3⟩
    have hb4 := Below.alloc (Below.refl _ w3) (Nat.le_refl _) (.cells #[.slice A3 n3 c3] 35)
    have hF4 := (hF2.next hb3).next hb4
    have hG4 := hF3.next hb4
    have hB4 := (hB2.next hb3).next hb4
    have k3 := blk_next (blk_next k1 hb3) hb4
    have k4 := heap_alloc_last w3 (.cells #[.slice A3 n3 c3] 35)
    have hlt := lt_of_block (blk_next k1 hb3)
    have c3' := fun j => cell_of_row w3 w1.heap.size j _ _ _ (blk_next k1 hb3)
    have hS := refSame_any hF4 hG4 hsm.1 hsm.2
    rw [decide_eq_true rfl] at hS
    clear hV hF2 hF3 hB2 k1 hb3 hb4
    go_wp2_with fail
    refine hS.mono ?_
    rintro e w5 ⟨rfl, hb5⟩
    have hT := same_any (hF4.next hb5) (hG4.next hb5) hsm.1 hsm.2
    rw [decide_eq_true rfl] at hT
    have m3 := blk_next k3 hb5
    have m4 := blk_next k4 hb5
    have d3 := fun j => cell_of_row w5 w1.heap.size j _ _ _ m3
    have d4 := fun j => cell_of_row w5 w3.heap.size j _ _ _ m4
    have hB5 := hB4.next hb5
    clear hS hF4 hG4 hB4 k3 k4 hb5 c3'
    go_wp2_with fail
    refine hT.mono ?_
    rintro e w6 ⟨rfl, hb6⟩
    have hB6 := hB5.next hb6
    clear hT
    go_wp2_with fail
    refine (awake_any _).mono ?_
    rintro e w7 ⟨rfl, hb7⟩
    go_wp2_with fail
    go_ret
    exact ⟨rfl, hB6.next hb7⟩
end P2
end Go.Proofs.YtjpnbjlhjlddbaaDoor
