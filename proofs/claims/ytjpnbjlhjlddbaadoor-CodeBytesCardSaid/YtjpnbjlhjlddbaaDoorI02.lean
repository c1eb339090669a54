/- Walk: CodeBytes. -/
import Derived.Test.YtjpnbjlhjlddbaaDoorT02
import Derived.Test.YtjpnbjlhjlddbaaDoorH02
namespace Go.Proofs.YtjpnbjlhjlddbaaDoor
open Go.RowKit
namespace P2

theorem codeBytes_any (i : Ins) (w : World) : Calls Tryd.prog 3 #[insV i] w fun e w' => e = .returned (.bool true) ∧ Below w.heap.size w w' := by
  obtain ⟨op, a, b, c, n⟩ := i
  have e0 : (chk (op, a, b, c, n) == chk (op, a, b, c, n)) = true := by simp
  unfold insV
  by_cases hk : chk (op, a, b, c, n) = 0
  · have HK := Lib.hid hk
    have e1 : (chk (op, a, b, c, n) != 0) = false := by simpa using hk
    have e2 : (chk (op, a, b, c, n) == 0) = true := by simpa using hk
    clear hk
    go_enter Tryd.func3, Tryd.ntmps3
    go_wp2_with fail
    refine (encode_new (op, a, b, c, n) HK.out _).mono ?_
    rintro e w1 ⟨g, rfl, hg, hs1, hb1⟩
    have hI := newest_cells hb1 (by simp)
    have hB1 := hb1.of_alloc
    have hlt := below_size hb1
    clear hb1
    go_wp2_with fail
    refine (refCheck_any (op, a, b, c, n) _).mono ?_
    rintro e w2 ⟨rfl, hb2⟩
    have hI2 : ∀ j, w2.cell? ⟨w.heap.size, j, none⟩ = _ := fun j => (hb2.cell (p := ⟨_, j, none⟩) hlt).trans (hI j)
    have hs2 := hs1.next hb2
    have hB2 := hB1.next hb2
    clear hI hs1 hb2 hB1 hlt
    go_wp2_with fail
    refine (refEncode_ok (op, a, b, c, n) HK.out _).mono ?_
    rintro e w3 ⟨v3, rfl, hs3, hb3⟩
    have hs2' := hs2.next hb3
    have hB3 := hB2.next hb3
    clear hI2 hs2 hb3 hB2
    go_wp2_with fail
    refine (bytes_any hs2' hs3 (by rw [encB_length]; omega)).mono ?_
    rintro e w4 ⟨rfl, q, rfl⟩
    rw [show decide (encB (op, a, b, c, n) = encB (op, a, b, c, n)) = true from by simp]
    go_wp2_with fail
    refine (awake_any _).mono ?_
    rintro e w5 ⟨rfl, hb5⟩
    go_wp2_with fail
    go_ret
    exact ⟨rfl, (below_drewN hB3 q).next hb5⟩
  · have HK := Lib.hid hk
    have e1 : (chk (op, a, b, c, n) != 0) = true := by simpa using hk
    have e2 : (chk (op, a, b, c, n) == 0) = false := by simpa using hk
    clear hk
    go_enter Tryd.func3, Tryd.ntmps3
    go_wp2_with fail
    refine (encode_bad (op, a, b, c, n) HK.out _).mono ?_
    rintro e w1 ⟨rfl, hb1⟩
    have hI := newest_cells hb1 (by simp)
    have hB1 := hb1.of_alloc
    clear hb1
    go_wp2_with fail
    refine (refCheck_any (op, a, b, c, n) _).mono ?_
    rintro e w2 ⟨rfl, hb2⟩
    have hB2 := hB1.next hb2
    clear hI hb2 hB1
    go_wp2_with fail
    refine (awake_any _).mono ?_
    rintro e w5 ⟨rfl, hb5⟩
    go_wp2_with fail
    go_ret
    exact ⟨rfl, hB2.next hb5⟩
end P2
end Go.Proofs.YtjpnbjlhjlddbaaDoor
