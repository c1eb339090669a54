/- Walk: TableKids, whole. -/
import Derived.Test.YtlpkfklbdofmeaaDoorT7m
namespace Go.Proofs.YtlpkfklbdofmeaaDoor
open Go.RowKit
namespace P7

set_option maxHeartbeats 4000000 in
theorem tableKids_any {w : World} {v : Value} {l : List Row} (hR : Rws w v l) (hpow : Pow w) (i of : Int) : Calls Tryd.prog 3 #[v, .int .i64 i, .int .i64 of] w fun e w' => e = .returned (.bool true) ∧ Below w.heap.size w w' := by
  have hF := few_any hR
  have HP := Lib.hid hpow
  have HR := Lib.hid hR
  obtain ⟨A, c, rfl, -, -⟩ := rows_open hR.sl
  clear hpow hR
  go_enter Tryd.func3, Tryd.ntmps3
  go_wp2_with fail
  refine hF.mono ?_
  rintro e w1 ⟨⟨b, rfl, hb⟩, rfl⟩
  clear hF
  cases b
  · have hA := awake_any _ HP.out
    clear hb
    go_wp2_with fail
    refine hA.mono ?_
    rintro e w2 ⟨rfl, hb2⟩
    go_wp2_with fail
    go_ret
    exact ⟨rfl, hb2⟩
  · have hs := hb rfl
    have hC := refCheck_any HR.out.sl hs
    obtain ⟨E, hE⟩ := name_of (chk (l.length + 1) l)
    rw [hE] at hC
    have HE := Lib.hid hE
    have HS := Lib.hid hs
    clear hE hb hs
    by_cases hE0 : E = 0
    · have e0 : (E != 0) = false := by simpa using hE0
      have hT : Tab l := HE.out.trans hE0
      have HT := Lib.hid hT
      clear hT hE0
      go_wp2_with fail
      refine hC.mono ?_
      rintro e w2 ⟨rfl, hb2⟩
      have hR2 := HR.out.next hb2
      have hK := kids_any hR2.sl (Nat.le_trans HS.out.1 (by omega)) i
      clear hC
      go_wp2_with fail
      refine hK.mono ?_
      rintro e w3 ⟨⟨A1, c1, rfl, hs3⟩, hb3⟩
      have hR3 := hR2.next hb3
      have hB3 := hb2.next hb3
      have hK2 := refKids_any hR3.sl (Nat.le_trans HS.out.1 (by omega)) i
      clear hK hb2 hb3 hR2
      go_wp2_with fail
      refine hK2.mono ?_
      rintro e w4 ⟨⟨A2, c2, rfl, hs4⟩, hb4⟩
      have hR4 := hR3.next hb4
      have hB4 := hB3.next hb4
      have hI := ints_any (hs3.next hb4) hs4 (by have := kidsTo_len l i l.length; have := HS.out.1; unfold kids; omega)
      rw [show decide (kids l i = kids l i) = true from decide_eq_true rfl] at hI
      clear hK2 hb4 hB3 hR3 hs3 hs4
      go_wp2_with fail
      refine hI.mono ?_
      rintro e w5 ⟨rfl, q, rfl⟩
      have hb5 : Below w4.heap.size w4 (w4.drewN q) := below_drewN (Below.refl _ _) q
      have hR5 := hR4.next hb5
      have hB5 := hB4.next hb5
      have hW := within_any hR5.sl (Nat.le_trans HS.out.1 (by omega)) i of
      have hW2 := refWithin_any hR5.sl (Nat.le_trans HS.out.1 (by omega)) i of
      rw [HT.out.within] at hW
      obtain ⟨wb, hwb⟩ := name_of (wi l of (l.length + 1) i)
      rw [hwb] at hW hW2
      have hA := awake_any _ (HP.out.next hB5)
      clear hI hwb hb5
      go_wp2_with fail
      refine hW.mono ?_
      rintro e w6 ⟨rfl, rfl⟩
      go_wp2_with fail
      refine hW2.mono ?_
      rintro e w7 ⟨rfl, rfl⟩
      have hbb : (wb == wb) = true := beq_self_eq_true _
      go_wp2_with fail
      refine hA.mono ?_
      rintro e w8 ⟨rfl, hb8⟩
      go_wp2_with fail
      go_ret
      exact ⟨rfl, hB5.next hb8⟩
    · have e0 : (E != 0) = true := by simpa using hE0
      clear hE0
      go_wp2_with fail
      refine hC.mono ?_
      rintro e w2 ⟨rfl, hb2⟩
      have hA := awake_any _ (HP.out.next hb2)
      clear hC
      go_wp2_with fail
      refine hA.mono ?_
      rintro e w3 ⟨rfl, hb3⟩
      go_wp2_with fail
      go_ret
      exact ⟨rfl, hb2.next hb3⟩
end P7
end Go.Proofs.YtlpkfklbdofmeaaDoor
