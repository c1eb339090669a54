/- Walk: TableBack, over what Parse answers. -/
import Derived.Test.YthpfoegmoldkgaaGreatDoorTb8
import Derived.Test.YthpfoegmoldkgaaGreatDoorTb4
import Derived.Test.YthpfoegmoldkgaaGreatDoorT7m
import Derived.Test.YthpfoegmoldkgaaGreatDoorT7u
namespace Go.Proofs.YthpfoegmoldkgaaGreatDoor
open Go.RowKit
namespace P7
open CutL NumL PC

/-- What Parse answers. -/
def ParseP (r : Option (List Row)) (w : World) (e : Ending) (w' : World) : Prop := (match r with
  | some l => ∃ A c, e = .returned (.tuple #[.slice A l.length c, .int .i64 0, .int .i64 0]) ∧ Sl w' w'.heap.size 7 (.slice A l.length c) (rowsC l)
  | none => ∃ k E : Int, E ≠ 0 ∧ e = .returned (.tuple #[.slice none 0 0, .int .i64 k, .int .i64 E])) ∧ Below w.heap.size w w'
def ParseAll : Prop := ∀ (t : ByteArray), t.size ≤ 20000 → ∀ W, TL W → Calls Tryz.prog 7 #[.string t] W (ParseP (parseM t.data.toList) W)
set_option maxRecDepth 10000 in
set_option maxHeartbeats 8000000 in
theorem tableBack_any (hPar : ParseAll) {w : World} {v : Value} {l : List Row} (hR : Rws w v l) (s : ByteArray) (hl : TL w) : Calls Tryz.prog 3 #[v, .string s] w fun e w' => e = .returned (.bool true) ∧ Below w.heap.size w w' := by
  have HR := Lib.hid hR
  have HL := Lib.hid hl
  have HPAR := Lib.hid hPar
  obtain ⟨A, c, rfl, hc, -⟩ := rows_open hR.sl
  have hF := few_any hR
  have hA := fun W (hW : Below w.heap.size w W) => awake_any W (HL.out.next hW).pow
  obtain ⟨n, hn⟩ := name_of l.length
  have HN := Lib.hid hn
  rw [hn] at hF HR ⊢
  clear hPar hR hl hc hn
  by_cases hs : 3000 < s.size
  · have z0 : decide (3000 < (s.size : Int)) = true := decide_eq_true (by omega)
    clear hs
    go_enter Tryz.func3, Tryz.ntmps3
    go_wp2_with fail
    refine hF.mono ?_
    rintro e w1 ⟨⟨b, rfl, -⟩, rfl⟩
    clear hF
    cases b
    all_goals
      have hAw := hA _ (Below.refl w1.heap.size w1)
      clear hA
      go_wp2_with fail
      refine hAw.mono ?_
      rintro e w9 ⟨rfl, hb9⟩
      go_wp2_with fail
      go_ret
      exact ⟨rfl, (Below.refl w1.heap.size w1).next hb9⟩
  · have z0 : decide (3000 < (s.size : Int)) = false := decide_eq_false (by omega)
    go_enter Tryz.func3, Tryz.ntmps3
    go_wp2_with fail
    refine hF.mono ?_
    rintro e w1 ⟨⟨b, rfl, hb⟩, rfl⟩
    clear hF
    cases b
    · clear hb
      have hAw := hA _ (Below.refl w1.heap.size w1)
      clear hA
      go_wp2_with fail
      refine hAw.mono ?_
      rintro e w9 ⟨rfl, hb9⟩
      go_wp2_with fail
      go_ret
      exact ⟨rfl, (Below.refl w1.heap.size w1).next hb9⟩
    · have hsm := hb rfl
      have hPr := print_any HR.out hsm HL.out.pow
      have hCk := fun W (hW : Below w1.heap.size w1 W) => checkT_any (HR.out.next hW).sl hsm
      unfold PrintPost at hPr
      obtain ⟨E, hE⟩ := name_of (chk (l.length + 1) l)
      rw [hE] at hPr hCk
      clear hb
      by_cases h0 : E = 0
      · have hpm := parseM_text (hE.trans h0) HR.out.wf (by have := hsm.1; omega)
        have hpt : printT l = textTo l l.length := by rw [printT, if_pos (hE.trans h0)]
        have htl := textTo_le (fun k hk => HR.out.wfAt (k := k) hk) hsm l.length (Nat.le_refl _)
        have hPP := fun W hW => HPAR.out ⟨(printT l).toArray⟩ (by show (printT l).length ≤ 20000; rw [hpt]; have := hsm.1; omega) W hW
        have hpd : (⟨(printT l).toArray⟩ : ByteArray).data.toList = textTo l l.length := by rw [hpt]
        rw [hpd, hpm] at hPP
        have HRs := Lib.hid (fun (W : World) (A' : Option Addr) (c' : Nat) (hW : Below w1.heap.size w1 W) (hsl : Sl W W.heap.size 7 (.slice A' l.length c') (rowsC l)) => rowsSame_any (HR.out.next hW).sl hsl (by have := hsm.1; omega))
        rw [decide_eq_true (rfl : l = l)] at HRs
        rw [HN.out] at HRs
        obtain ⟨P, hP⟩ := name_of (⟨(printT l).toArray⟩ : ByteArray)
        rw [hP] at hPr hPP
        subst h0
        clear hE hpm hpt htl hpd hP hCk hsm
        go_wp2_with fail
        refine hPr.mono ?_
        rintro e w2 ⟨rfl, hb2⟩
        have hP3 := hPP w2 (HL.out.next hb2)
        clear hPr hPP
        go_wp2_with fail
        refine hP3.mono ?_
        rintro e w3 ⟨⟨A3, c3, rfl, hs3⟩, hb3⟩
        have hB3 := hb2.next hb3
        have hR3 := HRs.out w3 A3 c3 hB3 (by rw [← HN.out]; exact hs3)
        rw [HN.out]
        clear hP3 hb2 hb3 hs3
        go_wp2_with fail
        refine hR3.mono ?_
        rintro e w4 ⟨rfl, hb4⟩
        have hB4 := hB3.next hb4
        clear hR3 hb4 hB3
        have hPS := HPAR.out s (by omega) _ (HL.out.next hB4)
        cases hpm : parseM s.data.toList with
        | none =>
          rw [hpm] at hPS
          clear hpm
          go_wp2_with fail
          refine hPS.mono ?_
          rintro e w5 ⟨⟨k5, E5, hE5, rfl⟩, hb5⟩
          have hbe5 : (E5 != 0) = true := bne_iff_ne.2 hE5
          have hB5 := hB4.next hb5
          clear hPS hE5 hb5
          have hAw := hA _ hB5
          clear hA
          go_wp2_with fail
          refine hAw.mono ?_
          rintro e w9 ⟨rfl, hb9⟩
          go_wp2_with fail
          go_ret
          exact ⟨rfl, hB5.next hb9⟩
        | some m =>
          rw [hpm] at hPS
          obtain ⟨m1, m2, m3, m4⟩ := parseM_some hpm (by rw [bsl_len]; omega)
          have hpt : (⟨(printT m).toArray⟩ : ByteArray) = s := by rw [printT, if_pos m1, m2]
          have htl : (textTo m m.length).length ≤ 131072 := by rw [m2, bsl_len]; omega
          have HPrB := Lib.hid (fun (W : World) (A' : Option Addr) (c' : Nat) (hW : Below w1.heap.size w1 W) (hsl : Sl W W.heap.size 7 (.slice A' m.length c') (rowsC m)) => printB_any (w := W) ⟨hsl, by have := m4.1; omega, m3⟩ m4 htl (HL.out.next hW).pow)
          have HCkB := Lib.hid (fun (W : World) (A' : Option Addr) (c' : Nat) (hsl : Sl W W.heap.size 7 (.slice A' m.length c') (rowsC m)) => checkB_any (w := W) hsl m4)
          unfold PrintPost at HPrB
          rw [hpt, m1] at HPrB
          rw [m1] at HCkB
          have hbs := str_beq s
          clear hpm m1 m2 m3 m4 hpt htl
          go_wp2_with fail
          refine hPS.mono ?_
          rintro e w5 ⟨⟨A5, c5, rfl, hs5⟩, hb5⟩
          have hB5 := hB4.next hb5
          have hP6 := HPrB.out w5 A5 c5 hB5 hs5
          have HS5 := Lib.hid hs5
          clear hPS hb5 hs5
          go_wp2_with fail
          refine hP6.mono ?_
          rintro e w6 ⟨rfl, hb6⟩
          have hB6 := hB5.next hb6
          have hC6 := HCkB.out w6 A5 c5 (HS5.out.next hb6)
          clear hP6 hb6 hB5
          go_wp2_with fail
          refine hC6.mono ?_
          rintro e w7 ⟨rfl, hb7⟩
          have hB7 := hB6.next hb7
          clear hC6 hb7 hB6
          have hAw := hA _ hB7
          clear hA
          go_wp2_with fail
          refine hAw.mono ?_
          rintro e w9 ⟨rfl, hb9⟩
          go_wp2_with fail
          go_ret
          exact ⟨rfl, hB7.next hb9⟩
      · have hbe : (E == 0) = false := beq_eq_false_iff_ne.2 h0
        have hbb : (E != E) = false := by rw [bne_eq_false_iff_eq]
        obtain ⟨P, hP⟩ := name_of (⟨(printT l).toArray⟩ : ByteArray)
        rw [hP] at hPr
        clear hE h0 hP hsm
        go_wp2_with fail
        refine hPr.mono ?_
        rintro e w2 ⟨rfl, hb2⟩
        have hC2 := hCk w2 hb2
        clear hPr hCk
        go_wp2_with fail
        refine hC2.mono ?_
        rintro e w3 ⟨rfl, hb3⟩
        have hB4 := hb2.next hb3
        clear hC2 hb2 hb3
        have hPS := HPAR.out s (by omega) _ (HL.out.next hB4)
        cases hpm : parseM s.data.toList with
        | none =>
          rw [hpm] at hPS
          clear hpm
          go_wp2_with fail
          refine hPS.mono ?_
          rintro e w5 ⟨⟨k5, E5, hE5, rfl⟩, hb5⟩
          have hbe5 : (E5 != 0) = true := bne_iff_ne.2 hE5
          have hB5 := hB4.next hb5
          clear hPS hE5 hb5
          have hAw := hA _ hB5
          clear hA
          go_wp2_with fail
          refine hAw.mono ?_
          rintro e w9 ⟨rfl, hb9⟩
          go_wp2_with fail
          go_ret
          exact ⟨rfl, hB5.next hb9⟩
        | some m =>
          rw [hpm] at hPS
          obtain ⟨m1, m2, m3, m4⟩ := parseM_some hpm (by rw [bsl_len]; omega)
          have hpt : (⟨(printT m).toArray⟩ : ByteArray) = s := by rw [printT, if_pos m1, m2]
          have htl : (textTo m m.length).length ≤ 131072 := by rw [m2, bsl_len]; omega
          have HPrB := Lib.hid (fun (W : World) (A' : Option Addr) (c' : Nat) (hW : Below w1.heap.size w1 W) (hsl : Sl W W.heap.size 7 (.slice A' m.length c') (rowsC m)) => printB_any (w := W) ⟨hsl, by have := m4.1; omega, m3⟩ m4 htl (HL.out.next hW).pow)
          have HCkB := Lib.hid (fun (W : World) (A' : Option Addr) (c' : Nat) (hsl : Sl W W.heap.size 7 (.slice A' m.length c') (rowsC m)) => checkB_any (w := W) hsl m4)
          unfold PrintPost at HPrB
          rw [hpt, m1] at HPrB
          rw [m1] at HCkB
          have hbs := str_beq s
          clear hpm m1 m2 m3 m4 hpt htl
          go_wp2_with fail
          refine hPS.mono ?_
          rintro e w5 ⟨⟨A5, c5, rfl, hs5⟩, hb5⟩
          have hB5 := hB4.next hb5
          have hP6 := HPrB.out w5 A5 c5 hB5 hs5
          have HS5 := Lib.hid hs5
          clear hPS hb5 hs5
          go_wp2_with fail
          refine hP6.mono ?_
          rintro e w6 ⟨rfl, hb6⟩
          have hB6 := hB5.next hb6
          have hC6 := HCkB.out w6 A5 c5 (HS5.out.next hb6)
          clear hP6 hb6 hB5
          go_wp2_with fail
          refine hC6.mono ?_
          rintro e w7 ⟨rfl, hb7⟩
          have hB7 := hB6.next hb7
          clear hC6 hb7 hB6
          have hAw := hA _ hB7
          clear hA
          go_wp2_with fail
          refine hAw.mono ?_
          rintro e w9 ⟨rfl, hb9⟩
          go_wp2_with fail
          go_ret
          exact ⟨rfl, hB7.next hb9⟩
end P7
end Go.Proofs.YthpfoegmoldkgaaGreatDoor
