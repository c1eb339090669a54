/- Merged: A4e. -/
import Derived.Test.YtggdbceommmllaaDoorW3
import Derived.Test.YtggdbceommmllaaDoorA3w
import Derived.Test.YtggdbceommmllaaDoorA3aw
import Derived.Test.YtggdbceommmllaaDoorW2
/- Walk: AsmParses. -/
namespace Go.Proofs.YtggdbceommmllaaDoor
open Go.RowKit
namespace P3
open P2 PC NumL CutL

set_option maxRecDepth 10000 in
set_option maxHeartbeats 8000000 in
theorem asmParses_any (s : ByteArray) (w : World) (hl : Lb w) : Calls Tryd.prog 8 #[.string s] w fun e w' => e = .returned (.bool true) ∧ Below w.heap.size w w' := by
  have HL := Lib.hid hl
  have hA := fun W (hW : Below w.heap.size w W) => awake_any W (HL.out.next hW)
  by_cases hs : (4000 < s.size ∧ s.size ≤ 131072) ∨ 140000 < s.size
  · have hAw := hA w (Below.refl _ _)
    clear hA hl
    by_cases h1 : 140000 < s.size
    · have z1 : decide (4000 < (s.size : Int)) = true := decide_eq_true (by omega)
      have z2 : decide ((s.size : Int) ≤ 131072) = false := decide_eq_false (by omega)
      have z3 : decide (140000 < (s.size : Int)) = true := decide_eq_true (by omega)
      clear hs h1
      go_enter Tryd.func8, Tryd.ntmps8
      go_wp2_with fail
      refine hAw.mono ?_
      rintro e w5 ⟨rfl, hb5⟩
      go_wp2_with fail
      go_ret
      exact ⟨rfl, hb5⟩
    · have z1 : decide (4000 < (s.size : Int)) = true := decide_eq_true (by omega)
      have z2 : decide ((s.size : Int) ≤ 131072) = true := decide_eq_true (by omega)
      clear hs h1
      go_enter Tryd.func8, Tryd.ntmps8
      go_wp2_with fail
      refine hAw.mono ?_
      rintro e w5 ⟨rfl, hb5⟩
      go_wp2_with fail
      go_ret
      exact ⟨rfl, hb5⟩
  · have hsz : s.size ≤ 200000 := by omega
    have hbd := parse_bd s.data.toList
    have hP := parse_any s hsz w hl
    have hQ := fun W => refParse_any s hsz W
    obtain ⟨⟨p, k, E⟩, hR⟩ := name_of (parseA s.data.toList)
    rw [hR] at hP hQ hbd
    have z3 : decide (140000 < (s.size : Int)) = false := decide_eq_false (by omega)
    have hdec : decide (p = p) = true := decide_eq_true rfl
    have hSm := fun (W : World) (va vb : Value) (ha : Fns W W.heap.size va p) (hb : Fns W W.heap.size vb p) => refSame_any ha hb hbd.1 hbd.2
    rw [hdec] at hSm
    have hkk : ((k : Int) == (k : Int)) = true := beq_iff_eq.2 rfl
    have hEE : (E == E) = true := beq_iff_eq.2 rfl
    obtain ⟨n, hn⟩ := name_of p.length
    have hP2 : Calls Tryd.prog 11 #[.string s] w fun e w' => ∃ A c, e = .returned (.tuple #[.agg #[.slice A n c], .int .i64 k, .int .i64 E]) ∧ Fns w' w'.heap.size (.slice A n c) p ∧ Below w.heap.size w w' := hP.mono fun e w' ⟨v, he, hf, hb⟩ => by
      obtain ⟨A, c, rfl, -, -⟩ := hf.open_
      rw [← hn]
      exact ⟨A, c, he, hf, hb⟩
    have hQ2 : ∀ W, Calls Tryd.prog 18 #[.string s] W fun e w' => ∃ A c, e = .returned (.tuple #[.agg #[.slice A n c], .int .i64 k, .int .i64 E]) ∧ Fns w' w'.heap.size (.slice A n c) p ∧ Below W.heap.size W w' := fun W => (hQ W).mono fun e w' ⟨v, he, hf, hb⟩ => by
      obtain ⟨A, c, rfl, -, -⟩ := hf.open_
      rw [← hn]
      exact ⟨A, c, he, hf, hb⟩
    have key : ∀ b1 b2 : Bool, (b1 && b2) = false → decide (4000 < (s.size : Int)) = b1 → decide ((s.size : Int) ≤ 131072) = b2 →
        Calls Tryd.prog 8 #[.string s] w fun e w' => e = .returned (.bool true) ∧ Below w.heap.size w w' := by
      intro b1 b2 hb z1 z2
      clear hP hQ hbd hdec hR hsz hs hl hn
      cases b1 <;> cases b2 <;> first | cases hb | skip
      all_goals
        try clear hb
        go_enter Tryd.func8, Tryd.ntmps8
        go_wp2_with fail
        refine hP2.mono ?_
        rintro e w1 ⟨A1, c1, rfl, hf1, hb1⟩
        have hbx1 : Below w1.heap.size w1 (w1.alloc (.cells #[.slice A1 n c1] 25)) := by go_grown
        have hB1 := hb1.next hbx1
        have hfx1 := hf1.next hbx1
        have q1 : (w1.alloc (.cells #[.slice A1 n c1] 25)).cell? ⟨w1.heap.size, 0, none⟩ = some (.slice A1 n c1) := by simp
        have hlt1 : w1.heap.size < (w1.alloc (.cells #[.slice A1 n c1] 25)).heap.size := by simp
        obtain ⟨X1, hX1⟩ := name_of (w1.alloc (.cells #[.slice A1 n c1] 25))
        rw [hX1] at hB1 hfx1 q1 hlt1
        have HX1 := Lib.hid hX1
        have hQ3 := hQ2 X1
        clear hP2 hQ2 hb1 hf1 hbx1 hX1
        go_wp2_with (first | (refine wpList_store_new rfl 25 25 (.tmp 3) (.tmp 26) rfl _ _ w1.heap.size rfl rfl rfl (by kernel_rfl) rfl (by kernel_rfl) ?_; rw [HX1.out]))
        refine hQ3.mono ?_
        rintro e w2 ⟨A2, c2, rfl, hf2, hb2⟩
        have hbx2 : Below w2.heap.size w2 (w2.alloc (.cells #[.slice A2 n c2] 25)) := by go_grown
        have hB2 := hB1.next (hb2.next hbx2)
        have hfa := hfx1.next (hb2.next hbx2)
        have hfb := hf2.next hbx2
        have r1 : (w2.alloc (.cells #[.slice A2 n c2] 25)).cell? ⟨w1.heap.size, 0, none⟩ = some (.slice A1 n c1) := ((hb2.next hbx2).cell (p := ⟨w1.heap.size, 0, none⟩) hlt1).trans q1
        have r2 : (w2.alloc (.cells #[.slice A2 n c2] 25)).cell? ⟨w2.heap.size, 0, none⟩ = some (.slice A2 n c2) := by simp
        obtain ⟨X2, hX2⟩ := name_of (w2.alloc (.cells #[.slice A2 n c2] 25))
        rw [hX2] at hB2 hfa hfb r1 r2
        have HX2 := Lib.hid hX2
        have hS := hSm X2 _ _ hfa hfb
        clear hQ3 hSm hfa hfb hfx1 hf2 hb2 hbx2 hX2 hB1 q1 hlt1
        go_wp2_with (first | (refine wpList_store_new rfl 25 25 (.tmp 6) (.tmp 32) rfl _ _ w2.heap.size rfl rfl rfl (by kernel_rfl) rfl (by kernel_rfl) ?_; rw [HX2.out]))
        refine hS.mono ?_
        rintro e w3 ⟨rfl, hb3⟩
        have hB3 := hB2.next hb3
        have hAw := hA _ hB3
        clear hA hS hb3 hB2
        go_wp2_with fail
        refine hAw.mono ?_
        rintro e w5 ⟨rfl, hb5⟩
        go_wp2_with fail
        go_ret
        exact ⟨rfl, hB3.next hb5⟩
    refine key _ _ ?_ rfl rfl
    by_cases h4 : 4000 < s.size
    · rw [decide_eq_false (p := (s.size : Int) ≤ 131072) (by omega), Bool.and_false]
    · rw [decide_eq_false (p := 4000 < (s.size : Int)) (by omega), Bool.false_and]
end P3
end Go.Proofs.YtggdbceommmllaaDoor
