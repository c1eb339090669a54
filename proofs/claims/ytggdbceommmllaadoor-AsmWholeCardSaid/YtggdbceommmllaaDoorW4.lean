/- Merged: A4f. -/
import Derived.Test.YtggdbceommmllaaDoorW3
import Derived.Test.YtggdbceommmllaaDoorA4a
import Derived.Test.YtggdbceommmllaaDoorW2
/- Walk: AsmWhole. -/
namespace Go.Proofs.YtggdbceommmllaaDoor
open Go.RowKit
namespace P3
open P2 PC NumL CutL

set_option maxRecDepth 10000 in
set_option maxHeartbeats 8000000 in
theorem asmWhole_any {w : World} {pv : Value} {p : List Fn} (hp : Prog w pv p) (hl : Lb w) : Calls Tryd.prog 9 #[.agg #[pv]] w fun e w' => e = .returned (.bool true) ∧ Below w.heap.size w w' := by
  have HP := Lib.hid hp
  have HL := Lib.hid hl
  obtain ⟨A, c, rfl, -, -⟩ := hp.1.open_
  obtain ⟨n, hn⟩ := name_of p.length
  have hb0 : Below w.heap.size w (w.alloc (.cells #[.slice A n c] 25)) := by go_grown
  have hF := few_any (hp.next hb0)
  have hA := fun W (hW : Below w.heap.size w W) => awake_any W (HL.out.next hW)
  have hPr := fun W (hW : Below w.heap.size w W) => print_any (HP.out.next hW) (HL.out.next hW)
  have hSm := fun W (hW : Below w.heap.size w W) (vb : Value) (hv : Fns W W.heap.size vb p) => refSame_any (HP.out.next hW).1 hv hp.2.1 hp.2.2
  have hdec : decide (p = p) = true := decide_eq_true rfl
  rw [hdec] at hSm
  rw [hn] at hF HP hPr hSm ⊢
  have hE0 : ∀ E : Int, E = progE p → (E = 0 → ∀ W, Lb W → Calls Tryd.prog 11 #[.string ⟨(printL 0 p).toArray⟩] W fun e w' => ∃ A c, e = .returned (.tuple #[.agg #[.slice A n c], .int .i64 0, .int .i64 0]) ∧ Fns w' w'.heap.size (.slice A n c) p ∧ Below W.heap.size W w') := by
    rintro E rfl h W hW
    rw [← hn]
    have hsz := print_size h
    exact parse_ok (by show (printL 0 p).length ≤ 200000; omega) (parseA_print h) W hW
  obtain ⟨E, hE⟩ := name_of (progE p)
  have hPs := hE0 E hE.symm
  rw [hE] at hPr
  clear hp hl hE hE0 hdec hn
  go_enter Tryd.func9, Tryd.ntmps9
  go_wp2_with fail
  refine hF.mono ?_
  rintro e w1 ⟨⟨bb, rfl, -⟩, hb1⟩
  have hI := newest_cells hb1 (by simp)
  have hlt := below_size hb1
  have hB1 := hb0.next hb1
  clear hb1 hb0 hF
  cases bb
  · have hAw := hA _ hB1
    clear hA
    go_wp2_with fail
    refine hAw.mono ?_
    rintro e w5 ⟨rfl, hb5⟩
    go_wp2_with fail
    go_ret
    exact ⟨rfl, hB1.next hb5⟩
  · have hP1 := hPr _ hB1
    clear hPr
    by_cases h0 : E = 0
    · have hPs2 := hPs h0
      subst h0
      rw [if_pos rfl] at hP1
      obtain ⟨S, hS⟩ := name_of (⟨(printL 0 p).toArray⟩ : ByteArray)
      rw [hS] at hPs2 hP1
      clear hS hPs
      go_wp2_with fail
      refine hP1.mono ?_
      rintro e w2 ⟨rfl, hb2⟩
      have hI2 : ∀ j, w2.cell? ⟨w.heap.size, j, none⟩ = _ := fun j => (hb2.cell (p := ⟨_, j, none⟩) hlt).trans (hI j)
      have hlt2 := Nat.lt_of_lt_of_le hlt hb2.size
      have hB2 := hB1.next hb2
      have hP2 := hPs2 _ (HL.out.next hB2)
      clear hI hlt hB1 hb2 hP1 hPs2
      go_wp2_with fail
      refine hP2.mono ?_
      rintro e w3 ⟨A3, c3, rfl, hf3, hb3⟩
      have hbx : Below w3.heap.size w3 (w3.alloc (.cells #[.slice A3 n c3] 25)) := by go_grown
      have hI3 : ∀ j, (w3.alloc (.cells #[.slice A3 n c3] 25)).cell? ⟨w.heap.size, j, none⟩ = _ := fun j => ((hb3.next hbx).cell (p := ⟨_, j, none⟩) hlt2).trans (hI2 j)
      have hB3 := (hB2.next hb3).next hbx
      have hf4 := hf3.next hbx
      have hS3 := hSm _ hB3 _ hf4
      have q1 : (w3.alloc (.cells #[.slice A3 n c3] 25)).cell? ⟨w.heap.size, 0, none⟩ = some (.slice A n c) := hI3 0
      have q2 : (w3.alloc (.cells #[.slice A3 n c3] 25)).cell? ⟨w3.heap.size, 0, none⟩ = some (.slice A3 n c3) := by simp
      obtain ⟨X, hX⟩ := name_of (w3.alloc (.cells #[.slice A3 n c3] 25))
      rw [hX] at q1 q2 hB3 hS3
      have HX := Lib.hid hX
      clear hI3 hI2 hlt2 hB2 hb3 hP2 hSm hf3 hf4 hbx hX
      go_wp2_with (first | (refine wpList_store_new rfl 25 25 (.tmp 5) (.tmp 27) rfl _ _ w3.heap.size rfl rfl rfl (by kernel_rfl) rfl (by kernel_rfl) ?_; rw [HX.out]))
      refine hS3.mono ?_
      rintro e w4 ⟨rfl, hb4⟩
      have hB4 := hB3.next hb4
      have hAw := hA _ hB4
      clear hS3 hA hb4 hB3
      go_wp2_with fail
      refine hAw.mono ?_
      rintro e w5 ⟨rfl, hb5⟩
      go_wp2_with fail
      go_ret
      exact ⟨rfl, hB4.next hb5⟩
    · have hbe : (E != 0) = true := bne_iff_ne.2 h0
      rw [if_neg h0] at hP1
      clear hPs h0 hSm
      go_wp2_with fail
      refine hP1.mono ?_
      rintro e w2 ⟨rfl, hb2⟩
      have hB2 := hB1.next hb2
      have hAw := hA _ hB2
      clear hA hP1 hb2 hI
      go_wp2_with fail
      refine hAw.mono ?_
      rintro e w5 ⟨rfl, hb5⟩
      go_wp2_with fail
      go_ret
      exact ⟨rfl, hB2.next hb5⟩
end P3
end Go.Proofs.YtggdbceommmllaaDoor
