/- Walk: ScriptParses. -/
import Derived.Test.YtkobmoabnnjejaaDoorS13
import Derived.Test.YtkobmoabnnjejaaDoorS12
import Derived.Test.YtkobmoabnnjejaaDoorS9
namespace Go.Proofs.YtkobmoabnnjejaaDoor
open Go.RowKit
namespace P21
open PC NumL

theorem textL_len (l : List Ev) : l.length ≤ (textL l).length := by
  induction l with
  | nil => exact Nat.le_refl _
  | cons e l ih => rw [textL_cons, List.length_append, List.length_cons, List.length_cons]; omega
theorem textL_le {l : List Ev} (h : ∀ e ∈ l, EvWf e) : (textL l).length ≤ 27 * l.length := by
  induction l with
  | nil => exact Nat.le_refl _
  | cons e l ih =>
    have h1 := lineL_len (h e List.mem_cons_self)
    have h2 := ih (fun x hx => h x (List.mem_cons_of_mem _ hx))
    rw [textL_cons, List.length_append, List.length_cons, List.length_cons]
    omega
theorem parseR_inr {s : List UInt8} {l : List Ev} (h : parseR s = .inr l) : s = textL l ∧ (∀ e ∈ l, okK e.k ∧ EvWf e) ∧ l.length ≤ s.length := by
  unfold parseR at h
  split at h
  · cases h
  · obtain ⟨m, rfl, h2, h3⟩ := parse_ok _ _ _ _ _ (Nat.lt_succ_self _) h
    exact ⟨h2, h3, by rw [h2]; exact textL_len l⟩
theorem parseR_inl {s : List UInt8} {n : Nat} {c : Int} (hs : s.length ≤ 131072) (h : parseR s = .inl (n, c)) : 1 ≤ n ∧ n ≤ 1 + s.length ∧ (c = 14 ∨ c = 11) := by
  unfold parseR at h
  rw [if_neg (by omega)] at h
  exact parse_err _ _ _ _ _ _ h
theorem parseR_text {l : List Ev} (h : ∀ e ∈ l, okK e.k ∧ EvWf e) (hl : (textL l).length ≤ 131072) : parseR (textL l) = .inr l := by
  unfold parseR
  rw [if_neg (by omega), parse_text l _ _ _ h (Nat.lt_succ_self _)]
  rfl

set_option maxRecDepth 10000 in
set_option maxHeartbeats 4000000 in
theorem scriptParses_any (s : ByteArray) (w : World) (hp : Lab w) :
    Calls Tryd.prog 4 #[.string s] w fun e w' => e = .returned (.bool true) ∧ Below w.heap.size w w' := by
  have HP := Lib.hid hp
  by_cases hbig : 2000 < s.size
  · have f1 : decide (2000 < (s.size : Int)) = true := by simp; omega
    have hAw := awake_any w HP.out
    clear hp
    go_enter Tryd.func4, Tryd.ntmps4
    go_wp2_with fail
    refine hAw.mono ?_
    rintro e w1 ⟨rfl, hb1⟩
    go_wp2_with fail
    go_ret
    exact ⟨rfl, hb1⟩
  · have f1 : decide (2000 < (s.size : Int)) = false := by simp; omega
    have hsz : s.size ≤ 2000 := by omega
    have hA := parse_any s (by omega) w HP.out
    have hB := fun W => refParse_any s W
    clear hp
    cases hr : parseR s.data.toList with
    | inl x =>
      obtain ⟨n, c⟩ := x
      obtain ⟨hn1, hn2, -⟩ := parseR_inl (by rw [bs_len]; omega) hr
      rw [bs_len] at hn2
      have hA2 : Calls Tryd.prog 16 #[.string s] w fun e w' => e = .returned (.tuple #[.slice none 0 0, .int .i64 n, .int .i64 c]) ∧ Below w.heap.size w w' := hA.mono fun e w' h => by unfold ParsePost at h; rw [hr] at h; exact h
      have hB2 : ∀ W, Calls Tryd.prog 17 #[.string s] W fun e w' => e = .returned (.tuple #[.slice none 0 0, .int .i64 n, .int .i64 c]) ∧ Below W.heap.size W w' := fun W => (hB W).mono fun e w' h => by unfold ParsePost at h; rw [hr] at h; exact h
      clear hA hB hr
      go_enter Tryd.func4, Tryd.ntmps4
      go_wp2_with fail
      refine hA2.mono ?_
      rintro e w1 ⟨rfl, hb1⟩
      go_wp2_with fail
      refine (hB2 _).mono ?_
      rintro e w2 ⟨rfl, hb2⟩
      have hb := hb1.next hb2
      have hS := same_any (w := w2) (B := 0) (B' := 0) (va := .slice none 0 0) (vb := .slice none 0 0) (la := []) (lb := []) Sl.none_ Sl.none_ (by simp)
      clear hA2 hB2 hb1 hb2
      go_wp2_with fail
      refine hS.mono ?_
      rintro e w3 ⟨rfl, q, hw3⟩
      have hb3 : Below w2.heap.size w2 w3 := by rw [hw3]; exact below_drewn q
      have hAw := awake_any w3 (HP.out.next (hb.next hb3))
      clear hS hw3
      go_wp2_with fail
      refine hAw.mono ?_
      rintro e w4 ⟨rfl, hb4⟩
      go_wp2_with fail
      go_ret
      exact ⟨rfl, (hb.next hb3).next hb4⟩
    | inr l =>
      obtain ⟨-, -, hll⟩ := parseR_inr hr
      rw [bs_len] at hll
      have hA2 : Calls Tryd.prog 16 #[.string s] w fun e w' => (∃ v, e = .returned (.tuple #[v, .int .i64 0, .int .i64 0]) ∧ Sl w' w'.heap.size 2 v (evsC l)) ∧ Below w.heap.size w w' := hA.mono fun e w' h => by unfold ParsePost at h; rw [hr] at h; exact h
      have hB2 : ∀ W, Calls Tryd.prog 17 #[.string s] W fun e w' => (∃ v, e = .returned (.tuple #[v, .int .i64 0, .int .i64 0]) ∧ Sl w' w'.heap.size 2 v (evsC l)) ∧ Below W.heap.size W w' := fun W => (hB W).mono fun e w' h => by unfold ParsePost at h; rw [hr] at h; exact h
      clear hA hB hr
      go_enter Tryd.func4, Tryd.ntmps4
      go_wp2_with fail
      refine hA2.mono ?_
      rintro e w1 ⟨⟨va, rfl, hva⟩, hb1⟩
      have HVA := Lib.hid hva
      clear hva
      go_wp2_with fail
      refine (hB2 _).mono ?_
      rintro e w2 ⟨⟨vb, rfl, hvb⟩, hb2⟩
      have hb := hb1.next hb2
      have hS := same_any (HVA.out.next hb2) hvb (by omega)
      rw [decide_eq_true (rfl : l = l)] at hS
      clear hA2 hB2 hb1 hb2 hvb
      go_wp2_with fail
      refine hS.mono ?_
      rintro e w3 ⟨rfl, q, hw3⟩
      have hb3 : Below w2.heap.size w2 w3 := by rw [hw3]; exact below_drewn q
      have hAw := awake_any w3 (HP.out.next (hb.next hb3))
      clear hS hw3
      go_wp2_with fail
      refine hAw.mono ?_
      rintro e w4 ⟨rfl, hb4⟩
      go_wp2_with fail
      go_ret
      exact ⟨rfl, (hb.next hb3).next hb4⟩
end P21
end Go.Proofs.YtkobmoabnnjejaaDoor
