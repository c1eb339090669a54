/- Script: same (two slices of events compared). -/
import Derived.Test.YtkobmoabnnjejaaDoorS1c
namespace Go.Proofs.YtkobmoabnnjejaaDoor
open Go.RowKit
namespace P21
open PC

theorem eq_ev (i j : Ev) (w : World) : (Op.equalIn 10000 24 (evV i) (evV j)).run Tryd.prog w = .ok (decide (i = j)) w := by
  obtain ⟨a, b⟩ := i
  obtain ⟨a', b'⟩ := j
  unfold evV
  rw [run_equalIn_agg w 9999 24 _ _ (by kernel_rfl) (by kernel_rfl)]
  rw [show (Tryd.prog.fieldsOf 24).toList = [⟨"Kind", 3, 0, false, "", "", 0⟩, ⟨"N", 2, 1, false, "", "", 8⟩] from by kernel_rfl]
  have hi : ∀ (x y : Int) w, (Op.equalIn 9999 3 (.int .i64 x) (.int .i64 y)).run Tryd.prog w = .ok (x == y) w := fun x y w => run_equalIn_int w 9998 _ .i64 .i64 x y Tryd.underlying3
  have hi2 : ∀ (x y : Int) w, (Op.equalIn 9999 2 (.int .i64 x) (.int .i64 y)).run Tryd.prog w = .ok (x == y) w := fun x y w => run_equalIn_int w 9998 _ .i64 .i64 x y Tryd.underlying2
  have p0 : ∀ (cs : Array Value) (k : Nat) (v : Value) w, cs[k]? = some v → (part 3 cs k).run Tryd.prog w = .ok v w := by
    intro cs k v w h
    simp [part, h]
  have p1 : ∀ (cs : Array Value) (k : Nat) (v : Value) w, cs[k]? = some v → (part 2 cs k).run Tryd.prog w = .ok v w := by
    intro cs k v w h
    simp [part, h]
  simp [Op.eqFields, hi, hi2, p0, p1]
  by_cases h1 : a = a' <;> by_cases h2 : b = b' <;> simp [h1, h2]
theorem neq_ev (i j : Ev) (w : World) : (binOp .neq 24 (evV i) (evV j)).run Tryd.prog w = .ok (.bool (!decide (i = j))) w := by
  have h := eq_ev i j w
  unfold evV at h ⊢
  rw [run_neq_struct, h]
  rfl
theorem take_ext_any {α : Type} {l m : List α} {k : Nat} (hl : k < l.length) (hm : k < m.length) (h : l.take k = m.take k) (he : l[k] = m[k]) : l.take (k + 1) = m.take (k + 1) := by
  rw [List.take_succ_eq_append_getElem hl, List.take_succ_eq_append_getElem hm, h, he]

set_option maxHeartbeats 4000000 in
theorem same_any {w : World} {B B' : Nat} {va vb : Value} {la lb : List Ev} (ha : Sl w B 2 va (evsC la)) (hb : Sl w B' 2 vb (evsC lb)) (hla : la.length ≤ 9223372036854775807) :
    Calls Tryd.prog 18 #[va, vb] w fun e w' => e = .returned (.bool (decide (la = lb))) ∧ ∃ q, w' = w.drewN q := by
  obtain ⟨A, c, rfl, hnc, hA⟩ := evs_open ha
  obtain ⟨A', c', rfl, hmc, hA'⟩ := evs_open hb
  obtain ⟨n, hn⟩ := name_of la.length
  obtain ⟨m, hm⟩ := name_of lb.length
  have HA := Lib.hid hA
  have HA' := Lib.hid hA'
  have HN := Lib.hid hn
  have HM := Lib.hid hm
  rw [hn] at hnc hla ⊢
  rw [hm] at hmc ⊢
  clear hA hA' ha hb hn hm
  by_cases hnm : n = m
  · subst hnm
    go_enter Tryd.func18, Tryd.ntmps18
    go_wp2
    go_loopw [5] (fun i wr => ∃ k : Nat, k ≤ n ∧ i = .int .i64 k ∧ la.take k = lb.take k ∧ ∃ q, wr = w.drewN q) (fun i _ => n - (intOf i).toNat)
    case atStart => exact ⟨0, Nat.zero_le _, rfl, rfl, 0, rfl⟩
    case round =>
      obtain ⟨k, hk, rfl, ht, q, rfl⟩ := hrel
      by_cases hlt : k < n
      · have hkl : k < la.length := by have := HN.out; omega
        have hkm : k < lb.length := by have := HM.out; omega
        obtain ⟨b, off, rfl, -, a0, a1⟩ := HA.out k hkl
        obtain ⟨b', off', rfl, -, a0', a1'⟩ := HA'.out k hkm
        obtain ⟨⟨x0, x1⟩, hx⟩ := name_of (at_ la k)
        obtain ⟨⟨y0, y1⟩, hy⟩ := name_of (at_ lb k)
        rw [hx] at a0 a1
        rw [hy] at a0' a1'
        dsimp only at a0 a1 a0' a1'
        have HX := Lib.hid ((at_eq hkl).symm.trans hx)
        have HY := Lib.hid ((at_eq hkm).symm.trans hy)
        have hd := fun w => neq_ev ⟨x0, x1⟩ ⟨y0, y1⟩ w
        clear hx hy
        by_cases he : (⟨x0, x1⟩ : Ev) = ⟨y0, y1⟩
        · have HE := Lib.hid he
          have HT := Lib.hid ht
          rw [decide_eq_true he] at hd
          unfold evV at hd
          simp only [Bool.not_true] at hd
          clear he ht
          go_wp2_with fail
          go_quiet (fail)
          go_wp2_with fail
          exact ⟨⟨k + 1, by omega, by go_num, take_ext_any hkl hkm HT.out (by rw [HX.out, HY.out, HE.out]), _, rfl⟩, by simp [intOf]; omega⟩
        · have HE := Lib.hid he
          rw [decide_eq_false he] at hd
          unfold evV at hd
          simp only [Bool.not_false] at hd
          clear he ht
          go_wp2_with fail
          go_quiet (fail)
          go_wp2_with fail
          go_ret
          exact ⟨ret_bool (by symm; rw [decide_eq_false_iff_not]; rintro rfl; exact HE.out (HX.out.symm.trans HY.out)), _, World.drewN_drewN _ _ _⟩
      · have hkn : k = n := by omega
        subst hkn
        have HT := Lib.hid ht
        clear ht
        go_wp2_with fail
        go_ret
        refine ⟨ret_bool ?_, _, rfl⟩
        have := HT.out
        rw [List.take_of_length_le (by have := HN.out; omega), List.take_of_length_le (by have := HM.out; omega)] at this
        symm
        simpa using this
  · have hne : ((n : Int) == m) = false := by simp; omega
    go_enter Tryd.func18, Tryd.ntmps18
    go_wp2
    go_ret
    exact ⟨ret_bool (by symm; rw [decide_eq_false_iff_not]; rintro rfl; exact hnm (HN.out.symm.trans HM.out)), 0, rfl⟩
end P21
end Go.Proofs.YtkobmoabnnjejaaDoor
