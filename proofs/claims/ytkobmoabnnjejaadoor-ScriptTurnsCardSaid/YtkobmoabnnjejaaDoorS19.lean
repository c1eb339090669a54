/- Script: round, Rounds, Mixed. -/
import Derived.Test.YtkobmoabnnjejaaDoorS6
import Derived.Test.YtkobmoabnnjejaaDoorWq
import Derived.Test.YtkobmoabnnjejaaDoorS16
namespace Go.Proofs.YtkobmoabnnjejaaDoor
open Go.RowKit
namespace P21
open PC

set_option maxHeartbeats 2000000 in
theorem round_any {w : World} {base : Nat} {v : Value} {l : List Ev} (hown : w.ownsRow base 24 2 v l.length (evsC l)) (hbase : base ≤ w.heap.size) (n : Nat) (hn : n ≤ 16) (hlen : l.length ≤ 1000000) :
    Calls Tryd.prog 38 #[v, .int .i64 n] w fun e w' => (∃ v', e = .returned v' ∧ w'.ownsRow base 24 2 v' (l ++ roundE n).length (evsC (l ++ roundE n))) ∧ Below base w w' := by
  have HO := Lib.hid hown
  obtain ⟨A0, m0, c0, rfl⟩ := own_slice hown
  clear hown
  go_enter Tryd.func38, Tryd.ntmps38
  go_wp2_with fail
  go_loopw [0, 7] (fun out i wr => ∃ k : Nat, k ≤ n ∧ i = .int .i64 k ∧ wr.ownsRow base 24 2 out (l ++ roundE k).length (evsC (l ++ roundE k)) ∧ Below base w wr ∧ base ≤ wr.heap.size) (fun _ i _ => n - (intOf i).toNat)
  case atStart => exact ⟨0, Nat.zero_le _, rfl, by simpa [roundE] using HO.out, Below.refl _ _, hbase⟩
  case round =>
    obtain ⟨k, hk, rfl, hown, hB, hsz⟩ := hrel
    have hll : (l ++ roundE k).length ≤ 1000016 := by rw [List.length_append, roundE_len]; omega
    by_cases hlt : k < n
    · have HSU : Hid (evsC (l ++ roundE (k + 1)) = evsC (l ++ roundE k) ++ evC ⟨0, (k : Int)⟩) := Lib.hid (by rw [roundE_succ, ← List.append_assoc, evsC_append (l ++ roundE k)]; rfl)
      have HLN : Hid ((l ++ roundE (k + 1)).length = (l ++ roundE k).length + 1) := Lib.hid (by rw [List.length_append, List.length_append, roundE_len, roundE_len]; omega)
      have hs2 : Sl (wr.alloc (.cells #[.int .i64 0, .int .i64 k] 24)) (wr.alloc (.cells #[.int .i64 0, .int .i64 k] 24)).heap.size 2 (.slice (some ⟨wr.heap.size, 0, none⟩) 1 1) (evC ⟨0, (k : Int)⟩) := Sl.new wr _ _ 1 _ rfl rfl rfl
      have hown2 := hown.alloc (.cells #[.int .i64 0, .int .i64 k] 24)
      have hB2 := hB.alloc hsz (.cells #[.int .i64 0, .int .i64 k] 24)
      have hsz2 : base ≤ (wr.alloc (.cells #[.int .i64 0, .int .i64 k] 24)).heap.size := by simp; omega
      obtain ⟨L, hL⟩ := name_of (l ++ roundE k).length
      rw [hL] at hll hown2 HLN
      clear hown hB hL
      go_wp2_with (at_builtin; refine wpList_append_sl rfl (.tmp 10) (.tmp 13) 22 rfl base 24 (.agg #[.int .i64 0, .int .i64 0]) 2 16 Tryd.underlying22 info_ev rfl (by omega) _ _ _ rfl hown2 _ 1 _ _ rfl hs2 rfl (evC_one _) (by omega) (by omega) hsz2 ?_; intro v6 w6 hown6 hg6 hat6; have hB6 := hB2.grown hg6 hsz2 (fun k hk => (hown2.lt k hk).1); have hsz6 := Nat.le_trans hsz2 hg6.size; obtain ⟨A6, m6, c6, rfl⟩ := own_slice hown6; clear hown2 hs2 hg6 hat6 hB2)
      exact ⟨⟨k + 1, hlt, by go_num, own_len hown6 (by rw [HLN.out]) HSU.out.symm, hB6, hsz6⟩, by simp [intOf]; omega⟩
    · obtain rfl : k = n := by omega
      obtain ⟨A6, m6, c6, rfl⟩ := own_slice hown
      go_wp2_with fail
      go_ret
      exact ⟨⟨_, rfl, hown⟩, hB⟩

theorem rounds_range {w : World} (n t : Int) (h : n < 1 ∨ 16 < n ∨ t < 0) : Calls Tryd.prog 25 #[.int .i64 n, .int .i64 t] w fun e w' => e = .returned (.tuple #[.slice none 0 0, .int .i64 10]) ∧ w' = w := by
  by_cases h1 : n < 1
  · have f1 : decide (n < 1) = true := by simpa using h1
    clear h
    go_enter Tryd.func25, Tryd.ntmps25
    go_wp2_with fail
    go_ret2
    exact ⟨rfl, rfl⟩
  · have f1 : decide (n < 1) = false := by simpa using h1
    by_cases h2 : 16 < n
    · have f2 : decide (16 < n) = true := by simpa using h2
      clear h
      go_enter Tryd.func25, Tryd.ntmps25
      go_wp2_with fail
      go_ret2
      exact ⟨rfl, rfl⟩
    · have f2 : decide (16 < n) = false := by simpa using h2
      have f3 : decide (t < 0) = true := by simp; omega
      clear h
      go_enter Tryd.func25, Tryd.ntmps25
      go_wp2_with fail
      go_ret2
      exact ⟨rfl, rfl⟩
theorem div_nat (n : Nat) : (65536 : Int) / (n : Int) = ((65536 / n : Nat) : Int) ∧ (65536 : Int).tdiv (n : Int) = ((65536 / n : Nat) : Int) := by
  have h : (65536 : Int) / (n : Int) = ((65536 / n : Nat) : Int) := by rw [Int.natCast_ediv]; rfl
  exact ⟨h, by rw [Int.tdiv_eq_ediv_of_nonneg (by omega), h]⟩
theorem rounds_long {w : World} (n t : Nat) (h1 : 1 ≤ n) (h2 : n ≤ 16) (h : 65536 / n < t) : Calls Tryd.prog 25 #[.int .i64 n, .int .i64 t] w fun e w' => e = .returned (.tuple #[.slice none 0 0, .int .i64 12]) ∧ w' = w := by
  have f1 : decide ((n : Int) < 1) = false := by simp; omega
  have f2 : decide (16 < (n : Int)) = false := by simp; omega
  have f3 : decide ((t : Int) < 0) = false := by simp
  obtain ⟨d1, d2⟩ := div_nat n
  have hqb : 65536 / n ≤ 65536 := Nat.div_le_self _ _
  obtain ⟨q, hq⟩ := name_of (65536 / n)
  rw [hq] at d1 d2 h hqb
  have f4 : decide ((q : Int) < (t : Int)) = true := by simp; omega
  have f5 : decide (q < t) = true := by simpa using h
  clear hq
  go_enter Tryd.func25, Tryd.ntmps25
  go_wp2_with fail
  go_ret2
  exact ⟨rfl, rfl⟩
def RsPost (w : World) (l : List Ev) (e : Ending) (w' : World) : Prop := (∃ v, e = .returned (.tuple #[v, .int .i64 0]) ∧ Sl w' w'.heap.size 2 v (evsC l)) ∧ Below w.heap.size w w'
theorem rs_post {w w' : World} {l : List Ev} {v : Value} {e : Ending} (he : e = .returned (.tuple #[v, .int .i64 0])) (hv : Sl w' w'.heap.size 2 v (evsC l)) (hb : Below w.heap.size w w') : RsPost w l e w' := ⟨⟨v, he, hv⟩, hb⟩
set_option maxHeartbeats 2000000 in
theorem rounds_ok {w : World} (n t : Nat) (h1 : 1 ≤ n) (h2 : n ≤ 16) (h : t ≤ 65536 / n) : Calls Tryd.prog 25 #[.int .i64 n, .int .i64 t] w (RsPost w (roundsE n t)) := by
  have f1 : decide ((n : Int) < 1) = false := by simp; omega
  have f2 : decide (16 < (n : Int)) = false := by simp; omega
  have f3 : decide ((t : Int) < 0) = false := by simp
  have htl : t ≤ 65536 := Nat.le_trans h (Nat.div_le_self _ _)
  have HTN : Hid (t * n ≤ 65536) := Lib.hid (Nat.le_trans (Nat.mul_le_mul_right n h) (Nat.div_mul_le_self _ _))
  obtain ⟨d1, d2⟩ := div_nat n
  have hqb : 65536 / n ≤ 65536 := Nat.div_le_self _ _
  obtain ⟨q, hq⟩ := name_of (65536 / n)
  rw [hq] at d1 d2 h hqb
  have f4 : decide ((q : Int) < (t : Int)) = false := by simp; omega
  have f5 : decide (q < t) = false := by simp; omega
  clear hq
  go_enter Tryd.func25, Tryd.ntmps25
  go_wp2_with fail
  go_loopw [6, 24] (fun out i wr => ∃ k : Nat, k ≤ t ∧ i = .int .i64 k ∧ wr.ownsRow w.heap.size 24 2 out (roundsE n k).length (evsC (roundsE n k)) ∧ Below w.heap.size w wr) (fun _ i _ => t - (intOf i).toNat)
  case atStart => exact ⟨0, Nat.zero_le _, rfl, World.ownsRow_nil _ _ _ _, Below.refl _ _⟩
  case round =>
    obtain ⟨k, hk, rfl, hown, hB⟩ := hrel
    by_cases hlt : k < t
    · have hrl : (roundsE n k).length ≤ 1000000 := by
        rw [roundsE_len]
        have := HTN.out
        have := Nat.mul_le_mul_right n hk
        omega
      have hR := round_any hown hB.size n h2 hrl
      rw [← roundsE_succ] at hR
      obtain ⟨A6, m6, c6, rfl⟩ := own_slice hown
      clear hown
      go_wp2_with fail
      refine hR.mono ?_
      rintro e w1 ⟨⟨v', rfl, hown'⟩, hb1⟩
      obtain ⟨A7, m7, c7, rfl⟩ := own_slice hown'
      clear hR
      go_wp2_with fail
      exact ⟨⟨k + 1, hlt, by go_num, hown', hB.trans hb1⟩, by simp [intOf]; omega⟩
    · obtain rfl : k = t := by omega
      obtain ⟨A6, m6, c6, rfl⟩ := own_slice hown
      go_wp2_with fail
      go_ret2
      exact rs_post rfl (Sl.own hown) hB
theorem mixed_range {w : World} {v : Value} {l : List Ev} (hE : Evs w v l) (n : Int) (h : n < 1 ∨ 16 < n) : Calls Tryd.prog 26 #[v, .int .i64 n] w fun e w' => e = .returned (.tuple #[.slice none 0 0, .int .i64 10]) ∧ w' = w := by
  obtain ⟨A, c, rfl, hnc, -⟩ := evs_open hE.sl
  obtain ⟨m, hm⟩ := name_of l.length
  rw [hm] at hnc ⊢
  clear hE hm
  by_cases h1 : n < 1
  · have f1 : decide (n < 1) = true := by simpa using h1
    clear h
    go_enter Tryd.func26, Tryd.ntmps26
    go_wp2_with fail
    go_ret2
    exact ⟨rfl, rfl⟩
  · have f1 : decide (n < 1) = false := by simpa using h1
    have f2 : decide (16 < n) = true := by simp; omega
    clear h
    go_enter Tryd.func26, Tryd.ntmps26
    go_wp2_with fail
    go_ret2
    exact ⟨rfl, rfl⟩
theorem mixE_succ {n k : Nat} {l : List Ev} (hk : k < l.length) : mixE n (l.take (k + 1)) = (mixE n (l.take k) ++ [at_ l k]) ++ roundE n := by
  rw [List.take_succ_eq_append_getElem hk, at_eq hk]
  unfold mixE
  rw [List.flatMap_append, List.flatMap_cons, List.flatMap_nil, List.append_nil, List.append_assoc]
  rfl
set_option maxRecDepth 10000 in
set_option maxHeartbeats 4000000 in
theorem mixed_ok {w : World} {v : Value} {l : List Ev} (hE : Evs w v l) (n : Nat) (h1 : 1 ≤ n) (h2 : n ≤ 16) (hl : l.length ≤ 60) : Calls Tryd.prog 26 #[v, .int .i64 n] w (RsPost w (mixE n l)) := by
  obtain ⟨A, c, rfl, hnc, hA⟩ := evs_open hE.sl
  have HA := Lib.hid hA
  obtain ⟨m, hm⟩ := name_of l.length
  have HM := Lib.hid hm
  rw [hm] at hnc hl ⊢
  clear hE hm hA
  have f1 : decide ((n : Int) < 1) = false := by simp; omega
  have f2 : decide (16 < (n : Int)) = false := by simp; omega
  obtain ⟨d1, d2⟩ := div_nat (n + 1)
  rw [show ((n + 1 : Nat) : Int) = (n : Int) + 1 by omega] at d1 d2
  have hq0 : m ≤ 65536 / (n + 1) := (Nat.le_div_iff_mul_le (by omega)).2 (by
    have := Nat.mul_le_mul hl (show n + 1 ≤ 17 by omega)
    omega)
  have hqb : 65536 / (n + 1) ≤ 65536 := Nat.div_le_self _ _
  obtain ⟨q, hq⟩ := name_of (65536 / (n + 1))
  rw [hq] at d1 d2 hq0 hqb
  have f4 : decide ((q : Int) < (m : Int)) = false := by simp; omega
  have f5 : decide (q < m) = false := by simp; omega
  clear hq
  go_enter Tryd.func26, Tryd.ntmps26
  go_wp2_with fail
  go_loopw [6, 25] (fun out i wr => ∃ k : Nat, k ≤ m ∧ i = .int .i64 k ∧ wr.ownsRow w.heap.size 24 2 out (mixE n (l.take k)).length (evsC (mixE n (l.take k))) ∧ Below w.heap.size w wr) (fun _ i _ => m - (intOf i).toNat)
  case atStart => exact ⟨0, Nat.zero_le _, rfl, World.ownsRow_nil _ _ _ _, Below.refl _ _⟩
  case round =>
    obtain ⟨k, hk, rfl, hown, hB⟩ := hrel
    by_cases hlt : k < m
    · have hrl : (mixE n (l.take k)).length ≤ 2000 := by
        rw [mixE_len, List.length_take, HM.out]
        have := Nat.mul_le_mul (show min k m ≤ 60 by omega) (show n + 1 ≤ 17 by omega)
        omega
      obtain ⟨bl, off, rfl, hbl, q0, q1⟩ := HA.out k (by rw [HM.out]; exact hlt)
      have HSU := Lib.hid (mixE_succ (n := n) (l := l) (k := k) (by rw [HM.out]; exact hlt))
      obtain ⟨⟨ek, en⟩, he⟩ := name_of (at_ l k)
      rw [he] at q0 q1 HSU
      dsimp only at q0 q1
      have c0 := (hB.cell (p := ⟨bl, _, none⟩) hbl).trans q0
      have c1 := (hB.cell (p := ⟨bl, _, none⟩) hbl).trans q1
      have hB1 := hB.alloc hB.size (.cells #[.int .i64 ek, .int .i64 en] 24)
      have hown1 := hown.alloc (.cells #[.int .i64 ek, .int .i64 en] 24)
      have hs2 : Sl ((wr.alloc (.cells #[.int .i64 ek, .int .i64 en] 24)).alloc (.cells #[.int .i64 ek, .int .i64 en] 24)) ((wr.alloc (.cells #[.int .i64 ek, .int .i64 en] 24)).alloc (.cells #[.int .i64 ek, .int .i64 en] 24)).heap.size 2 (.slice (some ⟨wr.heap.size + 1, 0, none⟩) 1 1) (evC ⟨ek, en⟩) := Sl.new (wr.alloc _) _ _ 1 _ (by simp) rfl rfl
      have hown2 := hown1.alloc (.cells #[.int .i64 ek, .int .i64 en] 24)
      have hB2 := hB1.alloc hB1.size (.cells #[.int .i64 ek, .int .i64 en] 24)
      obtain ⟨X, hX⟩ := name_of (mixE n (l.take k))
      rw [hX] at hrl hown2 HSU
      have HX7 : Hid (evsC X ++ evC ⟨ek, en⟩ = evsC (X ++ [⟨ek, en⟩])) := Lib.hid (by rw [evsC_append]; rfl)
      have HX8 : Hid (X.length + 1 = (X ++ [(⟨ek, en⟩ : Ev)]).length) := Lib.hid (by simp)
      have HX9 : Hid ((X ++ [(⟨ek, en⟩ : Ev)]).length ≤ 1000000) := Lib.hid (by simp; omega)
      clear hown1 hown hB1 hB q0 q1 he hX
      go_wp2_with (at_builtin; refine wpList_append_sl rfl (.tmp 29) (.tmp 31) 22 rfl w.heap.size 24 (.agg #[.int .i64 0, .int .i64 0]) 2 16 Tryd.underlying22 info_ev rfl (by omega) _ _ _ rfl hown2 _ 1 _ _ rfl hs2 rfl (evC_one _) (by omega) (by omega) hB2.size ?_; intro v6 w6 hown6 hg6 hat6; have hB6 := below_append hB2 hown2 hg6 (Nat.le_refl _); have hown7 := own_len hown6 HX8.out HX7.out; have hR := round_any hown7 hB6.size n h2 HX9.out; obtain ⟨A6, m6, c6, rfl⟩ := own_slice hown6; clear hown2 hs2 hg6 hat6 hB2 hown6 hown7)
      refine hR.mono ?_
      rintro e w1 ⟨⟨v', rfl, hown'⟩, hb1⟩
      rw [← HSU.out] at hown'
      obtain ⟨A7, m7, c7, rfl⟩ := own_slice hown'
      clear hR
      go_wp2_with fail
      exact ⟨⟨k + 1, hlt, by go_num, hown', hB6.trans hb1⟩, by simp [intOf]; omega⟩
    · obtain rfl : k = m := by omega
      obtain ⟨A6, m6, c6, rfl⟩ := own_slice hown
      rw [List.take_of_length_le (by rw [HM.out]; exact Nat.le_refl _)] at hown
      go_wp2_with fail
      go_ret2
      exact rs_post rfl (Sl.own hown) hB
end P21
end Go.Proofs.YtkobmoabnnjejaaDoor
