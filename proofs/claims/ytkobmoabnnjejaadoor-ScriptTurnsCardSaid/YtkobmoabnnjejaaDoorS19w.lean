/- Walk: ScriptTurns. -/
import Derived.Test.YtkobmoabnnjejaaDoorS19
import Derived.Test.YtkobmoabnnjejaaDoorS12
import Derived.Test.YtkobmoabnnjejaaDoorS9
namespace Go.Proofs.YtkobmoabnnjejaaDoor
open Go.RowKit
namespace P21
open PC

theorem roundE_wf {n : Nat} (hn : n ≤ 16) : ∀ e ∈ roundE n, EvWf e := by
  intro e he
  unfold roundE at he
  obtain ⟨k, hk, rfl⟩ := List.mem_map.1 he
  have := List.mem_range.1 hk
  exact ⟨by dsimp only; omega, by dsimp only; omega⟩
theorem mixE_wf {n : Nat} (hn : n ≤ 16) {l : List Ev} (h : ∀ e ∈ l, EvWf e) : ∀ e ∈ mixE n l, EvWf e := by
  intro e he
  unfold mixE at he
  obtain ⟨x, hx, he⟩ := List.mem_flatMap.1 he
  rcases List.mem_cons.1 he with rfl | he
  · exact h _ hx
  · exact roundE_wf hn e he
theorem roundsE_wf {n t : Nat} (hn : n ≤ 16) : ∀ e ∈ roundsE n t, EvWf e := by
  intro e he
  unfold roundsE at he
  obtain ⟨x, hx, he⟩ := List.mem_flatMap.1 he
  exact roundE_wf hn e he
theorem mod_nat (i n : Nat) : (i : Int) % (n : Int) = ((i % n : Nat) : Int) ∧ (i : Int).tmod (n : Int) = ((i % n : Nat) : Int) := by
  have h : (i : Int) % (n : Int) = ((i % n : Nat) : Int) := by rw [Int.natCast_emod]
  exact ⟨h, by rw [Int.tmod_eq_emod_of_nonneg (by omega), h]⟩
theorem quo_nat (i n : Nat) : (i : Int) / (n : Int) = ((i / n : Nat) : Int) ∧ (i : Int).tdiv (n : Int) = ((i / n : Nat) : Int) := by
  have h : (i : Int) / (n : Int) = ((i / n : Nat) : Int) := by rw [Int.natCast_ediv]
  exact ⟨h, by rw [Int.tdiv_eq_ediv_of_nonneg (by omega), h]⟩
theorem neq_ev_self (a b : Int) (w : World) : (binOp .neq 24 (.agg #[.int .i64 a, .int .i64 b]) (.agg #[.int .i64 a, .int .i64 b])).run Tryd.prog w = .ok (.bool false) w := by
  have h := neq_ev ⟨a, b⟩ ⟨a, b⟩ w
  rw [decide_eq_true rfl] at h
  exact h
set_option maxRecDepth 100000 in
set_option maxHeartbeats 16000000 in
theorem turns_bad {w : World} {v : Value} {l : List Ev} (hE : Evs w v l) (hp : Lab w) (n t : Int) (hl : l.length ≤ 60) (ht : ¬ (60 < t ∧ t ≤ 4096)) (hn : n < 1 ∨ 16 < n) :
    Calls Tryd.prog 9 #[.int .i64 n, .int .i64 t, v] w fun e w' => e = .returned (.bool true) ∧ Below w.heap.size w w' := by
  have hM := mixed_range hE n hn
  have hR := rounds_range (w := w) n t (by omega)
  have hAw := awake_any w hp
  obtain ⟨A, c, rfl, hnc, -⟩ := evs_open hE.sl
  obtain ⟨m, hm⟩ := name_of l.length
  rw [hm] at hnc hl hM ⊢
  clear hE hp hm
  have f1 : decide (60 < (m : Int)) = false := by simp; omega
  by_cases h1 : n < 1
  · have g1 : decide (n < 1) = true := by simpa using h1
    clear hn h1
    by_cases h2 : 60 < t
    · have g2 : decide (60 < t) = true := by simpa using h2
      have g3 : decide (t ≤ 4096) = false := by simp; omega
      clear ht h2
      go_enter Tryd.func9, Tryd.ntmps9
      go_wp2_with fail
      refine hR.mono ?_
      rintro e w1 ⟨rfl, rfl⟩
      clear hR
      go_wp2_with fail
      refine hM.mono ?_
      rintro e w2 ⟨rfl, rfl⟩
      clear hM
      go_wp2_with fail
      refine hAw.mono ?_
      rintro e w3 ⟨rfl, hb3⟩
      go_wp2_with fail
      go_ret
      exact ⟨rfl, hb3⟩
    · have g2 : decide (60 < t) = false := by simpa using h2
      clear ht h2
      go_enter Tryd.func9, Tryd.ntmps9
      go_wp2_with fail
      refine hR.mono ?_
      rintro e w1 ⟨rfl, rfl⟩
      clear hR
      go_wp2_with fail
      refine hM.mono ?_
      rintro e w2 ⟨rfl, rfl⟩
      clear hM
      go_wp2_with fail
      refine hAw.mono ?_
      rintro e w3 ⟨rfl, hb3⟩
      go_wp2_with fail
      go_ret
      exact ⟨rfl, hb3⟩
  · have g1 : decide (n < 1) = false := by simpa using h1
    have g0 : decide (16 < n) = true := by simp; omega
    clear hn h1
    by_cases h2 : 60 < t
    · have g2 : decide (60 < t) = true := by simpa using h2
      have g3 : decide (t ≤ 4096) = false := by simp; omega
      clear ht h2
      go_enter Tryd.func9, Tryd.ntmps9
      go_wp2_with fail
      refine hR.mono ?_
      rintro e w1 ⟨rfl, rfl⟩
      clear hR
      go_wp2_with fail
      refine hM.mono ?_
      rintro e w2 ⟨rfl, rfl⟩
      clear hM
      go_wp2_with fail
      refine hAw.mono ?_
      rintro e w3 ⟨rfl, hb3⟩
      go_wp2_with fail
      go_ret
      exact ⟨rfl, hb3⟩
    · have g2 : decide (60 < t) = false := by simpa using h2
      clear ht h2
      go_enter Tryd.func9, Tryd.ntmps9
      go_wp2_with fail
      refine hR.mono ?_
      rintro e w1 ⟨rfl, rfl⟩
      clear hR
      go_wp2_with fail
      refine hM.mono ?_
      rintro e w2 ⟨rfl, rfl⟩
      clear hM
      go_wp2_with fail
      refine hAw.mono ?_
      rintro e w3 ⟨rfl, hb3⟩
      go_wp2_with fail
      go_ret
      exact ⟨rfl, hb3⟩

set_option maxRecDepth 100000 in
set_option maxHeartbeats 16000000 in
theorem turns_neg {w : World} {v : Value} {l : List Ev} (hE : Evs w v l) (hp : Lab w) (n : Nat) (t : Int) (hl : l.length ≤ 60) (hn1 : 1 ≤ n) (hn2 : n ≤ 16) (ht : t < 0) :
    Calls Tryd.prog 9 #[.int .i64 n, .int .i64 t, v] w fun e w' => e = .returned (.bool true) ∧ Below w.heap.size w w' := by
  have hR : Calls Tryd.prog 25 #[.int .i64 n, .int .i64 t] w fun e w' => e = .returned (.tuple #[.slice none 0 0, .int .i64 10]) ∧ Below w.heap.size w w' := (rounds_range (w := w) (n : Int) t (by omega)).mono fun _ _ ⟨h1, h2⟩ => ⟨h1, by rw [h2]; exact Below.refl _ _⟩
  have g2 : decide (60 < t) = false := by simp; omega
  have g3 : decide (t < 0) = true := by simpa using ht
  have HE := Lib.hid hE
  have HP := Lib.hid hp
  obtain ⟨A, c, rfl, hnc, hA⟩ := evs_open hE.sl
  have HA := Lib.hid hA
  obtain ⟨m, hm⟩ := name_of l.length
  rw [hm] at hnc hl HE ⊢
  have HM := Lib.hid hm
  clear hE hp hm hA
  have f1 : decide (60 < (m : Int)) = false := by simp; omega
  have g1 : decide ((n : Int) < 1) = false := by simp; omega
  have g0 : decide (16 < (n : Int)) = false := by simp; omega
  go_enter Tryd.func9, Tryd.ntmps9
  go_wp2_with fail
  refine hR.mono ?_
  rintro e w1 ⟨rfl, hb1⟩
  have hM := mixed_ok (HE.out.next hb1) n hn1 hn2 (by rw [HM.out]; exact hl)
  clear hR
  go_wp2_with fail
  refine hM.mono ?_
  rintro e w2 ⟨⟨vb, rfl, hvb⟩, hb2⟩
  have hB2 := hb1.next hb2
  obtain ⟨A', c', rfl, hkc, hA'⟩ := evs_open hvb
  have HVB := Lib.hid hvb
  have HA' := Lib.hid hA'
  have hkl := mixE_len n l
  rw [HM.out] at hkl
  obtain ⟨K, hK⟩ := name_of (mixE n l).length
  rw [hK] at hkl hkc ⊢
  have HK := Lib.hid hK
  have hK2 : K ≤ 1020 := by rw [hkl]; exact Nat.mul_le_mul hl (show n + 1 ≤ 17 by omega)
  have hmul : (m : Int) * ((n : Int) + 1) = (K : Int) := by rw [hkl, Int.natCast_mul]; rfl
  have HKL := Lib.hid hkl
  clear hM hvb hA' hkl hK hb2 hb1
  go_wp2_with fail
  go_loopw [11] (fun i wr => ∃ k : Nat, k ≤ K ∧ i = .int .i64 k ∧ Below w2.heap.size w2 wr) (fun i _ => K - (intOf i).toNat)
  case atStart => exact ⟨0, Nat.zero_le _, rfl, Below.refl _ _⟩
  case round =>
    obtain ⟨k, hk, rfl, hBr⟩ := hrel
    by_cases hlt : k < K
    · obtain ⟨bl, off, rfl, hbl, q0, q1⟩ := HA'.out k (by rw [HK.out]; exact hlt)
      have hat := mixE_at (n := n) (l := l) (i := k) (by rw [HM.out, ← HKL.out]; exact hlt)
      have hq := Nat.div_lt_of_lt_mul (m := k) (n := n + 1) (k := m) (by rw [Nat.mul_comm, ← HKL.out]; exact hlt)
      have hr16 : k % (n + 1) < n + 1 := Nat.mod_lt _ (by omega)
      obtain ⟨r1, r2⟩ := mod_nat k (n + 1)
      obtain ⟨d1, d2⟩ := quo_nat k (n + 1)
      rw [show ((n + 1 : Nat) : Int) = (n : Int) + 1 by omega] at r1 r2 d1 d2
      obtain ⟨r, hr⟩ := name_of (k % (n + 1))
      obtain ⟨d, hd⟩ := name_of (k / (n + 1))
      rw [hr] at r1 r2 hat hr16
      rw [hd] at d1 d2 hat hq
      obtain ⟨b2, off2, hA2, hb2lt, p0, p1⟩ := HA.out d (by rw [HM.out]; exact hq)
      obtain ⟨⟨xk, xn⟩, hx⟩ := name_of (at_ (mixE n l) k)
      rw [hx] at q0 q1 hat
      dsimp only at q0 q1
      have hBa := hBr.alloc hBr.size (.cells #[.int .i64 0, .int .i64 ((r : Int) - 1)] 24)
      have c0 := (hBa.cell (p := ⟨bl, _, none⟩) hbl).trans q0
      have c1 := (hBa.cell (p := ⟨bl, _, none⟩) hbl).trans q1
      have e0 := ((hB2.next hBa).cell (p := ⟨b2, _, none⟩) hb2lt).trans p0
      have e1 := ((hB2.next hBa).cell (p := ⟨b2, _, none⟩) hb2lt).trans p1
      subst hA2
      have hnq := fun W => neq_ev_self xk xn W
      clear p0 p1 hr hd hx
      by_cases hr0 : r = 0
      · rw [if_pos hr0] at hat
        have z0 : ((r : Int) == 0) = true := by simpa using hr0
        obtain ⟨⟨yk, yn⟩, hy⟩ := name_of (at_ l d)
        rw [hy] at hat e0 e1
        injection hat with a1 a2
        subst a1 a2
        dsimp only at e0 e1
        have hBb := hBr.alloc hBr.size (.cells #[.int .i64 xk, .int .i64 xn] 24)
        have k0 := (hBb.cell (p := ⟨bl, _, none⟩) hbl).trans q0
        have k1 := (hBb.cell (p := ⟨bl, _, none⟩) hbl).trans q1
        clear hy hr0 q0 q1
        go_wp2_with (refine wpList_store_new rfl 24 24 (.tmp 12) (.tmp 99) rfl #[.int .i64 0, .int .i64 ((r : Int) - 1)] #[.int .i64 xk, .int .i64 xn] wr.heap.size rfl rfl rfl (by kernel_rfl) rfl rfl ?_)
        go_quiet (fail)
        go_wp2_with fail
        exact ⟨⟨k + 1, hlt, by go_num, hBb.next (below_drewn _)⟩, by simp [intOf]; omega⟩
      · rw [if_neg hr0] at hat
        have z0 : ((r : Int) == 0) = false := by simpa using hr0
        injection hat with a1 a2
        subst a1 a2
        clear hr0 q0 q1
        go_wp2_with fail
        go_quiet (fail)
        go_wp2_with fail
        exact ⟨⟨k + 1, hlt, by go_num, hBa.next (below_drewn _)⟩, by simp [intOf]; omega⟩
    · obtain rfl : k = K := by omega
      have hBw := hB2.next hBr
      have hEV : Evs wr (.slice A' k c') (mixE n l) := ⟨(by have := HVB.out.next hBr; rwa [HK.out] at this), mixE_wf hn2 HE.out.wf⟩
      rcases Nat.eq_zero_or_pos m with hm0 | hm0
      · have hW := window_none hEV (n : Int) (.inr (by rw [HK.out, HKL.out, hm0, Nat.zero_mul]; omega))
        have y1 : decide (0 < m) = false := by simp; omega
        have y2 : decide (0 < (m : Int)) = false := by simp; omega
        clear hEV hm0
        go_wp2_with fail
        refine hW.mono ?_
        rintro e w3 ⟨rfl, hb3⟩
        have hB3 := hBw.next hb3
        clear hW
        go_wp2_with fail
        have hAw := awake_any w3 (HP.out.next hB3)
        refine hAw.mono ?_
        rintro e wz ⟨rfl, hbz⟩
        go_wp2_with fail
        go_ret
        exact ⟨rfl, (hB3).next hbz⟩
      · have hne : l ≠ [] := fun e => by have := HM.out; rw [e] at this; simp at this; omega
        obtain ⟨k1, k2, k3⟩ := window_mix (n := n) hn1 hne
        have hnK : n ≤ k := by rw [HKL.out]; exact Nat.le_trans (Nat.le_succ n) (Nat.le_mul_of_pos_left _ hm0)
        have hW := window_some hEV (by rw [HK.out]; omega) n hn1 (by rw [HK.out]; exact hnK)
        obtain ⟨G, hG⟩ := name_of (windowT (mixE n l) n)
        rw [hG] at k1 k2 k3 hW
        obtain ⟨g, rfl⟩ := Int.eq_ofNat_of_zero_le (show 0 ≤ G by omega)
        have y1 : decide (0 < m) = true := by simpa using hm0
        have y2 : decide (0 < (m : Int)) = true := by simp; omega
        have y3 : decide (g < n) = false := by simp; omega
        have y4 : decide ((n : Int) + 1 < (g : Int)) = false := by simp; omega
        have y5 : decide (n + 1 < g) = false := by simp; omega
        have HG3 := Lib.hid k3
        clear hEV hm0 hne hG k3
        go_wp2_with fail
        refine hW.mono ?_
        rintro e w3 ⟨rfl, hb3⟩
        have hB3 := hBw.next hb3
        have hPk := picks_any (HE.out.next hB3) (by rw [HM.out]; omega)
        clear hW
        go_wp2_with fail
        refine hPk.mono ?_
        rintro e w4 ⟨⟨vp, rfl, hvp⟩, hb4⟩
        have hB4 := hB3.next hb4
        obtain ⟨Ap, cp, rfl, -, -⟩ := zv_open hvp
        obtain ⟨pl, hpl⟩ := name_of (pk l).length
        rw [hpl]
        by_cases hp0 : pl = 0
        · subst hp0
          have hgn : n = g := by have := HG3.out (List.eq_nil_of_length_eq_zero hpl); omega
          subst hgn
          clear hPk hvp y3 y4 y5 k1 k2
          have hAw := awake_any w4 (HP.out.next hB4)
          go_wp2_with fail
          refine hAw.mono ?_
          rintro e wz ⟨rfl, hbz⟩
          go_wp2_with fail
          go_ret
          exact ⟨rfl, (hB4).next hbz⟩
        · have z0 : ((pl : Int) == 0) = false := by simpa using hp0
          clear hPk hvp hp0
          have hAw := awake_any w4 (HP.out.next hB4)
          go_wp2_with fail
          refine hAw.mono ?_
          rintro e wz ⟨rfl, hbz⟩
          go_wp2_with fail
          go_ret
          exact ⟨rfl, (hB4).next hbz⟩

set_option maxRecDepth 100000 in
set_option maxHeartbeats 16000000 in
theorem turns_long {w : World} {v : Value} {l : List Ev} (hE : Evs w v l) (hp : Lab w) (n : Nat) (t : Nat) (hl : l.length ≤ 60) (hn1 : 1 ≤ n) (hn2 : n ≤ 16) (htq : 65536 / n < t) :
    Calls Tryd.prog 9 #[.int .i64 n, .int .i64 t, v] w fun e w' => e = .returned (.bool true) ∧ Below w.heap.size w w' := by
  have hR : Calls Tryd.prog 25 #[.int .i64 n, .int .i64 t] w fun e w' => e = .returned (.tuple #[.slice none 0 0, .int .i64 12]) ∧ Below w.heap.size w w' := (rounds_long (w := w) n t hn1 hn2 htq).mono fun _ _ ⟨h1, h2⟩ => ⟨h1, by rw [h2]; exact Below.refl _ _⟩
  have h4096 : 4096 < t := Nat.lt_of_le_of_lt ((Nat.le_div_iff_mul_le (by omega)).2 (by omega)) htq
  obtain ⟨dq1, dq2⟩ := div_nat n
  have hqb : 65536 / n ≤ 65536 := Nat.div_le_self _ _
  obtain ⟨qq, hqq⟩ := name_of (65536 / n)
  rw [hqq] at dq1 dq2 htq hqb
  have g2 : decide (60 < (t : Int)) = true := by simp; omega
  have g3 : decide ((t : Int) ≤ 4096) = false := by simp; omega
  have g4 : decide ((t : Int) < 0) = false := by simp
  have g5 : decide ((qq : Int) < (t : Int)) = true := by simp; omega
  have g6 : decide (qq < t) = true := by simpa using htq
  clear hqq
  have HE := Lib.hid hE
  have HP := Lib.hid hp
  obtain ⟨A, c, rfl, hnc, hA⟩ := evs_open hE.sl
  have HA := Lib.hid hA
  obtain ⟨m, hm⟩ := name_of l.length
  rw [hm] at hnc hl HE ⊢
  have HM := Lib.hid hm
  clear hE hp hm hA
  have f1 : decide (60 < (m : Int)) = false := by simp; omega
  have g1 : decide ((n : Int) < 1) = false := by simp; omega
  have g0 : decide (16 < (n : Int)) = false := by simp; omega
  go_enter Tryd.func9, Tryd.ntmps9
  go_wp2_with fail
  refine hR.mono ?_
  rintro e w1 ⟨rfl, hb1⟩
  have hM := mixed_ok (HE.out.next hb1) n hn1 hn2 (by rw [HM.out]; exact hl)
  clear hR
  go_wp2_with fail
  refine hM.mono ?_
  rintro e w2 ⟨⟨vb, rfl, hvb⟩, hb2⟩
  have hB2 := hb1.next hb2
  obtain ⟨A', c', rfl, hkc, hA'⟩ := evs_open hvb
  have HVB := Lib.hid hvb
  have HA' := Lib.hid hA'
  have hkl := mixE_len n l
  rw [HM.out] at hkl
  obtain ⟨K, hK⟩ := name_of (mixE n l).length
  rw [hK] at hkl hkc ⊢
  have HK := Lib.hid hK
  have hK2 : K ≤ 1020 := by rw [hkl]; exact Nat.mul_le_mul hl (show n + 1 ≤ 17 by omega)
  have hmul : (m : Int) * ((n : Int) + 1) = (K : Int) := by rw [hkl, Int.natCast_mul]; rfl
  have HKL := Lib.hid hkl
  clear hM hvb hA' hkl hK hb2 hb1
  go_wp2_with fail
  go_loopw [11] (fun i wr => ∃ k : Nat, k ≤ K ∧ i = .int .i64 k ∧ Below w2.heap.size w2 wr) (fun i _ => K - (intOf i).toNat)
  case atStart => exact ⟨0, Nat.zero_le _, rfl, Below.refl _ _⟩
  case round =>
    obtain ⟨k, hk, rfl, hBr⟩ := hrel
    by_cases hlt : k < K
    · obtain ⟨bl, off, rfl, hbl, q0, q1⟩ := HA'.out k (by rw [HK.out]; exact hlt)
      have hat := mixE_at (n := n) (l := l) (i := k) (by rw [HM.out, ← HKL.out]; exact hlt)
      have hq := Nat.div_lt_of_lt_mul (m := k) (n := n + 1) (k := m) (by rw [Nat.mul_comm, ← HKL.out]; exact hlt)
      have hr16 : k % (n + 1) < n + 1 := Nat.mod_lt _ (by omega)
      obtain ⟨r1, r2⟩ := mod_nat k (n + 1)
      obtain ⟨d1, d2⟩ := quo_nat k (n + 1)
      rw [show ((n + 1 : Nat) : Int) = (n : Int) + 1 by omega] at r1 r2 d1 d2
      obtain ⟨r, hr⟩ := name_of (k % (n + 1))
      obtain ⟨d, hd⟩ := name_of (k / (n + 1))
      rw [hr] at r1 r2 hat hr16
      rw [hd] at d1 d2 hat hq
      obtain ⟨b2, off2, hA2, hb2lt, p0, p1⟩ := HA.out d (by rw [HM.out]; exact hq)
      obtain ⟨⟨xk, xn⟩, hx⟩ := name_of (at_ (mixE n l) k)
      rw [hx] at q0 q1 hat
      dsimp only at q0 q1
      have hBa := hBr.alloc hBr.size (.cells #[.int .i64 0, .int .i64 ((r : Int) - 1)] 24)
      have c0 := (hBa.cell (p := ⟨bl, _, none⟩) hbl).trans q0
      have c1 := (hBa.cell (p := ⟨bl, _, none⟩) hbl).trans q1
      have e0 := ((hB2.next hBa).cell (p := ⟨b2, _, none⟩) hb2lt).trans p0
      have e1 := ((hB2.next hBa).cell (p := ⟨b2, _, none⟩) hb2lt).trans p1
      subst hA2
      have hnq := fun W => neq_ev_self xk xn W
      clear p0 p1 hr hd hx
      by_cases hr0 : r = 0
      · rw [if_pos hr0] at hat
        have z0 : ((r : Int) == 0) = true := by simpa using hr0
        obtain ⟨⟨yk, yn⟩, hy⟩ := name_of (at_ l d)
        rw [hy] at hat e0 e1
        injection hat with a1 a2
        subst a1 a2
        dsimp only at e0 e1
        have hBb := hBr.alloc hBr.size (.cells #[.int .i64 xk, .int .i64 xn] 24)
        have k0 := (hBb.cell (p := ⟨bl, _, none⟩) hbl).trans q0
        have k1 := (hBb.cell (p := ⟨bl, _, none⟩) hbl).trans q1
        clear hy hr0 q0 q1
        go_wp2_with (refine wpList_store_new rfl 24 24 (.tmp 12) (.tmp 99) rfl #[.int .i64 0, .int .i64 ((r : Int) - 1)] #[.int .i64 xk, .int .i64 xn] wr.heap.size rfl rfl rfl (by kernel_rfl) rfl rfl ?_)
        go_quiet (fail)
        go_wp2_with fail
        exact ⟨⟨k + 1, hlt, by go_num, hBb.next (below_drewn _)⟩, by simp [intOf]; omega⟩
      · rw [if_neg hr0] at hat
        have z0 : ((r : Int) == 0) = false := by simpa using hr0
        injection hat with a1 a2
        subst a1 a2
        clear hr0 q0 q1
        go_wp2_with fail
        go_quiet (fail)
        go_wp2_with fail
        exact ⟨⟨k + 1, hlt, by go_num, hBa.next (below_drewn _)⟩, by simp [intOf]; omega⟩
    · obtain rfl : k = K := by omega
      have hBw := hB2.next hBr
      have hEV : Evs wr (.slice A' k c') (mixE n l) := ⟨(by have := HVB.out.next hBr; rwa [HK.out] at this), mixE_wf hn2 HE.out.wf⟩
      rcases Nat.eq_zero_or_pos m with hm0 | hm0
      · have hW := window_none hEV (n : Int) (.inr (by rw [HK.out, HKL.out, hm0, Nat.zero_mul]; omega))
        have y1 : decide (0 < m) = false := by simp; omega
        have y2 : decide (0 < (m : Int)) = false := by simp; omega
        clear hEV hm0
        go_wp2_with fail
        refine hW.mono ?_
        rintro e w3 ⟨rfl, hb3⟩
        have hB3 := hBw.next hb3
        clear hW
        go_wp2_with fail
        have hAw := awake_any w3 (HP.out.next hB3)
        refine hAw.mono ?_
        rintro e wz ⟨rfl, hbz⟩
        go_wp2_with fail
        go_ret
        exact ⟨rfl, (hB3).next hbz⟩
      · have hne : l ≠ [] := fun e => by have := HM.out; rw [e] at this; simp at this; omega
        obtain ⟨k1, k2, k3⟩ := window_mix (n := n) hn1 hne
        have hnK : n ≤ k := by rw [HKL.out]; exact Nat.le_trans (Nat.le_succ n) (Nat.le_mul_of_pos_left _ hm0)
        have hW := window_some hEV (by rw [HK.out]; omega) n hn1 (by rw [HK.out]; exact hnK)
        obtain ⟨G, hG⟩ := name_of (windowT (mixE n l) n)
        rw [hG] at k1 k2 k3 hW
        obtain ⟨g, rfl⟩ := Int.eq_ofNat_of_zero_le (show 0 ≤ G by omega)
        have y1 : decide (0 < m) = true := by simpa using hm0
        have y2 : decide (0 < (m : Int)) = true := by simp; omega
        have y3 : decide (g < n) = false := by simp; omega
        have y4 : decide ((n : Int) + 1 < (g : Int)) = false := by simp; omega
        have y5 : decide (n + 1 < g) = false := by simp; omega
        have HG3 := Lib.hid k3
        clear hEV hm0 hne hG k3
        go_wp2_with fail
        refine hW.mono ?_
        rintro e w3 ⟨rfl, hb3⟩
        have hB3 := hBw.next hb3
        have hPk := picks_any (HE.out.next hB3) (by rw [HM.out]; omega)
        clear hW
        go_wp2_with fail
        refine hPk.mono ?_
        rintro e w4 ⟨⟨vp, rfl, hvp⟩, hb4⟩
        have hB4 := hB3.next hb4
        obtain ⟨Ap, cp, rfl, -, -⟩ := zv_open hvp
        obtain ⟨pl, hpl⟩ := name_of (pk l).length
        rw [hpl]
        by_cases hp0 : pl = 0
        · subst hp0
          have hgn : n = g := by have := HG3.out (List.eq_nil_of_length_eq_zero hpl); omega
          subst hgn
          clear hPk hvp y3 y4 y5 k1 k2
          have hAw := awake_any w4 (HP.out.next hB4)
          go_wp2_with fail
          refine hAw.mono ?_
          rintro e wz ⟨rfl, hbz⟩
          go_wp2_with fail
          go_ret
          exact ⟨rfl, (hB4).next hbz⟩
        · have z0 : ((pl : Int) == 0) = false := by simpa using hp0
          clear hPk hvp hp0
          have hAw := awake_any w4 (HP.out.next hB4)
          go_wp2_with fail
          refine hAw.mono ?_
          rintro e wz ⟨rfl, hbz⟩
          go_wp2_with fail
          go_ret
          exact ⟨rfl, (hB4).next hbz⟩

set_option maxRecDepth 100000 in
set_option maxHeartbeats 16000000 in
theorem turns_big {w : World} {v : Value} {l : List Ev} (hE : Evs w v l) (hp : Lab w) (n : Nat) (t : Nat) (hl : l.length ≤ 60) (hn1 : 1 ≤ n) (hn2 : n ≤ 16) (h4096 : 4096 < t) (htq : t ≤ 65536 / n) :
    Calls Tryd.prog 9 #[.int .i64 n, .int .i64 t, v] w fun e w' => e = .returned (.bool true) ∧ Below w.heap.size w w' := by
  have hR := rounds_ok (w := w) n t hn1 hn2 htq
  have htb : t ≤ 65536 := Nat.le_trans htq (Nat.div_le_self _ _)
  obtain ⟨dq1, dq2⟩ := div_nat n
  have hqb : 65536 / n ≤ 65536 := Nat.div_le_self _ _
  have g2 : decide (60 < (t : Int)) = true := by simp; omega
  have g3 : decide ((t : Int) ≤ 4096) = false := by simp; omega
  have g4 : decide ((t : Int) < 0) = false := by simp
  have HE := Lib.hid hE
  have HP := Lib.hid hp
  obtain ⟨A, c, rfl, hnc, hA⟩ := evs_open hE.sl
  have HA := Lib.hid hA
  obtain ⟨m, hm⟩ := name_of l.length
  rw [hm] at hnc hl HE ⊢
  have HM := Lib.hid hm
  clear hE hp hm hA
  have f1 : decide (60 < (m : Int)) = false := by simp; omega
  have g1 : decide ((n : Int) < 1) = false := by simp; omega
  have g0 : decide (16 < (n : Int)) = false := by simp; omega
  go_enter Tryd.func9, Tryd.ntmps9
  go_wp2_with fail
  refine hR.mono ?_
  rintro e w1 ⟨⟨va, rfl, hva⟩, hb1⟩
  have hM := mixed_ok (HE.out.next hb1) n hn1 hn2 (by rw [HM.out]; exact hl)
  obtain ⟨Aa, ca, rfl, hac, hAa⟩ := evs_open hva
  have HVA := Lib.hid hva
  have HAa := Lib.hid hAa
  have hLt := roundsE_len n t
  obtain ⟨L, hL⟩ := name_of (roundsE n t).length
  rw [hL] at hLt hac ⊢
  have HL := Lib.hid hL
  have HLT := Lib.hid hLt
  have hL65 : L ≤ 65536 := by rw [hLt]; exact Nat.le_trans (Nat.mul_le_mul_right n htq) (Nat.div_mul_le_self _ _)
  have hmulT : (n : Int) * (t : Int) = (L : Int) := by rw [hLt, Int.natCast_mul, Int.mul_comm]
  clear hva hAa hLt hL
  obtain ⟨qq, hqq⟩ := name_of (65536 / n)
  rw [hqq] at dq1 dq2 htq hqb
  have g5 : decide ((qq : Int) < (t : Int)) = false := by simp; omega
  have g6 : decide (qq < t) = false := by simp; omega
  clear hqq
  clear hR
  go_wp2_with fail
  refine hM.mono ?_
  rintro e w2 ⟨⟨vb, rfl, hvb⟩, hb2⟩
  have hB2 := hb1.next hb2
  obtain ⟨A', c', rfl, hkc, hA'⟩ := evs_open hvb
  have HVB := Lib.hid hvb
  have HA' := Lib.hid hA'
  have hkl := mixE_len n l
  rw [HM.out] at hkl
  obtain ⟨K, hK⟩ := name_of (mixE n l).length
  rw [hK] at hkl hkc ⊢
  have HK := Lib.hid hK
  have hK2 : K ≤ 1020 := by rw [hkl]; exact Nat.mul_le_mul hl (show n + 1 ≤ 17 by omega)
  have hmul : (m : Int) * ((n : Int) + 1) = (K : Int) := by rw [hkl, Int.natCast_mul]; rfl
  have HKL := Lib.hid hkl
  clear hM hvb hA' hkl hK hb2 hb1
  go_wp2_with fail
  go_loopw [11] (fun i wr => ∃ k : Nat, k ≤ K ∧ i = .int .i64 k ∧ Below w2.heap.size w2 wr) (fun i _ => K - (intOf i).toNat)
  case atStart => exact ⟨0, Nat.zero_le _, rfl, Below.refl _ _⟩
  case round =>
    obtain ⟨k, hk, rfl, hBr⟩ := hrel
    by_cases hlt : k < K
    · obtain ⟨bl, off, rfl, hbl, q0, q1⟩ := HA'.out k (by rw [HK.out]; exact hlt)
      have hat := mixE_at (n := n) (l := l) (i := k) (by rw [HM.out, ← HKL.out]; exact hlt)
      have hq := Nat.div_lt_of_lt_mul (m := k) (n := n + 1) (k := m) (by rw [Nat.mul_comm, ← HKL.out]; exact hlt)
      have hr16 : k % (n + 1) < n + 1 := Nat.mod_lt _ (by omega)
      obtain ⟨r1, r2⟩ := mod_nat k (n + 1)
      obtain ⟨d1, d2⟩ := quo_nat k (n + 1)
      rw [show ((n + 1 : Nat) : Int) = (n : Int) + 1 by omega] at r1 r2 d1 d2
      obtain ⟨r, hr⟩ := name_of (k % (n + 1))
      obtain ⟨d, hd⟩ := name_of (k / (n + 1))
      rw [hr] at r1 r2 hat hr16
      rw [hd] at d1 d2 hat hq
      obtain ⟨b2, off2, hA2, hb2lt, p0, p1⟩ := HA.out d (by rw [HM.out]; exact hq)
      obtain ⟨⟨xk, xn⟩, hx⟩ := name_of (at_ (mixE n l) k)
      rw [hx] at q0 q1 hat
      dsimp only at q0 q1
      have hBa := hBr.alloc hBr.size (.cells #[.int .i64 0, .int .i64 ((r : Int) - 1)] 24)
      have c0 := (hBa.cell (p := ⟨bl, _, none⟩) hbl).trans q0
      have c1 := (hBa.cell (p := ⟨bl, _, none⟩) hbl).trans q1
      have e0 := ((hB2.next hBa).cell (p := ⟨b2, _, none⟩) hb2lt).trans p0
      have e1 := ((hB2.next hBa).cell (p := ⟨b2, _, none⟩) hb2lt).trans p1
      subst hA2
      have hnq := fun W => neq_ev_self xk xn W
      clear p0 p1 hr hd hx
      by_cases hr0 : r = 0
      · rw [if_pos hr0] at hat
        have z0 : ((r : Int) == 0) = true := by simpa using hr0
        obtain ⟨⟨yk, yn⟩, hy⟩ := name_of (at_ l d)
        rw [hy] at hat e0 e1
        injection hat with a1 a2
        subst a1 a2
        dsimp only at e0 e1
        have hBb := hBr.alloc hBr.size (.cells #[.int .i64 xk, .int .i64 xn] 24)
        have k0 := (hBb.cell (p := ⟨bl, _, none⟩) hbl).trans q0
        have k1 := (hBb.cell (p := ⟨bl, _, none⟩) hbl).trans q1
        clear hy hr0 q0 q1
        go_wp2_with (refine wpList_store_new rfl 24 24 (.tmp 12) (.tmp 99) rfl #[.int .i64 0, .int .i64 ((r : Int) - 1)] #[.int .i64 xk, .int .i64 xn] wr.heap.size rfl rfl rfl (by kernel_rfl) rfl rfl ?_)
        go_quiet (fail)
        go_wp2_with fail
        exact ⟨⟨k + 1, hlt, by go_num, hBb.next (below_drewn _)⟩, by simp [intOf]; omega⟩
      · rw [if_neg hr0] at hat
        have z0 : ((r : Int) == 0) = false := by simpa using hr0
        injection hat with a1 a2
        subst a1 a2
        clear hr0 q0 q1
        go_wp2_with fail
        go_quiet (fail)
        go_wp2_with fail
        exact ⟨⟨k + 1, hlt, by go_num, hBa.next (below_drewn _)⟩, by simp [intOf]; omega⟩
    · obtain rfl : k = K := by omega
      have hBw := hB2.next hBr
      have hEV : Evs wr (.slice A' k c') (mixE n l) := ⟨(by have := HVB.out.next hBr; rwa [HK.out] at this), mixE_wf hn2 HE.out.wf⟩
      rcases Nat.eq_zero_or_pos m with hm0 | hm0
      · have hW := window_none hEV (n : Int) (.inr (by rw [HK.out, HKL.out, hm0, Nat.zero_mul]; omega))
        have y1 : decide (0 < m) = false := by simp; omega
        have y2 : decide (0 < (m : Int)) = false := by simp; omega
        clear hEV hm0
        go_wp2_with fail
        refine hW.mono ?_
        rintro e w3 ⟨rfl, hb3⟩
        have hB3 := hBw.next hb3
        clear hW
        go_wp2_with fail
        have hAw := awake_any w3 (HP.out.next hB3)
        refine hAw.mono ?_
        rintro e wz ⟨rfl, hbz⟩
        go_wp2_with fail
        go_ret
        exact ⟨rfl, (hB3).next hbz⟩
      · have hne : l ≠ [] := fun e => by have := HM.out; rw [e] at this; simp at this; omega
        obtain ⟨k1, k2, k3⟩ := window_mix (n := n) hn1 hne
        have hnK : n ≤ k := by rw [HKL.out]; exact Nat.le_trans (Nat.le_succ n) (Nat.le_mul_of_pos_left _ hm0)
        have hW := window_some hEV (by rw [HK.out]; omega) n hn1 (by rw [HK.out]; exact hnK)
        obtain ⟨G, hG⟩ := name_of (windowT (mixE n l) n)
        rw [hG] at k1 k2 k3 hW
        obtain ⟨g, rfl⟩ := Int.eq_ofNat_of_zero_le (show 0 ≤ G by omega)
        have y1 : decide (0 < m) = true := by simpa using hm0
        have y2 : decide (0 < (m : Int)) = true := by simp; omega
        have y3 : decide (g < n) = false := by simp; omega
        have y4 : decide ((n : Int) + 1 < (g : Int)) = false := by simp; omega
        have y5 : decide (n + 1 < g) = false := by simp; omega
        have HG3 := Lib.hid k3
        clear hEV hm0 hne hG k3
        go_wp2_with fail
        refine hW.mono ?_
        rintro e w3 ⟨rfl, hb3⟩
        have hB3 := hBw.next hb3
        have hPk := picks_any (HE.out.next hB3) (by rw [HM.out]; omega)
        clear hW
        go_wp2_with fail
        refine hPk.mono ?_
        rintro e w4 ⟨⟨vp, rfl, hvp⟩, hb4⟩
        have hB4 := hB3.next hb4
        obtain ⟨Ap, cp, rfl, -, -⟩ := zv_open hvp
        obtain ⟨pl, hpl⟩ := name_of (pk l).length
        rw [hpl]
        by_cases hp0 : pl = 0
        · subst hp0
          have hgn : n = g := by have := HG3.out (List.eq_nil_of_length_eq_zero hpl); omega
          subst hgn
          clear hPk hvp y3 y4 y5 k1 k2
          have hAw := awake_any w4 (HP.out.next hB4)
          go_wp2_with fail
          refine hAw.mono ?_
          rintro e wz ⟨rfl, hbz⟩
          go_wp2_with fail
          go_ret
          exact ⟨rfl, (hB4).next hbz⟩
        · have z0 : ((pl : Int) == 0) = false := by simpa using hp0
          clear hPk hvp hp0
          have hAw := awake_any w4 (HP.out.next hB4)
          go_wp2_with fail
          refine hAw.mono ?_
          rintro e wz ⟨rfl, hbz⟩
          go_wp2_with fail
          go_ret
          exact ⟨rfl, (hB4).next hbz⟩

set_option maxRecDepth 100000 in
set_option maxHeartbeats 16000000 in
theorem turns_small {w : World} {v : Value} {l : List Ev} (hE : Evs w v l) (hp : Lab w) (n : Nat) (t : Nat) (hl : l.length ≤ 60) (hn1 : 1 ≤ n) (hn2 : n ≤ 16) (h60 : t ≤ 60) :
    Calls Tryd.prog 9 #[.int .i64 n, .int .i64 t, v] w fun e w' => e = .returned (.bool true) ∧ Below w.heap.size w w' := by
  have htq : t ≤ 65536 / n := Nat.le_trans (show t ≤ 4096 by omega) ((Nat.le_div_iff_mul_le (by omega)).2 (by omega))
  have hR := rounds_ok (w := w) n t hn1 hn2 htq
  obtain ⟨dq1, dq2⟩ := div_nat n
  have hqb : 65536 / n ≤ 65536 := Nat.div_le_self _ _
  have g2 : decide (60 < (t : Int)) = false := by simp; omega
  have g4 : decide ((t : Int) < 0) = false := by simp
  have HE := Lib.hid hE
  have HP := Lib.hid hp
  obtain ⟨A, c, rfl, hnc, hA⟩ := evs_open hE.sl
  have HA := Lib.hid hA
  obtain ⟨m, hm⟩ := name_of l.length
  rw [hm] at hnc hl HE ⊢
  have HM := Lib.hid hm
  clear hE hp hm hA
  have f1 : decide (60 < (m : Int)) = false := by simp; omega
  have g1 : decide ((n : Int) < 1) = false := by simp; omega
  have g0 : decide (16 < (n : Int)) = false := by simp; omega
  go_enter Tryd.func9, Tryd.ntmps9
  go_wp2_with fail
  refine hR.mono ?_
  rintro e w1 ⟨⟨va, rfl, hva⟩, hb1⟩
  have hM := mixed_ok (HE.out.next hb1) n hn1 hn2 (by rw [HM.out]; exact hl)
  obtain ⟨Aa, ca, rfl, hac, hAa⟩ := evs_open hva
  have HVA := Lib.hid hva
  have HAa := Lib.hid hAa
  have hLt := roundsE_len n t
  obtain ⟨L, hL⟩ := name_of (roundsE n t).length
  rw [hL] at hLt hac ⊢
  have HL := Lib.hid hL
  have HLT := Lib.hid hLt
  have hL65 : L ≤ 65536 := by rw [hLt]; exact Nat.le_trans (Nat.mul_le_mul_right n htq) (Nat.div_mul_le_self _ _)
  have hmulT : (n : Int) * (t : Int) = (L : Int) := by rw [hLt, Int.natCast_mul, Int.mul_comm]
  clear hva hAa hLt hL
  obtain ⟨qq, hqq⟩ := name_of (65536 / n)
  rw [hqq] at dq1 dq2 htq hqb
  have g5 : decide ((qq : Int) < (t : Int)) = false := by simp; omega
  have g6 : decide (qq < t) = false := by simp; omega
  clear hqq
  clear hR
  go_wp2_with fail
  refine hM.mono ?_
  rintro e w2 ⟨⟨vb, rfl, hvb⟩, hb2⟩
  have hB2 := hb1.next hb2
  obtain ⟨A', c', rfl, hkc, hA'⟩ := evs_open hvb
  have HVB := Lib.hid hvb
  have HA' := Lib.hid hA'
  have hkl := mixE_len n l
  rw [HM.out] at hkl
  obtain ⟨K, hK⟩ := name_of (mixE n l).length
  rw [hK] at hkl hkc ⊢
  have HK := Lib.hid hK
  have hK2 : K ≤ 1020 := by rw [hkl]; exact Nat.mul_le_mul hl (show n + 1 ≤ 17 by omega)
  have hmul : (m : Int) * ((n : Int) + 1) = (K : Int) := by rw [hkl, Int.natCast_mul]; rfl
  have HKL := Lib.hid hkl
  clear hM hvb hA' hkl hK hb1
  go_wp2_with fail
  go_loopw [11] (fun i wr => ∃ k : Nat, k ≤ K ∧ i = .int .i64 k ∧ Below w2.heap.size w2 wr) (fun i _ => K - (intOf i).toNat)
  case atStart => exact ⟨0, Nat.zero_le _, rfl, Below.refl _ _⟩
  case round =>
    obtain ⟨k, hk, rfl, hBr⟩ := hrel
    by_cases hlt : k < K
    · obtain ⟨bl, off, rfl, hbl, q0, q1⟩ := HA'.out k (by rw [HK.out]; exact hlt)
      have hat := mixE_at (n := n) (l := l) (i := k) (by rw [HM.out, ← HKL.out]; exact hlt)
      have hq := Nat.div_lt_of_lt_mul (m := k) (n := n + 1) (k := m) (by rw [Nat.mul_comm, ← HKL.out]; exact hlt)
      have hr16 : k % (n + 1) < n + 1 := Nat.mod_lt _ (by omega)
      obtain ⟨r1, r2⟩ := mod_nat k (n + 1)
      obtain ⟨d1, d2⟩ := quo_nat k (n + 1)
      rw [show ((n + 1 : Nat) : Int) = (n : Int) + 1 by omega] at r1 r2 d1 d2
      obtain ⟨r, hr⟩ := name_of (k % (n + 1))
      obtain ⟨d, hd⟩ := name_of (k / (n + 1))
      rw [hr] at r1 r2 hat hr16
      rw [hd] at d1 d2 hat hq
      obtain ⟨b2, off2, hA2, hb2lt, p0, p1⟩ := HA.out d (by rw [HM.out]; exact hq)
      obtain ⟨⟨xk, xn⟩, hx⟩ := name_of (at_ (mixE n l) k)
      rw [hx] at q0 q1 hat
      dsimp only at q0 q1
      have hBa := hBr.alloc hBr.size (.cells #[.int .i64 0, .int .i64 ((r : Int) - 1)] 24)
      have c0 := (hBa.cell (p := ⟨bl, _, none⟩) hbl).trans q0
      have c1 := (hBa.cell (p := ⟨bl, _, none⟩) hbl).trans q1
      have e0 := ((hB2.next hBa).cell (p := ⟨b2, _, none⟩) hb2lt).trans p0
      have e1 := ((hB2.next hBa).cell (p := ⟨b2, _, none⟩) hb2lt).trans p1
      subst hA2
      have hnq := fun W => neq_ev_self xk xn W
      clear p0 p1 hr hd hx
      by_cases hr0 : r = 0
      · rw [if_pos hr0] at hat
        have z0 : ((r : Int) == 0) = true := by simpa using hr0
        obtain ⟨⟨yk, yn⟩, hy⟩ := name_of (at_ l d)
        rw [hy] at hat e0 e1
        injection hat with a1 a2
        subst a1 a2
        dsimp only at e0 e1
        have hBb := hBr.alloc hBr.size (.cells #[.int .i64 xk, .int .i64 xn] 24)
        have k0 := (hBb.cell (p := ⟨bl, _, none⟩) hbl).trans q0
        have k1 := (hBb.cell (p := ⟨bl, _, none⟩) hbl).trans q1
        clear hy hr0 q0 q1
        go_wp2_with (refine wpList_store_new rfl 24 24 (.tmp 12) (.tmp 99) rfl #[.int .i64 0, .int .i64 ((r : Int) - 1)] #[.int .i64 xk, .int .i64 xn] wr.heap.size rfl rfl rfl (by kernel_rfl) rfl rfl ?_)
        go_quiet (fail)
        go_wp2_with fail
        exact ⟨⟨k + 1, hlt, by go_num, hBb.next (below_drewn _)⟩, by simp [intOf]; omega⟩
      · rw [if_neg hr0] at hat
        have z0 : ((r : Int) == 0) = false := by simpa using hr0
        injection hat with a1 a2
        subst a1 a2
        clear hr0 q0 q1
        go_wp2_with fail
        go_quiet (fail)
        go_wp2_with fail
        exact ⟨⟨k + 1, hlt, by go_num, hBa.next (below_drewn _)⟩, by simp [intOf]; omega⟩
    · obtain rfl : k = K := by omega
      have hBw := hB2.next hBr
      have hEV : Evs wr (.slice A' k c') (mixE n l) := ⟨(by have := HVB.out.next hBr; rwa [HK.out] at this), mixE_wf hn2 HE.out.wf⟩
      rcases Nat.eq_zero_or_pos m with hm0 | hm0
      · have hW := window_none hEV (n : Int) (.inr (by rw [HK.out, HKL.out, hm0, Nat.zero_mul]; omega))
        have y1 : decide (0 < m) = false := by simp; omega
        have y2 : decide (0 < (m : Int)) = false := by simp; omega
        clear hEV hm0
        go_wp2_with fail
        refine hW.mono ?_
        rintro e w3 ⟨rfl, hb3⟩
        have hB3 := hBw.next hb3
        have h13 := (hb2.next hBr).next hb3
        clear hW
        go_wp2_with fail
        go_loopw [14] (fun i wr => ∃ j : Nat, j ≤ L ∧ i = .int .i64 j ∧ Below w3.heap.size w3 wr) (fun i _ => L - (intOf i).toNat)
        case atStart => exact ⟨0, Nat.zero_le _, rfl, Below.refl _ _⟩
        case round =>
          obtain ⟨j, hj, rfl, hBj⟩ := hrel
          by_cases hlj : j < L
          · obtain ⟨ba, oa, rfl, hba, q0, q1⟩ := HAa.out j (by rw [HL.out]; exact hlj)
            have hat := roundsE_at (n := n) (t := t) (i := j) hn1 (by rw [← HLT.out]; exact hlj)
            rw [hat] at q0 q1
            dsimp only at q0 q1
            obtain ⟨r1, r2⟩ := mod_nat j n
            have hrn : j % n < n := Nat.mod_lt _ (by omega)
            obtain ⟨r, hr⟩ := name_of (j % n)
            rw [hr] at r1 r2 q1 hrn
            have c0 := ((h13.next hBj).cell (p := ⟨ba, _, none⟩) hba).trans q0
            have c1 := ((h13.next hBj).cell (p := ⟨ba, _, none⟩) hba).trans q1
            have hnq := fun W => neq_ev_self 0 (r : Int) W
            clear q0 q1 hr hat
            go_wp2_with fail
            go_quiet (fail)
            go_wp2_with fail
            exact ⟨⟨j + 1, hlj, by go_num, hBj.next (below_drewn _)⟩, by simp [intOf]; omega⟩
          · obtain rfl : j = L := by omega
            rename World => wj
            have hBwj := hB3.next hBj
            have hEa : Evs wj (.slice Aa j ca) (roundsE n t) := ⟨(by have := HVA.out.next (h13.next hBj); rwa [HL.out] at this), roundsE_wf hn2⟩
            rcases Nat.eq_zero_or_pos t with ht0 | ht0
            · have x1 : ((t : Int) == 0) = true := by simp [ht0]
              have hAw := awake_any wj (HP.out.next hBwj)
              clear ht0 hEa
              go_wp2_with fail
              refine hAw.mono ?_
              rintro e wz ⟨rfl, hbz⟩
              go_wp2_with fail
              go_ret
              exact ⟨rfl, hBwj.next hbz⟩
            · have x1 : ((t : Int) == 0) = false := by rw [beq_eq_false_iff_ne]; omega
              have hnj : n ≤ j := by rw [HLT.out]; exact Nat.le_mul_of_pos_left _ ht0
              have hWa := window_some hEa (by rw [HL.out]; omega) n hn1 (by rw [HL.out]; exact hnj)
              rw [window_rounds hn1 ht0] at hWa
              clear ht0 hEa
              go_wp2_with fail
              refine hWa.mono ?_
              rintro e wy ⟨rfl, hby⟩
              have hBy := hBwj.next hby
              have hAw := awake_any wy (HP.out.next hBy)
              clear hWa
              go_wp2_with fail
              refine hAw.mono ?_
              rintro e wz ⟨rfl, hbz⟩
              go_wp2_with fail
              go_ret
              exact ⟨rfl, hBy.next hbz⟩
      · have hne : l ≠ [] := fun e => by have := HM.out; rw [e] at this; simp at this; omega
        obtain ⟨k1, k2, k3⟩ := window_mix (n := n) hn1 hne
        have hnK : n ≤ k := by rw [HKL.out]; exact Nat.le_trans (Nat.le_succ n) (Nat.le_mul_of_pos_left _ hm0)
        have hW := window_some hEV (by rw [HK.out]; omega) n hn1 (by rw [HK.out]; exact hnK)
        obtain ⟨G, hG⟩ := name_of (windowT (mixE n l) n)
        rw [hG] at k1 k2 k3 hW
        obtain ⟨g, rfl⟩ := Int.eq_ofNat_of_zero_le (show 0 ≤ G by omega)
        have y1 : decide (0 < m) = true := by simpa using hm0
        have y2 : decide (0 < (m : Int)) = true := by simp; omega
        have y3 : decide (g < n) = false := by simp; omega
        have y4 : decide ((n : Int) + 1 < (g : Int)) = false := by simp; omega
        have y5 : decide (n + 1 < g) = false := by simp; omega
        have HG3 := Lib.hid k3
        clear hEV hm0 hne hG k3
        go_wp2_with fail
        refine hW.mono ?_
        rintro e w3 ⟨rfl, hb3⟩
        have hB3 := hBw.next hb3
        have h13 := (hb2.next hBr).next hb3
        have hPk := picks_any (HE.out.next hB3) (by rw [HM.out]; omega)
        clear hW
        go_wp2_with fail
        refine hPk.mono ?_
        rintro e w4 ⟨⟨vp, rfl, hvp⟩, hb4⟩
        have hB4 := hB3.next hb4
        have h14 := h13.next hb4
        obtain ⟨Ap, cp, rfl, -, -⟩ := zv_open hvp
        obtain ⟨pl, hpl⟩ := name_of (pk l).length
        rw [hpl]
        by_cases hp0 : pl = 0
        · subst hp0
          have hgn : n = g := by have := HG3.out (List.eq_nil_of_length_eq_zero hpl); omega
          subst hgn
          clear hPk hvp y3 y4 y5 k1 k2
          go_wp2_with fail
          go_loopw [14] (fun i wr => ∃ j : Nat, j ≤ L ∧ i = .int .i64 j ∧ Below w4.heap.size w4 wr) (fun i _ => L - (intOf i).toNat)
          case atStart => exact ⟨0, Nat.zero_le _, rfl, Below.refl _ _⟩
          case round =>
            obtain ⟨j, hj, rfl, hBj⟩ := hrel
            by_cases hlj : j < L
            · obtain ⟨ba, oa, rfl, hba, q0, q1⟩ := HAa.out j (by rw [HL.out]; exact hlj)
              have hat := roundsE_at (n := n) (t := t) (i := j) hn1 (by rw [← HLT.out]; exact hlj)
              rw [hat] at q0 q1
              dsimp only at q0 q1
              obtain ⟨r1, r2⟩ := mod_nat j n
              have hrn : j % n < n := Nat.mod_lt _ (by omega)
              obtain ⟨r, hr⟩ := name_of (j % n)
              rw [hr] at r1 r2 q1 hrn
              have c0 := ((h14.next hBj).cell (p := ⟨ba, _, none⟩) hba).trans q0
              have c1 := ((h14.next hBj).cell (p := ⟨ba, _, none⟩) hba).trans q1
              have hnq := fun W => neq_ev_self 0 (r : Int) W
              clear q0 q1 hr hat
              go_wp2_with fail
              go_quiet (fail)
              go_wp2_with fail
              exact ⟨⟨j + 1, hlj, by go_num, hBj.next (below_drewn _)⟩, by simp [intOf]; omega⟩
            · obtain rfl : j = L := by omega
              rename World => wj
              have hBwj := hB4.next hBj
              have hEa : Evs wj (.slice Aa j ca) (roundsE n t) := ⟨(by have := HVA.out.next (h14.next hBj); rwa [HL.out] at this), roundsE_wf hn2⟩
              rcases Nat.eq_zero_or_pos t with ht0 | ht0
              · have x1 : ((t : Int) == 0) = true := by simp [ht0]
                have hAw := awake_any wj (HP.out.next hBwj)
                clear ht0 hEa
                go_wp2_with fail
                refine hAw.mono ?_
                rintro e wz ⟨rfl, hbz⟩
                go_wp2_with fail
                go_ret
                exact ⟨rfl, hBwj.next hbz⟩
              · have x1 : ((t : Int) == 0) = false := by rw [beq_eq_false_iff_ne]; omega
                have hnj : n ≤ j := by rw [HLT.out]; exact Nat.le_mul_of_pos_left _ ht0
                have hWa := window_some hEa (by rw [HL.out]; omega) n hn1 (by rw [HL.out]; exact hnj)
                rw [window_rounds hn1 ht0] at hWa
                clear ht0 hEa
                go_wp2_with fail
                refine hWa.mono ?_
                rintro e wy ⟨rfl, hby⟩
                have hBy := hBwj.next hby
                have hAw := awake_any wy (HP.out.next hBy)
                clear hWa
                go_wp2_with fail
                refine hAw.mono ?_
                rintro e wz ⟨rfl, hbz⟩
                go_wp2_with fail
                go_ret
                exact ⟨rfl, hBy.next hbz⟩
        · have z0 : ((pl : Int) == 0) = false := by simpa using hp0
          clear hPk hvp hp0
          go_wp2_with fail
          go_loopw [14] (fun i wr => ∃ j : Nat, j ≤ L ∧ i = .int .i64 j ∧ Below w4.heap.size w4 wr) (fun i _ => L - (intOf i).toNat)
          case atStart => exact ⟨0, Nat.zero_le _, rfl, Below.refl _ _⟩
          case round =>
            obtain ⟨j, hj, rfl, hBj⟩ := hrel
            by_cases hlj : j < L
            · obtain ⟨ba, oa, rfl, hba, q0, q1⟩ := HAa.out j (by rw [HL.out]; exact hlj)
              have hat := roundsE_at (n := n) (t := t) (i := j) hn1 (by rw [← HLT.out]; exact hlj)
              rw [hat] at q0 q1
              dsimp only at q0 q1
              obtain ⟨r1, r2⟩ := mod_nat j n
              have hrn : j % n < n := Nat.mod_lt _ (by omega)
              obtain ⟨r, hr⟩ := name_of (j % n)
              rw [hr] at r1 r2 q1 hrn
              have c0 := ((h14.next hBj).cell (p := ⟨ba, _, none⟩) hba).trans q0
              have c1 := ((h14.next hBj).cell (p := ⟨ba, _, none⟩) hba).trans q1
              have hnq := fun W => neq_ev_self 0 (r : Int) W
              clear q0 q1 hr hat
              go_wp2_with fail
              go_quiet (fail)
              go_wp2_with fail
              exact ⟨⟨j + 1, hlj, by go_num, hBj.next (below_drewn _)⟩, by simp [intOf]; omega⟩
            · obtain rfl : j = L := by omega
              rename World => wj
              have hBwj := hB4.next hBj
              have hEa : Evs wj (.slice Aa j ca) (roundsE n t) := ⟨(by have := HVA.out.next (h14.next hBj); rwa [HL.out] at this), roundsE_wf hn2⟩
              rcases Nat.eq_zero_or_pos t with ht0 | ht0
              · have x1 : ((t : Int) == 0) = true := by simp [ht0]
                have hAw := awake_any wj (HP.out.next hBwj)
                clear ht0 hEa
                go_wp2_with fail
                refine hAw.mono ?_
                rintro e wz ⟨rfl, hbz⟩
                go_wp2_with fail
                go_ret
                exact ⟨rfl, hBwj.next hbz⟩
              · have x1 : ((t : Int) == 0) = false := by rw [beq_eq_false_iff_ne]; omega
                have hnj : n ≤ j := by rw [HLT.out]; exact Nat.le_mul_of_pos_left _ ht0
                have hWa := window_some hEa (by rw [HL.out]; omega) n hn1 (by rw [HL.out]; exact hnj)
                rw [window_rounds hn1 ht0] at hWa
                clear ht0 hEa
                go_wp2_with fail
                refine hWa.mono ?_
                rintro e wy ⟨rfl, hby⟩
                have hBy := hBwj.next hby
                have hAw := awake_any wy (HP.out.next hBy)
                clear hWa
                go_wp2_with fail
                refine hAw.mono ?_
                rintro e wz ⟨rfl, hbz⟩
                go_wp2_with fail
                go_ret
                exact ⟨rfl, hBy.next hbz⟩

set_option maxRecDepth 10000 in
set_option maxHeartbeats 4000000 in
theorem scriptTurns_any {w : World} {v : Value} {l : List Ev} (hE : Evs w v l) (hp : Lab w) (n t : Int) :
    Calls Tryd.prog 9 #[.int .i64 n, .int .i64 t, v] w fun e w' => e = .returned (.bool true) ∧ Below w.heap.size w w' := by
  by_cases hout : (60 < t ∧ t ≤ 4096) ∨ 60 < l.length
  · have hAw := awake_any w hp
    obtain ⟨A, c, rfl, -⟩ := evs_open hE.sl
    obtain ⟨m, hm⟩ := name_of l.length
    rw [hm] at hout ⊢
    clear hE hp hm
    by_cases h1 : 60 < t
    · have g1 : decide (60 < t) = true := by simpa using h1
      by_cases h2 : t ≤ 4096
      · have g2 : decide (t ≤ 4096) = true := by simpa using h2
        clear hout h1 h2
        go_enter Tryd.func9, Tryd.ntmps9
        go_wp2_with fail
        refine hAw.mono ?_
        rintro e w1 ⟨rfl, hb1⟩
        go_wp2_with fail
        go_ret
        exact ⟨rfl, hb1⟩
      · have g2 : decide (t ≤ 4096) = false := by simpa using h2
        have g3 : decide (60 < (m : Int)) = true := by simp; omega
        clear hout h1 h2
        go_enter Tryd.func9, Tryd.ntmps9
        go_wp2_with fail
        refine hAw.mono ?_
        rintro e w1 ⟨rfl, hb1⟩
        go_wp2_with fail
        go_ret
        exact ⟨rfl, hb1⟩
    · have g1 : decide (60 < t) = false := by simpa using h1
      have g3 : decide (60 < (m : Int)) = true := by simp; omega
      clear hout h1
      go_enter Tryd.func9, Tryd.ntmps9
      go_wp2_with fail
      refine hAw.mono ?_
      rintro e w1 ⟨rfl, hb1⟩
      go_wp2_with fail
      go_ret
      exact ⟨rfl, hb1⟩
  · by_cases hn : n < 1 ∨ 16 < n
    · exact turns_bad hE hp n t (by omega) (by omega) hn
    · obtain ⟨N, rfl⟩ := Int.eq_ofNat_of_zero_le (show 0 ≤ n by omega)
      by_cases ht : t < 0
      · exact turns_neg hE hp N t (by omega) (by omega) (by omega) ht
      · obtain ⟨T, rfl⟩ := Int.eq_ofNat_of_zero_le (show 0 ≤ t by omega)
        by_cases h60 : T ≤ 60
        · exact turns_small hE hp N T (by omega) (by omega) (by omega) h60
        · by_cases hq : T ≤ 65536 / N
          · exact turns_big hE hp N T (by omega) (by omega) (by omega) (by omega) hq
          · exact turns_long hE hp N T (by omega) (by omega) (by omega) (by omega)
end P21
end Go.Proofs.YtkobmoabnnjejaaDoor
