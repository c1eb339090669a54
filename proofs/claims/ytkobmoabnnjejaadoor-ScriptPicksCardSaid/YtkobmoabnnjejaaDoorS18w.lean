/- Walk: ScriptPicks. -/
import Derived.Test.YtkobmoabnnjejaaDoorS18p
import Derived.Test.YtkobmoabnnjejaaDoorS9
import Derived.ChangeKeysEq
namespace Go.Proofs.YtkobmoabnnjejaaDoor
open Go.RowKit
namespace P21
open PC

theorem neq_pair_self (a b : Int) (w : World) : (binOp .neq 50 (.agg #[.int .i64 a, .int .i64 b]) (.agg #[.int .i64 a, .int .i64 b])).run Tryd.prog w = .ok (.bool false) w := by
  obtain ⟨i, hi, -⟩ := info_parts info_i64
  have hc : Tryd.prog.cellsOf 2 = 1 := by kernel_rfl
  have hi2 : ∀ (x y : Int) w, (Op.equalIn 9999 2 (.int .i64 x) (.int .i64 y)).run Tryd.prog w = .ok (x == y) w := fun x y w => run_equalIn_int w 9998 _ .i64 .i64 x y Tryd.underlying2
  have p1 : ∀ (cs : Array Value) (k : Nat) (v : Value) w, cs[k]? = some v → (part 2 cs k).run Tryd.prog w = .ok v w := by
    intro cs k v w h
    simp [part, h]
  rw [run_neq_struct, run_equalIn_array w 9999 _ _ Tryd.underlying50 hi, hc]
  rw [show List.range 2 = [0, 1] from rfl]
  simp [Op.eqItems, p1, hi2]
theorem pairs_open {w : World} {B : Nat} {v : Value} {l : List (Nat × Int)} (h : Sl w B 2 v (pairsC l)) : ∃ A c, v = .slice A l.length c ∧ l.length ≤ c ∧ ∀ k (hk : k < l.length), ∃ b off, A = some ⟨b, off, none⟩ ∧ b < B ∧ w.cell? ⟨b, off + k * 2, none⟩ = some (.int .i64 (l[k].1 : Int)) ∧ w.cell? ⟨b, off + k * 2 + 1, none⟩ = some (.int .i64 l[k].2) := by
  obtain ⟨A, n, c, rfl, hnc, hn, hA⟩ := h
  rw [pairsC_len] at hn
  have hnl : n = l.length := by omega
  subst hnl
  refine ⟨A, c, rfl, hnc, fun k hk => ?_⟩
  obtain ⟨b, off, rfl, hb, hr⟩ := hA (by omega)
  have hg : ∀ j, j < 2 → (pairsC l)[k * 2 + j]? = (pairC l[k])[j]? := fun j hj => by
    unfold pairsC
    rw [flat_get pairC 2 (fun _ => rfl) l k j hj, List.getElem?_eq_getElem hk]; rfl
  have hc : ∀ j u, j < 2 → (pairC l[k])[j]? = some u → w.cell? ⟨b, off + k * 2 + j, none⟩ = some u := fun j u hj hu => by
    rw [Nat.add_assoc]; exact hr (k * 2 + j) u ((hg j hj).trans hu)
  exact ⟨b, off, rfl, hb, hc 0 _ (by omega) rfl, hc 1 _ (by omega) rfl⟩
theorem picksTo_hit {l : List Ev} {k n : Nat} (hk : k < n) (h : (at_ l k).k = 0) : (picksTo l n)[(picksTo l k).length]? = some (k, (at_ l k).n) := by
  obtain ⟨t, ht⟩ := picksTo_mono l (show k + 1 ≤ n by omega)
  rw [← ht, picksTo_succ, if_pos h, List.append_assoc, List.getElem?_append_right (Nat.le_refl _), Nat.sub_self]
  rfl
theorem calmT_succ {l : List Ev} {k : Nat} : calmT l (k + 1) ↔ calmT l k ∧ (at_ l k).k ≠ 1 ∧ (at_ l k).k ≠ 3 := by
  constructor
  · intro h
    exact ⟨fun j hj => h j (by omega), h k (by omega)⟩
  · rintro ⟨h1, h2⟩ j hj
    by_cases e : j = k
    · subst e; exact h2
    · exact h1 j (by omega)
/-- The round's state: how many picks, and whether calm. -/
def SpR (l : List Ev) (n : Nat) (w : World) (at_ calm i : Value) (wr : World) : Prop := ∃ (k q : Nat) (b : Bool), k ≤ n ∧ i = .int .i64 k ∧ at_ = .int .i64 ((picksTo l k).length : Nat) ∧ calm = .bool b ∧ (b = true ↔ calmT l k) ∧ wr = w.drewN q
set_option maxRecDepth 100000 in
set_option maxHeartbeats 8000000 in
theorem scriptPicks_any {w : World} {v : Value} {l : List Ev} (hE : Evs w v l) (hp : Lab w) (n : Int) :
    Calls Tryd.prog 8 #[v, .int .i64 n] w fun e w' => e = .returned (.bool true) ∧ Below w.heap.size w w' := by
  have HE := Lib.hid hE
  have HP := Lib.hid hp
  obtain ⟨A, c, rfl, hnc, hA⟩ := evs_open hE.sl
  have HA := Lib.hid hA
  obtain ⟨m, hm⟩ := name_of l.length
  rw [hm] at hnc HE ⊢
  have HM := Lib.hid hm
  clear hE hp hm hA
  by_cases hbig : 200 < m
  · have f1 : decide (200 < (m : Int)) = true := by simp; omega
    have hAw := awake_any w HP.out
    go_enter Tryd.func8, Tryd.ntmps8
    go_wp2_with fail
    refine hAw.mono ?_
    rintro e w1 ⟨rfl, hb1⟩
    go_wp2_with fail
    go_ret
    exact ⟨rfl, hb1⟩
  · have f1 : decide (200 < (m : Int)) = false := by simp; omega
    have hm200 : m ≤ 200 := by omega
    have hPk : ∀ W, Calls Tryd.prog 23 #[.slice A m c] W fun e w' => e = .returned (.func (.func 37) #[] #[.pointer (some ⟨W.heap.size, 0, none⟩)]) ∧ w' = W.alloc (.cells #[.slice A m c] 22) := fun W => (callsIn_wide (n := 1)).1 (picks_in Fence.wide 1 trivial rfl A m c W)
    have hPr : ∀ W, Below w.heap.size w W → ∀ q : Nat, 1 ≤ q → q ≤ 100000 → Calls Tryd.prog 22 #[.func (.func 37) #[] #[.pointer (some ⟨W.heap.size, 0, none⟩)], .int .i64 q] (W.alloc (.cells #[.slice A m c] 22)) (PairsPost (W.alloc (.cells #[.slice A m c] 22)) ((picksTo l l.length).take q)) := fun W hW q h1 h2 =>
      pairs_any (w := W.alloc (.cells #[.slice A m c] 22)) (by simp) (by rw [World.cell?_alloc_at _ _ _ _ rfl]; rfl) ((HE.out.next hW).sl.next (by go_grown)) (by rw [HM.out]; omega) q h1 h2
    have HPR := Lib.hid hPr
    clear hbig hPr
    have hp1 := HPR.out w (Below.refl _ _) 300 (by omega) (by omega)
    have hpl0 := picksTo_len l l.length
    rw [List.take_of_length_le (by have := HM.out; omega), show ((300 : Nat) : Int) = 300 from rfl] at hp1
    obtain ⟨PP, hPP⟩ := name_of (picksTo l l.length)
    rw [hPP] at hp1 hpl0
    rw [HM.out] at hpl0
    have HPP : Hid (picksTo l m = PP) := Lib.hid (by rw [← HM.out]; exact hPP)
    have HPP2 := Lib.hid hPP
    clear hPP
    have hP1 := hPk w
    have hB1 : Below w.heap.size w (w.alloc (.cells #[.slice A m c] 22)) := by go_grown
    go_enter Tryd.func8, Tryd.ntmps8
    go_wp2_with fail
    refine hP1.mono ?_
    rintro e w1 ⟨rfl, rfl⟩
    clear hP1
    go_wp2_with fail
    refine hp1.mono ?_
    rintro e w2 ⟨⟨vp, rfl, hvp⟩, hb2⟩
    have hB2 := hB1.next hb2
    clear hp1
    obtain ⟨A', c', rfl, hqc, hA'⟩ := pairs_open hvp
    have HA' := Lib.hid hA'
    have HVP := Lib.hid hvp
    obtain ⟨pl, hpl⟩ := name_of PP.length
    rw [hpl] at hqc hpl0 ⊢
    have HPL := Lib.hid hpl
    clear hvp hA' hpl hb2 hB1
    go_wp2_with fail
    go_loopw [6, 7, 8] (fun a ca i wr => SpR l m w2 a ca i wr) (fun _ _ i _ => m - (intOf i).toNat)
    case atStart => exact ⟨0, 0, true, Nat.zero_le _, rfl, rfl, rfl, ⟨fun _ j hj => by omega, fun _ => rfl⟩, rfl⟩
    case round =>
      obtain ⟨k, q, b, hk, rfl, rfl, rfl, hb, hwr⟩ := hrel
      have HB := Lib.hid hb
      have HWR := Lib.hid hwr
      have hBr : Below w2.heap.size w2 wr := by rw [hwr]; exact below_drewn q
      have hBw := hB2.next hBr
      clear hb hwr
      by_cases hlt : k < m
      · obtain ⟨bl, off, rfl, hbl, q0, q1⟩ := HA.out k (by rw [HM.out]; exact hlt)
        have HSU := Lib.hid (picksTo_succ l k)
        have HLT := Lib.hid (fun h => picksTo_lt l (k := k) (n := m) hlt h)
        have HHIT := Lib.hid (fun h => picksTo_hit (l := l) (k := k) (n := m) hlt h)
        obtain ⟨⟨ek, en⟩, he⟩ := name_of (at_ l k)
        have HCS : Hid (calmT l (k + 1) ↔ calmT l k ∧ ek ≠ 1 ∧ ek ≠ 3) := Lib.hid (by rw [calmT_succ, he])
        rw [he] at q0 q1 HSU HLT HHIT
        dsimp only at q0 q1
        have c0 := (hBw.cell (p := ⟨bl, _, none⟩) hbl).trans q0
        have c1 := (hBw.cell (p := ⟨bl, _, none⟩) hbl).trans q1
        clear q0 q1 he
        by_cases hke : ek = 0
        · have e0 : (ek == 0) = true := by simpa using hke
          have HL2 := Lib.hid (HLT.out hke)
          have HH2 := Lib.hid (HHIT.out hke)
          have HS2 : Hid ((picksTo l (k + 1)).length = (picksTo l k).length + 1) := Lib.hid (by rw [HSU.out]; dsimp only; rw [if_pos hke, List.length_append]; rfl)
          have hapl : (picksTo l k).length < pl := by have h1 := HL2.out; rw [HPP.out, HPL.out] at h1; exact h1
          obtain ⟨b2, off2, rfl, hb2lt, r0, r1⟩ := HA'.out (picksTo l k).length (by rw [HPL.out]; exact hapl)
          have hget : PP[(picksTo l k).length]'(by rw [HPL.out]; exact hapl) = (k, en) := by
            have h1 := HH2.out
            rw [HPP.out, List.getElem?_eq_getElem (by rw [HPL.out]; exact hapl)] at h1
            exact Option.some.inj h1
          rw [hget] at r0 r1
          dsimp only at r0 r1
          have d0 := (hBr.cell (p := ⟨b2, _, none⟩) hb2lt).trans r0
          have d1 := (hBr.cell (p := ⟨b2, _, none⟩) hb2lt).trans r1
          have HNX : Hid (b = true ↔ calmT l (k + 1)) := Lib.hid (by rw [HCS.out, hke]; exact HB.out.trans ⟨fun h => ⟨h, by decide, by decide⟩, fun h => h.1⟩)
          have hnq := fun W => neq_pair_self (k : Int) en W
          obtain ⟨a, ha⟩ := name_of (picksTo l k).length
          rw [ha] at hapl d0 d1 HS2
          have HA0 := Lib.hid ha
          rw [ha]
          subst hke
          have g1 : decide (pl ≤ a) = false := by simp; omega
          clear r0 r1 hget ha e0
          cases b
          all_goals
            go_wp2_with fail
            go_quiet (fail)
            go_wp2_with fail
            exact ⟨⟨k + 1, _, _, by omega, by go_num, by rw [HS2.out]; go_num, rfl, (by first | exact HNX.out | (have h0 := HNX.out; simpa using h0)), by rw [HWR.out]; exact World.drewN_drewN _ _ _⟩, by simp [intOf]; omega⟩
        · have e0 : (ek == 0) = false := by simpa using hke
          have HS2 : Hid ((picksTo l (k + 1)).length = (picksTo l k).length) := Lib.hid (by rw [HSU.out]; dsimp only; rw [if_neg hke, List.append_nil])
          obtain ⟨a, ha⟩ := name_of (picksTo l k).length
          rw [ha] at HS2
          have HA0 := Lib.hid ha
          rw [ha]
          clear ha
          by_cases h1 : ek = 1
          · have e1 : (ek == 1) = true := by simpa using h1
            have HNX : Hid (false = true ↔ calmT l (k + 1)) := Lib.hid ⟨(fun h => by cases h), fun h => absurd h1 (HCS.out.1 h).2.1⟩
            subst h1
            clear hke e1 e0
            cases b
            all_goals
              go_wp2_with fail
              exact ⟨⟨k + 1, _, false, by omega, by go_num, by rw [HS2.out], rfl, HNX.out, HWR.out⟩, by simp [intOf]; omega⟩
          · have e1 : (ek == 1) = false := by simpa using h1
            by_cases h3 : ek = 3
            · have e3 : (ek == 3) = true := by simpa using h3
              have HNX : Hid (false = true ↔ calmT l (k + 1)) := Lib.hid ⟨(fun h => by cases h), fun h => absurd h3 (HCS.out.1 h).2.2⟩
              subst h3
              clear hke h1 e1 e3 e0
              cases b
              all_goals
                go_wp2_with fail
                exact ⟨⟨k + 1, _, false, by omega, by go_num, by rw [HS2.out], rfl, HNX.out, HWR.out⟩, by simp [intOf]; omega⟩
            · have e3 : (ek == 3) = false := by simpa using h3
              have HNX : Hid (b = true ↔ calmT l (k + 1)) := Lib.hid (by rw [HCS.out]; exact HB.out.trans ⟨fun h => ⟨h, h1, h3⟩, fun h => h.1⟩)
              have b1 : (ek != 1) = true := by simpa using h1
              have b3 : (ek != 3) = true := by simpa using h3
              clear hke h1 h3
              cases b
              all_goals
                go_wp2_with fail
                exact ⟨⟨k + 1, _, _, by omega, by go_num, by rw [HS2.out], rfl, (by first | exact HNX.out | (have h0 := HNX.out; simpa using h0)), HWR.out⟩, by simp [intOf]; omega⟩
      · obtain rfl : k = m := by omega
        have HAT : Hid ((picksTo l k).length = pl) := Lib.hid (by rw [HPP.out, HPL.out])
        rw [HAT.out]
        have hCm := calm_any (HE.out.next hBw) (by rw [HM.out]; omega) b (by rw [HM.out]; exact HB.out)
        by_cases hn1 : n < 1
        · have g1 : decide (n < 1) = true := by simpa using hn1
          clear hn1
          cases b
          all_goals
            go_wp2_with fail
            refine hCm.mono ?_
            rintro e w3 ⟨rfl, hb3⟩
            have hB3 := hBw.next hb3
            have hAw := awake_any w3 (HP.out.next hB3)
            clear hCm
            go_wp2_with fail
            refine hAw.mono ?_
            rintro e w4 ⟨rfl, hb4⟩
            go_wp2_with fail
            go_ret
            exact ⟨rfl, hB3.next hb4⟩
        · have g1 : decide (n < 1) = false := by simp; omega
          obtain ⟨N, rfl⟩ := Int.eq_ofNat_of_zero_le (show 0 ≤ n by omega)
          have hN1 : 1 ≤ N := by omega
          clear hn1
          by_cases hbigN : pl < N
          · have g2 : decide (pl < N) = true := by simpa using hbigN
            clear hbigN
            cases b
            all_goals
              go_wp2_with fail
              refine hCm.mono ?_
              rintro e w3 ⟨rfl, hb3⟩
              have hB3 := hBw.next hb3
              have hAw := awake_any w3 (HP.out.next hB3)
              clear hCm
              go_wp2_with fail
              refine hAw.mono ?_
              rintro e w4 ⟨rfl, hb4⟩
              go_wp2_with fail
              go_ret
              exact ⟨rfl, hB3.next hb4⟩
          · have g2 : decide (pl < N) = false := by simp; omega
            have hNpl : N ≤ pl := by omega
            clear hbigN
            have HQL : Hid ((PP.take N).length = N) := Lib.hid (by rw [List.length_take, HPL.out]; omega)
            cases b
            all_goals
              go_wp2_with fail
              refine hCm.mono ?_
              rintro e w3 ⟨rfl, hb3⟩
              have hB3 := hBw.next hb3
              have hP3 := hPk w3
              have hp3 := HPR.out w3 hB3 N hN1 (by omega)
              rw [HPP2.out] at hp3
              clear hCm
              go_wp2_with fail
              refine hP3.mono ?_
              rintro e w4 ⟨rfl, rfl⟩
              clear hP3
              go_wp2_with fail
              refine hp3.mono ?_
              rintro e w5 ⟨⟨vq, rfl, hvq⟩, hb5⟩
              have hB4 : Below w.heap.size w (w3.alloc (.cells #[.slice A k c] 22)) := hB3.alloc hB3.size _
              have hB5 := hB4.next hb5
              have h23 := hBr.next hb3
              have h24 : Below w2.heap.size w2 (w3.alloc (.cells #[.slice A k c] 22)) := h23.alloc h23.size _
              have hB25 := h24.next hb5
              obtain ⟨A2, c2, rfl, hnc2, hA2⟩ := pairs_open hvq
              rw [HQL.out] at hnc2 ⊢
              have HA2 := Lib.hid hA2
              clear hp3 hvq hA2 hb5 hB4 hB3 hb3 h23 h24
              go_wp2_with fail
              go_loopw [10] (fun i wr => ∃ j q : Nat, j ≤ N ∧ i = .int .i64 j ∧ wr = w5.drewN q) (fun i _ => N - (intOf i).toNat)
              case atStart => exact ⟨0, 0, Nat.zero_le _, rfl, rfl⟩
              case round =>
                obtain ⟨j, qq, hj, rfl, hwq⟩ := hrel
                rename World => wz
                have HWQ := Lib.hid hwq
                have hBz : Below w5.heap.size w5 wz := by rw [hwq]; exact below_drewn qq
                clear hwq
                by_cases hjN : j < N
                · obtain ⟨bz, oz, rfl, hbz, r0, r1⟩ := HA2.out j (by rw [HQL.out]; exact hjN)
                  obtain ⟨by', oy, rfl, hby, s0, s1⟩ := HA'.out j (by rw [HPL.out]; omega)
                  rw [List.getElem_take] at r0 r1
                  obtain ⟨⟨pi, pn⟩, hpp⟩ := name_of (PP[j]'(by rw [HPL.out]; omega))
                  rw [hpp] at r0 r1 s0 s1
                  dsimp only at r0 r1 s0 s1
                  have d0 := (hBz.cell (p := ⟨bz, _, none⟩) hbz).trans r0
                  have d1 := (hBz.cell (p := ⟨bz, _, none⟩) hbz).trans r1
                  have y0 := ((hB25.next hBz).cell (p := ⟨by', _, none⟩) hby).trans s0
                  have y1 := ((hB25.next hBz).cell (p := ⟨by', _, none⟩) hby).trans s1
                  have hnq := fun W => neq_pair_self (pi : Int) pn W
                  have g5 : decide (N ≤ j) = false := by simp; omega
                  clear r0 r1 s0 s1 hpp
                  go_wp2_with fail
                  go_quiet (fail)
                  go_wp2_with fail
                  exact ⟨⟨j + 1, _, by omega, by go_num, by rw [HWQ.out]; exact World.drewN_drewN _ _ _⟩, by simp [intOf]; omega⟩
                · obtain rfl : j = N := by omega
                  have hBw5 := hB5.next hBz
                  have hAw := awake_any wz (HP.out.next hBw5)
                  go_wp2_with fail
                  refine hAw.mono ?_
                  rintro e w6 ⟨rfl, hb6⟩
                  go_wp2_with fail
                  go_ret
                  exact ⟨rfl, hBw5.next hb6⟩
end P21
end Go.Proofs.YtkobmoabnnjejaaDoor
