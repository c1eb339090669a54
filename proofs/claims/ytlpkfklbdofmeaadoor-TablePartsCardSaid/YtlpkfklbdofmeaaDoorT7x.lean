/- Walk: TableParts, whole. -/
import Derived.Test.YtlpkfklbdofmeaaDoorT7wa
import Derived.IntWalk
namespace Go.Proofs.YtlpkfklbdofmeaaDoor
open Go.RowKit
namespace P7

def PtR (w : World) (m : Nat) (v : Value) (wr : World) : Prop := ∃ q : Nat, q ≤ m ∧ v = .int .i64 q ∧ Below w.heap.size w wr
set_option maxRecDepth 10000 in
set_option maxHeartbeats 8000000 in
theorem tableParts_any {w : World} {v : Value} {l : List Row} (hR : Rws w v l) (hpow : Pow w) (i k : Int) : Calls Tryd.prog 8 #[v, .int .i64 i, .int .i64 k] w fun e w' => e = .returned (.bool true) ∧ Below w.heap.size w w' := by
  have Hawake : Hid (∀ W, Below w.heap.size w W → Calls Tryd.prog 11 #[] W fun e w' => e = .returned (.bool true) ∧ Below W.heap.size W w') := Lib.hid (fun W hb => awake_any W (hpow.next hb))
  have hF := few_any hR
  obtain ⟨A, c, rfl, hnc, -⟩ := rows_open hR.sl
  have HR := Lib.hid hR
  clear hpow hR
  go_enter Tryd.func8, Tryd.ntmps8
  go_wp2_with fail
  refine hF.mono ?_
  rintro e w ⟨⟨b, rfl, hb⟩, rfl⟩
  clear hF
  have hB0 := Below.refl w.heap.size w
  cases b
  · clear hb hnc
    go_wp2_with fail
    refine (Hawake.out _ hB0).mono ?_
    rintro e w2 ⟨rfl, hb2⟩
    go_wp2_with fail
    go_ret
    exact ⟨rfl, hb2⟩
  · have HS := Lib.hid (hb rfl)
    clear hb
    have hC := fun W (hb : Below w.heap.size w W) => checkT_any (HR.out.next hb).sl HS.out
    obtain ⟨n, hn⟩ := name_of l.length
    have HN := Lib.hid hn
    rw [hn] at hC hnc ⊢
    by_cases hT : Tab l
    · have HT := Lib.hid hT
      rw [← hn, show chk (l.length + 1) l = 0 from hT, hn] at hC
      have HC := Lib.hid hC
      have hn0 : 0 < n := by have := hT.pos; omega
      have hn60 : n ≤ 60 := by have := HS.out.1; omega
      clear hT hC hn
      go_wp2_with fail
      refine (HC.out _ hB0).mono ?_
      rintro e w1 ⟨rfl, hb1⟩
      have hB1 := hB0.next hb1
      have hU := under_in (HR.out.next hB1).sl HS.out HT.out 0 (by have := HN.out; omega)
      rw [HN.out] at hU
      clear hB0 hb1
      go_wp2_with fail
      refine hU.mono ?_
      rintro e w2 ⟨⟨en, v2, hE, rfl, hs2⟩, hb2⟩
      obtain rfl := hE.unique (End.root HT.out)
      rw [cutT_whole HT.out] at hs2
      have hB2 := hB1.next hb2
      have hRS := rowsSame_any hs2 (HR.out.next hB2).sl HR.out.len
      rw [decide_eq_true rfl] at hRS
      obtain ⟨A2, c2, rfl, -, -⟩ := rows_open hs2
      rw [HN.out] at hRS ⊢
      clear hU hB1 hb2 hE hs2
      go_wp2_with fail
      refine hRS.mono ?_
      rintro e w3 ⟨rfl, hb3⟩
      have hB3 := hB2.next hb3
      clear hRS hB2 hb3
      by_cases hi : 0 ≤ i ∧ i < n
      · obtain ⟨a, rfl⟩ := Int.eq_ofNat_of_zero_le hi.1
        have ha : a < n := by omega
        have hU := under_in (HR.out.next hB3).sl HS.out HT.out a (by have := HN.out; omega)
        rw [HN.out] at hU
        clear hi
        go_wp2_with fail
        refine hU.mono ?_
        rintro e w4 ⟨⟨en, v4, hE, rfl, hs4⟩, hb4⟩
        have hB4 := hB3.next hb4
        obtain ⟨A4, c4, rfl, hc4, -⟩ := rows_open hs4
        have hae := hE.lt
        have hen : en ≤ n := by have := hE.le; have := HN.out; omega
        have HE := Lib.hid hE
        obtain ⟨m, hm⟩ := name_of (en - a)
        have HM : Hid ((cutT l a en).length = m) := Lib.hid (by rw [cutT_length, hm])
        have HMe : Hid (en - a = m) := Lib.hid hm
        have hm0 : 0 < m := by omega
        have ham : a + m ≤ n := by omega
        have HTA := Lib.hid (cut_tab HT.out HE.out)
        have HSA := Lib.hid (cut_small (i := a) HE.out.le HS.out)
        rw [HM.out] at hs4 hc4 ⊢
        have HS4 := Lib.hid hs4
        have hCA := checkT_any hs4 HSA.out
        rw [show chk ((cutT l a en).length + 1) (cutT l a en) = 0 from HTA.out] at hCA
        clear hU hB3 hb4 hE hs4 hm
        go_wp2_with fail
        refine hCA.mono ?_
        rintro e w5 ⟨rfl, hb5⟩
        have hB5 := hB4.next hb5
        have HS5 := Lib.hid (HS4.out.next hb5)
        have hDl := done_any (HR.out.next hB5).sl (by rw [HN.out]; omega)
        rw [HN.out] at hDl
        obtain ⟨dl, hdl⟩ := name_of (DoneT l)
        have HD : Hid (dl = true → DoneT (cutT l a en) = true) := Lib.hid (fun h => cut_done HE.out.le (hdl.trans h))
        rw [hdl] at hDl
        clear hCA hB4 hb5 HS4 hdl
        cases dl
        · skip
          go_wp2_with fail
          refine hDl.mono ?_
          rintro e w6 ⟨rfl, hb6⟩
          have hB6 := hB5.next hb6
          have HS6 := Lib.hid (HS5.out.next hb6)
          clear hDl hB5 hb6 HS5 HD
          have d1 : decide ((a : Int) + m ≤ n) = true := by simp; omega
          go_wp2_with fail
          go_loopw [11] (fun v wr => PtR w6 n v wr) (fun v _ => n - (intOf v).toNat)
          case atStart => exact ⟨0, Nat.zero_le _, rfl, Below.refl _ _⟩
          case round =>
            obtain ⟨q, hq, rfl, hBq⟩ := hrel
            by_cases hqn : q < n
            · have hW := within_any ((HR.out.next hB6).next hBq).sl (by rw [HN.out]; omega) (q : Int) (a : Int)
              rw [cut_within HT.out HE.out (by rw [HN.out]; exact hqn), HN.out] at hW
              by_cases h1 : a ≤ q
              · have f1 : decide ((a : Int) ≤ q) = true := by simp; omega
                have f1' : decide (a ≤ q) = true := by simpa using h1
                by_cases h2 : q < en
                · have f2 : decide ((q : Int) < (a : Int) + m) = true := by have := HMe.out; simp; omega
                  rw [decide_eq_true h1, decide_eq_true h2] at hW
                  go_wp2_with fail
                  refine hW.mono ?_
                  rintro e w7 ⟨rfl, rfl⟩
                  go_wp2_with fail
                  refine ⟨⟨q + 1, by omega, by go_num, hBq⟩, by simp [intOf]; omega⟩
                · have f2 : decide ((q : Int) < (a : Int) + m) = false := by have := HMe.out; simp; omega
                  rw [decide_eq_true h1, decide_eq_false h2] at hW
                  go_wp2_with fail
                  refine hW.mono ?_
                  rintro e w7 ⟨rfl, rfl⟩
                  go_wp2_with fail
                  refine ⟨⟨q + 1, by omega, by go_num, hBq⟩, by simp [intOf]; omega⟩
              · have f1 : decide ((a : Int) ≤ q) = false := by simp; omega
                have f1' : decide (a ≤ q) = false := by simpa using h1
                rw [decide_eq_false h1, Bool.false_and] at hW
                go_wp2_with fail
                refine hW.mono ?_
                rintro e w7 ⟨rfl, rfl⟩
                go_wp2_with fail
                refine ⟨⟨q + 1, by omega, by go_num, hBq⟩, by simp [intOf]; omega⟩
            · have hqn' : q = n := by omega
              subst hqn'
              have hB7 := hB6.next hBq
              have HS7 := Lib.hid (HS6.out.next hBq)
              clear hB6 HS6 hBq
              by_cases hk : 0 ≤ k ∧ k < m
              · obtain ⟨x, rfl⟩ := Int.eq_ofNat_of_zero_le hk.1
                have hx : x < m := by omega
                have hU := under_in HS7.out HSA.out HTA.out x (by rw [HM.out]; exact hx)
                have hax : a + x < q := by omega
                have hU2 := fun W (hb : Below w.heap.size w W) => under_in (HR.out.next hb).sl HS.out HT.out (a + x) (by rw [HN.out]; exact hax)
                rw [HN.out] at hU2
                have HU2 := Lib.hid hU2
                have hcast : (((a + x : Nat) : Int)) = (a : Int) + x := by omega
                clear hk hU2
                go_wp2_with fail
                refine hU.mono ?_
                rintro e w8 ⟨⟨e2, v8, hE2, rfl, hs8⟩, hb8⟩
                have hB8 := hB7.next hb8
                have hle2 := hE2.le
                rw [HM.out] at hle2
                have HE3 := Lib.hid (HE.out.cut HT.out hE2)
                rw [cut_cut (by have := HMe.out; omega)] at hs8
                obtain ⟨A8, c8, rfl, -, -⟩ := rows_open hs8
                obtain ⟨m8, hm8⟩ := name_of (cutT l (a + x) (a + e2)).length
                have HM8 := Lib.hid hm8
                rw [hm8] at hs8 ⊢
                have HS8 := Lib.hid hs8
                have hUU := HU2.out _ hB8
                rw [hcast] at hUU
                have hwr : IntKind.i64.wrap ((a : Int) + x) = (a : Int) + x := Go.IntWalk.i64_in _ (by omega)
                clear hU hB7 hb8 hE2 hs8 hm8 HU2 HS7 hcast
                go_wp2_with fail
                refine hUU.mono ?_
                rintro e w9 ⟨⟨e3, v9, hE9, rfl, hs9⟩, hb9⟩
                have hB9 := hB8.next hb9
                obtain rfl := hE9.unique HE3.out
                have hRS := rowsSame_any (HS8.out.next hb9) hs9 (by rw [HM8.out]; have := HM8.out; rw [cutT_length] at this; omega)
                rw [decide_eq_true rfl] at hRS
                obtain ⟨A9, c9, rfl, -, -⟩ := rows_open hs9
                rw [HM8.out] at hRS ⊢
                clear hUU hB8 hb9 hE9 hs9
                go_wp2_with fail
                refine hRS.mono ?_
                rintro e w10 ⟨rfl, hb10⟩
                have hB10 := hB9.next hb10
                clear hRS hB9 hb10
                go_wp2_with fail
                refine (Hawake.out _ hB10).mono ?_
                rintro e w11 ⟨rfl, hb11⟩
                go_wp2_with fail
                go_ret
                exact ⟨rfl, hB10.next hb11⟩
              · have hU := under_out HS7.out HSA.out k HTA.out (by rw [HM.out]; exact hk)
                by_cases h0 : k < 0
                · have d0 : decide (k < 0) = true := by simpa using h0
                  clear hk
                  go_wp2_with fail
                  refine hU.mono ?_
                  rintro e w8 ⟨rfl, hb8⟩
                  have hB8 := hB7.next hb8
                  clear hU hB7 hb8
                  go_wp2_with fail
                  refine (Hawake.out _ hB8).mono ?_
                  rintro e w9 ⟨rfl, hb9⟩
                  go_wp2_with fail
                  go_ret
                  exact ⟨rfl, hB8.next hb9⟩
                · have d0 : decide (k < 0) = false := by simpa using h0
                  have d2 : decide ((m : Int) ≤ k) = true := by simp; omega
                  clear hk
                  go_wp2_with fail
                  refine hU.mono ?_
                  rintro e w8 ⟨rfl, hb8⟩
                  have hB8 := hB7.next hb8
                  clear hU hB7 hb8
                  go_wp2_with fail
                  refine (Hawake.out _ hB8).mono ?_
                  rintro e w9 ⟨rfl, hb9⟩
                  go_wp2_with fail
                  go_ret
                  exact ⟨rfl, hB8.next hb9⟩
        · skip
          go_wp2_with fail
          refine hDl.mono ?_
          rintro e w5' ⟨rfl, hb6⟩
          have hB6' := hB5.next hb6
          have HS6' := Lib.hid (HS5.out.next hb6)
          have hDa := done_any HS6'.out (by rw [HM.out]; omega)
          rw [HD.out (by trivial)] at hDa
          clear hDl hB5 hb6 HS5
          go_wp2_with fail
          refine hDa.mono ?_
          rintro e w6 ⟨rfl, hb6⟩
          have hB6 := hB6'.next hb6
          have HS6 := Lib.hid (HS6'.out.next hb6)
          clear hDa hB6' hb6 HS6' HD
          have d1 : decide ((a : Int) + m ≤ n) = true := by simp; omega
          go_wp2_with fail
          go_loopw [11] (fun v wr => PtR w6 n v wr) (fun v _ => n - (intOf v).toNat)
          case atStart => exact ⟨0, Nat.zero_le _, rfl, Below.refl _ _⟩
          case round =>
            obtain ⟨q, hq, rfl, hBq⟩ := hrel
            by_cases hqn : q < n
            · have hW := within_any ((HR.out.next hB6).next hBq).sl (by rw [HN.out]; omega) (q : Int) (a : Int)
              rw [cut_within HT.out HE.out (by rw [HN.out]; exact hqn), HN.out] at hW
              by_cases h1 : a ≤ q
              · have f1 : decide ((a : Int) ≤ q) = true := by simp; omega
                have f1' : decide (a ≤ q) = true := by simpa using h1
                by_cases h2 : q < en
                · have f2 : decide ((q : Int) < (a : Int) + m) = true := by have := HMe.out; simp; omega
                  rw [decide_eq_true h1, decide_eq_true h2] at hW
                  go_wp2_with fail
                  refine hW.mono ?_
                  rintro e w7 ⟨rfl, rfl⟩
                  go_wp2_with fail
                  refine ⟨⟨q + 1, by omega, by go_num, hBq⟩, by simp [intOf]; omega⟩
                · have f2 : decide ((q : Int) < (a : Int) + m) = false := by have := HMe.out; simp; omega
                  rw [decide_eq_true h1, decide_eq_false h2] at hW
                  go_wp2_with fail
                  refine hW.mono ?_
                  rintro e w7 ⟨rfl, rfl⟩
                  go_wp2_with fail
                  refine ⟨⟨q + 1, by omega, by go_num, hBq⟩, by simp [intOf]; omega⟩
              · have f1 : decide ((a : Int) ≤ q) = false := by simp; omega
                have f1' : decide (a ≤ q) = false := by simpa using h1
                rw [decide_eq_false h1, Bool.false_and] at hW
                go_wp2_with fail
                refine hW.mono ?_
                rintro e w7 ⟨rfl, rfl⟩
                go_wp2_with fail
                refine ⟨⟨q + 1, by omega, by go_num, hBq⟩, by simp [intOf]; omega⟩
            · have hqn' : q = n := by omega
              subst hqn'
              have hB7 := hB6.next hBq
              have HS7 := Lib.hid (HS6.out.next hBq)
              clear hB6 HS6 hBq
              by_cases hk : 0 ≤ k ∧ k < m
              · obtain ⟨x, rfl⟩ := Int.eq_ofNat_of_zero_le hk.1
                have hx : x < m := by omega
                have hU := under_in HS7.out HSA.out HTA.out x (by rw [HM.out]; exact hx)
                have hax : a + x < q := by omega
                have hU2 := fun W (hb : Below w.heap.size w W) => under_in (HR.out.next hb).sl HS.out HT.out (a + x) (by rw [HN.out]; exact hax)
                rw [HN.out] at hU2
                have HU2 := Lib.hid hU2
                have hcast : (((a + x : Nat) : Int)) = (a : Int) + x := by omega
                clear hk hU2
                go_wp2_with fail
                refine hU.mono ?_
                rintro e w8 ⟨⟨e2, v8, hE2, rfl, hs8⟩, hb8⟩
                have hB8 := hB7.next hb8
                have hle2 := hE2.le
                rw [HM.out] at hle2
                have HE3 := Lib.hid (HE.out.cut HT.out hE2)
                rw [cut_cut (by have := HMe.out; omega)] at hs8
                obtain ⟨A8, c8, rfl, -, -⟩ := rows_open hs8
                obtain ⟨m8, hm8⟩ := name_of (cutT l (a + x) (a + e2)).length
                have HM8 := Lib.hid hm8
                rw [hm8] at hs8 ⊢
                have HS8 := Lib.hid hs8
                have hUU := HU2.out _ hB8
                rw [hcast] at hUU
                have hwr : IntKind.i64.wrap ((a : Int) + x) = (a : Int) + x := Go.IntWalk.i64_in _ (by omega)
                clear hU hB7 hb8 hE2 hs8 hm8 HU2 HS7 hcast
                go_wp2_with fail
                refine hUU.mono ?_
                rintro e w9 ⟨⟨e3, v9, hE9, rfl, hs9⟩, hb9⟩
                have hB9 := hB8.next hb9
                obtain rfl := hE9.unique HE3.out
                have hRS := rowsSame_any (HS8.out.next hb9) hs9 (by rw [HM8.out]; have := HM8.out; rw [cutT_length] at this; omega)
                rw [decide_eq_true rfl] at hRS
                obtain ⟨A9, c9, rfl, -, -⟩ := rows_open hs9
                rw [HM8.out] at hRS ⊢
                clear hUU hB8 hb9 hE9 hs9
                go_wp2_with fail
                refine hRS.mono ?_
                rintro e w10 ⟨rfl, hb10⟩
                have hB10 := hB9.next hb10
                clear hRS hB9 hb10
                go_wp2_with fail
                refine (Hawake.out _ hB10).mono ?_
                rintro e w11 ⟨rfl, hb11⟩
                go_wp2_with fail
                go_ret
                exact ⟨rfl, hB10.next hb11⟩
              · have hU := under_out HS7.out HSA.out k HTA.out (by rw [HM.out]; exact hk)
                by_cases h0 : k < 0
                · have d0 : decide (k < 0) = true := by simpa using h0
                  clear hk
                  go_wp2_with fail
                  refine hU.mono ?_
                  rintro e w8 ⟨rfl, hb8⟩
                  have hB8 := hB7.next hb8
                  clear hU hB7 hb8
                  go_wp2_with fail
                  refine (Hawake.out _ hB8).mono ?_
                  rintro e w9 ⟨rfl, hb9⟩
                  go_wp2_with fail
                  go_ret
                  exact ⟨rfl, hB8.next hb9⟩
                · have d0 : decide (k < 0) = false := by simpa using h0
                  have d2 : decide ((m : Int) ≤ k) = true := by simp; omega
                  clear hk
                  go_wp2_with fail
                  refine hU.mono ?_
                  rintro e w8 ⟨rfl, hb8⟩
                  have hB8 := hB7.next hb8
                  clear hU hB7 hb8
                  go_wp2_with fail
                  refine (Hawake.out _ hB8).mono ?_
                  rintro e w9 ⟨rfl, hb9⟩
                  go_wp2_with fail
                  go_ret
                  exact ⟨rfl, hB8.next hb9⟩
      · have hU := under_out (HR.out.next hB3).sl HS.out i HT.out (by rw [HN.out]; exact hi)
        rw [HN.out] at hU
        by_cases h0 : i < 0
        · have d0 : decide (i < 0) = true := by simpa using h0
          clear hi
          go_wp2_with fail
          refine hU.mono ?_
          rintro e w4 ⟨rfl, hb4⟩
          have hB4 := hB3.next hb4
          clear hU hB3 hb4
          go_wp2_with fail
          refine (Hawake.out _ hB4).mono ?_
          rintro e w5 ⟨rfl, hb5⟩
          go_wp2_with fail
          go_ret
          exact ⟨rfl, hB4.next hb5⟩
        · have d0 : decide (i < 0) = false := by simpa using h0
          have d1 : decide ((n : Int) ≤ i) = true := by simp; omega
          clear hi
          go_wp2_with fail
          refine hU.mono ?_
          rintro e w4 ⟨rfl, hb4⟩
          have hB4 := hB3.next hb4
          clear hU hB3 hb4
          go_wp2_with fail
          refine (Hawake.out _ hB4).mono ?_
          rintro e w5 ⟨rfl, hb5⟩
          go_wp2_with fail
          go_ret
          exact ⟨rfl, hB4.next hb5⟩
    · obtain ⟨E, hE⟩ := name_of (chk (l.length + 1) l)
      rw [hn] at hE
      have hE0 : E ≠ 0 := fun h => hT (show chk (l.length + 1) l = 0 by rw [hn]; exact hE.trans h)
      rw [hE] at hC
      have HC := Lib.hid hC
      have e0 : (E != 0) = true := by simpa using hE0
      clear hT hC hE hE0 hn
      go_wp2_with fail
      refine (HC.out _ hB0).mono ?_
      rintro e w1 ⟨rfl, hb1⟩
      have hB1 := hB0.next hb1
      clear hB0 hb1
      go_wp2_with fail
      refine (Hawake.out _ hB1).mono ?_
      rintro e w5 ⟨rfl, hb5⟩
      go_wp2_with fail
      go_ret
      exact ⟨rfl, hB1.next hb5⟩
end P7
end Go.Proofs.YtlpkfklbdofmeaaDoor
