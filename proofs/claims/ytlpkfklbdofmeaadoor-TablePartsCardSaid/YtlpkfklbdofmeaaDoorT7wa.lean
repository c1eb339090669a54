/- Walks: the reference's Under; TableUnder, whole. -/
import Derived.Test.YtlpkfklbdofmeaaDoorT7w
namespace Go.Proofs.YtlpkfklbdofmeaaDoor
open Go.RowKit
namespace P7

theorem rowC_one (r : Row) : ∀ u ∈ rowC r, u.oneCell' = true := by
  intro u hu
  simp only [rowC, List.mem_cons, List.not_mem_nil, or_false] at hu
  rcases hu with h | h | h | h | h | h | h <;> subst h <;> rfl
def RuR (w : World) (l : List Row) (n en m : Nat) (v5 v6 : Value) (wr : World) : Prop :=
  ∃ k : Nat, n ≤ k ∧ k ≤ m ∧ v6 = .int .i64 k ∧ wr.ownsRow w.heap.size 40 7 v5 (min k en - n) (rowsC (cutT l n (min k en))) ∧ Below w.heap.size w wr
set_option maxRecDepth 10000 in
set_option maxHeartbeats 4000000 in
theorem refUnder_any {w : World} {v : Value} {l : List Row} (h : Sl w w.heap.size 7 v (rowsC l)) (hs : Small l) (hT : Tab l) (n en : Nat) (hE : End l n en) :
    Calls Tryd.prog 25 #[v, .int .i64 n] w fun e w' => (∃ v', e = .returned v' ∧ Sl w' w'.heap.size 7 v' (rowsC (cutT l n en))) ∧ Below w.heap.size w w' := by
  have H := Lib.hid h
  have HT := Lib.hid hT
  have HE := Lib.hid hE
  have hlt := hE.lt
  have hle := hE.le
  obtain ⟨A, c, rfl, hnc, hA⟩ := rows_open h
  obtain ⟨b, off, rfl, hbw, -⟩ := hA 0 (by omega)
  have HA := Lib.hid hA
  have hlen := hs.1
  obtain ⟨m, hm⟩ := name_of l.length
  have HM := Lib.hid hm
  rw [hm] at hnc hlen hle H ⊢
  clear h hs hT hm hA hE
  go_enter Tryd.func25, Tryd.ntmps25
  go_wp2_with fail
  go_loopw [5, 6] (fun v5 v6 wr => RuR w l n en m v5 v6 wr) (fun _ v6 _ => m - (intOf v6).toNat)
  case atStart => exact ⟨n, Nat.le_refl _, by omega, rfl, by rw [show min n en = n by omega, Nat.sub_self, cutT_nil]; exact World.ownsRow_nil _ _ _ _, Below.refl _ _⟩
  case round =>
    obtain ⟨k, hnk, hkm, rfl, hown, hB⟩ := hrel
    by_cases hlt : k < m
    · have hW := refWithin_any (H.out.next hB) (by rw [HM.out]; omega) (k : Int) (n : Int)
      rw [an_wi HT.out.up (by rw [HM.out]; exact hlt) (by rw [HM.out]; omega)] at hW
      by_cases hke : k < en
      · rw [HE.out.ins k hnk hke] at hW
        rw [show min k en = k by omega] at hown
        obtain ⟨b', off', he, hb', h0, h1, h2, h3, h4, h5, h6⟩ := HA.out k (by rw [HM.out]; exact hlt)
        injection he with he
        injection he with e1 e2
        subst e1 e2
        have hu := HT.out.up k (by rw [HM.out]; exact hlt) (by rw [HM.out]; exact hlt)
        have hb0 : -1 ≤ (at_ l k).p := by
          by_cases e0 : k = 0
          · rw [e0, HT.out.root.1]; decide
          · have := hu.2 e0; omega
        have hcut : rowsC (cutT l n (min (k + 1) en)) = rowsC (cutT l n k) ++ rowC (cutRow n (k - n) (at_ l k)) := by
          rw [show min (k + 1) en = k + 1 by omega, cutT_succ l hnk, rowsC, rowsC, List.flatMap_append, List.flatMap_cons, List.flatMap_nil, List.append_nil]
        obtain ⟨⟨rp, ri, rf, rk, rv, rs, rc⟩, hr⟩ := name_of (at_ l k)
        rw [hr] at h0 h1 h2 h3 h4 h5 h6 hu hb0 hcut
        dsimp only at h0 h1 h2 h3 h4 h5 h6 hu hb0
        have hu1 := hu.1
        have hbl := fun j => hB.cell (p := ⟨b, j, none⟩) hb'
        have c0 := (hbl _).trans h0
        have c1 := (hbl _).trans h1
        have c2 := (hbl _).trans h2
        have c3 := (hbl _).trans h3
        have c4 := (hbl _).trans h4
        have c5 := (hbl _).trans h5
        have c6 := (hbl _).trans h6
        have hrp1 : rp ≤ 60 := by omega
        clear h0 h1 h2 h3 h4 h5 h6 hbl hr hu hu1
        by_cases hkn : k = n
        · have e0 : ((k : Int) == (n : Int)) = true := by rw [beq_iff_eq]; omega
          have HCUT : Hid (rowsC (cutT l n (min (k + 1) en)) = rowsC (cutT l n k) ++ rowC ⟨-1, 0, rf, rk, rv, rs, rc⟩) := Lib.hid (by rw [hcut]; unfold cutRow; rw [if_pos (by omega)])
          clear hkn hcut
          have hs2 : Sl ((wr.alloc (.cells #[.int .i64 (-1), .int .i64 0, .int .i64 rf, .int .i64 rk, .int .i64 rv, .int .i64 rs, .string rc] 40)).alloc (.cells #[.int .i64 (-1), .int .i64 0, .int .i64 rf, .int .i64 rk, .int .i64 rv, .int .i64 rs, .string rc] 40)) ((wr.alloc (.cells #[.int .i64 (-1), .int .i64 0, .int .i64 rf, .int .i64 rk, .int .i64 rv, .int .i64 rs, .string rc] 40)).alloc (.cells #[.int .i64 (-1), .int .i64 0, .int .i64 rf, .int .i64 rk, .int .i64 rv, .int .i64 rs, .string rc] 40)).heap.size 7 (.slice (some ⟨wr.heap.size + 1, 0, none⟩) 1 1) (rowC ⟨-1, 0, rf, rk, rv, rs, rc⟩) := Sl.new (wr.alloc _) _ _ 1 _ (by simp) rfl rfl
          have hB2 := (hB.alloc hB.size (.cells #[.int .i64 (-1), .int .i64 0, .int .i64 rf, .int .i64 rk, .int .i64 rv, .int .i64 rs, .string rc] 40)).alloc (hB.alloc hB.size (.cells #[.int .i64 (-1), .int .i64 0, .int .i64 rf, .int .i64 rk, .int .i64 rv, .int .i64 rs, .string rc] 40)).size (.cells #[.int .i64 (-1), .int .i64 0, .int .i64 rf, .int .i64 rk, .int .i64 rv, .int .i64 rs, .string rc] 40)
          have hown2 := (hown.alloc (.cells #[.int .i64 (-1), .int .i64 0, .int .i64 rf, .int .i64 rk, .int .i64 rv, .int .i64 rs, .string rc] 40)).alloc (.cells #[.int .i64 (-1), .int .i64 0, .int .i64 rf, .int .i64 rk, .int .i64 rv, .int .i64 rs, .string rc] 40)
          clear hB hown
          go_wp2_with fail
          refine hW.mono ?_
          rintro e w2 ⟨rfl, rfl⟩
          go_wp2_with (at_builtin; refine wpList_append_sl rfl (.tmp 34) (.tmp 36) 22 rfl w.heap.size 40 (rowV rowD) 7 64 Tryd.underlying22 info_row rfl (by omega) _ _ _ rfl hown2 _ 1 _ _ rfl hs2 rfl (rowC_one _) (by omega) (by omega) hB2.size ?_; intro v6 w6 hown6 hg6 hat6; have hB6 := below_append hB2 hown2 hg6 (Nat.le_refl _); obtain ⟨A6, m6, c6, rfl⟩ := own_slice hown6; clear hown2 hs2 hg6 hat6 hB2)
          refine ⟨⟨k + 1, by omega, by omega, by go_num, ?_, hB6⟩, by simp [intOf]; omega⟩
          rw [HCUT.out]
          exact own_len hown6 (by omega) rfl
        · have e0 : ((k : Int) == (n : Int)) = false := by simp; omega
          have HCUT : Hid (rowsC (cutT l n (min (k + 1) en)) = rowsC (cutT l n k) ++ rowC ⟨rp - n, ri, rf, rk, rv, rs, rc⟩) := Lib.hid (by rw [hcut]; unfold cutRow; rw [if_neg (by omega)])
          clear hkn hcut
          have hs2 : Sl ((wr.alloc (.cells #[.int .i64 (rp - n), .int .i64 ri, .int .i64 rf, .int .i64 rk, .int .i64 rv, .int .i64 rs, .string rc] 40)).alloc (.cells #[.int .i64 (rp - n), .int .i64 ri, .int .i64 rf, .int .i64 rk, .int .i64 rv, .int .i64 rs, .string rc] 40)) ((wr.alloc (.cells #[.int .i64 (rp - n), .int .i64 ri, .int .i64 rf, .int .i64 rk, .int .i64 rv, .int .i64 rs, .string rc] 40)).alloc (.cells #[.int .i64 (rp - n), .int .i64 ri, .int .i64 rf, .int .i64 rk, .int .i64 rv, .int .i64 rs, .string rc] 40)).heap.size 7 (.slice (some ⟨wr.heap.size + 1, 0, none⟩) 1 1) (rowC ⟨rp - n, ri, rf, rk, rv, rs, rc⟩) := Sl.new (wr.alloc _) _ _ 1 _ (by simp) rfl rfl
          have hB2 := (hB.alloc hB.size (.cells #[.int .i64 (rp - n), .int .i64 ri, .int .i64 rf, .int .i64 rk, .int .i64 rv, .int .i64 rs, .string rc] 40)).alloc (hB.alloc hB.size (.cells #[.int .i64 (rp - n), .int .i64 ri, .int .i64 rf, .int .i64 rk, .int .i64 rv, .int .i64 rs, .string rc] 40)).size (.cells #[.int .i64 (rp - n), .int .i64 ri, .int .i64 rf, .int .i64 rk, .int .i64 rv, .int .i64 rs, .string rc] 40)
          have hown2 := (hown.alloc (.cells #[.int .i64 (rp - n), .int .i64 ri, .int .i64 rf, .int .i64 rk, .int .i64 rv, .int .i64 rs, .string rc] 40)).alloc (.cells #[.int .i64 (rp - n), .int .i64 ri, .int .i64 rf, .int .i64 rk, .int .i64 rv, .int .i64 rs, .string rc] 40)
          clear hB hown
          go_wp2_with fail
          refine hW.mono ?_
          rintro e w2 ⟨rfl, rfl⟩
          go_wp2_with (at_builtin; refine wpList_append_sl rfl (.tmp 34) (.tmp 36) 22 rfl w.heap.size 40 (rowV rowD) 7 64 Tryd.underlying22 info_row rfl (by omega) _ _ _ rfl hown2 _ 1 _ _ rfl hs2 rfl (rowC_one _) (by omega) (by omega) hB2.size ?_; intro v6 w6 hown6 hg6 hat6; have hB6 := below_append hB2 hown2 hg6 (Nat.le_refl _); obtain ⟨A6, m6, c6, rfl⟩ := own_slice hown6; clear hown2 hs2 hg6 hat6 hB2)
          refine ⟨⟨k + 1, by omega, by omega, by go_num, ?_, hB6⟩, by simp [intOf]; omega⟩
          rw [HCUT.out]
          exact own_len hown6 (by omega) rfl
      · rw [HE.out.out k (by omega) (by rw [HM.out]; exact hlt)] at hW
        rw [show min k en = en by omega] at hown
        have HO := Lib.hid hown
        clear hown
        go_wp2_with fail
        refine hW.mono ?_
        rintro e w2 ⟨rfl, rfl⟩
        go_wp2_with fail
        refine ⟨⟨k + 1, by omega, by omega, by go_num, by rw [show min (k + 1) en = en by omega]; exact HO.out, hB⟩, by simp [intOf]; omega⟩
    · have hkm' : k = m := by omega
      subst hkm'
      rw [show min k en = en by omega] at hown
      have HO := Lib.hid hown
      clear hown
      go_wp2_with fail
      go_ret
      exact ⟨⟨_, rfl, Sl.own HO.out⟩, hB⟩

set_option maxRecDepth 10000 in
set_option maxHeartbeats 4000000 in
theorem tableUnder_any {w : World} {v : Value} {l : List Row} (hR : Rws w v l) (hpow : Pow w) (i : Int) : Calls Tryd.prog 7 #[v, .int .i64 i] w fun e w' => e = .returned (.bool true) ∧ Below w.heap.size w w' := by
  have Hawake : Hid (∀ W, Below w.heap.size w W → Calls Tryd.prog 11 #[] W fun e w' => e = .returned (.bool true) ∧ Below W.heap.size W w') := Lib.hid (fun W hb => awake_any W (hpow.next hb))
  have hF := few_any hR
  obtain ⟨A, c, rfl, -, -⟩ := rows_open hR.sl
  have HR := Lib.hid hR
  clear hpow hR
  go_enter Tryd.func7, Tryd.ntmps7
  go_wp2_with fail
  refine hF.mono ?_
  rintro e w ⟨⟨b, rfl, hb⟩, rfl⟩
  clear hF
  have hB0 := Below.refl w.heap.size w
  cases b
  · clear hb
    go_wp2_with fail
    refine (Hawake.out _ hB0).mono ?_
    rintro e w2 ⟨rfl, hb2⟩
    go_wp2_with fail
    go_ret
    exact ⟨rfl, hb2⟩
  · have HS := Lib.hid (hb rfl)
    clear hb
    by_cases hT : Tab l
    · have HT := Lib.hid hT
      have hC := fun W (hb : Below w.heap.size w W) => refCheck_any (HR.out.next hb).sl HS.out
      rw [show chk (l.length + 1) l = 0 from hT] at hC
      obtain ⟨n, hn⟩ := name_of l.length
      have HN := Lib.hid hn
      rw [hn] at hC
      have HC := Lib.hid hC
      by_cases hi : 0 ≤ i ∧ i < l.length
      · obtain ⟨k, rfl⟩ := Int.eq_ofNat_of_zero_le hi.1
        have hk : k < n := by omega
        have hU := under_in HR.out.sl HS.out hT k (by omega)
        have d0 : decide ((k : Int) < 0) = false := by simp
        have d1 : decide (n ≤ k) = false := by simp; omega
        rw [hn] at hU ⊢
        clear hT hC hi hn
        go_wp2_with fail
        refine hU.mono ?_
        rintro e w1 ⟨⟨en, v1, hE, rfl, hs1⟩, hb1⟩
        have HE := Lib.hid hE
        have hB1 := hB0.next hb1
        obtain ⟨A1, c1, rfl, -, -⟩ := rows_open hs1
        obtain ⟨m, hm⟩ := name_of (cutT l k en).length
        have HM := Lib.hid hm
        rw [hm] at hs1 ⊢
        clear hU hB0 hb1 hE hm
        go_wp2_with fail
        refine (HC.out _ hB1).mono ?_
        rintro e w2 ⟨rfl, hb2⟩
        have hB2 := hB1.next hb2
        have hs2 := hs1.next hb2
        have hU := refUnder_any (HR.out.next hB2).sl HS.out HT.out k en HE.out
        rw [HN.out] at hU
        clear hB1 hb2 hs1
        go_wp2_with fail
        refine hU.mono ?_
        rintro e w3 ⟨⟨v3, rfl, hs3⟩, hb3⟩
        have hB3 := hB2.next hb3
        have hRS := rowsSame_any (hs2.next hb3) hs3 (by rw [HM.out]; have := HS.out.1; have := HE.out.le; have := HM.out; rw [cutT_length] at this; omega)
        rw [decide_eq_true rfl] at hRS
        obtain ⟨A3, c3, rfl, -, -⟩ := rows_open hs3
        rw [HM.out] at hRS ⊢
        clear hU hs2 hs3 hb3 hB2
        go_wp2_with fail
        refine hRS.mono ?_
        rintro e w4 ⟨rfl, hb4⟩
        have hB4 := hB3.next hb4
        clear hRS hb4 hB3
        go_wp2_with fail
        refine (Hawake.out _ hB4).mono ?_
        rintro e w5 ⟨rfl, hb5⟩
        go_wp2_with fail
        go_ret
        exact ⟨rfl, hB4.next hb5⟩
      · have hU := under_out HR.out.sl HS.out i hT hi
        rw [hn] at hU hi ⊢
        by_cases h0 : i < 0
        · have d0 : decide (i < 0) = true := by simpa using h0
          clear hT hC hi hn
          go_wp2_with fail
          refine hU.mono ?_
          rintro e w1 ⟨rfl, hb1⟩
          have hB1 := hB0.next hb1
          clear hU hB0 hb1
          go_wp2_with fail
          refine (HC.out _ hB1).mono ?_
          rintro e w2 ⟨rfl, hb2⟩
          have hB2 := hB1.next hb2
          clear hB1 hb2
          go_wp2_with fail
          refine (Hawake.out _ hB2).mono ?_
          rintro e w5 ⟨rfl, hb5⟩
          go_wp2_with fail
          go_ret
          exact ⟨rfl, hB2.next hb5⟩
        · have d0 : decide (i < 0) = false := by simpa using h0
          have d1 : decide ((n : Int) ≤ i) = true := by simp; omega
          clear hT hC hi hn
          go_wp2_with fail
          refine hU.mono ?_
          rintro e w1 ⟨rfl, hb1⟩
          have hB1 := hB0.next hb1
          clear hU hB0 hb1
          go_wp2_with fail
          refine (HC.out _ hB1).mono ?_
          rintro e w2 ⟨rfl, hb2⟩
          have hB2 := hB1.next hb2
          clear hB1 hb2
          go_wp2_with fail
          refine (Hawake.out _ hB2).mono ?_
          rintro e w5 ⟨rfl, hb5⟩
          go_wp2_with fail
          go_ret
          exact ⟨rfl, hB2.next hb5⟩
    · obtain ⟨E, hE⟩ := name_of (chk (l.length + 1) l)
      have hE0 : E ≠ 0 := fun h => hT (hE.trans h)
      have hU := under_bad HR.out.sl HS.out i E hE hE0
      have hC := fun W (hb : Below w.heap.size w W) => refCheck_any (HR.out.next hb).sl HS.out
      rw [hE] at hC
      have HC := Lib.hid hC
      have e0 : (E != 0) = true := by simpa using hE0
      have e1 : (E == E) = true := by simp
      clear hT hC hE hE0
      go_wp2_with fail
      refine hU.mono ?_
      rintro e w1 ⟨rfl, hb1⟩
      have hB1 := hB0.next hb1
      clear hU hB0 hb1
      go_wp2_with fail
      refine (HC.out _ hB1).mono ?_
      rintro e w2 ⟨rfl, hb2⟩
      have hB2 := hB1.next hb2
      clear hB1 hb2
      go_wp2_with fail
      refine (Hawake.out _ hB2).mono ?_
      rintro e w5 ⟨rfl, hb5⟩
      go_wp2_with fail
      go_ret
      exact ⟨rfl, hB2.next hb5⟩
end P7
end Go.Proofs.YtlpkfklbdofmeaaDoor
