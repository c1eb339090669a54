/- Walks: Rows of layer 6, table.Done; TableOrder, whole. -/
import Derived.Test.YtlpkfklbdofmeaaDoorT7m
import Derived.Test.YtlpkfklbdofmeaaDoorT7t
namespace Go.Proofs.YtlpkfklbdofmeaaDoor
open Go.RowKit
namespace P7

theorem take_ext_any {α : Type} {l m : List α} {k : Nat} (hl : k < l.length) (hm : k < m.length) (h : l.take k = m.take k) (he : l[k] = m[k]) : l.take (k + 1) = m.take (k + 1) := by
  rw [List.take_succ_eq_append_getElem hl, List.take_succ_eq_append_getElem hm, h, he]

set_option maxHeartbeats 4000000 in
theorem rowsSame_any {w : World} {B B' : Nat} {va vb : Value} {la lb : List Row} (ha : Sl w B 7 va (rowsC la)) (hb : Sl w B' 7 vb (rowsC lb)) (hla : la.length ≤ 9223372036854775807) :
    Calls Tryd.prog 22 #[va, vb] w fun e w' => e = .returned (.bool (decide (la = lb))) ∧ Below w.heap.size w w' := by
  obtain ⟨A, c, rfl, hnc, hA⟩ := rows_open ha
  obtain ⟨A', c', rfl, hmc, hA'⟩ := rows_open hb
  obtain ⟨n, hn⟩ := name_of la.length
  obtain ⟨m, hm⟩ := name_of lb.length
  have HA := Lib.hid hA
  have HA' := Lib.hid hA'
  have HN := Lib.hid hn
  have HM := Lib.hid hm
  rw [hn] at hnc hla ⊢
  rw [hm] at hmc ⊢
  clear hA hA' ha hb hn hm
  by_cases hnm : n = m
  · subst hnm
    have e0 : ((n : Int) != n) = false := by simp
    go_enter Tryd.func22, Tryd.ntmps22
    go_wp2
    go_loopw [5] (fun i wr => ∃ k : Nat, k ≤ n ∧ i = .int .i64 k ∧ la.take k = lb.take k ∧ ∃ q, wr = w.drewN q) (fun i _ => n - (intOf i).toNat)
    case atStart => exact ⟨0, Nat.zero_le _, rfl, rfl, 0, rfl⟩
    case round =>
      obtain ⟨k, hk, rfl, ht, q, rfl⟩ := hrel
      by_cases hlt : k < n
      · have hkl : k < la.length := by have := HN.out; omega
        have hkm : k < lb.length := by have := HM.out; omega
        obtain ⟨b, off, rfl, -, a0, a1, a2, a3, a4, a5, a6⟩ := HA.out k hkl
        obtain ⟨b', off', rfl, -, a0', a1', a2', a3', a4', a5', a6'⟩ := HA'.out k hkm
        obtain ⟨⟨x0, x1, x2, x3, x4, x5, x6⟩, hx⟩ := name_of (at_ la k)
        obtain ⟨⟨y0, y1, y2, y3, y4, y5, y6⟩, hy⟩ := name_of (at_ lb k)
        rw [hx] at a0 a1 a2 a3 a4 a5 a6
        rw [hy] at a0' a1' a2' a3' a4' a5' a6'
        dsimp only at a0 a1 a2 a3 a4 a5 a6 a0' a1' a2' a3' a4' a5' a6'
        have HX := Lib.hid ((at_eq hkl).symm.trans hx)
        have HY := Lib.hid ((at_eq hkm).symm.trans hy)
        have hd := fun w => neq_row ⟨x0, x1, x2, x3, x4, x5, x6⟩ ⟨y0, y1, y2, y3, y4, y5, y6⟩ w
        have HT := Lib.hid ht
        clear hx hy ht
        by_cases he : (⟨x0, x1, x2, x3, x4, x5, x6⟩ : Row) = ⟨y0, y1, y2, y3, y4, y5, y6⟩
        · have HE := Lib.hid he
          rw [decide_eq_true he] at hd
          unfold rowV at hd
          simp only [Bool.not_true] at hd
          clear he
          go_wp2_with fail
          go_quiet (fail)
          go_wp2_with fail
          exact ⟨⟨k + 1, by omega, by go_num, take_ext_any hkl hkm HT.out (by rw [HX.out, HY.out, HE.out]), _, rfl⟩, by simp [intOf]; omega⟩
        · have HE := Lib.hid he
          rw [decide_eq_false he] at hd
          unfold rowV at hd
          simp only [Bool.not_false] at hd
          clear he
          go_wp2_with fail
          go_quiet (fail)
          go_wp2_with fail
          go_ret
          exact ⟨ret_bool (by symm; rw [decide_eq_false_iff_not]; rintro rfl; exact HE.out (HX.out.symm.trans HY.out)), below_drewN (below_drewN (Below.refl _ _) _) _⟩
      · have hkn : k = n := by omega
        subst hkn
        have HT := Lib.hid ht
        clear ht
        go_wp2_with fail
        go_ret
        refine ⟨ret_bool ?_, below_drewN (Below.refl _ _) _⟩
        have := HT.out
        rw [List.take_of_length_le (by have := HN.out; omega), List.take_of_length_le (by have := HM.out; omega)] at this
        symm
        simpa using this
  · have hne : ((n : Int) != m) = true := by simp; omega
    go_enter Tryd.func22, Tryd.ntmps22
    go_wp2
    go_ret
    exact ⟨ret_bool (by symm; rw [decide_eq_false_iff_not]; rintro rfl; exact hnm (HN.out.symm.trans HM.out)), Below.refl _ _⟩

theorem doneRow_any (r : Row) (w : World) : Calls Tryd.prog 45 #[rowV r] w fun e w' => e = .returned (.bool (!came r)) ∧ Below w.heap.size w w' := by
  obtain ⟨rp, ri, rf, rk, rv, rs, rc⟩ := r
  show Calls _ _ #[.agg #[.int .i64 rp, .int .i64 ri, .int .i64 rf, .int .i64 rk, .int .i64 rv, .int .i64 rs, .string rc]] _ _
  have hB0 : Below w.heap.size w (w.alloc (.cells #[.int .i64 rp, .int .i64 ri, .int .i64 rf, .int .i64 rk, .int .i64 rv, .int .i64 rs, .string rc] 40)) := by go_grown
  have hC := came_any ⟨rp, ri, rf, rk, rv, rs, rc⟩ (w.alloc (.cells #[.int .i64 rp, .int .i64 ri, .int .i64 rf, .int .i64 rk, .int .i64 rv, .int .i64 rs, .string rc] 40))
  obtain ⟨t, ht⟩ := name_of (came ⟨rp, ri, rf, rk, rv, rs, rc⟩)
  rw [ht] at hC ⊢
  clear ht
  go_enter Tryd.func45, Tryd.ntmps45
  go_wp2_with fail
  refine hC.mono ?_
  rintro e w3 ⟨rfl, hb3⟩
  cases t
  · go_wp2_with fail
    go_ret
    exact ⟨rfl, hB0.next hb3⟩
  · go_wp2_with fail
    go_ret
    exact ⟨rfl, hB0.next hb3⟩

def IdxPost (w : World) (l : List Row) (e : Ending) (w' : World) : Prop := (∃ i : Int, e = .returned (.int .i64 i) ∧ (DoneT l = decide (i < 0))) ∧ Below w.heap.size w w'
set_option maxHeartbeats 4000000 in
theorem index_any {w : World} {v : Value} {l : List Row} (h : Sl w w.heap.size 7 v (rowsC l)) (hlen : l.length ≤ 1000) :
    Calls Tryd.prog 59 #[v, .func (.func 45) #[] #[]] w (IdxPost w l) := by
  obtain ⟨A, c, rfl, hnc, hA⟩ := rows_open h
  obtain ⟨n, hn⟩ := name_of l.length
  have HA := Lib.hid hA
  have HN := Lib.hid hn
  rw [hn] at hnc hlen ⊢
  clear hA h hn
  go_enter Tryd.func59, Tryd.ntmps59
  go_wp2_with fail
  go_loopw [8] (fun i wr => ∃ k : Nat, k ≤ n ∧ i = .int .i64 k ∧ (∀ j, j < k → came (at_ l j) = true) ∧ Below w.heap.size w wr) (fun i _ => n - (intOf i).toNat)
  case atStart => exact ⟨0, Nat.zero_le _, rfl, fun j hj => by omega, Below.refl _ _⟩
  case round =>
    obtain ⟨k, hk, rfl, hall, hB⟩ := hrel
    have HALL := Lib.hid hall
    clear hall
    by_cases hlt : k < n
    · have hkl : k < l.length := by have := HN.out; omega
      obtain ⟨b, off, rfl, hb, a0, a1, a2, a3, a4, a5, a6⟩ := HA.out k hkl
      obtain ⟨⟨x0, x1, x2, x3, x4, x5, x6⟩, hx⟩ := name_of (at_ l k)
      rw [hx] at a0 a1 a2 a3 a4 a5 a6
      dsimp only at a0 a1 a2 a3 a4 a5 a6
      have q := fun j => hB.cell (p := ⟨b, j, none⟩) hb
      have d0 := (q _).trans a0
      have d1 := (q _).trans a1
      have d2 := (q _).trans a2
      have d3 := (q _).trans a3
      have d4 := (q _).trans a4
      have d5 := (q _).trans a5
      have d6 := (q _).trans a6
      have hD := doneRow_any ⟨x0, x1, x2, x3, x4, x5, x6⟩ wr
      obtain ⟨t, ht⟩ := name_of (came ⟨x0, x1, x2, x3, x4, x5, x6⟩)
      rw [ht] at hD
      unfold rowV at hD
      have HX : Hid (came (at_ l k) = t) := Lib.hid (by rw [hx]; exact ht)
      clear a0 a1 a2 a3 a4 a5 a6 q hx ht
      cases t
      · go_wp2_with fail
        refine hD.mono ?_
        rintro e w3 ⟨rfl, hb3⟩
        go_wp2_with fail
        go_ret
        refine ⟨⟨_, rfl, ?_⟩, hB.next hb3⟩
        rw [decide_eq_false (by omega), DoneT, List.all_eq_false]
        exact ⟨l[k], List.getElem_mem hkl, by rw [← at_eq hkl, HX.out]; simp⟩
      · go_wp2_with fail
        refine hD.mono ?_
        rintro e w3 ⟨rfl, hb3⟩
        go_wp2_with fail
        refine ⟨⟨k + 1, by omega, by go_num, fun j hj => ?_, hB.next hb3⟩, by simp [intOf]; omega⟩
        by_cases e : j = k
        · subst e; exact HX.out
        · exact HALL.out j (by omega)
    · go_wp2_with fail
      go_ret
      refine ⟨⟨_, rfl, ?_⟩, hB⟩
      rw [decide_eq_true (by omega), DoneT, List.all_eq_true]
      intro r hr
      obtain ⟨j, hj, rfl⟩ := List.getElem_of_mem hr
      rw [← at_eq hj]
      exact HALL.out j (by have := HN.out; omega)
theorem done_any {w : World} {v : Value} {l : List Row} (h : Sl w w.heap.size 7 v (rowsC l)) (hlen : l.length ≤ 1000) :
    Calls Tryd.prog 23 #[v] w fun e w' => e = .returned (.bool (DoneT l)) ∧ Below w.heap.size w w' := by
  have hI := index_any h hlen
  obtain ⟨A, c, rfl, -⟩ := rows_open h
  clear h
  have hC : Calls Tryd.prog 44 #[.slice A l.length c, .func (.func 45) #[] #[]] w fun e w' => e = .returned (.bool (!DoneT l)) ∧ Below w.heap.size w w' := by
    go_enter Tryd.func44, Tryd.ntmps44
    go_wp2_with fail
    refine hI.mono ?_
    rintro e w1 ⟨⟨i, rfl, hi⟩, hb1⟩
    have HI := Lib.hid hi
    clear hi
    by_cases h0 : i < 0
    · have H0 : Hid (DoneT l = true) := Lib.hid (HI.out.trans (decide_eq_true h0))
      have h1 : decide (0 ≤ i) = false := by simpa using h0
      go_wp2_with fail
      go_ret
      exact ⟨ret_bool (by rw [H0.out]; rfl), hb1⟩
    · have H0 : Hid (DoneT l = false) := Lib.hid (HI.out.trans (decide_eq_false h0))
      have h1 : decide (0 ≤ i) = true := by simp; omega
      go_wp2_with fail
      go_ret
      exact ⟨ret_bool (by rw [H0.out]; rfl), hb1⟩
  obtain ⟨t, ht⟩ := name_of (DoneT l)
  rw [ht] at hC ⊢
  clear ht hI
  go_enter Tryd.func23, Tryd.ntmps23
  go_wp2_with fail
  refine hC.mono ?_
  rintro e w1 ⟨rfl, hb1⟩
  cases t
  · go_wp2_with fail
    go_ret
    exact ⟨rfl, hb1⟩
  · go_wp2_with fail
    go_ret
    exact ⟨rfl, hb1⟩

set_option maxRecDepth 10000 in
set_option maxHeartbeats 8000000 in
theorem tableOrder_any {w : World} {v1 v2 v3 : Value} {l m n : List Row} (h1 : Rws w v1 l) (h2 : Rws w v2 m) (h3 : Rws w v3 n) (hpow : Pow w) : Calls Tryd.prog 6 #[v1, v2, v3] w fun e w' => e = .returned (.bool true) ∧ Below w.heap.size w w' := by
  have Hawake : Hid (∀ W, Below w.heap.size w W → Calls Tryd.prog 11 #[] W fun e w' => e = .returned (.bool true) ∧ Below W.heap.size W w') := Lib.hid (fun W hb => awake_any W (hpow.next hb))
  have hF1 := few_any h1
  have hF2 := few_any h2
  have hF3 := few_any h3
  obtain ⟨A1, c1, rfl, -, -⟩ := rows_open h1.sl
  obtain ⟨A2, c2, rfl, -, -⟩ := rows_open h2.sl
  obtain ⟨A3, c3, rfl, -, -⟩ := rows_open h3.sl
  have H1 := Lib.hid h1
  have H2 := Lib.hid h2
  have H3 := Lib.hid h3
  have hB0 := Below.refl w.heap.size w
  clear hpow h1 h2 h3
  go_enter Tryd.func6, Tryd.ntmps6
  go_wp2_with fail
  refine hF1.mono ?_
  rintro e w ⟨⟨b, rfl, hb⟩, rfl⟩
  clear hF1
  cases b
  · clear hb
    go_wp2_with fail
    refine (Hawake.out _ hB0).mono ?_
    rintro e w1 ⟨rfl, hb⟩
    have hB1 := hB0.next hb
    clear hB0 hb
    go_wp2_with fail
    go_ret
    exact ⟨rfl, hB1⟩
  · have S1 := Lib.hid (hb rfl)
    clear hb
    go_wp2_with fail
    refine hF2.mono ?_
    rintro e w ⟨⟨b, rfl, hb⟩, rfl⟩
    clear hF2
    cases b
    · clear hb
      go_wp2_with fail
      refine (Hawake.out _ hB0).mono ?_
      rintro e w1 ⟨rfl, hb⟩
      have hB1 := hB0.next hb
      clear hB0 hb
      go_wp2_with fail
      go_ret
      exact ⟨rfl, hB1⟩
    · have S2 := Lib.hid (hb rfl)
      clear hb
      go_wp2_with fail
      refine hF3.mono ?_
      rintro e w ⟨⟨b, rfl, hb⟩, rfl⟩
      clear hF3
      cases b
      · clear hb
        go_wp2_with fail
        refine (Hawake.out _ hB0).mono ?_
        rintro e w1 ⟨rfl, hb⟩
        have hB1 := hB0.next hb
        clear hB0 hb
        go_wp2_with fail
        go_ret
        exact ⟨rfl, hB1⟩
      · have S3 := Lib.hid (hb rfl)
        clear hb
        obtain ⟨E, hE⟩ := name_of (chk (l.length + 1) l)
        obtain ⟨ab, hab⟩ := name_of (GrownT l m)
        obtain ⟨bc, hbc⟩ := name_of (GrownT m n)
        obtain ⟨ac, hac⟩ := name_of (GrownT l n)
        obtain ⟨ba, hba⟩ := name_of (GrownT m l)
        obtain ⟨sm, hsm⟩ := name_of (decide (l = m))
        obtain ⟨dn, hdn⟩ := name_of (DoneT l)
        have hll : GrownT l l = decide (E = 0) := by rw [← hE]; exact GrownT_self l
        have Hc : Hid (∀ W, Below w.heap.size w W → Calls Tryd.prog 21 #[.slice A1 l.length c1] W fun e w' => e = .returned (.int .i64 E) ∧ Below W.heap.size W w') := Lib.hid (fun W hb => by rw [← hE]; exact checkT_any (H1.out.next hb).sl S1.out)
        have Hll : Hid (∀ W, Below w.heap.size w W → Calls Tryd.prog 19 #[.slice A1 l.length c1, .slice A1 l.length c1] W fun e w' => e = .returned (.bool (decide (E = 0))) ∧ Below W.heap.size W w') := Lib.hid (fun W hb => by rw [← hll]; exact grownAll_any (H1.out.next hb).sl (H1.out.next hb).sl S1.out S1.out)
        have Hab : Hid (∀ W, Below w.heap.size w W → Calls Tryd.prog 19 #[.slice A1 l.length c1, .slice A2 m.length c2] W fun e w' => e = .returned (.bool ab) ∧ Below W.heap.size W w') := Lib.hid (fun W hb => by rw [← hab]; exact grownAll_any (H1.out.next hb).sl (H2.out.next hb).sl S1.out S2.out)
        have Hbc : Hid (∀ W, Below w.heap.size w W → Calls Tryd.prog 19 #[.slice A2 m.length c2, .slice A3 n.length c3] W fun e w' => e = .returned (.bool bc) ∧ Below W.heap.size W w') := Lib.hid (fun W hb => by rw [← hbc]; exact grownAll_any (H2.out.next hb).sl (H3.out.next hb).sl S2.out S3.out)
        have Hac : Hid (∀ W, Below w.heap.size w W → Calls Tryd.prog 19 #[.slice A1 l.length c1, .slice A3 n.length c3] W fun e w' => e = .returned (.bool ac) ∧ Below W.heap.size W w') := Lib.hid (fun W hb => by rw [← hac]; exact grownAll_any (H1.out.next hb).sl (H3.out.next hb).sl S1.out S3.out)
        have Hba : Hid (∀ W, Below w.heap.size w W → Calls Tryd.prog 19 #[.slice A2 m.length c2, .slice A1 l.length c1] W fun e w' => e = .returned (.bool ba) ∧ Below W.heap.size W w') := Lib.hid (fun W hb => by rw [← hba]; exact grownAll_any (H2.out.next hb).sl (H1.out.next hb).sl S2.out S1.out)
        have Hsm : Hid (∀ W, Below w.heap.size w W → Calls Tryd.prog 22 #[.slice A1 l.length c1, .slice A2 m.length c2] W fun e w' => e = .returned (.bool sm) ∧ Below W.heap.size W w') := Lib.hid (fun W hb => by rw [← hsm]; exact rowsSame_any (H1.out.next hb).sl (H2.out.next hb).sl H1.out.len)
        have Hdn : Hid (∀ W, Below w.heap.size w W → Calls Tryd.prog 23 #[.slice A1 l.length c1] W fun e w' => e = .returned (.bool dn) ∧ Below W.heap.size W w') := Lib.hid (fun W hb => by rw [← hdn]; exact done_any (H1.out.next hb).sl (Nat.le_trans S1.out.1 (by omega)))
        have L1 : Hid (ab = true → bc = true → ac = true) := Lib.hid (by rw [← hab, ← hbc, ← hac]; exact GrownT_trans)
        have L2 : Hid (ab = true → ba = true → sm = true) := Lib.hid (by rw [← hab, ← hba, ← hsm]; exact fun h1 h2 => decide_eq_true (GrownT_anti h1 h2))
        have L3 : Hid (ab = true → dn = true → sm = true) := Lib.hid (by rw [← hab, ← hdn, ← hsm]; exact fun h1 h2 => decide_eq_true (GrownT_done h1 h2))
        have e0 : ∃ t : Bool, decide (E = 0) = t ∧ (E == 0) = t := ⟨_, rfl, rfl⟩
        obtain ⟨t, e1, e2⟩ := e0
        rw [e1] at Hll
        clear hE hab hbc hac hba hsm hdn hll e1
        cases t
        · skip
          cases ab
          · clear L1 L2 L3
            go_wp2_with fail
            refine (Hll.out _ hB0).mono ?_
            rintro e w1 ⟨rfl, hb⟩
            have hB1 := hB0.next hb
            clear hB0 hb
            go_wp2_with fail
            refine (Hc.out _ hB1).mono ?_
            rintro e w2 ⟨rfl, hb⟩
            have hB2 := hB1.next hb
            clear hB1 hb
            go_wp2_with fail
            refine (Hab.out _ hB2).mono ?_
            rintro e w3 ⟨rfl, hb⟩
            have hB3 := hB2.next hb
            clear hB2 hb
            go_wp2_with fail
            refine (Hab.out _ hB3).mono ?_
            rintro e w4 ⟨rfl, hb⟩
            have hB4 := hB3.next hb
            clear hB3 hb
            go_wp2_with fail
            refine (Hab.out _ hB4).mono ?_
            rintro e w5 ⟨rfl, hb⟩
            have hB5 := hB4.next hb
            clear hB4 hb
            go_wp2_with fail
            refine (Hawake.out _ hB5).mono ?_
            rintro e w6 ⟨rfl, hb⟩
            have hB6 := hB5.next hb
            clear hB5 hb
            go_wp2_with fail
            go_ret
            exact ⟨rfl, hB6⟩
          · have M1 := L1.out rfl
            have M2 := L2.out rfl
            have M3 := L3.out rfl
            clear L1 L2 L3
            cases bc
            · clear M1
              cases ba
              · clear M2
                cases dn
                · clear M3
                  go_wp2_with fail
                  refine (Hll.out _ hB0).mono ?_
                  rintro e w1 ⟨rfl, hb⟩
                  have hB1 := hB0.next hb
                  clear hB0 hb
                  go_wp2_with fail
                  refine (Hc.out _ hB1).mono ?_
                  rintro e w2 ⟨rfl, hb⟩
                  have hB2 := hB1.next hb
                  clear hB1 hb
                  go_wp2_with fail
                  refine (Hab.out _ hB2).mono ?_
                  rintro e w3 ⟨rfl, hb⟩
                  have hB3 := hB2.next hb
                  clear hB2 hb
                  go_wp2_with fail
                  refine (Hbc.out _ hB3).mono ?_
                  rintro e w4 ⟨rfl, hb⟩
                  have hB4 := hB3.next hb
                  clear hB3 hb
                  go_wp2_with fail
                  refine (Hab.out _ hB4).mono ?_
                  rintro e w5 ⟨rfl, hb⟩
                  have hB5 := hB4.next hb
                  clear hB4 hb
                  go_wp2_with fail
                  refine (Hba.out _ hB5).mono ?_
                  rintro e w6 ⟨rfl, hb⟩
                  have hB6 := hB5.next hb
                  clear hB5 hb
                  go_wp2_with fail
                  refine (Hab.out _ hB6).mono ?_
                  rintro e w7 ⟨rfl, hb⟩
                  have hB7 := hB6.next hb
                  clear hB6 hb
                  go_wp2_with fail
                  refine (Hdn.out _ hB7).mono ?_
                  rintro e w8 ⟨rfl, hb⟩
                  have hB8 := hB7.next hb
                  clear hB7 hb
                  go_wp2_with fail
                  refine (Hawake.out _ hB8).mono ?_
                  rintro e w9 ⟨rfl, hb⟩
                  have hB9 := hB8.next hb
                  clear hB8 hb
                  go_wp2_with fail
                  go_ret
                  exact ⟨rfl, hB9⟩
                · obtain rfl := M3 rfl
                  clear M3
                  go_wp2_with fail
                  refine (Hll.out _ hB0).mono ?_
                  rintro e w1 ⟨rfl, hb⟩
                  have hB1 := hB0.next hb
                  clear hB0 hb
                  go_wp2_with fail
                  refine (Hc.out _ hB1).mono ?_
                  rintro e w2 ⟨rfl, hb⟩
                  have hB2 := hB1.next hb
                  clear hB1 hb
                  go_wp2_with fail
                  refine (Hab.out _ hB2).mono ?_
                  rintro e w3 ⟨rfl, hb⟩
                  have hB3 := hB2.next hb
                  clear hB2 hb
                  go_wp2_with fail
                  refine (Hbc.out _ hB3).mono ?_
                  rintro e w4 ⟨rfl, hb⟩
                  have hB4 := hB3.next hb
                  clear hB3 hb
                  go_wp2_with fail
                  refine (Hab.out _ hB4).mono ?_
                  rintro e w5 ⟨rfl, hb⟩
                  have hB5 := hB4.next hb
                  clear hB4 hb
                  go_wp2_with fail
                  refine (Hba.out _ hB5).mono ?_
                  rintro e w6 ⟨rfl, hb⟩
                  have hB6 := hB5.next hb
                  clear hB5 hb
                  go_wp2_with fail
                  refine (Hab.out _ hB6).mono ?_
                  rintro e w7 ⟨rfl, hb⟩
                  have hB7 := hB6.next hb
                  clear hB6 hb
                  go_wp2_with fail
                  refine (Hdn.out _ hB7).mono ?_
                  rintro e w8 ⟨rfl, hb⟩
                  have hB8 := hB7.next hb
                  clear hB7 hb
                  go_wp2_with fail
                  refine (Hsm.out _ hB8).mono ?_
                  rintro e w9 ⟨rfl, hb⟩
                  have hB9 := hB8.next hb
                  clear hB8 hb
                  go_wp2_with fail
                  refine (Hawake.out _ hB9).mono ?_
                  rintro e w10 ⟨rfl, hb⟩
                  have hB10 := hB9.next hb
                  clear hB9 hb
                  go_wp2_with fail
                  go_ret
                  exact ⟨rfl, hB10⟩
              · obtain rfl := M2 rfl
                clear M2 M3
                cases dn
                · skip
                  go_wp2_with fail
                  refine (Hll.out _ hB0).mono ?_
                  rintro e w1 ⟨rfl, hb⟩
                  have hB1 := hB0.next hb
                  clear hB0 hb
                  go_wp2_with fail
                  refine (Hc.out _ hB1).mono ?_
                  rintro e w2 ⟨rfl, hb⟩
                  have hB2 := hB1.next hb
                  clear hB1 hb
                  go_wp2_with fail
                  refine (Hab.out _ hB2).mono ?_
                  rintro e w3 ⟨rfl, hb⟩
                  have hB3 := hB2.next hb
                  clear hB2 hb
                  go_wp2_with fail
                  refine (Hbc.out _ hB3).mono ?_
                  rintro e w4 ⟨rfl, hb⟩
                  have hB4 := hB3.next hb
                  clear hB3 hb
                  go_wp2_with fail
                  refine (Hab.out _ hB4).mono ?_
                  rintro e w5 ⟨rfl, hb⟩
                  have hB5 := hB4.next hb
                  clear hB4 hb
                  go_wp2_with fail
                  refine (Hba.out _ hB5).mono ?_
                  rintro e w6 ⟨rfl, hb⟩
                  have hB6 := hB5.next hb
                  clear hB5 hb
                  go_wp2_with fail
                  refine (Hsm.out _ hB6).mono ?_
                  rintro e w7 ⟨rfl, hb⟩
                  have hB7 := hB6.next hb
                  clear hB6 hb
                  go_wp2_with fail
                  refine (Hab.out _ hB7).mono ?_
                  rintro e w8 ⟨rfl, hb⟩
                  have hB8 := hB7.next hb
                  clear hB7 hb
                  go_wp2_with fail
                  refine (Hdn.out _ hB8).mono ?_
                  rintro e w9 ⟨rfl, hb⟩
                  have hB9 := hB8.next hb
                  clear hB8 hb
                  go_wp2_with fail
                  refine (Hawake.out _ hB9).mono ?_
                  rintro e w10 ⟨rfl, hb⟩
                  have hB10 := hB9.next hb
                  clear hB9 hb
                  go_wp2_with fail
                  go_ret
                  exact ⟨rfl, hB10⟩
                · skip
                  go_wp2_with fail
                  refine (Hll.out _ hB0).mono ?_
                  rintro e w1 ⟨rfl, hb⟩
                  have hB1 := hB0.next hb
                  clear hB0 hb
                  go_wp2_with fail
                  refine (Hc.out _ hB1).mono ?_
                  rintro e w2 ⟨rfl, hb⟩
                  have hB2 := hB1.next hb
                  clear hB1 hb
                  go_wp2_with fail
                  refine (Hab.out _ hB2).mono ?_
                  rintro e w3 ⟨rfl, hb⟩
                  have hB3 := hB2.next hb
                  clear hB2 hb
                  go_wp2_with fail
                  refine (Hbc.out _ hB3).mono ?_
                  rintro e w4 ⟨rfl, hb⟩
                  have hB4 := hB3.next hb
                  clear hB3 hb
                  go_wp2_with fail
                  refine (Hab.out _ hB4).mono ?_
                  rintro e w5 ⟨rfl, hb⟩
                  have hB5 := hB4.next hb
                  clear hB4 hb
                  go_wp2_with fail
                  refine (Hba.out _ hB5).mono ?_
                  rintro e w6 ⟨rfl, hb⟩
                  have hB6 := hB5.next hb
                  clear hB5 hb
                  go_wp2_with fail
                  refine (Hsm.out _ hB6).mono ?_
                  rintro e w7 ⟨rfl, hb⟩
                  have hB7 := hB6.next hb
                  clear hB6 hb
                  go_wp2_with fail
                  refine (Hab.out _ hB7).mono ?_
                  rintro e w8 ⟨rfl, hb⟩
                  have hB8 := hB7.next hb
                  clear hB7 hb
                  go_wp2_with fail
                  refine (Hdn.out _ hB8).mono ?_
                  rintro e w9 ⟨rfl, hb⟩
                  have hB9 := hB8.next hb
                  clear hB8 hb
                  go_wp2_with fail
                  refine (Hsm.out _ hB9).mono ?_
                  rintro e w10 ⟨rfl, hb⟩
                  have hB10 := hB9.next hb
                  clear hB9 hb
                  go_wp2_with fail
                  refine (Hawake.out _ hB10).mono ?_
                  rintro e w11 ⟨rfl, hb⟩
                  have hB11 := hB10.next hb
                  clear hB10 hb
                  go_wp2_with fail
                  go_ret
                  exact ⟨rfl, hB11⟩
            · obtain rfl := M1 rfl
              clear M1
              cases ba
              · clear M2
                cases dn
                · clear M3
                  go_wp2_with fail
                  refine (Hll.out _ hB0).mono ?_
                  rintro e w1 ⟨rfl, hb⟩
                  have hB1 := hB0.next hb
                  clear hB0 hb
                  go_wp2_with fail
                  refine (Hc.out _ hB1).mono ?_
                  rintro e w2 ⟨rfl, hb⟩
                  have hB2 := hB1.next hb
                  clear hB1 hb
                  go_wp2_with fail
                  refine (Hab.out _ hB2).mono ?_
                  rintro e w3 ⟨rfl, hb⟩
                  have hB3 := hB2.next hb
                  clear hB2 hb
                  go_wp2_with fail
                  refine (Hbc.out _ hB3).mono ?_
                  rintro e w4 ⟨rfl, hb⟩
                  have hB4 := hB3.next hb
                  clear hB3 hb
                  go_wp2_with fail
                  refine (Hac.out _ hB4).mono ?_
                  rintro e w5 ⟨rfl, hb⟩
                  have hB5 := hB4.next hb
                  clear hB4 hb
                  go_wp2_with fail
                  refine (Hab.out _ hB5).mono ?_
                  rintro e w6 ⟨rfl, hb⟩
                  have hB6 := hB5.next hb
                  clear hB5 hb
                  go_wp2_with fail
                  refine (Hba.out _ hB6).mono ?_
                  rintro e w7 ⟨rfl, hb⟩
                  have hB7 := hB6.next hb
                  clear hB6 hb
                  go_wp2_with fail
                  refine (Hab.out _ hB7).mono ?_
                  rintro e w8 ⟨rfl, hb⟩
                  have hB8 := hB7.next hb
                  clear hB7 hb
                  go_wp2_with fail
                  refine (Hdn.out _ hB8).mono ?_
                  rintro e w9 ⟨rfl, hb⟩
                  have hB9 := hB8.next hb
                  clear hB8 hb
                  go_wp2_with fail
                  refine (Hawake.out _ hB9).mono ?_
                  rintro e w10 ⟨rfl, hb⟩
                  have hB10 := hB9.next hb
                  clear hB9 hb
                  go_wp2_with fail
                  go_ret
                  exact ⟨rfl, hB10⟩
                · obtain rfl := M3 rfl
                  clear M3
                  go_wp2_with fail
                  refine (Hll.out _ hB0).mono ?_
                  rintro e w1 ⟨rfl, hb⟩
                  have hB1 := hB0.next hb
                  clear hB0 hb
                  go_wp2_with fail
                  refine (Hc.out _ hB1).mono ?_
                  rintro e w2 ⟨rfl, hb⟩
                  have hB2 := hB1.next hb
                  clear hB1 hb
                  go_wp2_with fail
                  refine (Hab.out _ hB2).mono ?_
                  rintro e w3 ⟨rfl, hb⟩
                  have hB3 := hB2.next hb
                  clear hB2 hb
                  go_wp2_with fail
                  refine (Hbc.out _ hB3).mono ?_
                  rintro e w4 ⟨rfl, hb⟩
                  have hB4 := hB3.next hb
                  clear hB3 hb
                  go_wp2_with fail
                  refine (Hac.out _ hB4).mono ?_
                  rintro e w5 ⟨rfl, hb⟩
                  have hB5 := hB4.next hb
                  clear hB4 hb
                  go_wp2_with fail
                  refine (Hab.out _ hB5).mono ?_
                  rintro e w6 ⟨rfl, hb⟩
                  have hB6 := hB5.next hb
                  clear hB5 hb
                  go_wp2_with fail
                  refine (Hba.out _ hB6).mono ?_
                  rintro e w7 ⟨rfl, hb⟩
                  have hB7 := hB6.next hb
                  clear hB6 hb
                  go_wp2_with fail
                  refine (Hab.out _ hB7).mono ?_
                  rintro e w8 ⟨rfl, hb⟩
                  have hB8 := hB7.next hb
                  clear hB7 hb
                  go_wp2_with fail
                  refine (Hdn.out _ hB8).mono ?_
                  rintro e w9 ⟨rfl, hb⟩
                  have hB9 := hB8.next hb
                  clear hB8 hb
                  go_wp2_with fail
                  refine (Hsm.out _ hB9).mono ?_
                  rintro e w10 ⟨rfl, hb⟩
                  have hB10 := hB9.next hb
                  clear hB9 hb
                  go_wp2_with fail
                  refine (Hawake.out _ hB10).mono ?_
                  rintro e w11 ⟨rfl, hb⟩
                  have hB11 := hB10.next hb
                  clear hB10 hb
                  go_wp2_with fail
                  go_ret
                  exact ⟨rfl, hB11⟩
              · obtain rfl := M2 rfl
                clear M2 M3
                cases dn
                · skip
                  go_wp2_with fail
                  refine (Hll.out _ hB0).mono ?_
                  rintro e w1 ⟨rfl, hb⟩
                  have hB1 := hB0.next hb
                  clear hB0 hb
                  go_wp2_with fail
                  refine (Hc.out _ hB1).mono ?_
                  rintro e w2 ⟨rfl, hb⟩
                  have hB2 := hB1.next hb
                  clear hB1 hb
                  go_wp2_with fail
                  refine (Hab.out _ hB2).mono ?_
                  rintro e w3 ⟨rfl, hb⟩
                  have hB3 := hB2.next hb
                  clear hB2 hb
                  go_wp2_with fail
                  refine (Hbc.out _ hB3).mono ?_
                  rintro e w4 ⟨rfl, hb⟩
                  have hB4 := hB3.next hb
                  clear hB3 hb
                  go_wp2_with fail
                  refine (Hac.out _ hB4).mono ?_
                  rintro e w5 ⟨rfl, hb⟩
                  have hB5 := hB4.next hb
                  clear hB4 hb
                  go_wp2_with fail
                  refine (Hab.out _ hB5).mono ?_
                  rintro e w6 ⟨rfl, hb⟩
                  have hB6 := hB5.next hb
                  clear hB5 hb
                  go_wp2_with fail
                  refine (Hba.out _ hB6).mono ?_
                  rintro e w7 ⟨rfl, hb⟩
                  have hB7 := hB6.next hb
                  clear hB6 hb
                  go_wp2_with fail
                  refine (Hsm.out _ hB7).mono ?_
                  rintro e w8 ⟨rfl, hb⟩
                  have hB8 := hB7.next hb
                  clear hB7 hb
                  go_wp2_with fail
                  refine (Hab.out _ hB8).mono ?_
                  rintro e w9 ⟨rfl, hb⟩
                  have hB9 := hB8.next hb
                  clear hB8 hb
                  go_wp2_with fail
                  refine (Hdn.out _ hB9).mono ?_
                  rintro e w10 ⟨rfl, hb⟩
                  have hB10 := hB9.next hb
                  clear hB9 hb
                  go_wp2_with fail
                  refine (Hawake.out _ hB10).mono ?_
                  rintro e w11 ⟨rfl, hb⟩
                  have hB11 := hB10.next hb
                  clear hB10 hb
                  go_wp2_with fail
                  go_ret
                  exact ⟨rfl, hB11⟩
                · skip
                  go_wp2_with fail
                  refine (Hll.out _ hB0).mono ?_
                  rintro e w1 ⟨rfl, hb⟩
                  have hB1 := hB0.next hb
                  clear hB0 hb
                  go_wp2_with fail
                  refine (Hc.out _ hB1).mono ?_
                  rintro e w2 ⟨rfl, hb⟩
                  have hB2 := hB1.next hb
                  clear hB1 hb
                  go_wp2_with fail
                  refine (Hab.out _ hB2).mono ?_
                  rintro e w3 ⟨rfl, hb⟩
                  have hB3 := hB2.next hb
                  clear hB2 hb
                  go_wp2_with fail
                  refine (Hbc.out _ hB3).mono ?_
                  rintro e w4 ⟨rfl, hb⟩
                  have hB4 := hB3.next hb
                  clear hB3 hb
                  go_wp2_with fail
                  refine (Hac.out _ hB4).mono ?_
                  rintro e w5 ⟨rfl, hb⟩
                  have hB5 := hB4.next hb
                  clear hB4 hb
                  go_wp2_with fail
                  refine (Hab.out _ hB5).mono ?_
                  rintro e w6 ⟨rfl, hb⟩
                  have hB6 := hB5.next hb
                  clear hB5 hb
                  go_wp2_with fail
                  refine (Hba.out _ hB6).mono ?_
                  rintro e w7 ⟨rfl, hb⟩
                  have hB7 := hB6.next hb
                  clear hB6 hb
                  go_wp2_with fail
                  refine (Hsm.out _ hB7).mono ?_
                  rintro e w8 ⟨rfl, hb⟩
                  have hB8 := hB7.next hb
                  clear hB7 hb
                  go_wp2_with fail
                  refine (Hab.out _ hB8).mono ?_
                  rintro e w9 ⟨rfl, hb⟩
                  have hB9 := hB8.next hb
                  clear hB8 hb
                  go_wp2_with fail
                  refine (Hdn.out _ hB9).mono ?_
                  rintro e w10 ⟨rfl, hb⟩
                  have hB10 := hB9.next hb
                  clear hB9 hb
                  go_wp2_with fail
                  refine (Hsm.out _ hB10).mono ?_
                  rintro e w11 ⟨rfl, hb⟩
                  have hB11 := hB10.next hb
                  clear hB10 hb
                  go_wp2_with fail
                  refine (Hawake.out _ hB11).mono ?_
                  rintro e w12 ⟨rfl, hb⟩
                  have hB12 := hB11.next hb
                  clear hB11 hb
                  go_wp2_with fail
                  go_ret
                  exact ⟨rfl, hB12⟩
        · skip
          cases ab
          · clear L1 L2 L3
            go_wp2_with fail
            refine (Hll.out _ hB0).mono ?_
            rintro e w1 ⟨rfl, hb⟩
            have hB1 := hB0.next hb
            clear hB0 hb
            go_wp2_with fail
            refine (Hc.out _ hB1).mono ?_
            rintro e w2 ⟨rfl, hb⟩
            have hB2 := hB1.next hb
            clear hB1 hb
            go_wp2_with fail
            refine (Hab.out _ hB2).mono ?_
            rintro e w3 ⟨rfl, hb⟩
            have hB3 := hB2.next hb
            clear hB2 hb
            go_wp2_with fail
            refine (Hab.out _ hB3).mono ?_
            rintro e w4 ⟨rfl, hb⟩
            have hB4 := hB3.next hb
            clear hB3 hb
            go_wp2_with fail
            refine (Hab.out _ hB4).mono ?_
            rintro e w5 ⟨rfl, hb⟩
            have hB5 := hB4.next hb
            clear hB4 hb
            go_wp2_with fail
            refine (Hawake.out _ hB5).mono ?_
            rintro e w6 ⟨rfl, hb⟩
            have hB6 := hB5.next hb
            clear hB5 hb
            go_wp2_with fail
            go_ret
            exact ⟨rfl, hB6⟩
          · have M1 := L1.out rfl
            have M2 := L2.out rfl
            have M3 := L3.out rfl
            clear L1 L2 L3
            cases bc
            · clear M1
              cases ba
              · clear M2
                cases dn
                · clear M3
                  go_wp2_with fail
                  refine (Hll.out _ hB0).mono ?_
                  rintro e w1 ⟨rfl, hb⟩
                  have hB1 := hB0.next hb
                  clear hB0 hb
                  go_wp2_with fail
                  refine (Hc.out _ hB1).mono ?_
                  rintro e w2 ⟨rfl, hb⟩
                  have hB2 := hB1.next hb
                  clear hB1 hb
                  go_wp2_with fail
                  refine (Hab.out _ hB2).mono ?_
                  rintro e w3 ⟨rfl, hb⟩
                  have hB3 := hB2.next hb
                  clear hB2 hb
                  go_wp2_with fail
                  refine (Hbc.out _ hB3).mono ?_
                  rintro e w4 ⟨rfl, hb⟩
                  have hB4 := hB3.next hb
                  clear hB3 hb
                  go_wp2_with fail
                  refine (Hab.out _ hB4).mono ?_
                  rintro e w5 ⟨rfl, hb⟩
                  have hB5 := hB4.next hb
                  clear hB4 hb
                  go_wp2_with fail
                  refine (Hba.out _ hB5).mono ?_
                  rintro e w6 ⟨rfl, hb⟩
                  have hB6 := hB5.next hb
                  clear hB5 hb
                  go_wp2_with fail
                  refine (Hab.out _ hB6).mono ?_
                  rintro e w7 ⟨rfl, hb⟩
                  have hB7 := hB6.next hb
                  clear hB6 hb
                  go_wp2_with fail
                  refine (Hdn.out _ hB7).mono ?_
                  rintro e w8 ⟨rfl, hb⟩
                  have hB8 := hB7.next hb
                  clear hB7 hb
                  go_wp2_with fail
                  refine (Hawake.out _ hB8).mono ?_
                  rintro e w9 ⟨rfl, hb⟩
                  have hB9 := hB8.next hb
                  clear hB8 hb
                  go_wp2_with fail
                  go_ret
                  exact ⟨rfl, hB9⟩
                · obtain rfl := M3 rfl
                  clear M3
                  go_wp2_with fail
                  refine (Hll.out _ hB0).mono ?_
                  rintro e w1 ⟨rfl, hb⟩
                  have hB1 := hB0.next hb
                  clear hB0 hb
                  go_wp2_with fail
                  refine (Hc.out _ hB1).mono ?_
                  rintro e w2 ⟨rfl, hb⟩
                  have hB2 := hB1.next hb
                  clear hB1 hb
                  go_wp2_with fail
                  refine (Hab.out _ hB2).mono ?_
                  rintro e w3 ⟨rfl, hb⟩
                  have hB3 := hB2.next hb
                  clear hB2 hb
                  go_wp2_with fail
                  refine (Hbc.out _ hB3).mono ?_
                  rintro e w4 ⟨rfl, hb⟩
                  have hB4 := hB3.next hb
                  clear hB3 hb
                  go_wp2_with fail
                  refine (Hab.out _ hB4).mono ?_
                  rintro e w5 ⟨rfl, hb⟩
                  have hB5 := hB4.next hb
                  clear hB4 hb
                  go_wp2_with fail
                  refine (Hba.out _ hB5).mono ?_
                  rintro e w6 ⟨rfl, hb⟩
                  have hB6 := hB5.next hb
                  clear hB5 hb
                  go_wp2_with fail
                  refine (Hab.out _ hB6).mono ?_
                  rintro e w7 ⟨rfl, hb⟩
                  have hB7 := hB6.next hb
                  clear hB6 hb
                  go_wp2_with fail
                  refine (Hdn.out _ hB7).mono ?_
                  rintro e w8 ⟨rfl, hb⟩
                  have hB8 := hB7.next hb
                  clear hB7 hb
                  go_wp2_with fail
                  refine (Hsm.out _ hB8).mono ?_
                  rintro e w9 ⟨rfl, hb⟩
                  have hB9 := hB8.next hb
                  clear hB8 hb
                  go_wp2_with fail
                  refine (Hawake.out _ hB9).mono ?_
                  rintro e w10 ⟨rfl, hb⟩
                  have hB10 := hB9.next hb
                  clear hB9 hb
                  go_wp2_with fail
                  go_ret
                  exact ⟨rfl, hB10⟩
              · obtain rfl := M2 rfl
                clear M2 M3
                cases dn
                · skip
                  go_wp2_with fail
                  refine (Hll.out _ hB0).mono ?_
                  rintro e w1 ⟨rfl, hb⟩
                  have hB1 := hB0.next hb
                  clear hB0 hb
                  go_wp2_with fail
                  refine (Hc.out _ hB1).mono ?_
                  rintro e w2 ⟨rfl, hb⟩
                  have hB2 := hB1.next hb
                  clear hB1 hb
                  go_wp2_with fail
                  refine (Hab.out _ hB2).mono ?_
                  rintro e w3 ⟨rfl, hb⟩
                  have hB3 := hB2.next hb
                  clear hB2 hb
                  go_wp2_with fail
                  refine (Hbc.out _ hB3).mono ?_
                  rintro e w4 ⟨rfl, hb⟩
                  have hB4 := hB3.next hb
                  clear hB3 hb
                  go_wp2_with fail
                  refine (Hab.out _ hB4).mono ?_
                  rintro e w5 ⟨rfl, hb⟩
                  have hB5 := hB4.next hb
                  clear hB4 hb
                  go_wp2_with fail
                  refine (Hba.out _ hB5).mono ?_
                  rintro e w6 ⟨rfl, hb⟩
                  have hB6 := hB5.next hb
                  clear hB5 hb
                  go_wp2_with fail
                  refine (Hsm.out _ hB6).mono ?_
                  rintro e w7 ⟨rfl, hb⟩
                  have hB7 := hB6.next hb
                  clear hB6 hb
                  go_wp2_with fail
                  refine (Hab.out _ hB7).mono ?_
                  rintro e w8 ⟨rfl, hb⟩
                  have hB8 := hB7.next hb
                  clear hB7 hb
                  go_wp2_with fail
                  refine (Hdn.out _ hB8).mono ?_
                  rintro e w9 ⟨rfl, hb⟩
                  have hB9 := hB8.next hb
                  clear hB8 hb
                  go_wp2_with fail
                  refine (Hawake.out _ hB9).mono ?_
                  rintro e w10 ⟨rfl, hb⟩
                  have hB10 := hB9.next hb
                  clear hB9 hb
                  go_wp2_with fail
                  go_ret
                  exact ⟨rfl, hB10⟩
                · skip
                  go_wp2_with fail
                  refine (Hll.out _ hB0).mono ?_
                  rintro e w1 ⟨rfl, hb⟩
                  have hB1 := hB0.next hb
                  clear hB0 hb
                  go_wp2_with fail
                  refine (Hc.out _ hB1).mono ?_
                  rintro e w2 ⟨rfl, hb⟩
                  have hB2 := hB1.next hb
                  clear hB1 hb
                  go_wp2_with fail
                  refine (Hab.out _ hB2).mono ?_
                  rintro e w3 ⟨rfl, hb⟩
                  have hB3 := hB2.next hb
                  clear hB2 hb
                  go_wp2_with fail
                  refine (Hbc.out _ hB3).mono ?_
                  rintro e w4 ⟨rfl, hb⟩
                  have hB4 := hB3.next hb
                  clear hB3 hb
                  go_wp2_with fail
                  refine (Hab.out _ hB4).mono ?_
                  rintro e w5 ⟨rfl, hb⟩
                  have hB5 := hB4.next hb
                  clear hB4 hb
                  go_wp2_with fail
                  refine (Hba.out _ hB5).mono ?_
                  rintro e w6 ⟨rfl, hb⟩
                  have hB6 := hB5.next hb
                  clear hB5 hb
                  go_wp2_with fail
                  refine (Hsm.out _ hB6).mono ?_
                  rintro e w7 ⟨rfl, hb⟩
                  have hB7 := hB6.next hb
                  clear hB6 hb
                  go_wp2_with fail
                  refine (Hab.out _ hB7).mono ?_
                  rintro e w8 ⟨rfl, hb⟩
                  have hB8 := hB7.next hb
                  clear hB7 hb
                  go_wp2_with fail
                  refine (Hdn.out _ hB8).mono ?_
                  rintro e w9 ⟨rfl, hb⟩
                  have hB9 := hB8.next hb
                  clear hB8 hb
                  go_wp2_with fail
                  refine (Hsm.out _ hB9).mono ?_
                  rintro e w10 ⟨rfl, hb⟩
                  have hB10 := hB9.next hb
                  clear hB9 hb
                  go_wp2_with fail
                  refine (Hawake.out _ hB10).mono ?_
                  rintro e w11 ⟨rfl, hb⟩
                  have hB11 := hB10.next hb
                  clear hB10 hb
                  go_wp2_with fail
                  go_ret
                  exact ⟨rfl, hB11⟩
            · obtain rfl := M1 rfl
              clear M1
              cases ba
              · clear M2
                cases dn
                · clear M3
                  go_wp2_with fail
                  refine (Hll.out _ hB0).mono ?_
                  rintro e w1 ⟨rfl, hb⟩
                  have hB1 := hB0.next hb
                  clear hB0 hb
                  go_wp2_with fail
                  refine (Hc.out _ hB1).mono ?_
                  rintro e w2 ⟨rfl, hb⟩
                  have hB2 := hB1.next hb
                  clear hB1 hb
                  go_wp2_with fail
                  refine (Hab.out _ hB2).mono ?_
                  rintro e w3 ⟨rfl, hb⟩
                  have hB3 := hB2.next hb
                  clear hB2 hb
                  go_wp2_with fail
                  refine (Hbc.out _ hB3).mono ?_
                  rintro e w4 ⟨rfl, hb⟩
                  have hB4 := hB3.next hb
                  clear hB3 hb
                  go_wp2_with fail
                  refine (Hac.out _ hB4).mono ?_
                  rintro e w5 ⟨rfl, hb⟩
                  have hB5 := hB4.next hb
                  clear hB4 hb
                  go_wp2_with fail
                  refine (Hab.out _ hB5).mono ?_
                  rintro e w6 ⟨rfl, hb⟩
                  have hB6 := hB5.next hb
                  clear hB5 hb
                  go_wp2_with fail
                  refine (Hba.out _ hB6).mono ?_
                  rintro e w7 ⟨rfl, hb⟩
                  have hB7 := hB6.next hb
                  clear hB6 hb
                  go_wp2_with fail
                  refine (Hab.out _ hB7).mono ?_
                  rintro e w8 ⟨rfl, hb⟩
                  have hB8 := hB7.next hb
                  clear hB7 hb
                  go_wp2_with fail
                  refine (Hdn.out _ hB8).mono ?_
                  rintro e w9 ⟨rfl, hb⟩
                  have hB9 := hB8.next hb
                  clear hB8 hb
                  go_wp2_with fail
                  refine (Hawake.out _ hB9).mono ?_
                  rintro e w10 ⟨rfl, hb⟩
                  have hB10 := hB9.next hb
                  clear hB9 hb
                  go_wp2_with fail
                  go_ret
                  exact ⟨rfl, hB10⟩
                · obtain rfl := M3 rfl
                  clear M3
                  go_wp2_with fail
                  refine (Hll.out _ hB0).mono ?_
                  rintro e w1 ⟨rfl, hb⟩
                  have hB1 := hB0.next hb
                  clear hB0 hb
                  go_wp2_with fail
                  refine (Hc.out _ hB1).mono ?_
                  rintro e w2 ⟨rfl, hb⟩
                  have hB2 := hB1.next hb
                  clear hB1 hb
                  go_wp2_with fail
                  refine (Hab.out _ hB2).mono ?_
                  rintro e w3 ⟨rfl, hb⟩
                  have hB3 := hB2.next hb
                  clear hB2 hb
                  go_wp2_with fail
                  refine (Hbc.out _ hB3).mono ?_
                  rintro e w4 ⟨rfl, hb⟩
                  have hB4 := hB3.next hb
                  clear hB3 hb
                  go_wp2_with fail
                  refine (Hac.out _ hB4).mono ?_
                  rintro e w5 ⟨rfl, hb⟩
                  have hB5 := hB4.next hb
                  clear hB4 hb
                  go_wp2_with fail
                  refine (Hab.out _ hB5).mono ?_
                  rintro e w6 ⟨rfl, hb⟩
                  have hB6 := hB5.next hb
                  clear hB5 hb
                  go_wp2_with fail
                  refine (Hba.out _ hB6).mono ?_
                  rintro e w7 ⟨rfl, hb⟩
                  have hB7 := hB6.next hb
                  clear hB6 hb
                  go_wp2_with fail
                  refine (Hab.out _ hB7).mono ?_
                  rintro e w8 ⟨rfl, hb⟩
                  have hB8 := hB7.next hb
                  clear hB7 hb
                  go_wp2_with fail
                  refine (Hdn.out _ hB8).mono ?_
                  rintro e w9 ⟨rfl, hb⟩
                  have hB9 := hB8.next hb
                  clear hB8 hb
                  go_wp2_with fail
                  refine (Hsm.out _ hB9).mono ?_
                  rintro e w10 ⟨rfl, hb⟩
                  have hB10 := hB9.next hb
                  clear hB9 hb
                  go_wp2_with fail
                  refine (Hawake.out _ hB10).mono ?_
                  rintro e w11 ⟨rfl, hb⟩
                  have hB11 := hB10.next hb
                  clear hB10 hb
                  go_wp2_with fail
                  go_ret
                  exact ⟨rfl, hB11⟩
              · obtain rfl := M2 rfl
                clear M2 M3
                cases dn
                · skip
                  go_wp2_with fail
                  refine (Hll.out _ hB0).mono ?_
                  rintro e w1 ⟨rfl, hb⟩
                  have hB1 := hB0.next hb
                  clear hB0 hb
                  go_wp2_with fail
                  refine (Hc.out _ hB1).mono ?_
                  rintro e w2 ⟨rfl, hb⟩
                  have hB2 := hB1.next hb
                  clear hB1 hb
                  go_wp2_with fail
                  refine (Hab.out _ hB2).mono ?_
                  rintro e w3 ⟨rfl, hb⟩
                  have hB3 := hB2.next hb
                  clear hB2 hb
                  go_wp2_with fail
                  refine (Hbc.out _ hB3).mono ?_
                  rintro e w4 ⟨rfl, hb⟩
                  have hB4 := hB3.next hb
                  clear hB3 hb
                  go_wp2_with fail
                  refine (Hac.out _ hB4).mono ?_
                  rintro e w5 ⟨rfl, hb⟩
                  have hB5 := hB4.next hb
                  clear hB4 hb
                  go_wp2_with fail
                  refine (Hab.out _ hB5).mono ?_
                  rintro e w6 ⟨rfl, hb⟩
                  have hB6 := hB5.next hb
                  clear hB5 hb
                  go_wp2_with fail
                  refine (Hba.out _ hB6).mono ?_
                  rintro e w7 ⟨rfl, hb⟩
                  have hB7 := hB6.next hb
                  clear hB6 hb
                  go_wp2_with fail
                  refine (Hsm.out _ hB7).mono ?_
                  rintro e w8 ⟨rfl, hb⟩
                  have hB8 := hB7.next hb
                  clear hB7 hb
                  go_wp2_with fail
                  refine (Hab.out _ hB8).mono ?_
                  rintro e w9 ⟨rfl, hb⟩
                  have hB9 := hB8.next hb
                  clear hB8 hb
                  go_wp2_with fail
                  refine (Hdn.out _ hB9).mono ?_
                  rintro e w10 ⟨rfl, hb⟩
                  have hB10 := hB9.next hb
                  clear hB9 hb
                  go_wp2_with fail
                  refine (Hawake.out _ hB10).mono ?_
                  rintro e w11 ⟨rfl, hb⟩
                  have hB11 := hB10.next hb
                  clear hB10 hb
                  go_wp2_with fail
                  go_ret
                  exact ⟨rfl, hB11⟩
                · skip
                  go_wp2_with fail
                  refine (Hll.out _ hB0).mono ?_
                  rintro e w1 ⟨rfl, hb⟩
                  have hB1 := hB0.next hb
                  clear hB0 hb
                  go_wp2_with fail
                  refine (Hc.out _ hB1).mono ?_
                  rintro e w2 ⟨rfl, hb⟩
                  have hB2 := hB1.next hb
                  clear hB1 hb
                  go_wp2_with fail
                  refine (Hab.out _ hB2).mono ?_
                  rintro e w3 ⟨rfl, hb⟩
                  have hB3 := hB2.next hb
                  clear hB2 hb
                  go_wp2_with fail
                  refine (Hbc.out _ hB3).mono ?_
                  rintro e w4 ⟨rfl, hb⟩
                  have hB4 := hB3.next hb
                  clear hB3 hb
                  go_wp2_with fail
                  refine (Hac.out _ hB4).mono ?_
                  rintro e w5 ⟨rfl, hb⟩
                  have hB5 := hB4.next hb
                  clear hB4 hb
                  go_wp2_with fail
                  refine (Hab.out _ hB5).mono ?_
                  rintro e w6 ⟨rfl, hb⟩
                  have hB6 := hB5.next hb
                  clear hB5 hb
                  go_wp2_with fail
                  refine (Hba.out _ hB6).mono ?_
                  rintro e w7 ⟨rfl, hb⟩
                  have hB7 := hB6.next hb
                  clear hB6 hb
                  go_wp2_with fail
                  refine (Hsm.out _ hB7).mono ?_
                  rintro e w8 ⟨rfl, hb⟩
                  have hB8 := hB7.next hb
                  clear hB7 hb
                  go_wp2_with fail
                  refine (Hab.out _ hB8).mono ?_
                  rintro e w9 ⟨rfl, hb⟩
                  have hB9 := hB8.next hb
                  clear hB8 hb
                  go_wp2_with fail
                  refine (Hdn.out _ hB9).mono ?_
                  rintro e w10 ⟨rfl, hb⟩
                  have hB10 := hB9.next hb
                  clear hB9 hb
                  go_wp2_with fail
                  refine (Hsm.out _ hB10).mono ?_
                  rintro e w11 ⟨rfl, hb⟩
                  have hB11 := hB10.next hb
                  clear hB10 hb
                  go_wp2_with fail
                  refine (Hawake.out _ hB11).mono ?_
                  rintro e w12 ⟨rfl, hb⟩
                  have hB12 := hB11.next hb
                  clear hB11 hb
                  go_wp2_with fail
                  go_ret
                  exact ⟨rfl, hB12⟩
end P7
end Go.Proofs.YtlpkfklbdofmeaaDoor
