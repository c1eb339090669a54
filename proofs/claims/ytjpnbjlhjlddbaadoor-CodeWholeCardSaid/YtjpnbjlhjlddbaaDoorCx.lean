/- Walk: CodeWhole. -/
import Derived.Test.YtjpnbjlhjlddbaaDoorCw
import Derived.Deep.QuietTactic
import Derived.BigQuiet
import Derived.BigRegion
namespace Go.Proofs.YtjpnbjlhjlddbaaDoor
open Go.RowKit
namespace P2

theorem awake_ret {w w1 : World} {B : Nat} (hB : Below B w w1) (hle : B ≤ w1.heap.size) : Calls Tryd.prog 13 #[] w1 fun e w' => e = .returned (.bool true) ∧ Below B w w' :=
  (awake_any w1).mono fun _ _ ⟨h, hb⟩ => ⟨h, hB.trans (hb.mono hle)⟩

set_option maxRecDepth 100000 in
set_option maxHeartbeats 40000000 in
theorem codeWhole_any {w : World} {pv : Value} {p : List Fn} (hp : Prog w pv p) (n0 n1 a : Int) :
    Calls Tryd.prog 10 #[.agg #[pv], .agg #[.int .i64 n0, .int .i64 n1], .int .i64 a] w fun e w' => e = .returned (.bool true) ∧ Below w.heap.size w w' := by
  obtain ⟨A, c, rfl, hc, -⟩ := id hp.1.open_
  obtain ⟨n, hn⟩ := name_of p.length
  have hmax := hp.2.1
  rw [hn] at hp hc hmax ⊢
  have hB0 : Below w.heap.size w ((w.alloc (.cells #[.slice A n c] 35)).alloc (.cells #[.int .i64 n0, .int .i64 n1] 49)) := by go_grown
  have hp0 := hp.next hB0
  have k0 := heap_alloc2_old w (.cells #[.slice A n c] 35) (.cells #[.int .i64 n0, .int .i64 n1] 49)
  have k1 := heap_alloc2_new w (.cells #[.slice A n c] 35) (.cells #[.int .i64 n0, .int .i64 n1] 49)
  have hFew := few_any hp0
  have HN := Lib.hid hn
  have hln : p.length ≤ n := by omega
  clear hp hn
  go_enter Tryd.func10, Tryd.ntmps10
  go_wp2_with fail
  refine hFew.mono ?_
  rintro e w1 ⟨⟨bb, rfl, -⟩, hb1⟩
  have hp1 := hp0.next hb1
  have hB1 := hB0.next hb1
  have k0 := blk_next k0 hb1
  have k1 := blk_next k1 hb1
  have hl1 := lt_of_block k1
  clear hFew hp0 hB0 hb1
  cases bb
  · clear k0 k1
    go_wp2_with fail
    refine (awake_any _).mono ?_
    rintro e w5 ⟨rfl, hb5⟩
    go_wp2_with fail
    go_ret
    exact ⟨rfl, hB1.next hb5⟩
  have c0 := fun j => cell_of_row w1 w.heap.size j _ _ _ k0
  have hT := packAll hp1
  have K0 := Lib.hid k0
  have K1 := Lib.hid k1
  clear k0 k1
  go_wp2_with fail
  refine hT.mono ?_
  rintro e w2 ⟨v2, rfl, q1, q2, hb2⟩
  have hp2 := hp1.next hb2
  have hB2 := hB1.next hb2
  have K0 := Lib.hid (blk_next K0.out hb2)
  have K1 := Lib.hid (blk_next K1.out hb2)
  have hl2 := lt_of_block K1.out
  have c0 := fun j => cell_of_row w2 w.heap.size j _ _ _ K0.out
  clear hT hp1 hB1 hb2
  by_cases he : progE p = 0
  · have hs2 := q1 he
    obtain ⟨A2, n2, c2, rfl, -⟩ := id hs2
    have hU := unpack_whole hs2 he
    rw [he]
    have HE := Lib.hid he
    clear q1 q2 he c0
    go_wp2_with fail
    refine hU.mono ?_
    rintro e w3 ⟨A3, c3, rfl, hF3, hO3, hb3⟩
    rw [HN.out] at hF3 hO3 ⊢
    have hb4 := Below.alloc (Below.refl _ w3) (Nat.le_refl _) (.cells #[.slice A3 n c3] 35)
    have hp4 := (hp2.next hb3).next hb4
    have hF4 := hF3.next hb4
    have hO4 := hO3.below hb4
    have hs4 := (hs2.next hb3).next hb4
    have hB4 := (hB2.next hb3).next hb4
    have hlo := hb3.size
    have K03 := Lib.hid (blk_next K0.out hb3)
    have K04 := Lib.hid (blk_next K03.out hb4)
    have K14 := Lib.hid (blk_next (blk_next K1.out hb3) hb4)
    have K94 := Lib.hid (heap_alloc_last w3 (.cells #[.slice A3 n c3] 35))
    have hl3 := lt_of_block (blk_next K1.out hb3)
    have hl30 := lt_of_block K03.out
    have c0 := fun j => cell_of_row w3 w.heap.size j _ _ _ K03.out
    have hS := same_any hp4.1 hF4 hp4.2.1 hp4.2.2
    rw [decide_eq_true rfl] at hS
    have hB24 := hb3.next hb4
    clear hU hF3 hO3 hb3 hb4 K0 K1
    go_wp2_with fail
    refine hS.mono ?_
    rintro e w5 ⟨rfl, hb5⟩
    have hp5 := hp4.next hb5
    have hF5 := hF4.next hb5
    have hO5 := hO4.below hb5
    have hs5 := hs4.next hb5
    have hB5 := hB4.next hb5
    have hB25 := hB24.next hb5
    have K05 := Lib.hid (blk_next K04.out hb5)
    have K15 := Lib.hid (blk_next K14.out hb5)
    have K95 := Lib.hid (blk_next K94.out hb5)
    have c0 := fun j => cell_of_row w5 w.heap.size j _ _ _ K05.out
    have c9 := fun j => cell_of_row w5 w3.heap.size j _ _ _ K95.out
    have hS2 := same_any hF5 hp5.1 hp5.2.1 hp5.2.2
    rw [decide_eq_true rfl] at hS2
    clear hS hp4 hF4 hO4 hs4 hB4 hb5 K03 K04 K14 K94
    go_wp2_with fail
    refine hS2.mono ?_
    rintro e w6 ⟨rfl, hb6⟩
    have hp6 := hp5.next hb6
    have hO6 := hO5.below hb6
    have hs6 := hs5.next hb6
    have hB6 := hB5.next hb6
    have hB26 := hB25.next hb6
    have K06 := Lib.hid (blk_next K05.out hb6)
    have K16 := Lib.hid (blk_next K15.out hb6)
    have K96 := Lib.hid (blk_next K95.out hb6)
    have y0 : w6.cell? ⟨w.heap.size, 0, none⟩ = some (.slice A n c) := by rw [cell_of_row _ _ _ _ _ _ K06.out]; rfl
    have y9 : w6.cell? ⟨w3.heap.size, 0, none⟩ = some (.slice A3 n c3) := by rw [cell_of_row _ _ _ _ _ _ K96.out]; rfl
    have x0 : w6.cell? ⟨w.heap.size + 1, 0, none⟩ = some (.int .i64 n0) := by rw [cell_of_row _ _ _ _ _ _ K16.out]; rfl
    have x1 : w6.cell? ⟨w.heap.size + 1, 1, none⟩ = some (.int .i64 n1) := by rw [cell_of_row _ _ _ _ _ _ K16.out]; rfl
    clear hS2 hp5 hF5 hO5 hs5 hB5 hb6 K05 K15 K95 c0 c9
    go_wp2_with fail
    simp only [List.append]
    have en : ((n : Int) != n) = false := by simp
    obtain ⟨A', c', he1, -, hop⟩ := hp6.1.open_
    rw [HN.out] at he1
    injection he1 with he1 _ he2
    subst he1 he2
    have HOP := Lib.hid hop
    clear hop
    by_cases a1 : n0 < 0
    · refine wp_region_quiet_lit (by kernel_rfl) (by kernel_rfl) ?_
      repeat (go_big_quiet_step (fail))
      refine wpQuiet_nil ?_
      rintro _ ⟨nq, rfl⟩
      go_wp2_with fail
      refine (awake_any _).mono ?_
      rintro e w7 ⟨rfl, hb7⟩
      go_wp2_with fail
      go_ret
      exact ⟨rfl, (below_drewN hB6 _).next hb7⟩
    obtain ⟨k, rfl⟩ : ∃ k : Nat, n0 = k := ⟨n0.toNat, by omega⟩
    have a1' : decide ((k : Int) < 0) = false := by simp
    clear a1
    by_cases a2 : n ≤ k
    · refine wp_region_quiet_lit (by kernel_rfl) (by kernel_rfl) ?_
      repeat (go_big_quiet_step (fail))
      refine wpQuiet_nil ?_
      rintro _ ⟨nq, rfl⟩
      go_wp2_with fail
      refine (awake_any _).mono ?_
      rintro e w7 ⟨rfl, hb7⟩
      go_wp2_with fail
      go_ret
      exact ⟨rfl, (below_drewN hB6 _).next hb7⟩
    have hk : k < n := by omega
    have a2' : decide (n ≤ k) = false := by simpa using hk
    have hkp : k < p.length := by have := HN.out; omega
    clear a2
    by_cases a3 : n1 < 0
    · refine wp_region_quiet_lit (by kernel_rfl) (by kernel_rfl) ?_
      repeat (go_big_quiet_step (fail))
      refine wpQuiet_nil ?_
      rintro _ ⟨nq, rfl⟩
      go_wp2_with fail
      refine (awake_any _).mono ?_
      rintro e w7 ⟨rfl, hb7⟩
      go_wp2_with fail
      go_ret
      exact ⟨rfl, (below_drewN hB6 _).next hb7⟩
    obtain ⟨j, rfl⟩ : ∃ j : Nat, n1 = j := ⟨n1.toNat, by omega⟩
    have a3' : decide ((j : Int) < 0) = false := by simp
    clear a3
    obtain ⟨b, off, cv, rfl, hbl, -, z1, hcv⟩ := HOP.out k hkp
    obtain ⟨A2', c2', rfl, hLc, hco⟩ := code_open hcv
    have HCO := Lib.hid hco
    have hLm := hp6.2.2 _ (List.getElem_mem hkp)
    obtain ⟨L, hL⟩ := name_of p[k].2.length
    rw [hL] at z1 hLc hLm
    have HL := Lib.hid hL
    clear hco hcv hL
    by_cases a5 : L ≤ j
    · refine wp_region_quiet_lit (by kernel_rfl) (by kernel_rfl) ?_
      repeat (go_big_quiet_step (fail))
      refine wpQuiet_nil ?_
      rintro _ ⟨nq, rfl⟩
      go_wp2_with fail
      refine (awake_any _).mono ?_
      rintro e w7 ⟨rfl, hb7⟩
      go_wp2_with fail
      go_ret
      exact ⟨rfl, (below_drewN hB6 _).next hb7⟩
    have hj : j < L := by omega
    have a5' : decide (L ≤ j) = false := by simpa using hj
    have hjp : j < p[k].2.length := by have := HL.out; omega
    clear a5
    obtain ⟨g0, c0', g, cg, he3, hB0, hBg, hl0, hlg, hne, z2, ⟨cs, hcs⟩, z3, hfz, hturn⟩ := hO6.at_ hkp hjp
    rw [HN.out] at he3
    injection he3 with he3 _ he4
    subst he3 he4
    rw [HL.out] at z2
    obtain ⟨x, hx⟩ := name_of p[k].2[j].2.1
    rw [hx] at z3 hturn
    obtain ⟨b2, off2, rfl, hbl2, -, z4, -, -, -⟩ := HCO.out j hjp
    rw [hx] at z4
    have HT := Lib.hid hturn
    have HG := Lib.hid hcs
    clear hturn hx hcs
    by_cases a7 : x = a
    · have e7 : ((x : Int) == a) = true := by simpa using a7
      clear a7
      refine wp_region_quiet_lit (by kernel_rfl) (by kernel_rfl) ?_
      repeat (go_big_quiet_step (fail))
      refine wpQuiet_nil ?_
      rintro _ ⟨nq, rfl⟩
      go_wp2_with fail
      refine (awake_any _).mono ?_
      rintro e w7 ⟨rfl, hb7⟩
      go_wp2_with fail
      go_ret
      exact ⟨rfl, (below_drewN hB6 _).next hb7⟩
    have e7 : ((x : Int) == a) = false := by simpa using a7
    refine wp_region_quiet_lit (by kernel_rfl) (by kernel_rfl) ?_
    repeat (go_big_quiet_step (fail))
    refine wpQuiet_nil ?_
    rintro _ ⟨nq, rfl⟩
    go_wp2_with fail
    obtain ⟨w7, hw7⟩ := name_of (w6.drewN nq)
    have r0 : w7.cell? ⟨w3.heap.size, 0, none⟩ = some (.slice (some ⟨g0, 0, none⟩) n c3) := by rw [← hw7]; exact y9
    have r1 : w7.cell? ⟨w.heap.size + 1, 0, none⟩ = some (.int .i64 k) := by rw [← hw7]; exact x0
    have r2 : w7.cell? ⟨w.heap.size + 1, 1, none⟩ = some (.int .i64 j) := by rw [← hw7]; exact x1
    have r3 : w7.cell? ⟨g0, k * 2 + 1, none⟩ = some (.slice (some ⟨g, 0, none⟩) L cg) := by rw [← hw7]; exact z2
    have r4 : w7.cell? ⟨g, j * 5 + 1, none⟩ = some (.int .i64 x) := by rw [← hw7]; exact z3
    have r5 : w7.frozen? ⟨g, j * 5 + 1, none⟩ = false := by rw [← hw7]; exact hfz
    rw [hw7]
    go_region
    have hax : a ≠ x := fun e => a7 e.symm
    obtain ⟨q, hq1, hq2, hq3, hq4⟩ := HT.out a
    have hpq := hq4 hax
    obtain ⟨w8, hw8⟩ := name_of ((w7.setCell ⟨g, j * 5 + 1, none⟩ (.int .i64 a)).drew)
    have hh8 : w8.heap = (w6.setCell ⟨g, j * 5 + 1, none⟩ (.int .i64 a)).heap := by rw [← hw8, ← hw7]; rfl
    have hle2 := hB2.size
    have hB8 : Below w.heap.size w w8 := by
      rw [← hw8, ← hw7]
      have h := (below_drewN hB6 nq).setCell (p := ⟨g, j * 5 + 1, none⟩) (by show w.heap.size ≤ g; omega) (.int .i64 a)
      exact ⟨h.os, h.tape, h.output, h.size, h.block⟩
    have hB28 : Below w2.heap.size w2 w8 := by
      rw [← hw8, ← hw7]
      have h := (below_drewN hB26 nq).setCell (p := ⟨g, j * 5 + 1, none⟩) hBg (.int .i64 a)
      exact ⟨h.os, h.tape, h.output, h.size, h.block⟩
    have hO8 : FnsOwn w8 w2.heap.size (.slice (some ⟨g0, 0, none⟩) n c3) q := hq1.below (by
      rw [← hw8, ← hw7]
      exact ⟨rfl, rfl, rfl, Nat.le_refl _, fun _ _ => rfl⟩)
    have hp8 := hp2.next hB28
    have hs8 := hs2.next hB28
    have hql : q.length ≤ 9223372036854775807 := by have := HN.out; omega
    have hqm : ∀ f ∈ q, f.2.length ≤ 9223372036854775807 := by
      intro f hf
      obtain ⟨f', hf', e⟩ := hq3 f hf
      rw [e]; exact hp6.2.2 f' hf'
    have hp8q : Prog w8 (.slice (some ⟨g0, 0, none⟩) n c3) q := ⟨hO8.fns, hql, hqm⟩
    have ho : ∀ m, m ≠ g → w8.heap[m]? = w6.heap[m]? := by
      intro m hm
      rw [hh8]
      exact heap_setCell_other _ _ _ _ hm
    have K08 := Lib.hid ((ho w.heap.size (by omega)).trans K06.out)
    have K98 := Lib.hid ((ho w3.heap.size (by
      intro e
      have h1 := K96.out
      rw [e, HG.out] at h1
      injection h1 with h1
      injection h1 with _ ht
      exact absurd ht (by decide))).trans K96.out)
    have hS := same_any hp8.1 hp8q.1 hp8.2.1 hp8.2.2
    rw [decide_eq_false hpq] at hS
    have c0 := fun j => cell_of_row w8 w.heap.size j _ _ _ K08.out
    have c9 := fun j => cell_of_row w8 w3.heap.size j _ _ _ K98.out
    rw [hw8]
    have HPQ := Lib.hid hpq
    clear hw8 hw7 hh8 ho hq1 hq2 hq3 hq4 hpq hqm hO8 r0 r1 r2 r3 r4 r5 y0 y9 x0 x1 z1 z2 z3 z4 hfz hax a7 e7 a1' a2' a3' a5' hp6 hO6 hs6 hB6 hB26 hp2 hs2
    go_wp2_with fail
    refine hS.mono ?_
    rintro e w9 ⟨rfl, hb9⟩
    have hp9 := hp8q.next hb9
    have hs9 := hs8.next hb9
    have hB9 := hB8.next hb9
    have K99 := Lib.hid (blk_next K98.out hb9)
    have c9 := fun j => cell_of_row w9 w3.heap.size j _ _ _ K99.out
    have hT := packAll hp9
    clear hS hp8 hp8q hs8 hB8 hb9 c0
    go_wp2_with fail
    refine hT.mono ?_
    rintro e wa ⟨va, rfl, qa1, qa2, hba⟩
    have hsa := hs9.next hba
    have hBa := hB9.next hba
    clear hT hp9 hs9 hB9 c9
    by_cases hg : progE q = 0
    · have hsq := qa1 hg
      rw [hg]
      have hD := bytes_any hsa hsq (by have := progB_length HE.out; omega)
      rw [decide_eq_false (fun e => HPQ.out (progB_inj HE.out hg e))] at hD
      have HGQ := Lib.hid hg
      clear qa1 qa2 hba hg
      go_wp2_with fail
      refine hD.mono ?_
      rintro e wb ⟨rfl, qn, rfl⟩
      go_wp2_with fail
      refine (awake_any _).mono ?_
      rintro e wc ⟨rfl, hbc⟩
      go_wp2_with fail
      go_ret
      exact ⟨rfl, (below_drewN hBa _).next hbc⟩
    · have eg : (progE q != 0) = true := by simpa using hg
      have HGQ := Lib.hid hg
      clear qa1 qa2 hba hg
      go_wp2_with fail
      refine (awake_any _).mono ?_
      rintro e wc ⟨rfl, hbc⟩
      go_wp2_with fail
      go_ret
      exact ⟨rfl, hBa.next hbc⟩
  · have hE1 : (progE p != 0) = true := by simpa using he
    have hS := same_any (q := []) (hp2.1) (vb := .slice none 0 0) ⟨[], rfl, Sl.none_, fun k hk => absurd hk (by simp)⟩ hp2.2.1 hp2.2.2
    clear q1 q2
    have HE := Lib.hid he
    clear he
    by_cases h0 : p = []
    · have : n = 0 := by rw [← HN.out, h0]; rfl
      subst this
      rw [decide_eq_true h0] at hS
      clear h0
      go_wp2_with fail
      refine hS.mono ?_
      rintro e w3 ⟨rfl, hb3⟩
      have hB3 := hB2.next hb3
      have c3 := fun j => cell_of_row w3 w.heap.size j _ _ _ (blk_next K0.out hb3)
      go_wp2_with fail
      refine (awake_any _).mono ?_
      rintro e w5 ⟨rfl, hb5⟩
      go_wp2_with fail
      go_ret
      exact ⟨rfl, hB3.next hb5⟩
    · rw [decide_eq_false h0] at hS
      clear h0
      go_wp2_with fail
      refine hS.mono ?_
      rintro e w3 ⟨rfl, hb3⟩
      have hB3 := hB2.next hb3
      go_wp2_with fail
      refine (awake_any _).mono ?_
      rintro e w5 ⟨rfl, hb5⟩
      go_wp2_with fail
      go_ret
      exact ⟨rfl, hB3.next hb5⟩
end P2
end Go.Proofs.YtjpnbjlhjlddbaaDoor
