/- Walk: the reference's Same. -/
import Derived.Test.YtjpnbjlhjlddbaaDoorSm
import Derived.Test.YtjpnbjlhjlddbaaDoorCb
namespace Go.Proofs.YtjpnbjlhjlddbaaDoor
open Go.RowKit
namespace P2

def SameR (w : World) (p q : List Fn) (n : Nat) (va vb : Value) (i : Value) (wr : World) : Prop :=
  ∃ k : Nat, k ≤ n ∧ i = .int .i64 k ∧ p.take k = q.take k ∧ Below w.heap.size w wr ∧ wr.heap[w.heap.size]? = some (.cells #[va] 35 (0, 0)) ∧ wr.heap[w.heap.size + 1]? = some (.cells #[vb] 35 (0, 0))

set_option maxHeartbeats 4000000 in
theorem refSame_any {w : World} {va vb : Value} {p q : List Fn} (ha : Fns w w.heap.size va p) (hb : Fns w w.heap.size vb q) (hla : p.length ≤ 9223372036854775807) (hlf : ∀ f ∈ p, f.2.length ≤ 9223372036854775807) :
    Calls Tryd.prog 26 #[.agg #[va], .agg #[vb]] w fun e w' => e = .returned (.bool (decide (p = q))) ∧ Below w.heap.size w w' := by
  obtain ⟨A, c, rfl, hnc, hA⟩ := ha.open_
  obtain ⟨A', c', rfl, hmc, hA'⟩ := hb.open_
  obtain ⟨n, hn⟩ := name_of p.length
  obtain ⟨m, hm⟩ := name_of q.length
  have HA := Lib.hid hA
  have HA' := Lib.hid hA'
  have HN := Lib.hid hn
  have HM := Lib.hid hm
  have HLF := Lib.hid hlf
  rw [hn] at hnc hla ⊢
  rw [hm] at hmc ⊢
  clear hA hA' ha hb hn hm hlf
  have hB0 : Below w.heap.size w ((w.alloc (.cells #[.slice A n c] 35)).alloc (.cells #[.slice A' m c'] 35)) := by go_grown
  by_cases hnm : n = m
  · subst hnm
    have hne : ((n : Int) != n) = false := by simp
    go_enter Tryd.func26, Tryd.ntmps26
    go_wp2_with fail
    go_loopw [5] (fun i wr => SameR w p q n (.slice A n c) (.slice A' n c') i wr) (fun i _ => n - (intOf i).toNat)
    case atStart => exact ⟨0, Nat.zero_le _, rfl, rfl, hB0, heap_alloc2_old w _ _, heap_alloc2_new w _ _⟩
    case round =>
      obtain ⟨k, hk, rfl, ht, hB, hx0, hx1⟩ := hrel
      have c0 : wr.cell? ⟨w.heap.size, 0, none⟩ = some (.slice A n c) := by rw [cell_of_row _ _ _ _ _ _ hx0]; rfl
      have c1 : wr.cell? ⟨w.heap.size + 1, 0, none⟩ = some (.slice A' n c') := by rw [cell_of_row _ _ _ _ _ _ hx1]; rfl
      have hz := lt_of_block hx1
      by_cases hlt : k < n
      · have hkl : k < p.length := by have := HN.out; omega
        have hkm : k < q.length := by have := HM.out; omega
        obtain ⟨b, off, cv, rfl, hb, a0, a1, hcv⟩ := HA.out k hkl
        obtain ⟨b', off', cv', rfl, hb', a0', a1', hcv'⟩ := HA'.out k hkm
        have hlf := HLF.out _ (List.getElem_mem hkl)
        obtain ⟨f, hf⟩ := name_of p[k]
        obtain ⟨g, hg⟩ := name_of q[k]
        rw [hf] at a0 hcv hlf
        rw [hg] at a0' hcv'
        have d0 := (hB.cell (p := ⟨b, _, none⟩) hb).trans a0
        have d1 := (hB.cell (p := ⟨b, _, none⟩) hb).trans a1
        have d0' := (hB.cell (p := ⟨b', _, none⟩) hb').trans a0'
        have d1' := (hB.cell (p := ⟨b', _, none⟩) hb').trans a1'
        have HF := Lib.hid hf
        have HG := Lib.hid hg
        have HT := Lib.hid ht
        have hbw := World.block_lt_of_cell? _ _ d0
        have hbw' := World.block_lt_of_cell? _ _ d0'
        obtain ⟨fx, fl⟩ := f
        obtain ⟨gx, gl⟩ := g
        dsimp only at d0 d0' hcv hcv' hlf
        have hcvB := hcv.next hB
        have hcvB' := hcv'.next hB
        obtain ⟨A1, c1', rfl, hm1, hA1⟩ := code_open hcvB
        obtain ⟨A2, c2', rfl, hm2, hA2⟩ := code_open hcvB'
        clear a0 a1 a0' a1' hf hg ht
        by_cases hx : fx = gx
        · subst hx
          have e0 : (fx != fx) = false := by simp
          by_cases hl : fl.length = gl.length
          · have e1 : ((fl.length : Int) != gl.length) = false := by simp [hl]
            obtain ⟨L, hL⟩ := name_of gl.length
            have HL := Lib.hid hL
            rw [hl, hL] at hlf e1
            have hBW : Below wr.heap.size wr ((wr.alloc (.cells #[.int .i64 fx, .slice A1 fl.length c1'] 52)).alloc (.cells #[.int .i64 fx, .slice A2 gl.length c2'] 52)) := by go_grown
            obtain ⟨W, hW⟩ := name_of ((wr.alloc (.cells #[.int .i64 fx, .slice A1 fl.length c1'] 52)).alloc (.cells #[.int .i64 fx, .slice A2 gl.length c2'] 52))
            have w0 : W.heap[wr.heap.size]? = some (.cells #[.int .i64 fx, .slice A1 fl.length c1'] 52 (0, 0)) := by rw [← hW]; exact heap_alloc2_old wr _ _
            have w1 : W.heap[wr.heap.size + 1]? = some (.cells #[.int .i64 fx, .slice A2 gl.length c2'] 52 (0, 0)) := by rw [← hW]; exact heap_alloc2_new wr _ _
            rw [hW] at hBW
            have q0 := fun j => cell_of_row W wr.heap.size j _ _ _ w0
            have q1 := fun j => cell_of_row W (wr.heap.size + 1) j _ _ _ w1
            have hWz := lt_of_block w1
            have r0 := blk_next hx0 hBW
            have r1 := blk_next hx1 hBW
            have s1 := hcvB.next hBW
            have s2 := hcvB'.next hBW
            obtain ⟨A1', c1'', e1', hm1', hA1'⟩ := code_open s1
            obtain ⟨A2', c2'', e2', hm2', hA2'⟩ := code_open s2
            injection e1' with e11 _ e12
            injection e2' with e21 _ e22
            subst e11 e12 e21 e22
            have HA1 := Lib.hid hA1'
            have HA2 := Lib.hid hA2'
            have hB2 := hB.next hBW
            rw [hl] at q0
            rw [hL] at q0 q1
            go_wp2_with fail
            rw [hl, hL] at hW
            rw [hW]
            clear hA1 hA2 hA1' hA2' s1 s2 hcvB hcvB' c0 c1 hx0 hx1 hL d0 d1 d0' d1' w0 w1 hW
            go_loopw [8] (fun i wr' => ∃ j : Nat, j ≤ L ∧ i = .int .i64 j ∧ fl.take j = gl.take j ∧ ∃ z, wr' = W.drewN z) (fun i _ => L - (intOf i).toNat)
            case atStart => exact ⟨0, Nat.zero_le _, rfl, rfl, 0, rfl⟩
            case round =>
              obtain ⟨j, hj, rfl, htj, z, rfl⟩ := hrel
              by_cases hjl : j < L
              · have hj1 : j < fl.length := by have := HL.out; omega
                have hj2 : j < gl.length := by have := HL.out; omega
                obtain ⟨b5, o5, rfl, -, x0, x1, x2, x3, x4⟩ := HA1.out j hj1
                obtain ⟨b6, o6, rfl, -, y0, y1, y2, y3, y4⟩ := HA2.out j hj2
                obtain ⟨⟨g0, g1, g2, g3, g4⟩, hgx⟩ := name_of fl[j]
                obtain ⟨⟨k0, k1, k2, k3, k4⟩, hkx⟩ := name_of gl[j]
                rw [hgx] at x0 x1 x2 x3 x4
                rw [hkx] at y0 y1 y2 y3 y4
                have HGX := Lib.hid hgx
                have HKX := Lib.hid hkx
                have hd := fun w => neq_ins (g0, g1, g2, g3, g4) (k0, k1, k2, k3, k4) w
                clear hgx hkx
                by_cases he : ((g0, g1, g2, g3, g4) : Ins) = (k0, k1, k2, k3, k4)
                · have HE := Lib.hid he
                  have HTJ := Lib.hid htj
                  rw [decide_eq_true he] at hd
                  unfold insV at hd
                  simp only [Bool.not_true] at hd
                  clear he htj
                  go_wp2_with fail
                  go_quiet (fail)
                  go_wp2_with fail
                  exact ⟨⟨j + 1, by omega, by go_num, take_ext_any hj1 hj2 HTJ.out (by rw [HGX.out, HKX.out, HE.out]), _, rfl⟩, by simp [intOf]; omega⟩
                · have HE := Lib.hid he
                  rw [decide_eq_false he] at hd
                  unfold insV at hd
                  simp only [Bool.not_false] at hd
                  clear he htj
                  go_wp2_with fail
                  go_quiet (fail)
                  go_wp2_with fail
                  go_ret
                  refine ⟨ret_bool ?_, below_drewN (below_drewN hB2 _) _⟩
                  symm
                  rw [decide_eq_false_iff_not]
                  rintro rfl
                  have h2 : fl = gl := by have := HF.out.symm.trans HG.out; injection this
                  subst h2
                  exact HE.out (HGX.out.symm.trans HKX.out)
              · have hjL : j = L := by omega
                subst hjL
                have hfl : fl = gl := by
                  have h := htj
                  rw [List.take_of_length_le (by have := HL.out; omega), List.take_of_length_le (by have := HL.out; omega)] at h
                  exact h
                have HFL := Lib.hid hfl
                clear htj hfl
                go_wp2_with fail
                exact ⟨⟨k + 1, by omega, by go_num, take_ext_any hkl hkm HT.out (by rw [HF.out, HG.out, HFL.out]), below_drewN hB2 _, r0, r1⟩, by simp [intOf]; omega⟩
          · have e1 : ((fl.length : Int) != gl.length) = true := by simp; omega
            have hB2 : Below w.heap.size w ((wr.alloc (.cells #[.int .i64 fx, .slice A1 fl.length c1'] 52)).alloc (.cells #[.int .i64 fx, .slice A2 gl.length c2'] 52)) := hB.next (by go_grown)
            go_wp2_with fail
            go_ret
            exact ⟨ret_bool (by symm; rw [decide_eq_false_iff_not]; rintro rfl; exact hl (by have := HF.out.symm.trans HG.out; injection this with _ h; rw [h])), hB2⟩
        · have e0 : (fx != gx) = true := by simpa using hx
          have hB2 : Below w.heap.size w ((wr.alloc (.cells #[.int .i64 fx, .slice A1 fl.length c1'] 52)).alloc (.cells #[.int .i64 gx, .slice A2 gl.length c2'] 52)) := hB.next (by go_grown)
          go_wp2_with fail
          go_ret
          exact ⟨ret_bool (by symm; rw [decide_eq_false_iff_not]; rintro rfl; exact hx (by have := HF.out.symm.trans HG.out; injection this)), hB2⟩
      · have hkn : k = n := by omega
        subst hkn
        have HT := Lib.hid ht
        clear ht hx0 hx1
        go_wp2_with fail
        go_ret
        refine ⟨ret_bool ?_, hB⟩
        have := HT.out
        rw [List.take_of_length_le (by have := HN.out; omega), List.take_of_length_le (by have := HM.out; omega)] at this
        symm
        simpa using this
  · have hne : ((n : Int) != m) = true := by simp; omega
    go_enter Tryd.func26, Tryd.ntmps26
    go_wp2_with fail
    go_ret
    exact ⟨ret_bool (by symm; rw [decide_eq_false_iff_not]; rintro rfl; exact hnm (HN.out.symm.trans HM.out)), hB0⟩
end P2
end Go.Proofs.YtjpnbjlhjlddbaaDoor
