/- Walks: slices.Equal over instructions, slices.EqualFunc over functions, both Sames. (Under way) -/
import Derived.Test.YtjpnbjlhjlddbaaDoorJ02
import Derived.Test.YtjpnbjlhjlddbaaDoorW02
namespace Go.Proofs.YtjpnbjlhjlddbaaDoor
open Go.RowKit
namespace P2

instance decIns : DecidableEq Ins := inferInstance
instance decCode : DecidableEq (List Ins) := inferInstance
instance decFn : DecidableEq Fn := instDecidableEqProd
instance decFns : DecidableEq (List Fn) := inferInstance
theorem eq_ins (i j : Ins) (w : World) : (Op.equalIn 10000 23 (insV i) (insV j)).run Tryd.prog w = .ok (decide (i = j)) w := by
  obtain ⟨a, b, c, d, e⟩ := i
  obtain ⟨a', b', c', d', e'⟩ := j
  unfold insV
  rw [run_equalIn_agg w 9999 23 _ _ (by kernel_rfl) (by kernel_rfl)]
  rw [show (Tryd.prog.fieldsOf 23).toList = [⟨"Op", 3, 0, false, "", "", 0⟩, ⟨"A", 3, 1, false, "", "", 8⟩, ⟨"B", 3, 2, false, "", "", 16⟩, ⟨"C", 3, 3, false, "", "", 24⟩, ⟨"N", 3, 4, false, "", "", 32⟩] from by kernel_rfl]
  have hi : ∀ (x y : Int) w, (Op.equalIn 9999 3 (.int .i64 x) (.int .i64 y)).run Tryd.prog w = .ok (x == y) w := fun x y w => run_equalIn_int w 9998 _ .i64 .i64 x y Tryd.underlying3
  have p0 : ∀ (cs : Array Value) (k : Nat) (v : Value) w, cs[k]? = some v → (part 3 cs k).run Tryd.prog w = .ok v w := by
    intro cs k v w h
    simp [part, h]
  simp [Op.eqFields, hi, p0]
  by_cases h1 : a = a' <;> by_cases h2 : b = b' <;> by_cases h3 : c = c' <;> by_cases h4 : d = d' <;> by_cases h5 : e = e' <;> simp [h1, h2, h3, h4, h5]
theorem neq_ins (i j : Ins) (w : World) : (binOp .neq 23 (insV i) (insV j)).run Tryd.prog w = .ok (.bool (!decide (i = j))) w := by
  have h := eq_ins i j w
  unfold insV at h ⊢
  rw [run_neq_struct, h]
  rfl
theorem take_ext_any {α : Type} {l m : List α} {k : Nat} (hl : k < l.length) (hm : k < m.length) (h : l.take k = m.take k) (he : l[k] = m[k]) : l.take (k + 1) = m.take (k + 1) := by
  rw [List.take_succ_eq_append_getElem hl, List.take_succ_eq_append_getElem hm, h, he]

set_option maxHeartbeats 4000000 in
theorem equalIns_any {w : World} {B B' : Nat} {va vb : Value} {la lb : List Ins} (ha : Sl w B 5 va (codeC la)) (hb : Sl w B' 5 vb (codeC lb)) (hla : la.length ≤ 9223372036854775807) :
    Calls Tryd.prog 42 #[va, vb] w fun e w' => e = .returned (.bool (decide (la = lb))) ∧ ∃ q, w' = w.drewN q := by
  obtain ⟨A, c, rfl, hnc, hA⟩ := code_open ha
  obtain ⟨A', c', rfl, hmc, hA'⟩ := code_open hb
  obtain ⟨n, hn⟩ := name_of la.length
  obtain ⟨m, hm⟩ := name_of lb.length
  have HA := Lib.hid hA
  have HA' := Lib.hid hA'
  have HN := Lib.hid hn
  have HM := Lib.hid hm
  rw [hn] at hnc hla ⊢
  rw [hm] at hmc ⊢
  clear hA hA' ha hb hn hm
  by_cases hnm : n = m
  · subst hnm
    go_enter Tryd.func42, Tryd.ntmps42
    go_wp2
    go_loopw [13] (fun i wr => ∃ k : Nat, k ≤ n ∧ i = .int .i64 k ∧ la.take k = lb.take k ∧ ∃ q, wr = w.drewN q) (fun i _ => n - (intOf i).toNat)
    case atStart => exact ⟨0, Nat.zero_le _, rfl, rfl, 0, rfl⟩
    case round =>
      obtain ⟨k, hk, rfl, ht, q, rfl⟩ := hrel
      by_cases hlt : k < n
      · have hkl : k < la.length := by have := HN.out; omega
        have hkm : k < lb.length := by have := HM.out; omega
        obtain ⟨b, off, rfl, -, a0, a1, a2, a3, a4⟩ := HA.out k hkl
        obtain ⟨b', off', rfl, -, a0', a1', a2', a3', a4'⟩ := HA'.out k hkm
        obtain ⟨⟨x0, x1, x2, x3, x4⟩, hx⟩ := name_of la[k]
        obtain ⟨⟨y0, y1, y2, y3, y4⟩, hy⟩ := name_of lb[k]
        rw [hx] at a0 a1 a2 a3 a4
        rw [hy] at a0' a1' a2' a3' a4'
        have HX := Lib.hid hx
        have HY := Lib.hid hy
        have hd := fun w => neq_ins (x0, x1, x2, x3, x4) (y0, y1, y2, y3, y4) w
        clear hx hy
        by_cases he : ((x0, x1, x2, x3, x4) : Ins) = (y0, y1, y2, y3, y4)
        · have HE := Lib.hid he
          have HT := Lib.hid ht
          rw [decide_eq_true he] at hd
          unfold insV at hd
          simp only [Bool.not_true] at hd
          clear he ht
          go_wp2_with fail
          go_quiet (fail)
          go_wp2_with fail
          exact ⟨⟨k + 1, by omega, by go_num, take_ext_any hkl hkm HT.out (by rw [HX.out, HY.out, HE.out]), _, rfl⟩, by simp [intOf]; omega⟩
        · have HE := Lib.hid he
          rw [decide_eq_false he] at hd
          unfold insV at hd
          simp only [Bool.not_false] at hd
          clear he ht
          go_wp2_with fail
          go_quiet (fail)
          go_wp2_with fail
          go_ret
          exact ⟨ret_bool (by symm; rw [decide_eq_false_iff_not]; rintro rfl; exact HE.out (HX.out.symm.trans HY.out)), _, World.drewN_drewN _ _ _⟩
      · have hkn : k = n := by omega
        subst hkn
        have HT := Lib.hid ht
        clear ht
        go_wp2_with fail
        go_ret
        refine ⟨ret_bool ?_, _, rfl⟩
        have := HT.out
        rw [List.take_of_length_le (by have := HN.out; omega), List.take_of_length_le (by have := HM.out; omega)] at this
        symm
        simpa using this
  · have hne : ((n : Int) == m) = false := by simp; omega
    go_enter Tryd.func42, Tryd.ntmps42
    go_wp2
    go_ret
    exact ⟨ret_bool (by symm; rw [decide_eq_false_iff_not]; rintro rfl; exact hnm (HN.out.symm.trans HM.out)), 0, rfl⟩
theorem equal_any {w : World} {B B' : Nat} {va vb : Value} {la lb : List Ins} (ha : Sl w B 5 va (codeC la)) (hb : Sl w B' 5 vb (codeC lb)) (hla : la.length ≤ 9223372036854775807) :
    Calls Tryd.prog 38 #[va, vb] w fun e w' => e = .returned (.bool (decide (la = lb))) ∧ ∃ q, w' = w.drewN q := by
  have hE := equalIns_any ha hb hla
  go_enter Tryd.func38, Tryd.ntmps38
  go_wp2_with fail
  refine hE.mono ?_
  rintro e w1 ⟨rfl, q, rfl⟩
  go_wp2_with fail
  go_ret
  exact ⟨rfl, q, rfl⟩

theorem fnSame_any {w : World} {va vb : Value} {f g : Fn} (ha : Sl w w.heap.size 5 va (codeC f.2)) (hb : Sl w w.heap.size 5 vb (codeC g.2)) (hla : f.2.length ≤ 9223372036854775807) :
    Calls Tryd.prog 37 #[.agg #[.int .i64 f.1, va], .agg #[.int .i64 g.1, vb]] w fun e w' => e = .returned (.bool (decide (f = g))) ∧ Below w.heap.size w w' := by
  obtain ⟨x, la⟩ := f
  obtain ⟨y, lb⟩ := g
  obtain ⟨A, c, rfl, -⟩ := code_open ha
  obtain ⟨A', c', rfl, -⟩ := code_open hb
  have hB : Below w.heap.size w ((w.alloc (.cells #[.int .i64 x, .slice A la.length c] 52)).alloc (.cells #[.int .i64 y, .slice A' lb.length c'] 52)) := by go_grown
  have hE := equal_any (ha.next hB) (hb.next hB) hla
  by_cases hxy : x = y
  · subst hxy
    have e0 : (x == x) = true := by simp
    go_enter Tryd.func37, Tryd.ntmps37
    go_wp2_with fail
    refine hE.mono ?_
    rintro e w1 ⟨rfl, q, rfl⟩
    go_wp2_with fail
    go_ret
    refine ⟨ret_bool ?_, below_drewN hB q⟩
    simp
  · have e0 : (x == y) = false := by simpa using hxy
    go_enter Tryd.func37, Tryd.ntmps37
    go_wp2_with fail
    go_ret
    exact ⟨ret_bool (by simp), hB⟩

set_option maxHeartbeats 4000000 in
theorem equalFns_any {w : World} {va vb : Value} {p q : List Fn} (ha : Fns w w.heap.size va p) (hb : Fns w w.heap.size vb q) (hla : p.length ≤ 9223372036854775807) (hlf : ∀ f ∈ p, f.2.length ≤ 9223372036854775807) :
    Calls Tryd.prog 36 #[va, vb, .func (.func 37) #[] #[]] w fun e w' => e = .returned (.bool (decide (p = q))) ∧ Below w.heap.size w w' := by
  obtain ⟨A, c, rfl, hnc, hA⟩ := ha.open_
  obtain ⟨A', c', rfl, hmc, hA'⟩ := hb.open_
  obtain ⟨n, hn⟩ := name_of p.length
  obtain ⟨m, hm⟩ := name_of q.length
  have HA := Lib.hid hA
  have HA' := Lib.hid hA'
  have HN := Lib.hid hn
  have HM := Lib.hid hm
  have HLF := Lib.hid hlf
  rw [hn] at hnc hla ⊢
  rw [hm] at hmc ⊢
  clear hA hA' ha hb hn hm hlf
  by_cases hnm : n = m
  · subst hnm
    go_enter Tryd.func36, Tryd.ntmps36
    go_wp2_with fail
    go_loopw [17] (fun i wr => ∃ k : Nat, k ≤ n ∧ i = .int .i64 k ∧ p.take k = q.take k ∧ Below w.heap.size w wr) (fun i _ => n - (intOf i).toNat)
    case atStart => exact ⟨0, Nat.zero_le _, rfl, rfl, Below.refl _ _⟩
    case round =>
      obtain ⟨k, hk, rfl, ht, hB⟩ := hrel
      by_cases hlt : k < n
      · have hkl : k < p.length := by have := HN.out; omega
        have hkm : k < q.length := by have := HM.out; omega
        obtain ⟨b, off, cv, rfl, hb, a0, a1, hcv⟩ := HA.out k hkl
        obtain ⟨b', off', cv', rfl, hb', a0', a1', hcv'⟩ := HA'.out k hkm
        have hlf := HLF.out _ (List.getElem_mem hkl)
        obtain ⟨f, hf⟩ := name_of p[k]
        obtain ⟨g, hg⟩ := name_of q[k]
        rw [hf] at a0 hcv hlf
        rw [hg] at a0' hcv'
        have d0 := (hB.cell (p := ⟨b, _, none⟩) hb).trans a0
        have d1 := (hB.cell (p := ⟨b, _, none⟩) hb).trans a1
        have d0' := (hB.cell (p := ⟨b', _, none⟩) hb').trans a0'
        have d1' := (hB.cell (p := ⟨b', _, none⟩) hb').trans a1'
        have HF := Lib.hid hf
        have HG := Lib.hid hg
        have HT := Lib.hid ht
        have hbw := World.block_lt_of_cell? _ _ d0
        have hbw' := World.block_lt_of_cell? _ _ d0'
        obtain ⟨fx, fl⟩ := f
        obtain ⟨gx, gl⟩ := g
        dsimp only at d0 d0' hcv hcv' hlf
        obtain ⟨A1, c1, rfl, -⟩ := code_open hcv
        obtain ⟨A2, c2, rfl, -⟩ := code_open hcv'
        clear a0 a1 a0' a1' hf hg ht
        have hBA : Below wr.heap.size wr ((wr.alloc (.cells #[.int .i64 fx, .slice A1 fl.length c1] 52)).alloc (.cells #[.int .i64 gx, .slice A2 gl.length c2] 52)) := by go_grown
        have hE := fnSame_any (f := (fx, fl)) (g := (gx, gl)) ((hcv.next hB).next hBA) ((hcv'.next hB).next hBA) hlf
        have hB2 := hB.next hBA
        by_cases he : ((fx, fl) : Fn) = (gx, gl)
        · rw [decide_eq_true he] at hE
          have HE := Lib.hid he
          clear he hcv hcv'
          go_wp2_with fail
          refine hE.mono ?_
          rintro e w3 ⟨rfl, hb3⟩
          clear hE
          go_wp2_with fail
          exact ⟨⟨k + 1, by omega, by go_num, take_ext_any hkl hkm HT.out (by rw [HF.out, HG.out, HE.out]), hB2.next hb3⟩, by simp [intOf]; omega⟩
        · rw [decide_eq_false he] at hE
          have HE := Lib.hid he
          clear he hcv hcv'
          go_wp2_with fail
          refine hE.mono ?_
          rintro e w3 ⟨rfl, hb3⟩
          clear hE
          go_wp2_with fail
          go_ret
          exact ⟨ret_bool (by symm; rw [decide_eq_false_iff_not]; rintro rfl; exact HE.out (HF.out.symm.trans HG.out)), hB2.next hb3⟩
      · have hkn : k = n := by omega
        subst hkn
        have HT := Lib.hid ht
        clear ht
        go_wp2_with fail
        go_ret
        refine ⟨ret_bool ?_, hB⟩
        have := HT.out
        rw [List.take_of_length_le (by have := HN.out; omega), List.take_of_length_le (by have := HM.out; omega)] at this
        symm
        simpa using this
  · have hne : ((n : Int) == m) = false := by simp; omega
    go_enter Tryd.func36, Tryd.ntmps36
    go_wp2_with fail
    go_ret
    exact ⟨ret_bool (by symm; rw [decide_eq_false_iff_not]; rintro rfl; exact hnm (HN.out.symm.trans HM.out)), Below.refl _ _⟩
theorem same_any {w : World} {va vb : Value} {p q : List Fn} (ha : Fns w w.heap.size va p) (hb : Fns w w.heap.size vb q) (hla : p.length ≤ 9223372036854775807) (hlf : ∀ f ∈ p, f.2.length ≤ 9223372036854775807) :
    Calls Tryd.prog 27 #[.agg #[va], .agg #[vb]] w fun e w' => e = .returned (.bool (decide (p = q))) ∧ Below w.heap.size w w' := by
  obtain ⟨A, c, rfl, -⟩ := id ha.open_
  obtain ⟨A', c', rfl, -⟩ := id hb.open_
  have hB : Below w.heap.size w ((w.alloc (.cells #[.slice A p.length c] 35)).alloc (.cells #[.slice A' q.length c'] 35)) := by go_grown
  have hE := equalFns_any (ha.next hB) (hb.next hB) hla hlf
  go_enter Tryd.func27, Tryd.ntmps27
  go_wp2_with fail
  refine hE.mono ?_
  rintro e w1 ⟨rfl, hb1⟩
  go_wp2_with fail
  go_ret
  exact ⟨rfl, hB.next hb1⟩
end P2
end Go.Proofs.YtjpnbjlhjlddbaaDoor
