/- Table: parse, walked. -/
import Derived.Test.YthpfoegmoldkgaaGreatDoorTb5
import Derived.Test.YthpfoegmoldkgaaGreatDoorV
import Derived.Test.YthpfoegmoldkgaaGreatDoorSc
namespace Go.Proofs.YthpfoegmoldkgaaGreatDoor
open Go.RowKit
namespace P7
open CutL NumL PC

theorem or_any (a b c : ByteArray) (W : World) : Calls Tryz.prog 11 #[.string a, .string b, .string c] W fun e w' => e = .returned (.string (if a = b then c else a)) ∧ w' = W := by
  by_cases h : a = b
  · subst h
    rw [if_pos rfl]
    exact or_same a c W
  · rw [if_neg h]
    exact or_else a b c h W
theorem closes_any (g : List UInt8) : (if (if (⟨g.toArray⟩ : ByteArray) = ⟨#[]⟩ then (⟨#[32]⟩ : ByteArray) else ⟨g.toArray⟩) = ⟨#[45]⟩ then (⟨#[]⟩ : ByteArray) else (if (⟨g.toArray⟩ : ByteArray) = ⟨#[]⟩ then (⟨#[32]⟩ : ByteArray) else ⟨g.toArray⟩)) = ⟨(closesT g).toArray⟩ := by
  have he : ∀ m : List UInt8, ((⟨g.toArray⟩ : ByteArray) = ⟨m.toArray⟩) ↔ g = m := fun m => ⟨fun h => by have := congrArg (·.data.toList) h; simpa using this, fun h => by rw [h]⟩
  unfold closesT
  by_cases h0 : g = []
  · rw [if_pos ((he []).2 h0), if_pos h0, if_neg (by decide)]
  · rw [if_neg (fun e => h0 ((he []).1 e)), if_neg h0]
    by_cases h1 : g = [45]
    · rw [if_pos ((he [45]).2 h1), if_pos h1]
    · rw [if_neg (fun e => h1 ((he [45]).1 e)), if_neg h1]
/-- What parse answers: the row of a line, or a code that is not 0. -/
def RowPost (r : Option Row) (w : World) (e : Ending) (w' : World) : Prop := (match r with
  | some v => e = .returned (.tuple #[rowV v, .int .i64 0])
  | none => ∃ c : Int, c ≠ 0 ∧ e = .returned (.tuple #[.agg #[.int .i64 0, .int .i64 0, .int .i64 0, .int .i64 0, .int .i64 0, .int .i64 0, .string ⟨#[]⟩], .int .i64 c])) ∧ Below w.heap.size w w'
theorem rp_none {r : Option Row} {c : Int} {w w' : World} {e : Ending} (h : r = none) (hc : c ≠ 0) (he : e = .returned (.tuple #[.agg #[.int .i64 0, .int .i64 0, .int .i64 0, .int .i64 0, .int .i64 0, .int .i64 0, .string ⟨#[]⟩], .int .i64 c])) (hb : Below w.heap.size w w') : RowPost r w e w' := by
  unfold RowPost; rw [h]; exact ⟨⟨c, hc, he⟩, hb⟩
theorem rp_some {r : Option Row} {v : Row} {w w' : World} {e : Ending} (h : r = some v) (he : e = .returned (.tuple #[rowV v, .int .i64 0])) (hb : Below w.heap.size w w') : RowPost r w e w' := by
  unfold RowPost; rw [h]; exact ⟨he, hb⟩
theorem lbeq {c l : List UInt8} (h : c = l) : ((⟨c.toArray⟩ : ByteArray).toList == l) = true := by subst h; rw [ByteArray.toList_eq]; simp
theorem lbne {c l : List UInt8} (h : c ≠ l) : ((⟨c.toArray⟩ : ByteArray).toList == l) = false := by
  rw [ByteArray.toList_eq, beq_eq_false_iff_ne]
  exact h
theorem idx_kinds (y : List UInt8) : Lib.idxOfS (kindsL.take 5) ⟨y.toArray⟩ = (kindIx y).getD (-1) := by
  by_cases h0 : y = kw 0
  · subst h0; decide +kernel
  · by_cases h1 : y = kw 1
    · subst h1; decide +kernel
    · by_cases h2 : y = kw 2
      · subst h2; decide +kernel
      · by_cases h3 : y = kw 3
        · subst h3; decide +kernel
        · by_cases h4 : y = kw 4
          · subst h4; decide +kernel
          · rw [show kindIx y = none from by unfold kindIx; rw [if_neg h0, if_neg h1, if_neg h2, if_neg h3, if_neg h4]]
            refine Lib.idxOfS_miss kindsL 5 _ fun j hj e => ?_
            have e2 : (kindsL.getD j ByteArray.empty).data.toList = y := by rw [e]
            match j, hj with
            | 0, _ => exact h0 e2.symm
            | 1, _ => exact h1 e2.symm
            | 2, _ => exact h2 e2.symm
            | 3, _ => exact h3 e2.symm
            | 4, _ => exact h4 e2.symm
theorem blk_setC {w : World} {g j : Nat} {cs : Array Value} {t : TypeId} {fr : Nat × Nat} (h : w.heap[g]? = some (.cells cs t fr)) (u : Value) : (w.setCell ⟨g, j, none⟩ u).heap[g]? = some (.cells (cs.setIfInBounds j u) t fr) := by
  simp [World.setCell, Array.getElem?_modify, h]
theorem blk_set_o {w : World} {g k j : Nat} {o : Obj} (h : w.heap[k]? = some o) (hne : k ≠ g) (u : Value) : (w.setCell ⟨g, j, none⟩ u).heap[k]? = some o := by
  rw [← h]; exact Below.heap_setCell w ⟨g, j, none⟩ u k hne
theorem nums_zero {xs : List Int} (h : xs.length < 7) : (numsC xs)[xs.length]? = some (.int .i64 0) := by
  rw [numsC, List.getElem?_map, List.getElem?_append_right (Nat.le_refl _), Nat.sub_self]
  rw [show 7 - xs.length = (6 - xs.length) + 1 by omega, List.replicate_succ]
  rfl
def LoopR (X : Nat) (w2 : World) (ws : List (List UInt8)) (i : Value) (wr : World) : Prop :=
  ∃ xs : List Int, xs.length ≤ 6 ∧ i = .int .i64 (xs.length : Nat) ∧ Hid (∀ (j : Nat) (hj : j < xs.length), val j (ws.getD j []) = some xs[j]) ∧ Hid (wr.heap[X]? = some (.cells (numsC xs).toArray 65 (0, 0))) ∧ Below X w2 wr
theorem vals_snoc {ws : List (List UInt8)} {xs : List Int} {x : Int} (h : ∀ (j : Nat) (hj : j < xs.length), val j (ws.getD j []) = some xs[j]) (hx : val xs.length (ws.getD xs.length []) = some x) : ∀ (j : Nat) (hj : j < (xs ++ [x]).length), val j (ws.getD j []) = some (xs ++ [x])[j] := by
  intro j hj
  rcases Nat.lt_or_ge j xs.length with h1 | h1
  · rw [List.getElem_append_left h1]
    exact h j h1
  · have : j = xs.length := by simp at hj; omega
    subst this
    rw [List.getElem_append_right (Nat.le_refl _)]
    simpa using hx
set_option maxRecDepth 10000 in
set_option maxHeartbeats 8000000 in
theorem parse_walk (s : ByteArray) (hs : s.size ≤ 200000) (w : World) (hp : TL w) : Calls Tryz.prog 21 #[.string s] w (RowPost (rowT s.data.toList) w) := by
  obtain ⟨t, ht⟩ := name_of s.data.toList
  have HP := Lib.hid hp
  have hb0 : Below w.heap.size w (w.alloc (.cells #[.int .i64 0, .int .i64 0, .int .i64 0, .int .i64 0, .int .i64 0, .int .i64 0, .string ⟨#[]⟩] 34)) := by go_grown
  have hg0 := heap_alloc_last w (.cells #[.int .i64 0, .int .i64 0, .int .i64 0, .int .i64 0, .int .i64 0, .int .i64 0, .string ⟨#[]⟩] 34)
  have hSp := split_walk 32 s hs (w.alloc (.cells #[.int .i64 0, .int .i64 0, .int .i64 0, .int .i64 0, .int .i64 0, .int .i64 0, .string ⟨#[]⟩] 34)) (hp.next hb0)
  rw [ht] at hSp ⊢
  obtain ⟨ws, hws⟩ := name_of (splitC 32 t)
  have h7 := rowT_seven (t := t)
  rw [hws] at hSp h7
  have HWS := Lib.hid hws
  have hlen : ∀ x ∈ ws, x.length ≤ 200000 := fun x hx => by
    rw [← hws] at hx
    have h1 := words_le 32 _ x hx
    have h2 := bsl_len s
    rw [ht] at h2
    omega
  have hnum : ws.length ≤ 200001 := by
    rw [← hws, splitC_len]
    have h1 := List.count_le_length (a := (32 : UInt8)) (l := t)
    have h2 := bsl_len s
    rw [ht] at h2
    omega
  have HLEN := Lib.hid hlen
  obtain ⟨n, hn⟩ := name_of ws.length
  have HN := Lib.hid hn
  rw [hn] at hSp h7 hnum
  have hg1 := blk_next hg0 ((Below.refl (w.alloc (.cells #[.int .i64 0, .int .i64 0, .int .i64 0, .int .i64 0, .int .i64 0, .int .i64 0, .string ⟨#[]⟩] 34)).heap.size _).alloc (Nat.le_refl _) (.cells (wvT ws).toArray 9))
  have hb1 := hb0.next ((Below.refl (w.alloc (.cells #[.int .i64 0, .int .i64 0, .int .i64 0, .int .i64 0, .int .i64 0, .int .i64 0, .string ⟨#[]⟩] 34)).heap.size _).alloc (Nat.le_refl _) (.cells (wvT ws).toArray 9))
  have hgw := heap_alloc_last (w.alloc (.cells #[.int .i64 0, .int .i64 0, .int .i64 0, .int .i64 0, .int .i64 0, .int .i64 0, .string ⟨#[]⟩] 34)) (.cells (wvT ws).toArray 9)
  rw [show (w.alloc (.cells #[.int .i64 0, .int .i64 0, .int .i64 0, .int .i64 0, .int .i64 0, .int .i64 0, .string ⟨#[]⟩] 34)).heap.size = w.heap.size + 1 by simp] at hSp hgw
  have HG0 := Lib.hid hg1
  have HGW := Lib.hid hgw
  clear ht hws hg0 hb0 hlen hn hg1 hgw hs
  by_cases hn7 : n = 7
  · have e7 : ((n : Int) != 7) = false := by rw [hn7]; rfl
    clear h7
    subst hn7
    go_enter Tryz.func21, Tryz.ntmps21
    go_wp2_with fail
    refine hSp.mono ?_
    rintro e w1 ⟨rfl, hw1⟩
    rw [← hw1] at hb1 HG0 HGW
    clear hSp hw1
    go_wp2_with fail
    have hgX : (w1.alloc (.cells #[.int .i64 0, .int .i64 0, .int .i64 0, .int .i64 0, .int .i64 0, .int .i64 0, .int .i64 0] 65)).heap[w1.heap.size]? = some (.cells (numsC []).toArray 65 (0, 0)) := heap_alloc_last w1 _
    have hbX : Below w1.heap.size w1 (w1.alloc (.cells #[.int .i64 0, .int .i64 0, .int .i64 0, .int .i64 0, .int .i64 0, .int .i64 0, .int .i64 0] 65)) := by go_grown
    obtain ⟨W2, hW2⟩ := name_of (w1.alloc (.cells #[.int .i64 0, .int .i64 0, .int .i64 0, .int .i64 0, .int .i64 0, .int .i64 0, .int .i64 0] 65))
    rw [hW2] at hgX hbX ⊢
    have hw0 : w.heap.size < w1.heap.size := lt_of_block HG0.out
    have hw01 : w.heap.size + 1 < w1.heap.size := lt_of_block HGW.out
    obtain ⟨X, hX⟩ := name_of w1.heap.size
    rw [hX] at hgX hbX hw0 hw01 ⊢
    have HGX := Lib.hid hgX
    clear hW2 hgX hX
    go_loopw [18] (fun i wr => LoopR X w1 ws i wr) (fun i _ => 6 - (intOf i).toNat)
    case atStart => exact ⟨[], by simp, rfl, Lib.hid (fun j hj => absurd hj (by simp)), HGX, hbX⟩
    case round =>
      clear HGX hbX
      obtain ⟨xs, hxs, rfl, HV, HX, hB⟩ := hrel
      have hBw : Below w.heap.size w wr := hb1.trans (hB.mono (by omega))
      have HGr := Lib.hid ((hB.block _ hw0).trans HG0.out)
      have hXw : X < wr.heap.size := lt_of_block HX.out
      obtain ⟨k, hk⟩ := name_of xs.length
      have HK := Lib.hid hk
      rw [hk] at hxs ⊢
      by_cases hlt : k < 6
      · have hkn : k < ws.length := by have := HN.out; omega
        have hcw : wr.cell? ⟨w.heap.size + 1, k, none⟩ = some (.string ⟨(ws.getD k []).toArray⟩) := by
          rw [hB.cell (p := ⟨w.heap.size + 1, k, none⟩) hw01, cell_of_row _ _ _ _ _ _ HGW.out]
          simp [wvT, List.getD_eq_getElem?_getD, List.getElem?_eq_getElem hkn]
        have hxl : (ws.getD k []).length ≤ 200000 := HLEN.out _ (by rw [List.getD_eq_getElem?_getD, List.getElem?_eq_getElem hkn]; exact List.getElem_mem hkn)
        obtain ⟨y, hy⟩ := name_of (ws.getD k [])
        have HY := Lib.hid hy
        rw [hy] at hcw hxl
        obtain ⟨ys, hys⟩ := name_of (⟨y.toArray⟩ : ByteArray)
        have hyz : ys.size ≤ 200000 := by rw [← hys]; exact hxl
        have hyd : ys.data.toList = y := by rw [← hys]
        rw [hys] at hcw
        have hNu := fun W (hW : Below w.heap.size w W) => number_walk ys hyz W (HP.out.next hW)
        rw [hyd] at hNu
        have HYS := Lib.hid hys
        have hzero : wr.cell? ⟨X, k, none⟩ = some (.int .i64 0) := by
          rw [cell_of_row _ _ _ _ _ _ HX.out, List.getElem?_toArray, ← hk]
          exact nums_zero (by omega)
        have hfr : wr.frozen? ⟨X, k, none⟩ = false := frozen_of_row _ _ k _ _ HX.out
        clear hkn hxl hy hys hyz hyd hk
        have hnone : val k y = none → rowT t = none := fun h => rowT_val hlt (by rw [HWS.out, HY.out]; exact h)
        have hset : ∀ (W : World) (v : Int), val k y = some v → W.heap[X]? = some (.cells (numsC xs).toArray 65 (0, 0)) → Below X w1 W → LoopR X w1 ws (.int .i64 ((k : Int) + 1)) (W.setCell ⟨X, k, none⟩ (.int .i64 v)) := by
          intro W v hv hg hb
          refine ⟨xs ++ [v], by rw [List.length_append, List.length_singleton, HK.out]; omega, by rw [List.length_append, List.length_singleton, HK.out]; rfl, Lib.hid (vals_snoc HV.out (by rw [HK.out, HY.out]; exact hv)), Lib.hid ?_, hb.setCell (p := ⟨X, k, none⟩) (Nat.le_refl _) _⟩
          rw [blk_setC hg]
          rw [← numsC_set (by rw [HK.out]; omega), HK.out]
          simp
        by_cases hk0 : k = 0
        · have f0 : ((k : Int) == 0) = true := by rw [beq_iff_eq]; omega
          have f3 : ((k : Int) == 3) = false := by rw [beq_eq_false_iff_ne]; omega
          have hval : val k y = firstN y := by rw [val, if_pos hk0]
          rw [hval] at hnone hset
          by_cases hm : y = [45]
          · have g1 : (ys.toList == [45]) = true := by rw [← HYS.out]; exact lbeq hm
            have hv : firstN y = some (-1) := by rw [firstN, if_pos hm]
            have HQ := Lib.hid (hset wr (-1) hv HX.out hB)
            clear hnone hset hval hm hv hNu hk0
            go_wp2_with fail
            exact ⟨HQ.out, by simp [intOf]; omega⟩
          · have g1 : (ys.toList == [45]) = false := by rw [← HYS.out]; exact lbne hm
            have hN2 := hNu wr hBw
            clear hNu hval hk0
            cases hnt : numT y with
            | none =>
              rw [hnt] at hN2
              have HR : Hid (rowT t = none) := Lib.hid (hnone (by rw [firstN, if_neg hm, hnt]))
              clear hnone hset hnt hm
              go_wp2_with fail
              refine hN2.mono ?_
              rintro e w3 ⟨⟨c, hc, rfl⟩, hb3⟩
              have hc2 : (c != 0) = true := bne_iff_ne.2 hc
              have HC := Lib.hid hc
              have HG3 := Lib.hid (blk_next HGr.out hb3)
              have hx3 := (hb3.cell (p := ⟨X, k, none⟩) hXw).trans hzero
              have hf3 := (hb3.frozen (p := ⟨X, k, none⟩) hXw).trans hfr
              have hB3 := hBw.next hb3
              have HS3 := Lib.hid (blk_set_o (g := X) (j := k) HG3.out (by omega) (.int .i64 0))
              clear hN2 hc hb3 hzero hfr hcw
              go_wp2_with (first | (refine wpList_load_blk rfl 34 34 (.tmp 2) rfl w.heap.size rfl _ _ HS3.out _ Tryz.underlying34 rfl (by kernel_rfl) ?_) | (refine wpList_store_blk rfl 34 34 (.tmp 2) _ rfl w.heap.size rfl _ rfl _ HS3.out (by kernel_rfl) rfl (by kernel_rfl) ?_; intro w9 hg9 ho9 hz9 hb9))
              refine bodyPost_ret (results_cell_tmp rfl _ _ w.heap.size 34 _ _ _ rfl hg9 Tryz.underlying34 rfl (by kernel_rfl)) rfl ?_
              exact rp_none HR.out HC.out rfl ((hB3.setCell (p := ⟨X, k, none⟩) (Nat.le_of_lt hw0) _).trans hb9)
            | some v =>
              rw [hnt] at hN2
              by_cases hneg : v < 0
              · have hv1 : decide (v < 0) = true := decide_eq_true hneg
                have HR : Hid (rowT t = none) := Lib.hid (hnone (by rw [firstN, if_neg hm, hnt]; exact if_pos hneg))
                clear hnone hset hnt hneg hm
                go_wp2_with fail
                refine hN2.mono ?_
                rintro e w3 ⟨rfl, hb3⟩
                have HG3 := Lib.hid (blk_next HGr.out hb3)
                have hx3 := (hb3.cell (p := ⟨X, k, none⟩) hXw).trans hzero
                have hf3 := (hb3.frozen (p := ⟨X, k, none⟩) hXw).trans hfr
                have hB3 := hBw.next hb3
                have HS3 := Lib.hid (blk_set_o (g := X) (j := k) HG3.out (by omega) (.int .i64 v))
                clear hN2 hb3 hzero hfr hcw
                go_wp2_with (first | (refine wpList_load_blk rfl 34 34 (.tmp 2) rfl w.heap.size rfl _ _ HS3.out _ Tryz.underlying34 rfl (by kernel_rfl) ?_) | (refine wpList_store_blk rfl 34 34 (.tmp 2) _ rfl w.heap.size rfl _ rfl _ HS3.out (by kernel_rfl) rfl (by kernel_rfl) ?_; intro w9 hg9 ho9 hz9 hb9))
                refine bodyPost_ret (results_cell_tmp rfl _ _ w.heap.size 34 _ _ _ rfl hg9 Tryz.underlying34 rfl (by kernel_rfl)) rfl ?_
                exact rp_none HR.out (by decide) rfl ((hB3.setCell (p := ⟨X, k, none⟩) (Nat.le_of_lt hw0) _).trans hb9)
              · have hv1 : decide (v < 0) = false := decide_eq_false hneg
                have HQ := Lib.hid (fun W h1 h2 => hset W v (by rw [firstN, if_neg hm, hnt]; exact if_neg hneg) h1 h2)
                clear hnone hset hnt hneg hm
                go_wp2_with fail
                refine hN2.mono ?_
                rintro e w3 ⟨rfl, hb3⟩
                have HX3 := Lib.hid (blk_next HX.out hb3)
                have hx3 := (hb3.cell (p := ⟨X, k, none⟩) hXw).trans hzero
                have hf3 := (hb3.frozen (p := ⟨X, k, none⟩) hXw).trans hfr
                have HB3 := Lib.hid (hB.trans (hb3.mono (Nat.le_of_lt hXw)))
                clear hN2 hb3 hzero hfr hcw
                go_wp2_with fail
                exact ⟨HQ.out w3 HX3.out HB3.out, by simp [intOf]; omega⟩
        · have f0 : ((k : Int) == 0) = false := by rw [beq_eq_false_iff_ne]; omega
          by_cases hk3 : k = 3
          · have f3 : ((k : Int) == 3) = true := by rw [beq_iff_eq]; omega
            have hval : val k y = kindIx y := by rw [val, if_neg hk0, if_pos hk3]
            rw [hval] at hnone hset
            have hKi := kinds_any wr
            have hIx := Tryz.slices_Index_string wr.heap.size 0 5 5 kindsL ys (wr.alloc (.cells (kindsL.map Value.string).toArray 9)) (by decide) (by decide) (fun j hj => by
              rw [Nat.zero_add, cell_of_row _ _ _ _ _ _ (heap_alloc_last wr _)]
              have hj5 : j < 5 := hj
              match j, hj5 with
              | 0, _ | 1, _ | 2, _ | 3, _ | 4, _ => rfl)
            rw [← HYS.out, idx_kinds y] at hIx
            rw [HYS.out] at hIx
            have hbk : Below wr.heap.size wr (wr.alloc (.cells (kindsL.map Value.string).toArray 9)) := by go_grown
            obtain ⟨W4, hW4⟩ := name_of (wr.alloc (.cells (kindsL.map Value.string).toArray 9))
            rw [hW4] at hKi hIx hbk
            have hx4 := (hbk.cell (p := ⟨X, k, none⟩) hXw).trans hzero
            have hf4 := (hbk.frozen (p := ⟨X, k, none⟩) hXw).trans hfr
            clear hNu hval hW4 hzero hfr hk0 hk3
            cases hki : kindIx y with
            | none =>
              rw [hki, Option.getD_none] at hIx
              have HR : Hid (rowT t = none) := Lib.hid (hnone hki)
              have HG4 := Lib.hid (blk_next HGr.out hbk)
              have HS4 := Lib.hid (blk_set_o (g := X) (j := k) HG4.out (by omega) (.int .i64 (-1)))
              have hB4 := hBw.next hbk
              clear hnone hset hki hbk
              go_wp2_with fail
              refine hKi.mono ?_
              rintro e w5 ⟨rfl, rfl⟩
              go_wp2_with fail
              refine hIx.mono ?_
              rintro e w6 ⟨rfl, rfl⟩
              clear hKi hIx hcw
              go_wp2_with (first | (refine wpList_load_blk rfl 34 34 (.tmp 2) rfl w.heap.size rfl _ _ HS4.out _ Tryz.underlying34 rfl (by kernel_rfl) ?_) | (refine wpList_store_blk rfl 34 34 (.tmp 2) _ rfl w.heap.size rfl _ rfl _ HS4.out (by kernel_rfl) rfl (by kernel_rfl) ?_; intro w9 hg9 ho9 hz9 hb9))
              refine bodyPost_ret (results_cell_tmp rfl _ _ w.heap.size 34 _ _ _ rfl hg9 Tryz.underlying34 rfl (by kernel_rfl)) rfl ?_
              exact rp_none HR.out (by decide) rfl ((hB4.setCell (p := ⟨X, k, none⟩) (Nat.le_of_lt hw0) _).trans hb9)
            | some v =>
              rw [hki, Option.getD_some] at hIx
              have hv0 := (kindIx_ok hki).1
              have hv1 : decide (v < 0) = false := decide_eq_false (by omega)
              have HQ := Lib.hid (hset W4 v hki (blk_next HX.out hbk) (hB.trans (hbk.mono (Nat.le_of_lt hXw))))
              clear hnone hset hki hbk hv0
              go_wp2_with fail
              refine hKi.mono ?_
              rintro e w5 ⟨rfl, rfl⟩
              go_wp2_with fail
              refine hIx.mono ?_
              rintro e w6 ⟨rfl, rfl⟩
              clear hKi hIx hcw
              go_wp2_with fail
              exact ⟨HQ.out, by simp [intOf]; omega⟩
          · have f3 : ((k : Int) == 3) = false := by rw [beq_eq_false_iff_ne]; omega
            have hval : val k y = numT y := by rw [val, if_neg hk0, if_neg hk3]
            rw [hval] at hnone hset
            have hN2 := hNu wr hBw
            clear hk0 hk3 hval hNu
            cases hnt : numT y with
            | none =>
              rw [hnt] at hN2
              have HR : Hid (rowT t = none) := Lib.hid (hnone hnt)
              clear hnone hset hnt
              go_wp2_with fail
              refine hN2.mono ?_
              rintro e w3 ⟨⟨c, hc, rfl⟩, hb3⟩
              have hc2 : (c != 0) = true := bne_iff_ne.2 hc
              have HC := Lib.hid hc
              have HG3 := Lib.hid (blk_next HGr.out hb3)
              have hx3 := (hb3.cell (p := ⟨X, k, none⟩) hXw).trans hzero
              have hf3 := (hb3.frozen (p := ⟨X, k, none⟩) hXw).trans hfr
              have hB3 := hBw.next hb3
              have HS3 := Lib.hid (blk_set_o (g := X) (j := k) HG3.out (by omega) (.int .i64 0))
              clear hN2 hc hb3 hzero hfr hcw
              go_wp2_with (first | (refine wpList_load_blk rfl 34 34 (.tmp 2) rfl w.heap.size rfl _ _ HS3.out _ Tryz.underlying34 rfl (by kernel_rfl) ?_) | (refine wpList_store_blk rfl 34 34 (.tmp 2) _ rfl w.heap.size rfl _ rfl _ HS3.out (by kernel_rfl) rfl (by kernel_rfl) ?_; intro w9 hg9 ho9 hz9 hb9))
              refine bodyPost_ret (results_cell_tmp rfl _ _ w.heap.size 34 _ _ _ rfl hg9 Tryz.underlying34 rfl (by kernel_rfl)) rfl ?_
              exact rp_none HR.out HC.out rfl ((hB3.setCell (p := ⟨X, k, none⟩) (Nat.le_of_lt hw0) _).trans hb9)
            | some v =>
              rw [hnt] at hN2
              have HQ := Lib.hid (fun W h1 h2 => hset W v hnt h1 h2)
              clear hnone hset hnt
              go_wp2_with fail
              refine hN2.mono ?_
              rintro e w3 ⟨rfl, hb3⟩
              have HX3 := Lib.hid (blk_next HX.out hb3)
              have hx3 := (hb3.cell (p := ⟨X, k, none⟩) hXw).trans hzero
              have hf3 := (hb3.frozen (p := ⟨X, k, none⟩) hXw).trans hfr
              have HB3 := Lib.hid (hB.trans (hb3.mono (Nat.le_of_lt hXw)))
              clear hN2 hb3 hzero hfr hcw
              go_wp2_with fail
              exact ⟨HQ.out w3 HX3.out HB3.out, by simp [intOf]; omega⟩
      · have hk6 : k = 6 := by omega
        have hall := HV.out
        have hl6 : xs.length = 6 := HK.out.trans hk6
        obtain ⟨x0, x1, x2, x3, x4, x5, hx⟩ : ∃ x0 x1 x2 x3 x4 x5, xs = [x0, x1, x2, x3, x4, x5] := by
          match xs, hl6 with
          | [x0, x1, x2, x3, x4, x5], _ => exact ⟨x0, x1, x2, x3, x4, x5, rfl⟩
        subst hx
        have hR := rowT_all HWS.out HN.out (hall 0 (by simp)) (hall 1 (by simp)) (hall 2 (by simp)) (hall 3 (by simp)) (hall 4 (by simp)) (hall 5 (by simp))
        have c0 := cell_of_row _ X 0 _ _ _ HX.out
        have c1 := cell_of_row _ X 1 _ _ _ HX.out
        have c2 := cell_of_row _ X 2 _ _ _ HX.out
        have c3 := cell_of_row _ X 3 _ _ _ HX.out
        have c4 := cell_of_row _ X 4 _ _ _ HX.out
        have c5 := cell_of_row _ X 5 _ _ _ HX.out
        simp only [numsC, List.length_cons, List.length_nil, List.replicate, List.cons_append, List.nil_append, List.map_cons, List.map_nil, List.getElem?_toArray, List.getElem?_cons_zero, List.getElem?_cons_succ] at c0 c1 c2 c3 c4 c5
        have hcw : wr.cell? ⟨w.heap.size + 1, 6, none⟩ = some (.string ⟨(ws.getD 6 []).toArray⟩) := by
          rw [hB.cell (p := ⟨w.heap.size + 1, 6, none⟩) hw01, cell_of_row _ _ _ _ _ _ HGW.out]
          have h6 : 6 < ws.length := by have := HN.out; omega
          simp [wvT, List.getD_eq_getElem?_getD, List.getElem?_eq_getElem h6]
        have hcl := closes_any (ws.getD 6 [])
        obtain ⟨g6, hg6⟩ := name_of (⟨(ws.getD 6 []).toArray⟩ : ByteArray)
        rw [hg6] at hcw hcl
        have hO1 := fun W => or_any g6 ⟨#[]⟩ ⟨#[32]⟩ W
        obtain ⟨m6, hm6⟩ := name_of (if g6 = ⟨#[]⟩ then (⟨#[32]⟩ : ByteArray) else g6)
        rw [hm6] at hO1 hcl
        have hO2 := fun W => or_any m6 ⟨#[45]⟩ ⟨#[]⟩ W
        rw [hcl] at hO2
        obtain ⟨cl, hclo⟩ := name_of (⟨(closesT (ws.getD 6 [])).toArray⟩ : ByteArray)
        rw [hclo] at hO2 hR
        have HR := Lib.hid hR
        subst hk6
        clear hR hall hl6 hlt hcl hg6 hm6 hclo HV HX
        go_wp2_with fail
        refine (hO1 _).mono ?_
        rintro e w5 ⟨rfl, rfl⟩
        clear hO1
        go_wp2_with fail
        refine (hO2 _).mono ?_
        rintro e w6 ⟨rfl, rfl⟩
        clear hO2
        go_wp2_with (refine wpList_store_blk rfl 34 34 (.tmp 2) _ rfl w.heap.size rfl _ rfl _ HGr.out (by kernel_rfl) rfl (by kernel_rfl) ?_; intro w9 hg9 ho9 hz9 hb9)
        refine bodyPost_ret (results_cell_tmp rfl _ _ w.heap.size 34 _ _ _ rfl hg9 Tryz.underlying34 rfl (by kernel_rfl)) rfl ?_
        exact rp_some HR.out rfl (hBw.trans hb9)
  · have e7 : ((n : Int) != 7) = true := by rw [bne_iff_ne]; omega
    have HR : Hid (rowT t = none) := Lib.hid (h7 hn7)
    clear h7 hn7
    go_enter Tryz.func21, Tryz.ntmps21
    go_wp2_with fail
    refine hSp.mono ?_
    rintro e w1 ⟨rfl, hw1⟩
    rw [← hw1] at hb1 HG0
    clear hSp hw1
    go_wp2_with (first | (refine wpList_load_blk rfl 34 34 (.tmp 2) rfl w.heap.size rfl _ _ HG0.out _ Tryz.underlying34 rfl (by kernel_rfl) ?_) | (refine wpList_store_blk rfl 34 34 (.tmp 2) _ rfl w.heap.size rfl _ rfl _ HG0.out (by kernel_rfl) rfl (by kernel_rfl) ?_; intro w9 hg9 ho9 hz9 hb9))
    refine bodyPost_ret (results_cell_tmp rfl _ _ w.heap.size 34 _ _ _ rfl hg9 Tryz.underlying34 rfl (by kernel_rfl)) rfl ?_
    exact rp_none HR.out (by decide) rfl (hb1.trans hb9)
end P7
end Go.Proofs.YthpfoegmoldkgaaGreatDoor
