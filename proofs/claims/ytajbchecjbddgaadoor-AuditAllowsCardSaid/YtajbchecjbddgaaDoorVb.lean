/- Audit: the reference's Allowed. -/
import Derived.Test.YtajbchecjbddgaaDoorU9
import Derived.Test.YtajbchecjbddgaaDoorUp
import Derived.Test.YtajbchecjbddgaaDoorH3
namespace Go.Proofs.YtajbchecjbddgaaDoor
open Go.RowKit
namespace P20
open P7

/-- Is a row in one of the first so many scopes that was asked to be? -/
def askTo (s : Sh) (i k : Nat) : Bool := (List.range k).any fun j => (sA s.sc j).a && decide (rowIn s i j)
theorem askTo_succ (s : Sh) (i k : Nat) : askTo s i (k + 1) = (askTo s i k || ((sA s.sc k).a && decide (rowIn s i k))) := by
  unfold askTo
  rw [List.range_succ, List.any_append]
  simp
theorem askTo_all {s : Sh} {i : Nat} (h : (at_ s.l i).k = 4) : askR s i ↔ askTo s i s.sc.length = true := by
  unfold askR askTo
  rw [List.any_eq_true]
  constructor
  · intro hs
    obtain ⟨j, h1, h2, h3⟩ := hs h
    exact ⟨j, List.mem_range.2 h1, by rw [h2, decide_eq_true h3]; rfl⟩
  · rintro ⟨j, h1, h2⟩ -
    rw [Bool.and_eq_true, decide_eq_true_iff] at h2
    exact ⟨j, List.mem_range.1 h1, h2.1, h2.2⟩
/-- The box of the shot, and whether a scope was asked. -/
abbrev SkS (W0 : World) (g : Nat) (a1 a2 a3 : Value) (b o : Nat) (x : Bool) (W : World) : Prop :=
  Below W0.heap.size W0 W ∧ W.cell? ⟨g, 0, none⟩ = some a1 ∧ W.cell? ⟨g, 1, none⟩ = some a2 ∧ W.cell? ⟨g, 2, none⟩ = some a3 ∧ W.cell? ⟨b, o, none⟩ = some (.bool x)
theorem SkS.next {W0 W W' : World} {g : Nat} {a1 a2 a3 : Value} {b o : Nat} {x : Bool} (h0 : SkS W0 g a1 a2 a3 b o x W) (hb : Below W.heap.size W W') (hg : g < W0.heap.size) (hh : b < W0.heap.size) : SkS W0 g a1 a2 a3 b o x W' := by
  obtain ⟨h0, r0, r1, r2, r3⟩ := h0
  have k := fun j => hb.cell (p := ⟨g, j, none⟩) (Nat.lt_of_lt_of_le hg h0.size)
  exact ⟨h0.next hb, (k _).trans r0, (k _).trans r1, (k _).trans r2, (hb.cell (p := ⟨b, o, none⟩) (Nat.lt_of_lt_of_le hh h0.size)).trans r3⟩
set_option maxRecDepth 100000 in
set_option maxHeartbeats 8000000 in
theorem refAllowed_any {w : World} {vr vs vw : Value} {s : Sh} (h : Shm w vr vs vw s) (hf : FewS s) :
    Calls Tryd.prog 15 #[.agg #[vr, vs, vw]] w fun e w' => e = .returned (.bool (decide (alOk s))) ∧ Below w.heap.size w w' := by
  have hsc := hf.sc
  have hl40 := hf.l
  have HO := Lib.hid (refOf_next h (by omega))
  have HI := Lib.hid (refIn_next h (by omega))
  have hb1 : Below w.heap.size w (w.alloc (.cells #[vr, vs, vw] 26)) := by go_grown
  have hC := refCheckS_any (h.next hb1) hf
  have hblk := heap_alloc_last w (.cells #[vr, vs, vw] 26)
  obtain ⟨A, c, rfl, hnc, hA⟩ := scs_open h.scs
  obtain ⟨Ar, cr, rfl, hncr, hAr⟩ := rows_open h.rows.sl
  obtain ⟨Aw, cw, rfl, -⟩ := h.wks.open_
  have HA := Lib.hid hA
  have HAR := Lib.hid hAr
  obtain ⟨n, hn⟩ := name_of s.sc.length
  obtain ⟨nr, hnr⟩ := name_of s.l.length
  obtain ⟨nw, hnw⟩ := name_of s.ws.length
  have HN := Lib.hid hn
  have HNR := Lib.hid hnr
  rw [hn] at hnc hsc hC hblk hb1
  rw [hnr] at hncr hl40 hC hblk hb1
  rw [hnw] at hC hblk hb1
  rw [hn, hnr, hnw] at HO HI
  rw [hn, hnr, hnw]
  obtain ⟨R, hR⟩ := name_of (decide (alOk s))
  have HR := Lib.hid hR
  obtain ⟨E, hE⟩ := name_of (chkS s)
  have HE := Lib.hid hE
  rw [hE] at hC
  rw [hR]
  have HB1 := Lib.hid hb1
  have HBLK := Lib.hid hblk
  clear hn hnr hnw hR hE hA hAr h hf hb1 hblk
  go_enter Tryd.func15, Tryd.ntmps15
  go_wp2_with fail
  refine hC.mono ?_
  clear hC
  rintro e w2 ⟨rfl, hb2⟩
  have HB2 := Lib.hid (HB1.out.next hb2)
  have HG2 := Lib.hid (blk_next HBLK.out hb2)
  clear hb2 HB1 HBLK
  by_cases hE0 : E = 0
  rotate_left
  · have f1 : (E != 0) = true := by simpa using hE0
    have HV : Hid (false = R) := Lib.hid (by rw [← HR.out]; exact (decide_eq_false (fun h => hE0 (HE.out.symm.trans h.1))).symm)
    clear hE0
    go_wp2_with fail
    go_ret
    exact ⟨ret_bool HV.out, HB2.out⟩
  subst hE0
  have HK := Lib.hid (chkS_split HE.out)
  have HUP : Hid (∀ j, j < s.l.length → (at_ s.l j).p < j) := Lib.hid (Tab_lt HK.out.1)
  have HIN : Hid (∀ W i k, Below w.heap.size w W → i < nr → ∃ q : Nat, ofN s i = some q ∧ (Calls Tryd.prog 37 #[.agg #[.slice Ar nr cr, .slice A n c, .slice Aw nw cw], .int .i64 (q : Int), .int .i64 (k : Nat)] W fun e w' => e = .returned (.bool (decide (rowIn s i k))) ∧ Below W.heap.size W w')) :=
    Lib.hid fun W i k hW hi => by
      obtain ⟨q, hq, hql⟩ := ofN_lt HK.out.2.1 (i := i) (by rw [HNR.out]; exact hi)
      refine ⟨q, hq, ?_⟩
      have h := HI.out HK.out.2.1 (by rw [← HNR.out]; exact HUP.out) q k (by rw [← HN.out]; exact hql) W hW
      have hd : decide (k ∈ ch s q) = decide (rowIn s i k) := by
        have : rowIn s i k ↔ k ∈ ch s q := by
          unfold rowIn
          rw [hq]
          rfl
        rw [Bool.eq_iff_iff, decide_eq_true_iff, decide_eq_true_iff, this]
      rw [hd] at h
      exact h
  have HOF : Hid (∀ W i, Below w.heap.size w W → i < nr → Calls Tryd.prog 38 #[.agg #[.slice Ar nr cr, .slice A n c, .slice Aw nw cw], .int .i64 i] W fun e w' => e = .returned (.int .i64 (inI (ofN s i))) ∧ Below W.heap.size W w') := Lib.hid fun W i hW hi => HO.out i hi W hW
  clear HO HI
  go_wp2_with fail
  go_loopw [3] (fun x wr => ∃ i : Nat, i ≤ nr ∧ x = .int .i64 i ∧ Hid (∀ m, m < i → askR s m) ∧ Below w.heap.size w wr ∧ Hid (wr.heap[w.heap.size]? = some (.cells #[.slice Ar nr cr, .slice A n c, .slice Aw nw cw] 26 (0, 0)))) (fun x _ => nr - (intOf x).toNat)
  case atStart => exact ⟨0, Nat.zero_le _, rfl, Lib.hid (fun m hm => by omega), HB2.out, HG2⟩
  case round =>
    clear HB2 HG2
    obtain ⟨i, hi, rfl, hno, hB, hg2⟩ := hrel
    have q0 : wr.cell? ⟨w.heap.size, 0, none⟩ = some (.slice Ar nr cr) := (cell_of_row _ _ _ _ _ _ hg2.out).trans rfl
    by_cases hlt : i < nr
    · obtain ⟨g, off, rfl, hg, -, -, -, c3, -⟩ := HAR.out i (by rw [HNR.out]; exact hlt)
      have d3 := (hB.cell (p := ⟨g, _, none⟩) hg).trans c3
      have HSN : Hid (askR s i → ∀ m, m < i + 1 → askR s m) := Lib.hid (fun h m hm => by
        by_cases e : m = i
        · rw [e]; exact h
        · exact hno.out m (by omega))
      have HAK : Hid ((at_ s.l i).k ≠ 4 → askR s i) := Lib.hid (fun h h4 => absurd h4 h)
      have HAL : Hid ((at_ s.l i).k = 4 → (askR s i ↔ askTo s i n = true)) := Lib.hid (fun h => by rw [← HN.out]; exact askTo_all h)
      obtain ⟨K, hK⟩ := name_of (at_ s.l i).k
      rw [hK] at d3 HAK HAL
      clear c3 hK hno
      by_cases hk : K = 4
      rotate_left
      · have f1 : (K == 4) = false := by simpa using hk
        have HS := Lib.hid (HSN.out (HAK.out hk))
        clear hk
        go_wp2_with fail
        exact ⟨⟨i + 1, by omega, by go_num, HS, hB, hg2⟩, by simp [intOf]; omega⟩
      have f1 : (K == 4) = true := by simpa using hk
      have HAI := HAL.out hk
      have HAI := Lib.hid HAI
      clear hk
      go_wp2_with fail
      go_loopw [4, 5] (fun y x wr => ∃ k : Nat, k ≤ n ∧ x = .int .i64 k ∧ y = .bool (askTo s i k) ∧ Below w.heap.size w wr ∧ Hid (wr.heap[w.heap.size]? = some (.cells #[.slice (some ⟨g, off, none⟩) nr cr, .slice A n c, .slice Aw nw cw] 26 (0, 0)))) (fun _ x _ => n - (intOf x).toNat)
      case atStart => exact ⟨0, Nat.zero_le _, rfl, rfl, hB, hg2⟩
      case round =>
        clear hB hg2 q0 d3
        obtain ⟨k, hk, rfl, rfl, hB, hg2⟩ := hrel
        have q1 : wr.cell? ⟨w.heap.size, 1, none⟩ = some (.slice A n c) := (cell_of_row _ _ _ _ _ _ hg2.out).trans rfl
        by_cases hkl : k < n
        · obtain ⟨gs, offs, rfl, hgs, -, -, -, e3, -⟩ := HA.out k (by rw [HN.out]; exact hkl)
          have b3 := (hB.cell (p := ⟨gs, _, none⟩) hgs).trans e3
          have hIN := fun W hW => HIN.out W i k hW hlt
          have hOF := fun W hW => HOF.out W i hW hlt
          have HTO := Lib.hid (askTo_succ s i k)
          obtain ⟨B, hBB⟩ := name_of (decide (rowIn s i k))
          obtain ⟨xa, hxa⟩ := name_of (sA s.sc k).a
          obtain ⟨T, hT⟩ := name_of (askTo s i k)
          rw [hBB] at hIN HTO
          rw [hxa] at b3 HTO
          rw [hT] at HTO ⊢
          have hgw := Nat.lt_of_lt_of_le hgs hB.size
          have hbw : w.heap.size < wr.heap.size := lt_of_block hg2.out
          have hSK : SkS wr w.heap.size (.slice (some ⟨g, off, none⟩) nr cr) (.slice (some ⟨gs, offs, none⟩) n c) (.slice Aw nw cw) gs (offs + k * 6 + 3) xa wr := ⟨Below.refl _ _, (cell_of_row _ _ _ _ _ _ hg2.out).trans rfl, q1, (cell_of_row _ _ _ _ _ _ hg2.out).trans rfl, b3⟩
          clear e3 hBB hxa hT
          cases T with
          | true =>
            go_wp2_with fail
            refine wp_region_held_drew (S := (fun W => SkS wr w.heap.size (.slice (some ⟨g, off, none⟩) nr cr) (.slice (some ⟨gs, offs, none⟩) n c) (.slice Aw nw cw) gs (offs + k * 6 + 3) xa W)) (by kernel_rfl) (SkS.next hSK below_drewU hbw hgw) (fun hH => ?_)
            refine Rg.take (i := 0) (d := 30) (v := .bool true) rfl rfl (by kernel_rfl) (by kernel_rfl) (by kernel_rfl) (fun _ _ _ h => h) (by kernel_rfl) (fun W hSW => ?_) hH ?_
            · clear hSW
              go_simp
            simp only [List.setIfInBounds_toArray, List.set_cons_zero, List.set_cons_succ]
            refine Rg.take (i := 1) (d := 31) (v := .bool true) rfl rfl (by kernel_rfl) (by kernel_rfl) (by kernel_rfl) (fun _ _ _ h => h) (by kernel_rfl) (fun W hSW => ?_) hH ?_
            · clear hSW
              go_simp
            simp only [List.setIfInBounds_toArray, List.set_cons_zero, List.set_cons_succ]
            refine Rg.skips_of (fuel' := 2) [2, 3, 4, 5, 6, 7, 8, 9, 10, 11, 12, 13, 14, 15] [32, 33, 34, 35, 36, 37, 38, 39, 40, 41, 42, 43, 44, 45] (by kernel_rfl) (fun _ _ _ _ _ h => h) hH rfl (by kernel_rfl) ?_
            simp only [Rg.puts, List.setIfInBounds_toArray, List.set_cons_zero, List.set_cons_succ]
            refine Rg.take (i := 16) (d := 46) (v := .bool true) rfl rfl (by kernel_rfl) (by kernel_rfl) (by kernel_rfl) (fun _ _ _ h => h) (by kernel_rfl) (fun W hSW => ?_) hH ?_
            · clear hSW
              go_simp
            simp only [List.setIfInBounds_toArray, List.set_cons_zero, List.set_cons_succ]
            refine Rg.take (i := 17) (d := 4) (v := .bool true) rfl rfl (by kernel_rfl) (by kernel_rfl) (by kernel_rfl) (fun _ _ _ h => h) (by kernel_rfl) (fun W hSW => ?_) hH ?_
            · clear hSW
              go_simp
            simp only [List.setIfInBounds_toArray, List.set_cons_zero, List.set_cons_succ]
            refine wpAnyH_done (by kernel_rfl) ?_ _
            have HT2 : Hid (Value.bool true = .bool (askTo s i (k + 1))) := Lib.hid (by rw [HTO.out]; rfl)
            have HB3 := Lib.hid (hH.1)
            go_wp2_with fail
            exact ⟨⟨k + 1, by omega, by go_num, HT2.out, hB.next HB3.out, Lib.hid (blk_next hg2.out HB3.out)⟩, by simp [intOf]; omega⟩
          | false =>
            cases xa with
            | false =>
              go_wp2_with fail
              refine wp_region_held_drew (S := (fun W => SkS wr w.heap.size (.slice (some ⟨g, off, none⟩) nr cr) (.slice (some ⟨gs, offs, none⟩) n c) (.slice Aw nw cw) gs (offs + k * 6 + 3) false W)) (by kernel_rfl) (SkS.next hSK below_drewU hbw hgw) (fun hH => ?_)
              refine Rg.take (i := 0) (d := 30) (v := .bool false) rfl rfl (by kernel_rfl) (by kernel_rfl) (by kernel_rfl) (fun _ _ _ h => h) (by kernel_rfl) (fun W hSW => ?_) hH ?_
              · clear hSW
                go_simp
              simp only [List.setIfInBounds_toArray, List.set_cons_zero, List.set_cons_succ]
              refine Rg.take (i := 1) (d := 31) (v := .bool false) rfl rfl (by kernel_rfl) (by kernel_rfl) (by kernel_rfl) (fun _ _ _ h => h) (by kernel_rfl) (fun W hSW => ?_) hH ?_
              · clear hSW
                go_simp
              simp only [List.setIfInBounds_toArray, List.set_cons_zero, List.set_cons_succ]
              refine Rg.take (i := 2) (d := 32) (v := .pointer (some ⟨w.heap.size, 1, none⟩)) rfl rfl (by kernel_rfl) (by kernel_rfl) (by kernel_rfl) (fun _ _ _ h => h) (by kernel_rfl) (fun W hSW => ?_) hH ?_
              · clear hSW
                go_simp
              simp only [List.setIfInBounds_toArray, List.set_cons_zero, List.set_cons_succ]
              refine Rg.take (i := 3) (d := 33) (v := .slice (some ⟨gs, offs, none⟩) n c) rfl rfl (by kernel_rfl) (by kernel_rfl) (by kernel_rfl) (fun _ _ _ h => h) (by kernel_rfl) (fun W hSW => ?_) hH ?_
              · obtain ⟨-, -, r1, -⟩ := hSW
                go_simp
              simp only [List.setIfInBounds_toArray, List.set_cons_zero, List.set_cons_succ]
              refine Rg.take (i := 4) (d := 34) (v := .int .i64 k) rfl rfl (by kernel_rfl) (by kernel_rfl) (by kernel_rfl) (fun _ _ _ h => h) (by kernel_rfl) (fun W hSW => ?_) hH ?_
              · clear hSW
                go_simp
              simp only [List.setIfInBounds_toArray, List.set_cons_zero, List.set_cons_succ]
              refine Rg.take (i := 5) (d := 35) (v := .pointer (some ⟨gs, offs + k * 6, none⟩)) rfl rfl (by kernel_rfl) (by kernel_rfl) (by kernel_rfl) (fun _ _ _ h => h) (by kernel_rfl) (fun W hSW => ?_) hH ?_
              · clear hSW
                go_simp
              simp only [List.setIfInBounds_toArray, List.set_cons_zero, List.set_cons_succ]
              refine Rg.take (i := 6) (d := 36) (v := .pointer (some ⟨gs, offs + k * 6 + 3, none⟩)) rfl rfl (by kernel_rfl) (by kernel_rfl) (by kernel_rfl) (fun _ _ _ h => h) (by kernel_rfl) (fun W hSW => ?_) hH ?_
              · clear hSW
                go_simp
              simp only [List.setIfInBounds_toArray, List.set_cons_zero, List.set_cons_succ]
              refine Rg.take (i := 7) (d := 37) (v := .bool false) rfl rfl (by kernel_rfl) (by kernel_rfl) (by kernel_rfl) (fun _ _ _ h => h) (by kernel_rfl) (fun W hSW => ?_) hH ?_
              · obtain ⟨-, -, -, -, r4⟩ := hSW
                go_simp
              simp only [List.setIfInBounds_toArray, List.set_cons_zero, List.set_cons_succ]
              refine Rg.take (i := 8) (d := 38) (v := .bool false) rfl rfl (by kernel_rfl) (by kernel_rfl) (by kernel_rfl) (fun _ _ _ h => h) (by kernel_rfl) (fun W hSW => ?_) hH ?_
              · clear hSW
                go_simp
              simp only [List.setIfInBounds_toArray, List.set_cons_zero, List.set_cons_succ]
              refine Rg.skips_of (fuel' := 3) [9, 10, 11, 12, 13, 14] [39, 40, 41, 42, 43, 44] (by kernel_rfl) (fun _ _ _ _ _ h => h) hH rfl (by kernel_rfl) ?_
              simp only [Rg.puts, List.setIfInBounds_toArray, List.set_cons_zero, List.set_cons_succ]
              refine Rg.take (i := 15) (d := 45) (v := .bool false) rfl rfl (by kernel_rfl) (by kernel_rfl) (by kernel_rfl) (fun _ _ _ h => h) (by kernel_rfl) (fun W hSW => ?_) hH ?_
              · clear hSW
                go_simp
              simp only [List.setIfInBounds_toArray, List.set_cons_zero, List.set_cons_succ]
              refine Rg.take (i := 16) (d := 46) (v := .bool false) rfl rfl (by kernel_rfl) (by kernel_rfl) (by kernel_rfl) (fun _ _ _ h => h) (by kernel_rfl) (fun W hSW => ?_) hH ?_
              · clear hSW
                go_simp
              simp only [List.setIfInBounds_toArray, List.set_cons_zero, List.set_cons_succ]
              refine Rg.take (i := 17) (d := 4) (v := .bool false) rfl rfl (by kernel_rfl) (by kernel_rfl) (by kernel_rfl) (fun _ _ _ h => h) (by kernel_rfl) (fun W hSW => ?_) hH ?_
              · clear hSW
                go_simp
              simp only [List.setIfInBounds_toArray, List.set_cons_zero, List.set_cons_succ]
              refine wpAnyH_done (by kernel_rfl) ?_ _
              have HT2 : Hid (Value.bool false = .bool (askTo s i (k + 1))) := Lib.hid (by rw [HTO.out]; rfl)
              have HB3 := Lib.hid (hH.1)
              go_wp2_with fail
              exact ⟨⟨k + 1, by omega, by go_num, HT2.out, hB.next HB3.out, Lib.hid (blk_next hg2.out HB3.out)⟩, by simp [intOf]; omega⟩
            | true =>
              go_wp2_with fail
              refine wp_region_held_drew (S := (fun W => SkS wr w.heap.size (.slice (some ⟨g, off, none⟩) nr cr) (.slice (some ⟨gs, offs, none⟩) n c) (.slice Aw nw cw) gs (offs + k * 6 + 3) true W)) (by kernel_rfl) (SkS.next hSK below_drewU hbw hgw) (fun hH => ?_)
              refine Rg.take (i := 0) (d := 30) (v := .bool false) rfl rfl (by kernel_rfl) (by kernel_rfl) (by kernel_rfl) (fun _ _ _ h => h) (by kernel_rfl) (fun W hSW => ?_) hH ?_
              · clear hSW
                go_simp
              simp only [List.setIfInBounds_toArray, List.set_cons_zero, List.set_cons_succ]
              refine Rg.take (i := 1) (d := 31) (v := .bool false) rfl rfl (by kernel_rfl) (by kernel_rfl) (by kernel_rfl) (fun _ _ _ h => h) (by kernel_rfl) (fun W hSW => ?_) hH ?_
              · clear hSW
                go_simp
              simp only [List.setIfInBounds_toArray, List.set_cons_zero, List.set_cons_succ]
              refine Rg.take (i := 2) (d := 32) (v := .pointer (some ⟨w.heap.size, 1, none⟩)) rfl rfl (by kernel_rfl) (by kernel_rfl) (by kernel_rfl) (fun _ _ _ h => h) (by kernel_rfl) (fun W hSW => ?_) hH ?_
              · clear hSW
                go_simp
              simp only [List.setIfInBounds_toArray, List.set_cons_zero, List.set_cons_succ]
              refine Rg.take (i := 3) (d := 33) (v := .slice (some ⟨gs, offs, none⟩) n c) rfl rfl (by kernel_rfl) (by kernel_rfl) (by kernel_rfl) (fun _ _ _ h => h) (by kernel_rfl) (fun W hSW => ?_) hH ?_
              · obtain ⟨-, -, r1, -⟩ := hSW
                go_simp
              simp only [List.setIfInBounds_toArray, List.set_cons_zero, List.set_cons_succ]
              refine Rg.take (i := 4) (d := 34) (v := .int .i64 k) rfl rfl (by kernel_rfl) (by kernel_rfl) (by kernel_rfl) (fun _ _ _ h => h) (by kernel_rfl) (fun W hSW => ?_) hH ?_
              · clear hSW
                go_simp
              simp only [List.setIfInBounds_toArray, List.set_cons_zero, List.set_cons_succ]
              refine Rg.take (i := 5) (d := 35) (v := .pointer (some ⟨gs, offs + k * 6, none⟩)) rfl rfl (by kernel_rfl) (by kernel_rfl) (by kernel_rfl) (fun _ _ _ h => h) (by kernel_rfl) (fun W hSW => ?_) hH ?_
              · clear hSW
                go_simp
              simp only [List.setIfInBounds_toArray, List.set_cons_zero, List.set_cons_succ]
              refine Rg.take (i := 6) (d := 36) (v := .pointer (some ⟨gs, offs + k * 6 + 3, none⟩)) rfl rfl (by kernel_rfl) (by kernel_rfl) (by kernel_rfl) (fun _ _ _ h => h) (by kernel_rfl) (fun W hSW => ?_) hH ?_
              · clear hSW
                go_simp
              simp only [List.setIfInBounds_toArray, List.set_cons_zero, List.set_cons_succ]
              refine Rg.take (i := 7) (d := 37) (v := .bool true) rfl rfl (by kernel_rfl) (by kernel_rfl) (by kernel_rfl) (fun _ _ _ h => h) (by kernel_rfl) (fun W hSW => ?_) hH ?_
              · obtain ⟨-, -, -, -, r4⟩ := hSW
                go_simp
              simp only [List.setIfInBounds_toArray, List.set_cons_zero, List.set_cons_succ]
              refine Rg.take (i := 8) (d := 38) (v := .bool true) rfl rfl (by kernel_rfl) (by kernel_rfl) (by kernel_rfl) (fun _ _ _ h => h) (by kernel_rfl) (fun W hSW => ?_) hH ?_
              · clear hSW
                go_simp
              simp only [List.setIfInBounds_toArray, List.set_cons_zero, List.set_cons_succ]
              refine Rg.take (i := 9) (d := 39) (v := .agg #[.slice (some ⟨g, off, none⟩) nr cr, .slice (some ⟨gs, offs, none⟩) n c, .slice Aw nw cw]) rfl rfl (by kernel_rfl) (by kernel_rfl) (by kernel_rfl) (fun _ _ _ h => h) (by kernel_rfl) (fun W hSW => ?_) hH ?_
              · obtain ⟨-, r0, r1, r2, -⟩ := hSW
                go_simp
              simp only [List.setIfInBounds_toArray, List.set_cons_zero, List.set_cons_succ]
              refine Rg.take (i := 10) (d := 40) (v := .agg #[.slice (some ⟨g, off, none⟩) nr cr, .slice (some ⟨gs, offs, none⟩) n c, .slice Aw nw cw]) rfl rfl (by kernel_rfl) (by kernel_rfl) (by kernel_rfl) (fun _ _ _ h => h) (by kernel_rfl) (fun W hSW => ?_) hH ?_
              · obtain ⟨-, r0, r1, r2, -⟩ := hSW
                go_simp
              simp only [List.setIfInBounds_toArray, List.set_cons_zero, List.set_cons_succ]
              refine Rg.take (i := 11) (d := 41) (v := .int .i64 i) rfl rfl (by kernel_rfl) (by kernel_rfl) (by kernel_rfl) (fun _ _ _ h => h) (by kernel_rfl) (fun W hSW => ?_) hH ?_
              · clear hSW
                go_simp
              simp only [List.setIfInBounds_toArray, List.set_cons_zero, List.set_cons_succ]
              refine Rg.take (i := 13) (d := 43) (v := .int .i64 k) rfl rfl (by kernel_rfl) (by kernel_rfl) (by kernel_rfl) (fun _ _ _ h => h) (by kernel_rfl) (fun W hSW => ?_) hH ?_
              · clear hSW
                go_simp
              simp only [List.setIfInBounds_toArray, List.set_cons_zero, List.set_cons_succ]
              refine wpAnyH_ready (rs := [12]) (by kernel_rfl) (by simp) (AllReadyH.cons rfl (fun K hK => ?_) AllReadyH.nil)
              go_simp
              refine (hOF _ (hB.next hH.1)).mono ?_
              rintro e w4 ⟨rfl, hb4⟩
              obtain ⟨q, hq, -⟩ := hIN _ (hB.next hH.1)
              rw [hq]
              have hqn : inI (some q) = (q : Int) := rfl
              rw [hqn]
              go_simp
              refine hK.out _ _ (SkS.next hH hb4 hbw hgw) (fun hH => ?_)
              clear hK K
              obtain ⟨q2, hq2, hcI⟩ := hIN _ (hB.next hH.1)
              rw [hq] at hq2
              obtain rfl := Option.some.inj hq2
              have hH4 := hH
              refine wpAnyH_ready (rs := [14]) (by kernel_rfl) (by simp) (AllReadyH.cons rfl (fun K hK => ?_) AllReadyH.nil)
              go_simp
              refine (hcI).mono ?_
              rintro e w5 ⟨rfl, hb5⟩
              go_simp
              refine hK.out _ _ (SkS.next hH4 hb5 hbw hgw) (fun hH => ?_)
              clear hK K
              refine Rg.take (i := 15) (d := 45) (v := .bool B) rfl rfl (by kernel_rfl) (by kernel_rfl) (by kernel_rfl) (fun _ _ _ h => h) (by kernel_rfl) (fun W hSW => ?_) hH ?_
              · clear hSW
                go_simp
              simp only [List.setIfInBounds_toArray, List.set_cons_zero, List.set_cons_succ]
              refine Rg.take (i := 16) (d := 46) (v := .bool B) rfl rfl (by kernel_rfl) (by kernel_rfl) (by kernel_rfl) (fun _ _ _ h => h) (by kernel_rfl) (fun W hSW => ?_) hH ?_
              · clear hSW
                go_simp
              simp only [List.setIfInBounds_toArray, List.set_cons_zero, List.set_cons_succ]
              refine Rg.take (i := 17) (d := 4) (v := .bool B) rfl rfl (by kernel_rfl) (by kernel_rfl) (by kernel_rfl) (fun _ _ _ h => h) (by kernel_rfl) (fun W hSW => ?_) hH ?_
              · clear hSW
                go_simp
              simp only [List.setIfInBounds_toArray, List.set_cons_zero, List.set_cons_succ]
              refine wpAnyH_done (by kernel_rfl) ?_ _
              have HT2 : Hid (Value.bool B = .bool (askTo s i (k + 1))) := Lib.hid (by rw [HTO.out]; cases B <;> rfl)
              have HB3 := Lib.hid (hH.1)
              go_wp2_with fail
              exact ⟨⟨k + 1, by omega, by go_num, HT2.out, hB.next HB3.out, Lib.hid (blk_next hg2.out HB3.out)⟩, by simp [intOf]; omega⟩
        · obtain rfl : k = n := by omega
          obtain ⟨T, hT⟩ := name_of (askTo s i k)
          rw [hT] at HAI ⊢
          clear hT
          cases T with
          | true =>
            have HS := Lib.hid (HSN.out (HAI.out.2 rfl))
            go_wp2_with fail
            exact ⟨⟨i + 1, by omega, by go_num, HS, hB, hg2⟩, by simp [intOf]; omega⟩
          | false =>
            have HV : Hid (false = R) := Lib.hid (by rw [← HR.out]; exact (decide_eq_false (fun h => by have := HAI.out.1 (h.2 i (by rw [HNR.out]; exact hlt)); cases this)).symm)
            go_wp2_with fail
            go_ret
            exact ⟨ret_bool HV.out, hB⟩
    · obtain rfl : i = nr := by omega
      have HV : Hid (true = R) := Lib.hid (by rw [← HR.out]; exact (decide_eq_true (show alOk s from ⟨HE.out, by rw [HNR.out]; exact hno.out⟩)).symm)
      clear hno
      go_wp2_with fail
      go_ret
      exact ⟨ret_bool HV.out, hB⟩
end P20
end Go.Proofs.YtajbchecjbddgaaDoor
