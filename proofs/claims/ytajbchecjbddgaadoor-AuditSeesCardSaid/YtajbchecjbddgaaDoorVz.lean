/- Audit: the law AuditSees. -/
import Derived.Test.YtajbchecjbddgaaDoorH7
import Derived.Test.YtajbchecjbddgaaDoorVm
import Derived.Test.YtajbchecjbddgaaDoorVp
namespace Go.Proofs.YtajbchecjbddgaaDoor
open Go.RowKit
namespace P20
open P7

/-- Where an Audit stands behind i shots, the last of them prev. -/
structure SeeI (w : World) (g i : Nat) (E : Int) (prev : Sh) (W : World) : Prop where
  blk : ∃ A m c B k d C j e, W.heap[g]? = some (.cells (auC (.slice A m c) (.slice B k d) (.slice C j e) i E) 83 (0, 0)) ∧ (E = 0 → 0 < i → ∃ base, OwnS base W (.slice A m c) (.slice B k d) (.slice C j e) prev ∧ FewS prev)
  zero : i = 0 → E = 0
  gr : Below w.heap.size w W
theorem SeeI.next {w W W' : World} {g i : Nat} {E : Int} {prev : Sh} (h : SeeI w g i E prev W) (hb : Below W.heap.size W W') : SeeI w g i E prev W' := by
  obtain ⟨A, m, c, B, k, d, C, j, e, h1, h2⟩ := h.blk
  exact ⟨⟨A, m, c, B, k, d, C, j, e, blk_next h1 hb, fun h3 h4 => by
    obtain ⟨base, h5, h6⟩ := h2 h3 h4
    exact ⟨base, h5.next hb, h6⟩⟩, h.zero, h.gr.next hb⟩
/-- What See tells. -/
def seeV (i : Nat) (E : Int) (prev s : Sh) : Int := if E ≠ 0 then E else if i = 0 then chkS s else nxt prev s
/-- What See leaves, at any shot. -/
structure SeeQ (W : World) (g i : Nat) (F : Int) (s : Sh) (w' : World) : Prop where
  blk : ∃ A m c B k d C j e, w'.heap[g]? = some (.cells (auC (.slice A m c) (.slice B k d) (.slice C j e) (i + 1 : Nat) F) 83 (0, 0)) ∧ (F = 0 → OwnS W.heap.size w' (.slice A m c) (.slice B k d) (.slice C j e) s)
  old : ∀ k, k ≠ g → k < W.heap.size → w'.heap[k]? = W.heap[k]?
  low : Below g W w'
theorem SeeQ.of {W w' : World} {g i : Nat} {F : Int} {keep : Bool} {lr ls lw : Value} {s : Sh} (h : SeeP W g i F keep lr ls lw s w') (hk : F = 0 → keep = false) : SeeQ W g i F s w' := by
  obtain ⟨ur, us, uw, h1, ⟨A, m, c, B, k, d, C, j, e, rfl, rfl, rfl⟩, h3⟩ := h.blk
  exact ⟨⟨A, m, c, B, k, d, C, j, e, by rw [h1]; simp, fun h4 => h3 (hk h4)⟩, h.old, h.low⟩
theorem seeAll_any {w W : World} {g i base : Nat} {E : Int} {prev s : Sh} {vr vs vw : Value} (h : SeeI w g i E prev W) (hi : i ≤ 12) (hA : OwnS base W vr vs vw s) (hf : FewS s) :
    Calls Tryd.prog 22 #[.pointer (some ⟨g, 0, none⟩), .agg #[vr, vs, vw]] W fun e w' => e = .returned (.int .i64 (seeV i E prev s)) ∧ SeeQ W g i (seeV i E prev s) s w' := by
  obtain ⟨A, m, c, B, k, d, C, j, e, h1, h2⟩ := h.blk
  by_cases hE : E = 0
  · subst hE
    by_cases h0 : i = 0
    · subst h0
      have e1 : seeV 0 0 prev s = chkS s := by simp [seeV]
      rw [e1]
      exact (seeFirst_any h1 hA hf).mono fun e w' ⟨a, b⟩ => ⟨a, SeeQ.of b fun _ => rfl⟩
    · have e1 : seeV i 0 prev s = nxt prev s := by simp [seeV, h0]
      rw [e1]
      obtain ⟨base2, h3, h4⟩ := h2 rfl (by omega)
      exact (seeNext_any (by omega) (by omega) h1 hA hf h3 h4).mono fun e w' ⟨a, b⟩ => ⟨a, SeeQ.of b fun _ => rfl⟩
  · have e1 : seeV i E prev s = E := by simp [seeV, hE]
    rw [e1]
    exact (seeBad_any (s := s) h1 hE (by omega) (by omega)).mono fun e w' ⟨a, b⟩ => ⟨a, SeeQ.of b fun h => absurd h hE⟩
/-- Behind spoil the Audit stands as See left it. -/
theorem SeeI.spoilt {w W w2 w3 : World} {g i base : Nat} {F : Int} {s : Sh} (h : SeeQ W g i F s w2) (hs : Spl base W.heap.size w2 w3) (hf : FewS s) (hgw : w.heap.size ≤ g) (hgb : g < base) (hw : Below w.heap.size w W) : SeeI w g (i + 1) F s w3 := by
  obtain ⟨A, m, c, B, k, d, C, j, e, h1, h2⟩ := h.blk
  have hbw : w.heap.size ≤ base := by omega
  exact ⟨⟨A, m, c, B, k, d, C, j, e, (hs.out g (lt_of_block h1) (.inl hgb)).trans h1, fun h3 _ => ⟨_, (h2 h3).same fun k hk hk2 => hs.out k hk2 (.inr hk), hf⟩⟩, fun h => by omega, (hw.trans (Below.mono h.low hgw)).trans (Below.mono hs.low hbw)⟩
/-- Six cells of a list of shots. -/
def LwS (W0 : World) (b o p : Nat) (a0 a1 a2 r0 r1 r2 : Value) (W : World) : Prop :=
  Below W0.heap.size W0 W ∧ W.cell? ⟨b, o, none⟩ = some a0 ∧ W.cell? ⟨b, o + 1, none⟩ = some a1 ∧ W.cell? ⟨b, o + 2, none⟩ = some a2 ∧ W.cell? ⟨b, p, none⟩ = some r0 ∧ W.cell? ⟨b, p + 1, none⟩ = some r1 ∧ W.cell? ⟨b, p + 2, none⟩ = some r2
theorem LwS.next {W0 W W' : World} {b o p : Nat} {a0 a1 a2 r0 r1 r2 : Value} (h : LwS W0 b o p a0 a1 a2 r0 r1 r2 W) (hb : Below W.heap.size W W') (hlt : b < W0.heap.size) : LwS W0 b o p a0 a1 a2 r0 r1 r2 W' := by
  obtain ⟨h0, c0, c1, c2, c3, c4, c5⟩ := h
  have k := fun j => hb.cell (p := ⟨b, j, none⟩) (Nat.lt_of_lt_of_le hlt h0.size)
  exact ⟨h0.next hb, (k _).trans c0, (k _).trans c1, (k _).trans c2, (k _).trans c3, (k _).trans c4, (k _).trans c5⟩
def shD : Sh × Value × Value × Value := (⟨[], [], []⟩, .slice none 0 0, .slice none 0 0, .slice none 0 0)
def shA (l : List (Sh × Value × Value × Value)) (i : Nat) : Sh := (l.getD i shD).1
/-- A list of shots in memory, opened. -/
theorem shots_open {w : World} {v : Value} {l : List (Sh × Value × Value × Value)} (hl : Sl w w.heap.size 3 v (l.flatMap shC)) (hS : ∀ x ∈ l, Shm w x.2.1 x.2.2.1 x.2.2.2 x.1) :
    ∃ A c, v = .slice A l.length c ∧ l.length ≤ c ∧ ∀ i, i < l.length → ∃ b off Ar nr cr As ns cs Aw nw cw, A = some ⟨b, off, none⟩ ∧ b < w.heap.size ∧ w.cell? ⟨b, off + i * 3, none⟩ = some (.slice Ar nr cr) ∧ w.cell? ⟨b, off + i * 3 + 1, none⟩ = some (.slice As ns cs) ∧ w.cell? ⟨b, off + i * 3 + 2, none⟩ = some (.slice Aw nw cw) ∧
      Shm w (.slice Ar nr cr) (.slice As ns cs) (.slice Aw nw cw) (shA l i) := by
  obtain ⟨A, n, c, rfl, hnc, hn, hA⟩ := hl
  have hlen : (l.flatMap shC).length = l.length * 3 := flat_length shC 3 (fun _ => rfl) l
  have hnl : n = l.length := by omega
  subst hnl
  refine ⟨A, c, rfl, hnc, fun i hi => ?_⟩
  obtain ⟨b, off, rfl, hb, hr⟩ := hA (by omega)
  have hm := hS _ (List.getElem_mem hi)
  obtain ⟨x, hx⟩ := name_of l[i]
  rw [hx] at hm
  have hsh : shA l i = x.1 := by unfold shA; rw [List.getD_eq_getElem?_getD, List.getElem?_eq_getElem hi, hx]; rfl
  obtain ⟨Ar, cr, e1, -, -⟩ := rows_open hm.rows.sl
  obtain ⟨As, cs, e2, -, -⟩ := scs_open hm.scs
  obtain ⟨Aw, cw, e3, -, -⟩ := hm.wks.open_
  have hg : ∀ j, j < 3 → (l.flatMap shC)[i * 3 + j]? = (shC x)[j]? := fun j hj => by
    rw [flat_get shC 3 (fun _ => rfl) l i j hj, List.getElem?_eq_getElem hi, hx]; rfl
  have hc : ∀ j u, j < 3 → (shC x)[j]? = some u → w.cell? ⟨b, off + i * 3 + j, none⟩ = some u := fun j u hj hu => by
    rw [Nat.add_assoc]; exact hr (i * 3 + j) u ((hg j hj).trans hu)
  rw [hsh]
  refine ⟨b, off, Ar, _, cr, As, _, cs, Aw, _, cw, rfl, hb, hc 0 _ (by omega) (congrArg some e1), hc 1 _ (by omega) (congrArg some e2), hc 2 _ (by omega) (congrArg some e3), ?_⟩
  rw [← e1, ← e2, ← e3]
  exact hm
set_option maxRecDepth 100000 in
set_option maxHeartbeats 16000000 in
theorem auditSees_any (hAw : AwP) {w : World} {v : Value} {l : List (Sh × Value × Value × Value)} (hl : Sl w w.heap.size 3 v (l.flatMap shC)) (hS : ∀ x ∈ l, Shm w x.2.1 x.2.2.1 x.2.2.2 x.1) :
    Calls Tryd.prog 7 #[v] w fun e w' => e = .returned (.bool true) ∧ Below w.heap.size w w' := by
  obtain ⟨A, c, rfl, hnc, hA⟩ := shots_open hl hS
  obtain ⟨n, hn⟩ := name_of l.length
  rw [hn] at hnc hA ⊢
  have HA := Lib.hid hA
  clear hl hS hA hn
  by_cases h12 : 12 < n
  · have z0 : decide (12 < (n : Int)) = true := decide_eq_true (by omega)
    have z0' : decide (12 < n) = true := decide_eq_true h12
    clear h12
    go_enter Tryd.func7, Tryd.ntmps7
    go_wp2_with fail
    refine new_any.mono ?_
    rintro e w1 ⟨rfl, h1⟩
    have hb1 : Below w.heap.size w w1 := by rw [h1]; exact (Below.refl _ _).alloc (Nat.le_refl _) _
    have HB1 := Lib.hid hb1
    clear h1 hb1
    go_wp2_with fail
    refine (hAw _).mono ?_
    rintro e w3 ⟨rfl, hb3⟩
    have HB3 := Lib.hid (HB1.out.next hb3)
    clear hb3
    go_wp2_with fail
    go_ret
    exact ⟨rfl, HB3.out⟩
  · have z0 : decide (12 < (n : Int)) = false := decide_eq_false (by omega)
    have z0' : decide (12 < n) = false := decide_eq_false h12
    have hn12 : n ≤ 12 := by omega
    clear h12
    go_enter Tryd.func7, Tryd.ntmps7
    go_wp2_with fail
    refine new_any.mono ?_
    rintro e w1 ⟨rfl, h1⟩
    have hb1 : Below w.heap.size w w1 := by rw [h1]; exact (Below.refl _ _).alloc (Nat.le_refl _) _
    have hg1 : w1.heap[w.heap.size]? = some (.cells (auC (.slice none 0 0) (.slice none 0 0) (.slice none 0 0) 0 0) 83 (0, 0)) := by rw [h1]; exact heap_alloc_last _ _
    have HI0 : Hid (SeeI w w.heap.size 0 0 (shA l 0) w1) := Lib.hid ⟨⟨none, 0, 0, none, 0, 0, none, 0, 0, hg1, fun _ h => absurd h (Nat.lt_irrefl 0)⟩, fun _ => rfl, hb1⟩
    clear h1 hb1 hg1
    go_wp2_with fail
    go_loopw [4, 5] (fun x y wr => ∃ (i : Nat) (E : Int), i ≤ n ∧ x = .int .i64 E ∧ y = .int .i64 i ∧ Hid (SeeI w w.heap.size i E (shA l (i - 1)) wr)) (fun _ y _ => n - (intOf y).toNat)
    case atStart => exact ⟨0, 0, Nat.zero_le _, rfl, rfl, HI0⟩
    case round =>
      clear HI0
      obtain ⟨i, E, hin, rfl, rfl, HI⟩ := hrel
      by_cases hlt : i < n
      · obtain ⟨b, off, Ar, nr, cr, As, ns, cs, Aw, nw, cw, rfl, hb, c0, c1, c2, hSh⟩ := HA.out i hlt
        have hBr := HI.out.gr
        have k := fun j => hBr.cell (p := ⟨b, j, none⟩) hb
        have x0 := (k _).trans c0
        have x1 := (k _).trans c1
        have x2 := (k _).trans c2
        have hF := few20_any (hSh.next hBr)
        have HSH := Lib.hid hSh
        have HBB := Lib.hid (Nat.lt_of_lt_of_le hb hBr.size)
        have HCC := Lib.hid (And.intro c0 (And.intro c1 c2))
        have HBR := Lib.hid hBr
        clear hb c0 c1 c2 hSh hBr k
        go_wp2_with fail
        refine hF.mono ?_
        clear hF
        rintro e w2 ⟨⟨z, rfl, hz⟩, hb2⟩
        have HFW := Lib.hid hz
        have HI2 := Lib.hid (HI.out.next hb2)
        have HBB2 := Lib.hid (Nat.lt_of_lt_of_le HBB.out hb2.size)
        have x0 := (hb2.cell (p := ⟨b, _, none⟩) HBB.out).trans x0
        have x1 := (hb2.cell (p := ⟨b, _, none⟩) HBB.out).trans x1
        have x2 := (hb2.cell (p := ⟨b, _, none⟩) HBB.out).trans x2
        clear hz hb2 HI HBB HBR
        cases z with
        | false =>
          clear x0 x1 x2
          go_wp2_with fail
          refine (hAw _).mono ?_
          rintro e w3 ⟨rfl, hb3⟩
          have HB3 := Lib.hid (HI2.out.gr.next hb3)
          clear hb3
          go_wp2_with fail
          go_ret
          exact ⟨rfl, HB3.out⟩
        | true =>
        have HF := Lib.hid (HFW.out rfl)
        obtain ⟨F, hF⟩ := name_of (seeV i E (shA l (i - 1)) (shA l i))
        have HFE := Lib.hid hF
        clear hF HFW
        by_cases hE : E = 0
        · subst hE
          by_cases hi0 : i = 0
          · have fi : ((i : Int) == 0) = true := by rw [beq_iff_eq]; omega
            have HV : Hid (chkS (shA l i) = F) := Lib.hid (by rw [← HFE.out]; simp [seeV, hi0])
            have y0 : w2.cell? ⟨b, off, none⟩ = some (.slice Ar nr cr) := by have := x0; rwa [hi0, Nat.zero_mul, Nat.add_zero] at this
            have y1 : w2.cell? ⟨b, off + 1, none⟩ = some (.slice As ns cs) := by have := x1; rwa [hi0, Nat.zero_mul, Nat.add_zero] at this
            have y2 : w2.cell? ⟨b, off + 2, none⟩ = some (.slice Aw nw cw) := by have := x2; rwa [hi0, Nat.zero_mul, Nat.add_zero] at this
            have hn0 : 0 < n := by omega
            clear hi0
            go_wp2_with fail
            refine shot_any.mono ?_
            rintro e w3 ⟨rfl, hb3⟩
            have HI3 := Lib.hid (HI2.out.next hb3)
            have HBB3 := Lib.hid (Nat.lt_of_lt_of_le HBB2.out hb3.size)
            have x0 := (hb3.cell (p := ⟨b, _, none⟩) HBB2.out).trans x0
            have x1 := (hb3.cell (p := ⟨b, _, none⟩) HBB2.out).trans x1
            have x2 := (hb3.cell (p := ⟨b, _, none⟩) HBB2.out).trans x2
            have hCk := checkS_any (HSH.out.next HI3.out.gr) HF.out
            rw [HV.out] at hCk
            clear y0 y1 y2 hb3 HI2 HBB2
            go_wp2_with fail
            refine hCk.mono ?_
            clear hCk
            rintro e w4 ⟨rfl, hb4⟩
            have HI4 := Lib.hid (HI3.out.next hb4)
            have HBB4 := Lib.hid (Nat.lt_of_lt_of_le HBB3.out hb4.size)
            have x0 := (hb4.cell (p := ⟨b, _, none⟩) HBB3.out).trans x0
            have x1 := (hb4.cell (p := ⟨b, _, none⟩) HBB3.out).trans x1
            have x2 := (hb4.cell (p := ⟨b, _, none⟩) HBB3.out).trans x2
            clear hb4 HI3 HBB3 fi
            have hCp := copied_any (HSH.out.next HI4.out.gr) HF.out
            go_wp2_with fail
            refine hCp.mono ?_
            clear hCp
            rintro e w5 ⟨⟨ur, us, uw, rfl, hO⟩, hb5⟩
            obtain ⟨Xr, nxr, kxr, rfl⟩ := PC.own_slice hO.rows
            obtain ⟨Xs, nxs, kxs, rfl⟩ := PC.own_slice hO.scs
            obtain ⟨Xw, nxw, kxw, rfl⟩ := hO.wks_slice
            have hbA := (Below.refl w5.heap.size w5).alloc (Nat.le_refl _) (.cells #[.slice Xr nxr kxr, .slice Xs nxs kxs, .slice Xw nxw kxw] 31)
            have hgA := heap_alloc_last w5 (.cells #[.slice Xr nxr kxr, .slice Xs nxs kxs, .slice Xw nxw kxw] 31)
            have hlA : w5.heap.size < (w5.alloc (.cells #[.slice Xr nxr kxr, .slice Xs nxs kxs, .slice Xw nxw kxw] 31)).heap.size := by simp
            obtain ⟨w6, hw6⟩ := name_of (w5.alloc (.cells #[.slice Xr nxr kxr, .slice Xs nxs kxs, .slice Xw nxw kxw] 31))
            rw [hw6] at hbA hgA hlA
            have HI6 := Lib.hid ((HI4.out.next hb5).next hbA)
            have HO6 := Lib.hid (hO.next hbA)
            have hSee := seeAll_any HI6.out (by omega) HO6.out HF.out
            rw [HFE.out] at hSee
            have HGB : Hid (w.heap.size < w4.heap.size ∧ w4.heap.size ≤ w5.heap.size) := Lib.hid ⟨by
              obtain ⟨_, _, _, _, _, _, _, _, _, h1, _⟩ := HI4.out.blk
              exact lt_of_block h1, hb5.size⟩
            have q0 : w6.cell? ⟨w5.heap.size, 0, none⟩ = some (.slice Xr nxr kxr) := (cell_of_row _ _ _ _ _ _ hgA).trans rfl
            have q1 : w6.cell? ⟨w5.heap.size, 1, none⟩ = some (.slice Xs nxs kxs) := (cell_of_row _ _ _ _ _ _ hgA).trans rfl
            have q2 : w6.cell? ⟨w5.heap.size, 2, none⟩ = some (.slice Xw nxw kxw) := (cell_of_row _ _ _ _ _ _ hgA).trans rfl
            have HGA := Lib.hid hgA
            have HLA := Lib.hid hlA
            have HBW : Hid (Below w.heap.size w w6) := Lib.hid HI6.out.gr
            have fF : (F != F) = false := by simp
            clear hb5 hO hbA hgA hlA HI4 HBB4 x0 x1 x2
            go_wp2_with (refine wpList_store_new rfl 31 31 (.tmp 6) (.tmp 54) rfl _ _ w5.heap.size rfl rfl rfl (by kernel_rfl) rfl (by kernel_rfl) ?_)
            refine hSee.mono ?_
            clear hSee q0 q1 q2
            rintro e w7 ⟨rfl, hQ⟩
            have hg7 := (hQ.old w5.heap.size (by have := HGB.out; omega) HLA.out).trans HGA.out
            have q0 : w7.cell? ⟨w5.heap.size, 0, none⟩ = some (.slice Xr nxr kxr) := (cell_of_row _ _ _ _ _ _ hg7).trans rfl
            have q1 : w7.cell? ⟨w5.heap.size, 1, none⟩ = some (.slice Xs nxs kxs) := (cell_of_row _ _ _ _ _ _ hg7).trans rfl
            have q2 : w7.cell? ⟨w5.heap.size, 2, none⟩ = some (.slice Xw nxw kxw) := (cell_of_row _ _ _ _ _ _ hg7).trans rfl
            have hSp := spoil_any (w := w7) HO6.out HF.out (fun k h1 h2 => hQ.old k (by have := HGB.out; omega) h2) hQ.low.size (by have := HGB.out; have := HLA.out; omega)
            have HQ := Lib.hid hQ
            clear hQ hg7
            go_wp2_with fail
            refine hSp.mono ?_
            clear hSp q0 q1 q2
            rintro e w8 ⟨rfl, hs8⟩
            have HI8 := Lib.hid (SeeI.spoilt (w := w) HQ.out hs8 HF.out (Nat.le_refl _) HGB.out.1 HBW.out)
            clear hs8 HQ
            obtain ⟨SA, Sm, Sc_, SB, Sk, Sd, SC, Sj, Se, hgS, -⟩ := HI8.out.blk
            have hSn := seen_any hgS
            have fi1 : (((i : Int) + 1) != ((i : Int) + 1)) = false := by simp
            rw [show (((i + 1 : Nat)) : Int) = (i : Int) + 1 by omega] at hSn
            clear hgS
            go_wp2_with fail
            refine hSn.mono ?_
            clear hSn
            rintro e w9 ⟨rfl, hb9⟩
            have HI9 : Hid (SeeI w w.heap.size (i + 1) F (shA l (i + 1 - 1)) w9) := Lib.hid (by rw [Nat.add_sub_cancel]; exact HI8.out.next hb9)
            clear hb9 HI8
            go_wp2_with fail
            exact ⟨⟨i + 1, F, by omega, rfl, by go_num, HI9⟩, by simp [intOf]; omega⟩
          · have fi : ((i : Int) == 0) = false := by rw [beq_eq_false_iff_ne]; omega
            obtain ⟨j, hj⟩ : ∃ j, j + 1 = i := ⟨i - 1, by omega⟩
            have HV : Hid (nxt (shA l (i - 1)) (shA l i) = F) := Lib.hid (by rw [← HFE.out]; simp [seeV, hi0])
            have hji : i - 1 = j := by omega
            rw [hji] at HV
            obtain ⟨base2, -, HFP⟩ : ∃ base2 : Nat, True ∧ FewS (shA l j) := by
              obtain ⟨_, _, _, _, _, _, _, _, _, _, h2⟩ := HI2.out.blk
              obtain ⟨base2, _, h3⟩ := h2 rfl (by omega)
              rw [hji] at h3
              exact ⟨base2, trivial, h3⟩
            have HFP := Lib.hid HFP
            have hw : IntKind.i64.wrap ((i : Int) - 1) = (j : Int) := (IntWalk.i64_in _ (by omega)).trans (by omega)
            have hjn : j < n := by omega
            obtain ⟨b', off', Pr, mr, dr, Ps, ms, ds, Pw, mw, dw, eP, hbP, p0, p1, p2, hShP⟩ := HA.out j hjn
            injection eP with eP
            injection eP with e1 e2 _
            subst e1 e2
            have kP := fun j => HI2.out.gr.cell (p := ⟨b, j, none⟩) hbP
            have p0 := (kP _).trans p0
            have p1 := (kP _).trans p1
            have p2 := (kP _).trans p2
            have hLW : LwS w2 b (off + j * 3) (off + i * 3) (.slice Pr mr dr) (.slice Ps ms ds) (.slice Pw mw dw) (.slice Ar nr cr) (.slice As ns cs) (.slice Aw nw cw) w2 := ⟨Below.refl _ _, p0, p1, p2, x0, x1, x2⟩
            have HSP := Lib.hid (hShP.next HI2.out.gr)
            have HSW := Lib.hid (HSH.out.next HI2.out.gr)
            clear hi0 hj hji hbP p0 p1 p2 kP hShP
            go_upto_region 15 with fail
            go_cut [4] from 16 to 75 (fun x wx => x = .int .i64 F ∧ LwS w2 b (off + j * 3) (off + i * 3) (.slice Pr mr dr) (.slice Ps ms ds) (.slice Pw mw dw) (.slice Ar nr cr) (.slice As ns cs) (.slice Aw nw cw) wx)
            case first =>
              refine wp_region_held_drew (S := (fun W => LwS w2 b (off + j * 3) (off + i * 3) (.slice Pr mr dr) (.slice Ps ms ds) (.slice Pw mw dw) (.slice Ar nr cr) (.slice As ns cs) (.slice Aw nw cw) W)) (by kernel_rfl) (LwS.next hLW below_drewU HBB2.out) (fun hH => ?_)
              refine Rg.take (i := 0) (d := 38) (v := .slice (some ⟨b, off, none⟩) n c) rfl rfl (by kernel_rfl) (by kernel_rfl) (by kernel_rfl) (fun _ _ _ h => h) (by kernel_rfl) (fun W hSW => ?_) hH ?_
              · clear hSW
                go_simp
              simp only [List.setIfInBounds_toArray, List.set_cons_zero, List.set_cons_succ]
              refine Rg.take (i := 1) (d := 39) (v := .int .i64 i) rfl rfl (by kernel_rfl) (by kernel_rfl) (by kernel_rfl) (fun _ _ _ h => h) (by kernel_rfl) (fun W hSW => ?_) hH ?_
              · clear hSW
                go_simp
              simp only [List.setIfInBounds_toArray, List.set_cons_zero, List.set_cons_succ]
              refine Rg.take (i := 2) (d := 40) (v := .int .i64 j) rfl rfl (by kernel_rfl) (by kernel_rfl) (by kernel_rfl) (fun _ _ _ h => h) (by kernel_rfl) (fun W hSW => ?_) hH ?_
              · clear hSW
                go_simp
              simp only [List.setIfInBounds_toArray, List.set_cons_zero, List.set_cons_succ]
              refine Rg.take (i := 3) (d := 41) (v := .pointer (some ⟨b, off + j * 3, none⟩)) rfl rfl (by kernel_rfl) (by kernel_rfl) (by kernel_rfl) (fun _ _ _ h => h) (by kernel_rfl) (fun W hSW => ?_) hH ?_
              · clear hSW
                go_simp
              simp only [List.setIfInBounds_toArray, List.set_cons_zero, List.set_cons_succ]
              refine Rg.take (i := 4) (d := 42) (v := .agg #[.slice Pr mr dr, .slice Ps ms ds, .slice Pw mw dw]) rfl rfl (by kernel_rfl) (by kernel_rfl) (by kernel_rfl) (fun _ _ _ h => h) (by kernel_rfl) (fun W hSW => ?_) hH ?_
              · obtain ⟨-, h0, h1, h2, -, -, -⟩ := hSW
                go_simp
              simp only [List.setIfInBounds_toArray, List.set_cons_zero, List.set_cons_succ]
              refine Rg.take (i := 6) (d := 44) (v := .slice (some ⟨b, off, none⟩) n c) rfl rfl (by kernel_rfl) (by kernel_rfl) (by kernel_rfl) (fun _ _ _ h => h) (by kernel_rfl) (fun W hSW => ?_) hH ?_
              · clear hSW
                go_simp
              simp only [List.setIfInBounds_toArray, List.set_cons_zero, List.set_cons_succ]
              refine Rg.take (i := 7) (d := 45) (v := .int .i64 i) rfl rfl (by kernel_rfl) (by kernel_rfl) (by kernel_rfl) (fun _ _ _ h => h) (by kernel_rfl) (fun W hSW => ?_) hH ?_
              · clear hSW
                go_simp
              simp only [List.setIfInBounds_toArray, List.set_cons_zero, List.set_cons_succ]
              refine Rg.take (i := 8) (d := 46) (v := .pointer (some ⟨b, off + i * 3, none⟩)) rfl rfl (by kernel_rfl) (by kernel_rfl) (by kernel_rfl) (fun _ _ _ h => h) (by kernel_rfl) (fun W hSW => ?_) hH ?_
              · clear hSW
                go_simp
              simp only [List.setIfInBounds_toArray, List.set_cons_zero, List.set_cons_succ]
              refine Rg.take (i := 9) (d := 47) (v := .agg #[.slice Ar nr cr, .slice As ns cs, .slice Aw nw cw]) rfl rfl (by kernel_rfl) (by kernel_rfl) (by kernel_rfl) (fun _ _ _ h => h) (by kernel_rfl) (fun W hSW => ?_) hH ?_
              · obtain ⟨-, -, -, -, h0, h1, h2⟩ := hSW
                go_simp
              simp only [List.setIfInBounds_toArray, List.set_cons_zero, List.set_cons_succ]
              refine wpAnyH_ready (rs := [5]) (by kernel_rfl) (by simp) (AllReadyH.cons rfl (fun K hK => ?_) AllReadyH.nil)
              go_simp
              refine (shot_any).mono ?_
              rintro e X1 ⟨rfl, hb⟩
              go_simp
              refine hK.out _ _ (LwS.next hH hb HBB2.out) (fun hH => ?_)
              clear hK K
              clear hb
              refine wpAnyH_ready (rs := [10]) (by kernel_rfl) (by simp) (AllReadyH.cons rfl (fun K hK => ?_) AllReadyH.nil)
              go_simp
              refine (shot_any).mono ?_
              rintro e X2 ⟨rfl, hb⟩
              go_simp
              refine hK.out _ _ (LwS.next hH hb HBB2.out) (fun hH => ?_)
              clear hK K
              clear hb
              refine wpAnyH_ready (rs := [11]) (by kernel_rfl) (by simp) (AllReadyH.cons rfl (fun K hK => ?_) AllReadyH.nil)
              go_simp
              refine ((next_any (HSP.out.next hH.1) (HSW.out.next hH.1) HFP.out HF.out)).mono ?_
              rw [HV.out]
              rintro e X3 ⟨rfl, hb⟩
              go_simp
              refine hK.out _ _ (LwS.next hH hb HBB2.out) (fun hH => ?_)
              clear hK K
              clear hb
              refine Rg.take (i := 12) (d := 4) (v := .int .i64 F) rfl rfl (by kernel_rfl) (by kernel_rfl) (by kernel_rfl) (fun _ _ _ h => h) (by kernel_rfl) (fun W hSW => ?_) hH ?_
              · clear hSW
                go_simp
              simp only [List.setIfInBounds_toArray, List.set_cons_zero, List.set_cons_succ]
              refine wpAnyH_done (by kernel_rfl) ?_ _
              go_wp2_with fail
              go_meet
              exact ⟨rfl, hH⟩
            case rest =>
            obtain ⟨rfl, hH⟩ := hcut
            obtain ⟨w4, hw4⟩ := name_of wc
            rw [hw4] at hH ⊢
            clear hw4
            have HI4 := Lib.hid (HI2.out.next hH.1)
            have HBB4 := Lib.hid (Nat.lt_of_lt_of_le HBB2.out hH.1.size)
            obtain ⟨-, -, -, -, x0, x1, x2⟩ := hH
            clear hLW fi hw
            have hCp := copied_any (HSH.out.next HI4.out.gr) HF.out
            go_wp2_with fail
            refine hCp.mono ?_
            clear hCp
            rintro e w5 ⟨⟨ur, us, uw, rfl, hO⟩, hb5⟩
            obtain ⟨Xr, nxr, kxr, rfl⟩ := PC.own_slice hO.rows
            obtain ⟨Xs, nxs, kxs, rfl⟩ := PC.own_slice hO.scs
            obtain ⟨Xw, nxw, kxw, rfl⟩ := hO.wks_slice
            have hbA := (Below.refl w5.heap.size w5).alloc (Nat.le_refl _) (.cells #[.slice Xr nxr kxr, .slice Xs nxs kxs, .slice Xw nxw kxw] 31)
            have hgA := heap_alloc_last w5 (.cells #[.slice Xr nxr kxr, .slice Xs nxs kxs, .slice Xw nxw kxw] 31)
            have hlA : w5.heap.size < (w5.alloc (.cells #[.slice Xr nxr kxr, .slice Xs nxs kxs, .slice Xw nxw kxw] 31)).heap.size := by simp
            obtain ⟨w6, hw6⟩ := name_of (w5.alloc (.cells #[.slice Xr nxr kxr, .slice Xs nxs kxs, .slice Xw nxw kxw] 31))
            rw [hw6] at hbA hgA hlA
            have HI6 := Lib.hid ((HI4.out.next hb5).next hbA)
            have HO6 := Lib.hid (hO.next hbA)
            have hSee := seeAll_any HI6.out (by omega) HO6.out HF.out
            rw [HFE.out] at hSee
            have HGB : Hid (w.heap.size < w4.heap.size ∧ w4.heap.size ≤ w5.heap.size) := Lib.hid ⟨by
              obtain ⟨_, _, _, _, _, _, _, _, _, h1, _⟩ := HI4.out.blk
              exact lt_of_block h1, hb5.size⟩
            have q0 : w6.cell? ⟨w5.heap.size, 0, none⟩ = some (.slice Xr nxr kxr) := (cell_of_row _ _ _ _ _ _ hgA).trans rfl
            have q1 : w6.cell? ⟨w5.heap.size, 1, none⟩ = some (.slice Xs nxs kxs) := (cell_of_row _ _ _ _ _ _ hgA).trans rfl
            have q2 : w6.cell? ⟨w5.heap.size, 2, none⟩ = some (.slice Xw nxw kxw) := (cell_of_row _ _ _ _ _ _ hgA).trans rfl
            have HGA := Lib.hid hgA
            have HLA := Lib.hid hlA
            have HBW : Hid (Below w.heap.size w w6) := Lib.hid HI6.out.gr
            have fF : (F != F) = false := by simp
            clear hb5 hO hbA hgA hlA HI4 HBB4 x0 x1 x2
            go_wp2_with (refine wpList_store_new rfl 31 31 (.tmp 6) (.tmp 54) rfl _ _ w5.heap.size rfl rfl rfl (by kernel_rfl) rfl (by kernel_rfl) ?_)
            refine hSee.mono ?_
            clear hSee q0 q1 q2
            rintro e w7 ⟨rfl, hQ⟩
            have hg7 := (hQ.old w5.heap.size (by have := HGB.out; omega) HLA.out).trans HGA.out
            have q0 : w7.cell? ⟨w5.heap.size, 0, none⟩ = some (.slice Xr nxr kxr) := (cell_of_row _ _ _ _ _ _ hg7).trans rfl
            have q1 : w7.cell? ⟨w5.heap.size, 1, none⟩ = some (.slice Xs nxs kxs) := (cell_of_row _ _ _ _ _ _ hg7).trans rfl
            have q2 : w7.cell? ⟨w5.heap.size, 2, none⟩ = some (.slice Xw nxw kxw) := (cell_of_row _ _ _ _ _ _ hg7).trans rfl
            have hSp := spoil_any (w := w7) HO6.out HF.out (fun k h1 h2 => hQ.old k (by have := HGB.out; omega) h2) hQ.low.size (by have := HGB.out; have := HLA.out; omega)
            have HQ := Lib.hid hQ
            clear hQ hg7
            go_wp2_with fail
            refine hSp.mono ?_
            clear hSp q0 q1 q2
            rintro e w8 ⟨rfl, hs8⟩
            have HI8 := Lib.hid (SeeI.spoilt (w := w) HQ.out hs8 HF.out (Nat.le_refl _) HGB.out.1 HBW.out)
            clear hs8 HQ
            obtain ⟨SA, Sm, Sc_, SB, Sk, Sd, SC, Sj, Se, hgS, -⟩ := HI8.out.blk
            have hSn := seen_any hgS
            have fi1 : (((i : Int) + 1) != ((i : Int) + 1)) = false := by simp
            rw [show (((i + 1 : Nat)) : Int) = (i : Int) + 1 by omega] at hSn
            clear hgS
            go_wp2_with fail
            refine hSn.mono ?_
            clear hSn
            rintro e w9 ⟨rfl, hb9⟩
            have HI9 : Hid (SeeI w w.heap.size (i + 1) F (shA l (i + 1 - 1)) w9) := Lib.hid (by rw [Nat.add_sub_cancel]; exact HI8.out.next hb9)
            clear hb9 HI8
            go_wp2_with fail
            exact ⟨⟨i + 1, F, by omega, rfl, by go_num, HI9⟩, by simp [intOf]; omega⟩
        · have fE : (E == 0) = false := by rw [beq_eq_false_iff_ne]; exact hE
          have HV : F = E := by rw [← HFE.out]; simp [seeV, hE]
          subst HV
          obtain ⟨w4, hw4⟩ := name_of w2
          rw [hw4] at x0 x1 x2 HI2 HBB2 ⊢
          clear hw4
          have HI4 := HI2
          have HBB4 := HBB2
          clear hE HI2 HBB2
          have hCp := copied_any (HSH.out.next HI4.out.gr) HF.out
          go_wp2_with fail
          refine hCp.mono ?_
          clear hCp
          rintro e w5 ⟨⟨ur, us, uw, rfl, hO⟩, hb5⟩
          obtain ⟨Xr, nxr, kxr, rfl⟩ := PC.own_slice hO.rows
          obtain ⟨Xs, nxs, kxs, rfl⟩ := PC.own_slice hO.scs
          obtain ⟨Xw, nxw, kxw, rfl⟩ := hO.wks_slice
          have hbA := (Below.refl w5.heap.size w5).alloc (Nat.le_refl _) (.cells #[.slice Xr nxr kxr, .slice Xs nxs kxs, .slice Xw nxw kxw] 31)
          have hgA := heap_alloc_last w5 (.cells #[.slice Xr nxr kxr, .slice Xs nxs kxs, .slice Xw nxw kxw] 31)
          have hlA : w5.heap.size < (w5.alloc (.cells #[.slice Xr nxr kxr, .slice Xs nxs kxs, .slice Xw nxw kxw] 31)).heap.size := by simp
          obtain ⟨w6, hw6⟩ := name_of (w5.alloc (.cells #[.slice Xr nxr kxr, .slice Xs nxs kxs, .slice Xw nxw kxw] 31))
          rw [hw6] at hbA hgA hlA
          have HI6 := Lib.hid ((HI4.out.next hb5).next hbA)
          have HO6 := Lib.hid (hO.next hbA)
          have hSee := seeAll_any HI6.out (by omega) HO6.out HF.out
          rw [HFE.out] at hSee
          have HGB : Hid (w.heap.size < w4.heap.size ∧ w4.heap.size ≤ w5.heap.size) := Lib.hid ⟨by
            obtain ⟨_, _, _, _, _, _, _, _, _, h1, _⟩ := HI4.out.blk
            exact lt_of_block h1, hb5.size⟩
          have q0 : w6.cell? ⟨w5.heap.size, 0, none⟩ = some (.slice Xr nxr kxr) := (cell_of_row _ _ _ _ _ _ hgA).trans rfl
          have q1 : w6.cell? ⟨w5.heap.size, 1, none⟩ = some (.slice Xs nxs kxs) := (cell_of_row _ _ _ _ _ _ hgA).trans rfl
          have q2 : w6.cell? ⟨w5.heap.size, 2, none⟩ = some (.slice Xw nxw kxw) := (cell_of_row _ _ _ _ _ _ hgA).trans rfl
          have HGA := Lib.hid hgA
          have HLA := Lib.hid hlA
          have HBW : Hid (Below w.heap.size w w6) := Lib.hid HI6.out.gr
          have fF : (F != F) = false := by simp
          clear hb5 hO hbA hgA hlA HI4 HBB4 x0 x1 x2
          go_wp2_with (refine wpList_store_new rfl 31 31 (.tmp 6) (.tmp 54) rfl _ _ w5.heap.size rfl rfl rfl (by kernel_rfl) rfl (by kernel_rfl) ?_)
          refine hSee.mono ?_
          clear hSee q0 q1 q2
          rintro e w7 ⟨rfl, hQ⟩
          have hg7 := (hQ.old w5.heap.size (by have := HGB.out; omega) HLA.out).trans HGA.out
          have q0 : w7.cell? ⟨w5.heap.size, 0, none⟩ = some (.slice Xr nxr kxr) := (cell_of_row _ _ _ _ _ _ hg7).trans rfl
          have q1 : w7.cell? ⟨w5.heap.size, 1, none⟩ = some (.slice Xs nxs kxs) := (cell_of_row _ _ _ _ _ _ hg7).trans rfl
          have q2 : w7.cell? ⟨w5.heap.size, 2, none⟩ = some (.slice Xw nxw kxw) := (cell_of_row _ _ _ _ _ _ hg7).trans rfl
          have hSp := spoil_any (w := w7) HO6.out HF.out (fun k h1 h2 => hQ.old k (by have := HGB.out; omega) h2) hQ.low.size (by have := HGB.out; have := HLA.out; omega)
          have HQ := Lib.hid hQ
          clear hQ hg7
          go_wp2_with fail
          refine hSp.mono ?_
          clear hSp q0 q1 q2
          rintro e w8 ⟨rfl, hs8⟩
          have HI8 := Lib.hid (SeeI.spoilt (w := w) HQ.out hs8 HF.out (Nat.le_refl _) HGB.out.1 HBW.out)
          clear hs8 HQ
          obtain ⟨SA, Sm, Sc_, SB, Sk, Sd, SC, Sj, Se, hgS, -⟩ := HI8.out.blk
          have hSn := seen_any hgS
          have fi1 : (((i : Int) + 1) != ((i : Int) + 1)) = false := by simp
          rw [show (((i + 1 : Nat)) : Int) = (i : Int) + 1 by omega] at hSn
          clear hgS
          go_wp2_with fail
          refine hSn.mono ?_
          clear hSn
          rintro e w9 ⟨rfl, hb9⟩
          have HI9 : Hid (SeeI w w.heap.size (i + 1) F (shA l (i + 1 - 1)) w9) := Lib.hid (by rw [Nat.add_sub_cancel]; exact HI8.out.next hb9)
          clear hb9 HI8
          go_wp2_with fail
          exact ⟨⟨i + 1, F, by omega, rfl, by go_num, HI9⟩, by simp [intOf]; omega⟩
      · have hni : i = n := by omega
        subst hni
        clear hlt hin
        go_wp2_with fail
        refine (hAw _).mono ?_
        rintro e w3 ⟨rfl, hb3⟩
        have HB3 := Lib.hid (HI.out.gr.next hb3)
        clear hb3
        go_wp2_with fail
        go_ret
        exact ⟨rfl, HB3.out⟩
end P20
end Go.Proofs.YtajbchecjbddgaaDoor
