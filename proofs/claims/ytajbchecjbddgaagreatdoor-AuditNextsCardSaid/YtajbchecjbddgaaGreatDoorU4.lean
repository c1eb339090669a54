/- Audit: the reference's Find, Of, Around, In. -/
import Derived.Test.YtajbchecjbddgaaGreatDoorH4
import Derived.WalkKit
import Derived.Deep.RegionHeld3
namespace Go.Proofs.YtajbchecjbddgaaGreatDoor
open Go.RowKit
namespace P20
open P7

section
variable {w : World} {vr vs vw : Value} {s : Sh}
set_option maxRecDepth 10000 in
set_option maxHeartbeats 4000000 in
theorem refFind_any (h : Shm w vr vs vw s) (hlen : s.sc.length ≤ 1000) (r k : Int) :
    Calls Tryz.prog 49 #[.agg #[vr, vs, vw], .int .i64 r, .int .i64 k] w fun e w' => e = .returned (.int .i64 (inI (fnd s.sc r k))) ∧ Below w.heap.size w w' := by
  obtain ⟨A, c, rfl, hnc, hA⟩ := scs_open h.scs
  obtain ⟨Ar, cr, rfl, -⟩ := rows_open h.rows.sl
  obtain ⟨Aw, cw, rfl, -⟩ := h.wks.open_
  have HA := Lib.hid hA
  obtain ⟨n, hn⟩ := name_of s.sc.length
  obtain ⟨nr, hnr⟩ := name_of s.l.length
  obtain ⟨nw, hnw⟩ := name_of s.ws.length
  have HN := Lib.hid hn
  rw [hn] at hnc hlen ⊢
  rw [hnr, hnw]
  clear hA h hn hnr hnw
  go_enter Tryz.func49, Tryz.ntmps49
  go_wp2_with fail
  go_loopw [7] (fun i wr => ∃ j : Nat, j ≤ n ∧ i = .int .i64 j ∧ Hid (∀ m, m < j → ¬ isAt s.sc r k m) ∧ Below w.heap.size w wr ∧ Hid (wr.heap[w.heap.size]? = some (.cells #[.slice Ar nr cr, .slice A n c, .slice Aw nw cw] 26 (0, 0)))) (fun i _ => n - (intOf i).toNat)
  case atStart => exact ⟨0, Nat.zero_le _, rfl, Lib.hid (fun m hm => by omega), by go_grown, Lib.hid (heap_alloc_last _ _)⟩
  case round =>
    obtain ⟨j, hj, rfl, hno, hB, hblk⟩ := hrel
    have q1 : wr.cell? ⟨w.heap.size, 1, none⟩ = some (.slice A n c) := by rw [cell_of_row _ _ _ _ _ _ hblk.out]; rfl
    by_cases hlt : j < n
    · obtain ⟨b, off, rfl, hb, c0, c1, -⟩ := HA.out j (by rw [HN.out]; exact hlt)
      have HR : Hid ((sA s.sc j).r = (sA s.sc j).r) := Lib.hid rfl
      obtain ⟨⟨xr, xk, xn, xa, xc, xv⟩, hx⟩ := name_of (sA s.sc j)
      rw [hx] at c0 c1
      dsimp only at c0 c1
      have HX := Lib.hid hx
      have d0 := (hB.cell (p := ⟨b, _, none⟩) hb).trans c0
      have d1 := (hB.cell (p := ⟨b, _, none⟩) hb).trans c1
      clear hx c0 c1
      by_cases h1 : xr = r
      · have e1 : (xr == r) = true := by simpa using h1
        by_cases h2 : xk = k
        · have e2 : (xk == k) = true := by simpa using h2
          have HF : Hid (fnd s.sc r k = some j) := Lib.hid (fnd_first (by rw [HN.out]; exact hlt) ⟨by rw [HX.out]; exact h1, by rw [HX.out]; exact h2⟩ hno.out)
          clear h1 h2
          go_wp2_with fail
          go_ret
          exact ⟨ret_int (by rw [HF.out]; rfl), hB⟩
        · have e2 : (xk == k) = false := by simpa using h2
          have HF : Hid (∀ m, m < j + 1 → ¬ isAt s.sc r k m) := Lib.hid fun m hm => by
            by_cases e : m = j
            · rw [e]; intro hat; exact h2 (by have := hat.2; rw [HX.out] at this; exact this)
            · exact hno.out m (by omega)
          clear h1 h2
          go_wp2_with fail
          exact ⟨⟨j + 1, by omega, by go_num, HF, hB, hblk⟩, by simp [intOf]; omega⟩
      · have e1 : (xr == r) = false := by simpa using h1
        have HF : Hid (∀ m, m < j + 1 → ¬ isAt s.sc r k m) := Lib.hid fun m hm => by
          by_cases e : m = j
          · rw [e]; intro hat; exact h1 (by have := hat.1; rw [HX.out] at this; exact this)
          · exact hno.out m (by omega)
        clear h1
        go_wp2_with fail
        exact ⟨⟨j + 1, by omega, by go_num, HF, hB, hblk⟩, by simp [intOf]; omega⟩
    · obtain rfl : j = n := by omega
      have HF : Hid (fnd s.sc r k = none) := Lib.hid (fnd_none.2 (by rw [HN.out]; exact hno.out))
      go_wp2_with fail
      go_ret
      exact ⟨ret_int (by rw [HF.out]; rfl), hB⟩
theorem refFind_next (h : Shm w vr vs vw s) (hlen : s.sc.length ≤ 1000) (r k : Int) : ∀ W, Below w.heap.size w W →
    Calls Tryz.prog 49 #[.agg #[vr, vs, vw], .int .i64 r, .int .i64 k] W fun e w' => e = .returned (.int .i64 (inI (fnd s.sc r k))) ∧ Below W.heap.size W w' := fun _ hW => refFind_any (h.next hW) hlen r k
theorem below_drewU {w : World} : Below w.heap.size w w.drew := ⟨rfl, rfl, rfl, Nat.le_refl _, fun _ _ => rfl⟩
abbrev OfS (W0 : World) (g : Nat) (a1 a2 a3 : Value) (b o : Nat) (x y : Int) (W : World) : Prop :=
  Below W0.heap.size W0 W ∧ W.cell? ⟨g, 0, none⟩ = some a1 ∧ W.cell? ⟨g, 1, none⟩ = some a2 ∧ W.cell? ⟨g, 2, none⟩ = some a3 ∧ W.cell? ⟨b, o, none⟩ = some (.int .i64 x) ∧ W.cell? ⟨b, o + 1, none⟩ = some (.int .i64 y)
theorem OfS.gr {W0 W : World} {g : Nat} {a1 a2 a3 : Value} {b o : Nat} {x y : Int} (h : OfS W0 g a1 a2 a3 b o x y W) : Below W0.heap.size W0 W := h.1
theorem OfS.next {W0 W W' : World} {g : Nat} {a1 a2 a3 : Value} {b o : Nat} {x y : Int} (h0 : OfS W0 g a1 a2 a3 b o x y W) (hb : Below W.heap.size W W') (hg : g < W0.heap.size) (hh : b < W0.heap.size) : OfS W0 g a1 a2 a3 b o x y W' := by
  obtain ⟨h0, r0, r1, r2, s0, s1⟩ := h0
  have k := fun j => hb.cell (p := ⟨g, j, none⟩) (Nat.lt_of_lt_of_le hg h0.size)
  have q := fun j => hb.cell (p := ⟨b, j, none⟩) (Nat.lt_of_lt_of_le hh h0.size)
  exact ⟨h0.next hb, (k _).trans r0, (k _).trans r1, (k _).trans r2, (q _).trans s0, (q _).trans s1⟩
set_option maxRecDepth 10000 in
set_option maxHeartbeats 4000000 in
theorem refOf_any (h : Shm w vr vs vw s) (hlen : s.sc.length ≤ 1000) (i : Nat) (hi : i < s.l.length) :
    Calls Tryz.prog 26 #[.agg #[vr, vs, vw], .int .i64 i] w fun e w' => e = .returned (.int .i64 (inI (ofN s i))) ∧ Below w.heap.size w w' := by
  have hF := refFind_next h hlen
  obtain ⟨A, c, rfl, -⟩ := scs_open h.scs
  obtain ⟨Ar, cr, rfl, hnc, hA⟩ := rows_open h.rows.sl
  obtain ⟨Aw, cw, rfl, -⟩ := h.wks.open_
  obtain ⟨b, off, rfl, hb, c0, c1, -⟩ := hA i hi
  have HO : Hid (ofN s i = fnd s.sc (at_ s.l i).p (at_ s.l i).i) := Lib.hid rfl
  obtain ⟨⟨rp, ri, rf, rk, rv, rs, rc⟩, hr⟩ := name_of (at_ s.l i)
  rw [hr] at c0 c1 HO
  dsimp only at c0 c1 HO
  have hF2 := hF rp ri
  obtain ⟨n, hn⟩ := name_of s.sc.length
  obtain ⟨nr, hnr⟩ := name_of s.l.length
  obtain ⟨nw, hnw⟩ := name_of s.ws.length
  rw [hn, hnr, hnw] at hF2
  rw [hnr] at hi
  rw [hn, hnr, hnw]
  clear hA h hn hnr hnw hr hF
  go_enter Tryz.func26, Tryz.ntmps26
  go_wp2_with fail
  have hb0 : Below w.heap.size w (w.alloc (.cells #[.slice (some ⟨b, off, none⟩) nr cr, .slice A n c, .slice Aw nw cw] 26)) := by go_grown
  have hblk := heap_alloc_last w (.cells #[.slice (some ⟨b, off, none⟩) nr cr, .slice A n c, .slice Aw nw cw] 26)
  have hbs : b < (w.alloc (.cells #[.slice (some ⟨b, off, none⟩) nr cr, .slice A n c, .slice Aw nw cw] 26)).heap.size := by simp; omega
  have hgs : w.heap.size < (w.alloc (.cells #[.slice (some ⟨b, off, none⟩) nr cr, .slice A n c, .slice Aw nw cw] 26)).heap.size := by simp
  have e0 := (hb0.cell (p := ⟨b, _, none⟩) hb).trans c0
  have e1 := (hb0.cell (p := ⟨b, _, none⟩) hb).trans c1
  obtain ⟨w2, hw2⟩ := name_of (w.alloc (.cells #[.slice (some ⟨b, off, none⟩) nr cr, .slice A n c, .slice Aw nw cw] 26))
  rw [hw2] at hb0 hblk hbs hgs e0 e1 ⊢
  obtain ⟨g, hg⟩ := name_of w.heap.size
  rw [hg] at hblk hgs ⊢
  have hS : OfS w2 g (.slice (some ⟨b, off, none⟩) nr cr) (.slice A n c) (.slice Aw nw cw) b (off + i * 7) rp ri w2 :=
    ⟨Below.refl _ _, by rw [cell_of_row _ _ _ _ _ _ hblk]; rfl, by rw [cell_of_row _ _ _ _ _ _ hblk]; rfl, by rw [cell_of_row _ _ _ _ _ _ hblk]; rfl, e0, e1⟩
  have hFS : ∀ W, OfS w2 g (.slice (some ⟨b, off, none⟩) nr cr) (.slice A n c) (.slice Aw nw cw) b (off + i * 7) rp ri W → Calls Tryz.prog 49 #[.agg #[.slice (some ⟨b, off, none⟩) nr cr, .slice A n c, .slice Aw nw cw], .int .i64 rp, .int .i64 ri] W fun e w' => e = .returned (.int .i64 (inI (fnd s.sc rp ri))) ∧ Below W.heap.size W w' :=
    fun W hW => hF2 W (hb0.next hW.1)
  have HB0 := Lib.hid hb0
  have HG := Lib.hid hg
  clear hb0 hblk e0 e1 c0 c1 hw2 hb hF2 hg
  go_region_held3 (fun W => OfS w2 g (.slice (some ⟨b, off, none⟩) nr cr) (.slice A n c) (.slice Aw nw cw) b (off + i * 7) rp ri W) (first | assumption | exact OfS.next hS below_drewU (by assumption) (by assumption) | exact OfS.next (by assumption) (by assumption) (by assumption) (by assumption)) (first | (go_at_call 49; (with_reducible refine (hFS _ (by assumption)).mono ?_); rintro e w3 ⟨rfl, hb3⟩; have hB3 := (OfS.gr (W := _) (by assumption)).next hb3))
  go_wp2_with fail
  go_ret
  exact ⟨ret_int (by rw [HO.out]), HB0.out.next hB3⟩
theorem refOf_next (h : Shm w vr vs vw s) (hlen : s.sc.length ≤ 1000) (i : Nat) (hi : i < s.l.length) : ∀ W, Below w.heap.size w W →
    Calls Tryz.prog 26 #[.agg #[vr, vs, vw], .int .i64 i] W fun e w' => e = .returned (.int .i64 (inI (ofN s i))) ∧ Below W.heap.size W w' := fun _ hW => refOf_any (h.next hW) hlen i hi
set_option maxRecDepth 10000 in
set_option maxHeartbeats 4000000 in
theorem refAround_any (h : Shm w vr vs vw s) (hlen : s.sc.length ≤ 1000) (i : Nat) (hi : i < s.sc.length) (hrow : (sA s.sc i).r < s.l.length) :
    Calls Tryz.prog 50 #[.agg #[vr, vs, vw], .int .i64 i] w fun e w' => e = .returned (.int .i64 (inI (arN s i))) ∧ Below w.heap.size w w' := by
  have hF := refFind_next h hlen
  have hO := refOf_next h hlen
  obtain ⟨A, c, rfl, hnc, hA⟩ := scs_open h.scs
  obtain ⟨Ar, cr, rfl, -⟩ := rows_open h.rows.sl
  obtain ⟨Aw, cw, rfl, -⟩ := h.wks.open_
  obtain ⟨b, off, rfl, hb, c0, c1, c2, c3, c4, c5⟩ := hA i hi
  have HO : Hid (arN s i = if (sA s.sc i).r < 0 then none else if 0 < (sA s.sc i).k then fnd s.sc (sA s.sc i).r (sA s.sc i).n else ofN s (sA s.sc i).r.toNat) := Lib.hid rfl
  obtain ⟨⟨xr, xk, xn, xa, xc, xv⟩, hx⟩ := name_of (sA s.sc i)
  rw [hx] at c0 c1 c2 c3 c4 c5 HO hrow
  dsimp only at c0 c1 c2 c3 c4 c5 HO hrow
  obtain ⟨n, hn⟩ := name_of s.sc.length
  obtain ⟨nr, hnr⟩ := name_of s.l.length
  obtain ⟨nw, hnw⟩ := name_of s.ws.length
  have HNR := Lib.hid hnr
  rw [hn, hnr, hnw] at hF hO
  rw [hnr] at hrow
  rw [hn] at hi hnc hlen
  rw [hn, hnr, hnw]
  clear hA h hn hnr hnw hx
  have hb0 : Below w.heap.size w ((w.alloc (.cells #[.slice Ar nr cr, .slice (some ⟨b, off, none⟩) n c, .slice Aw nw cw] 26)).alloc (.cells #[.int .i64 xr, .int .i64 xk, .int .i64 xn, .bool xa, .bool xc, .int .i64 xv] 49)) := by go_grown
  have HB0 := Lib.hid hb0
  by_cases h1 : xr < 0
  · have e1 : decide (xr < 0) = true := decide_eq_true h1
    have HR : Hid (arN s i = none) := Lib.hid (by rw [HO.out, if_pos h1])
    clear h1 hF hO hb0
    go_enter Tryz.func50, Tryz.ntmps50
    go_wp2_with ((with_reducible (show wpList _ _ _ (Oper.mk _ (Op.store _ _ _) _ _ _ _ :: _) _ _)); refine wpList_store_new rfl 49 49 (.tmp 5) (.tmp 10) rfl _ _ (w.heap.size + 1) (by simp) rfl rfl (by kernel_rfl) rfl (by kernel_rfl) ?_)
    go_ret
    exact ⟨ret_int (by rw [HR.out]; rfl), HB0.out⟩
  · have e1 : decide (xr < 0) = false := decide_eq_false h1
    by_cases h2 : 0 < xk
    · have e2 : decide (0 < xk) = true := decide_eq_true h2
      have HR : Hid (arN s i = fnd s.sc xr xn) := Lib.hid (by rw [HO.out, if_neg h1, if_pos h2])
      have hF2 := hF xr xn _ hb0
      clear h1 h2 hF hO hb0
      go_enter Tryz.func50, Tryz.ntmps50
      go_wp2_with ((with_reducible (show wpList _ _ _ (Oper.mk _ (Op.store _ _ _) _ _ _ _ :: _) _ _)); refine wpList_store_new rfl 49 49 (.tmp 5) (.tmp 10) rfl _ _ (w.heap.size + 1) (by simp) rfl rfl (by kernel_rfl) rfl (by kernel_rfl) ?_)
      refine hF2.mono ?_
      rintro e w3 ⟨rfl, hb3⟩
      go_wp2_with fail
      go_ret
      exact ⟨ret_int (by rw [HR.out]), HB0.out.next hb3⟩
    · have e2 : decide (0 < xk) = false := decide_eq_false h2
      obtain ⟨q, rfl⟩ : ∃ q : Nat, xr = q := ⟨xr.toNat, by omega⟩
      have HR : Hid (arN s i = ofN s q) := Lib.hid (by rw [HO.out, if_neg h1, if_neg h2, Int.toNat_natCast])
      have hO2 := hO q (by omega) _ hb0
      clear h1 h2 hF hO hb0
      go_enter Tryz.func50, Tryz.ntmps50
      go_wp2_with ((with_reducible (show wpList _ _ _ (Oper.mk _ (Op.store _ _ _) _ _ _ _ :: _) _ _)); refine wpList_store_new rfl 49 49 (.tmp 5) (.tmp 10) rfl _ _ (w.heap.size + 1) (by simp) rfl rfl (by kernel_rfl) rfl (by kernel_rfl) ?_)
      refine hO2.mono ?_
      rintro e w3 ⟨rfl, hb3⟩
      go_wp2_with fail
      go_ret
      exact ⟨ret_int (by rw [HR.out]), HB0.out.next hb3⟩
set_option maxRecDepth 10000 in
set_option maxHeartbeats 4000000 in
theorem refIn_any (h : Shm w vr vs vw s) (hlen : s.sc.length ≤ 1000) (hok : scOk s) (hup : ∀ j, j < s.l.length → (at_ s.l j).p < j) (i of : Nat) (hi : i < s.sc.length) :
    Calls Tryz.prog 25 #[.agg #[vr, vs, vw], .int .i64 i, .int .i64 of] w fun e w' => e = .returned (.bool (decide (of ∈ ch s i))) ∧ Below w.heap.size w w' := by
  have HA : Hid (∀ (j : Nat) W, j < s.sc.length → Below w.heap.size w W → Calls Tryz.prog 50 #[.agg #[vr, vs, vw], .int .i64 j] W fun e w' => e = .returned (.int .i64 (inI (arN s j))) ∧ Below W.heap.size W w') := Lib.hid (fun j W hj hW => refAround_any (h.next hW) hlen j hj (by
    by_cases e : j = 0
    · have := (hok.1 0 (by omega)).1.1 rfl
      rw [e]; omega
    · exact (hok.1.r_row hj e).2))
  obtain ⟨A, c, rfl, -⟩ := scs_open h.scs
  obtain ⟨Ar, cr, rfl, -⟩ := rows_open h.rows.sl
  obtain ⟨Aw, cw, rfl, -⟩ := h.wks.open_
  obtain ⟨n, hn⟩ := name_of s.sc.length
  obtain ⟨nr, hnr⟩ := name_of s.l.length
  obtain ⟨nw, hnw⟩ := name_of s.ws.length
  have HN := Lib.hid hn
  have HOK := Lib.hid hok
  have HUP := Lib.hid hup
  rw [hn, hnr, hnw] at HA
  rw [hn] at hi hlen
  rw [hn, hnr, hnw]
  clear h hn hnr hnw hok hup
  go_enter Tryz.func25, Tryz.ntmps25
  go_wp2_with fail
  go_loopw [1] (fun x wr => ∃ o : Option Nat, (∀ j, o = some j → j < n) ∧ x = .int .i64 (inI o) ∧ Hid (of ∈ ch s i ↔ ∃ j, o = some j ∧ of ∈ ch s j) ∧ Below w.heap.size w wr ∧ Hid (wr.heap[w.heap.size]? = some (.cells #[.slice Ar nr cr, .slice A n c, .slice Aw nw cw] 26 (0, 0)))) (fun x _ => (intOf x + 1).toNat)
  case atStart => exact ⟨some i, fun j e => by injection e with e; omega, rfl, Lib.hid ⟨fun h => ⟨i, rfl, h⟩, fun ⟨j, e, h⟩ => by injection e with e; rw [e]; exact h⟩, by go_grown, Lib.hid (heap_alloc_last _ _)⟩
  case round =>
    obtain ⟨o, hj, rfl, hiff, hB, hblk⟩ := hrel
    cases o with
    | none =>
      have HR : Hid (decide (of ∈ ch s i) = false) := Lib.hid (decide_eq_false fun e => by obtain ⟨j, e2, _⟩ := hiff.out.1 e; cases e2)
      have e2 : ((-1 : Int) == of) = false := by rw [beq_eq_false_iff_ne]; omega
      simp only [inI]
      go_wp2_with fail
      go_ret
      exact ⟨ret_bool HR.out.symm, hB⟩
    | some j =>
      have hjn := hj j rfl
      have e1 : decide (0 ≤ (j : Int)) = true := by simp
      simp only [inI]
      by_cases he : j = of
      · have e2 : ((j : Int) == of) = true := by rw [beq_iff_eq]; omega
        have e3 : ((j : Int) != of) = false := by rw [bne_eq_false_iff_eq]; omega
        have HR : Hid (decide (of ∈ ch s i) = true) := Lib.hid (decide_eq_true (hiff.out.2 ⟨j, rfl, by rw [← he]; unfold ch; rw [chF]; exact List.mem_cons_self⟩))
        clear he hj
        go_wp2_with fail
        go_ret
        exact ⟨ret_bool HR.out.symm, hB⟩
      · have e3 : ((j : Int) != of) = true := by rw [bne_iff_ne]; omega
        have hC := HA.out j wr hjn hB
        have HO : Hid (∃ o', arN s j = o' ∧ (∀ j', o' = some j' → j' < j) ∧ (of ∈ ch s i ↔ ∃ j', o' = some j' ∧ of ∈ ch s j')) := Lib.hid (by
          by_cases h0 : j = 0
          · subst h0
            refine ⟨none, arN_zero HOK.out.1 (by rw [HN.out]; exact hjn), (fun j' e => by cases e), ?_⟩
            rw [hiff.out]
            constructor
            · rintro ⟨j, e, h⟩
              injection e with e
              rw [← e, ch_zero HOK.out.1 (by rw [HN.out]; exact hjn), List.mem_singleton] at h
              exact absurd h.symm he
            · rintro ⟨j, e, _⟩
              cases e
          · obtain ⟨j', h1, h2⟩ := arN_lt HOK.out HUP.out (by rw [HN.out]; exact hjn) h0
            refine ⟨some j', h1, (fun x e => by injection e with e; omega), ?_⟩
            rw [hiff.out]
            constructor
            · rintro ⟨x, e, h⟩
              injection e with e
              rw [← e, ch_step HOK.out HUP.out (by rw [HN.out]; exact hjn) h0 h1, List.mem_cons] at h
              rcases h with h | h
              · exact absurd h.symm he
              · exact ⟨j', rfl, h⟩
            · rintro ⟨x, e, h⟩
              injection e with e
              refine ⟨j, rfl, ?_⟩
              rw [ch_step HOK.out HUP.out (by rw [HN.out]; exact hjn) h0 h1, e]
              exact List.mem_cons_of_mem _ h)
        obtain ⟨o', h1, h2, h3⟩ := HO.out
        rw [h1] at hC
        have H3 := Lib.hid h3
        have q0 : wr.cell? ⟨w.heap.size, 0, none⟩ = some (.slice Ar nr cr) := by rw [cell_of_row _ _ _ _ _ _ hblk.out]; rfl
        have q1 : wr.cell? ⟨w.heap.size, 1, none⟩ = some (.slice A n c) := by rw [cell_of_row _ _ _ _ _ _ hblk.out]; rfl
        have q2 : wr.cell? ⟨w.heap.size, 2, none⟩ = some (.slice Aw nw cw) := by rw [cell_of_row _ _ _ _ _ _ hblk.out]; rfl
        clear h1 h3 HO he hj
        go_wp2_with fail
        refine hC.mono ?_
        rintro e w3 ⟨rfl, hb3⟩
        go_wp2_with fail
        exact ⟨⟨o', fun x e => by have := h2 x e; omega, rfl, H3, hB.next hb3, Lib.hid (blk_next hblk.out hb3)⟩, by
          cases o' with
          | none => simp [intOf, inI]
          | some x => have := h2 x rfl; simp [intOf, inI]; omega⟩
end
end P20
end Go.Proofs.YtajbchecjbddgaaGreatDoor
