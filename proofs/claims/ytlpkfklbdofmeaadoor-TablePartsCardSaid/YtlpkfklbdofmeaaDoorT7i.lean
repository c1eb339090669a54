/- Walk: the reference's Print. -/
import Derived.Test.YtlpkfklbdofmeaaDoorT7h
import Derived.Deep.RegionHeld3
namespace Go.Proofs.YtlpkfklbdofmeaaDoor
open Go.RowKit
namespace P7

/-! ### The text of rows, plain -/
def lineB (r : Row) (first : Bool) : List UInt8 :=
  (if first then [45] else Lib.itoa r.p) ++ [32] ++ Lib.itoa r.i ++ [32] ++ Lib.itoa r.f ++ [32] ++ (kindW r.k).data.toList ++ [32] ++ Lib.itoa r.v ++ [32] ++ Lib.itoa r.s ++ [32] ++ (if r.c.size = 0 then [45] else r.c.data.toList) ++ [10]
def textTo (l : List Row) (n : Nat) : List UInt8 := (List.range n).flatMap fun k => lineB (at_ l k) (decide (k = 0))
theorem textTo_succ (l : List Row) (n : Nat) : textTo l (n + 1) = textTo l n ++ lineB (at_ l n) (decide (n = 0)) := by
  simp [textTo, List.range_succ]
/-- What Print answers. -/
def printT (l : List Row) : List UInt8 := if chk (l.length + 1) l = 0 then textTo l l.length else []
theorem itoa_le (n : Int) (h0 : -9223372036854775808 ≤ n) (h1 : n ≤ 9223372036854775807) : (Lib.itoa n).length ≤ 21 := Lib.itoa_length_le n h0 h1
theorem kindW_le (k : Int) : (kindW k).data.toList.length ≤ 9 := by
  unfold kindW kindsL
  generalize k.toNat = n
  match n with
  | 0 | 1 | 2 | 3 | 4 => decide
  | n + 5 => exact Nat.zero_le _
theorem lineB_le {r : Row} {first : Bool} (h : RowWf r) (hc : r.c.size ≤ 100) : (lineB r first).length ≤ 300 := by
  have h1 := itoa_le _ h.p.1 h.p.2
  have h2 := itoa_le _ h.i.1 h.i.2
  have h3 := itoa_le _ h.f.1 h.f.2
  have h4 := itoa_le _ h.v.1 h.v.2
  have h5 := itoa_le _ h.s.1 h.s.2
  have h6 := kindW_le r.k
  have h7 : r.c.data.toList.length ≤ 100 := by simpa using hc
  have h8 : (if first then [45] else Lib.itoa r.p).length ≤ 21 := by
    split
    · decide
    · exact h1
  have h9 : (if r.c.size = 0 then [45] else r.c.data.toList).length ≤ 100 := by
    split
    · decide
    · exact h7
  unfold lineB
  simp only [List.length_append, List.length_cons, List.length_nil]
  omega
theorem textTo_le {l : List Row} (h : ∀ k, k < l.length → RowWf (at_ l k)) (hs : Small l) : ∀ n, n ≤ l.length → (textTo l n).length ≤ n * 300
  | 0, _ => by simp [textTo]
  | n + 1, hn => by
    have h1 := textTo_le h hs n (by omega)
    have h2 := lineB_le (first := decide (n = 0)) (h n (by omega)) (hs.2 n (by omega))
    rw [textTo_succ, List.length_append]
    omega

/-! ### Memory while a row is printed -/
abbrev PrS (W0 : World) (b : Nat) (rp ri rf rk rv rs : Int) (rc : ByteArray) (W : World) : Prop :=
  Below W0.heap.size W0 W ∧ W.cell? ⟨b, 0, none⟩ = some (.int .i64 rp) ∧ W.cell? ⟨b, 1, none⟩ = some (.int .i64 ri) ∧ W.cell? ⟨b, 2, none⟩ = some (.int .i64 rf) ∧ W.cell? ⟨b, 3, none⟩ = some (.int .i64 rk) ∧ W.cell? ⟨b, 4, none⟩ = some (.int .i64 rv) ∧ W.cell? ⟨b, 5, none⟩ = some (.int .i64 rs) ∧ W.cell? ⟨b, 6, none⟩ = some (.string rc) ∧ b < W.heap.size
section
variable {W0 W W' : World} {b : Nat} {rp ri rf rk rv rs : Int} {rc : ByteArray}
theorem PrS.next (h : PrS W0 b rp ri rf rk rv rs rc W) (hb : Below W.heap.size W W') : PrS W0 b rp ri rf rk rv rs rc W' := by
  obtain ⟨h0, h1, h2, h3, h4, h5, h6, h7, h8⟩ := h
  have k := fun j => hb.cell (p := ⟨b, j, none⟩) h8
  exact ⟨h0.next hb, (k _).trans h1, (k _).trans h2, (k _).trans h3, (k _).trans h4, (k _).trans h5, (k _).trans h6, (k _).trans h7, Nat.lt_of_lt_of_le h8 hb.size⟩
theorem PrS.gr (h : PrS W0 b rp ri rf rk rv rs rc W) : Below W0.heap.size W0 W := h.1
theorem PrS.drew (h : PrS W0 b rp ri rf rk rv rs rc W) : PrS W0 b rp ri rf rk rv rs rc W.drew := ⟨⟨h.1.os, h.1.tape, h.1.output, h.1.size, h.1.block⟩, h.2⟩
theorem PrS.make (W : World) (rp ri rf rk rv rs : Int) (rc : ByteArray) : PrS W W.heap.size rp ri rf rk rv rs rc (W.alloc (.cells #[.int .i64 rp, .int .i64 ri, .int .i64 rf, .int .i64 rk, .int .i64 rv, .int .i64 rs, .string rc] 40)) := by
  have k := fun j => cell_of_row _ _ j _ _ _ (heap_alloc_last W (.cells #[.int .i64 rp, .int .i64 ri, .int .i64 rf, .int .i64 rk, .int .i64 rv, .int .i64 rs, .string rc] 40))
  exact ⟨by go_grown, k 0, k 1, k 2, k 3, k 4, k 5, k 6, by simp⟩
end

theorem cat_ (a b : ByteArray) (m n : Nat) (ha : a.size ≤ m) (hb : b.size ≤ n) : ∃ s, a ++ b = s ∧ s.size ≤ m + n := ⟨_, rfl, by rw [ByteArray.size_append]; omega⟩
theorem let_ (l : List UInt8) (m : Nat) (h : l.length ≤ m) : ∃ s : ByteArray, (⟨l.toArray⟩ : ByteArray) = s ∧ s.size ≤ m := ⟨_, rfl, by simpa [ByteArray.size] using h⟩
theorem refOr_any (c : ByteArray) (W : World) : Calls Tryd.prog 37 #[.string c] W fun e w' => e = .returned (.string (if c.size = 0 then ⟨#[45]⟩ else c)) ∧ w' = W := by
  by_cases h : c.size = 0
  · rw [if_pos h]; exact refOr_empty c h W
  · rw [if_neg h]; exact refOr_full c h W
/-- A line, as it is put together. -/
theorem line_cat {o : List UInt8} {r : Row} {first : Bool} {x0 pp ti tf kw tv ts tc s1 s2 s3 s4 s5 s6 s7 s8 s9 s10 s11 s12 s13 s14 : ByteArray} (h0 : (⟨o.toArray⟩ : ByteArray) = x0) (hp : (⟨(if first then [45] else Lib.itoa r.p).toArray⟩ : ByteArray) = pp)
    (hi : (⟨(Lib.itoa r.i).toArray⟩ : ByteArray) = ti) (hf : (⟨(Lib.itoa r.f).toArray⟩ : ByteArray) = tf) (hk : kindW r.k = kw) (hv : (⟨(Lib.itoa r.v).toArray⟩ : ByteArray) = tv) (hs : (⟨(Lib.itoa r.s).toArray⟩ : ByteArray) = ts) (hc : (if r.c.size = 0 then ⟨#[45]⟩ else r.c) = tc)
    (a1 : x0 ++ pp = s1) (a2 : s1 ++ ⟨#[32]⟩ = s2) (a3 : s2 ++ ti = s3) (a4 : s3 ++ ⟨#[32]⟩ = s4) (a5 : s4 ++ tf = s5) (a6 : s5 ++ ⟨#[32]⟩ = s6) (a7 : s6 ++ kw = s7) (a8 : s7 ++ ⟨#[32]⟩ = s8) (a9 : s8 ++ tv = s9) (a10 : s9 ++ ⟨#[32]⟩ = s10) (a11 : s10 ++ ts = s11) (a12 : s11 ++ ⟨#[32]⟩ = s12) (a13 : s12 ++ tc = s13) (a14 : s13 ++ ⟨#[10]⟩ = s14) :
    s14 = ⟨(o ++ lineB r first).toArray⟩ := by
  subst h0 hp hi hf hk hv hs hc a1 a2 a3 a4 a5 a6 a7 a8 a9 a10 a11 a12 a13 a14
  apply ByteArray.ext
  by_cases h : r.c.size = 0 <;> simp [lineB, h]
def TxtR (w : World) (l : List Row) (n : Nat) (out i : Value) (wr : World) : Prop := ∃ k : Nat, k ≤ n ∧ i = .int .i64 k ∧ out = .string ⟨(textTo l k).toArray⟩ ∧ Below w.heap.size w wr
def PrintPost (l : List Row) (w : World) (e : Ending) (w' : World) : Prop := e = .returned (.tuple #[.string ⟨(printT l).toArray⟩, .int .i64 (chk (l.length + 1) l)]) ∧ Below w.heap.size w w'

set_option maxRecDepth 10000 in
set_option maxHeartbeats 4000000 in
theorem refPrint_any {w : World} {v : Value} {l : List Row} (hR : Rws w v l) (hs : Small l) : Calls Tryd.prog 18 #[v] w (PrintPost l w) := by
  have hC := refCheck_any hR.sl hs
  obtain ⟨A, c, rfl, hc, ho⟩ := rows_open hR.sl
  obtain ⟨E, hE⟩ := name_of (chk (l.length + 1) l)
  obtain ⟨n, hn⟩ := name_of l.length
  have HN := Lib.hid hn
  have HE := Lib.hid hE
  have HO := Lib.hid (fun k hk => ho k hk)
  have HWF := Lib.hid (fun k hk => hR.wfAt (k := k) hk)
  have HSM := Lib.hid hs
  have HR := Lib.hid hR
  have hlen := hs.1
  rw [hE] at hC
  rw [hn] at hc hlen hC ⊢
  clear hn ho hs hR hE
  by_cases hE0 : E = 0
  · have hT : Tab l := HE.out.trans hE0
    have HT := Lib.hid hT
    have e0 : (E != 0) = false := by simpa using hE0
    have HPT : Hid (printT l = textTo l n) := Lib.hid (by rw [printT, if_pos (HE.out.trans hE0), HN.out])
    have HE0 := Lib.hid hE0
    clear hE0 hT
    go_enter Tryd.func18, Tryd.ntmps18
    go_wp2_with fail
    refine hC.mono ?_
    rintro e w1 ⟨rfl, hb1⟩
    clear hC
    go_wp2_with fail
    go_loopw [5, 6] (fun out i wr => TxtR w l n out i wr) (fun _ i _ => n - (intOf i).toNat)
    case atStart => exact ⟨0, Nat.zero_le _, rfl, rfl, hb1⟩
    case round =>
      obtain ⟨k, hk, rfl, rfl, hB⟩ := hrel
      by_cases hlt : k < n
      · obtain ⟨b, off, rfl, hb, h0, h1, h2, h3, h4, h5, h6⟩ := HO.out k (by have := HN.out; omega)
        have hwf := HWF.out k (by have := HN.out; omega)
        have hru := right_up (HT.out.row k (by have := HN.out; omega))
        have hle := textTo_le HWF.out HSM.out k (by have := HN.out; omega)
        have hcs := HSM.out.2 k (by have := HN.out; omega)
        obtain ⟨⟨rp, ri, rf, rk, rv, rs, rc⟩, hr⟩ := name_of (at_ l k)
        have HTS := Lib.hid (textTo_succ l k)
        have HROW := Lib.hid hr
        rw [hr] at h0 h1 h2 h3 h4 h5 h6 hwf hru hcs
        obtain ⟨⟨p1, p2⟩, ⟨i1, i2⟩, ⟨f1, f2⟩, ⟨k1, k2⟩, ⟨v1, v2⟩, ⟨s1, s2⟩, c1⟩ := hwf
        obtain ⟨-, -, -, -, q1, q2, -, -⟩ := span_good hru.2.1
        dsimp only at h0 h1 h2 h3 h4 h5 h6 p1 p2 i1 i2 f1 f2 k1 k2 v1 v2 s1 s2 c1 q1 q2 hcs
        obtain ⟨o, hoo⟩ := name_of (textTo l k)
        rw [hoo] at hle ⊢
        have HOO := Lib.hid hoo
        have hol : o.length ≤ 18000 := by omega
        have gb := fun j => hB.cell (p := ⟨b, j, none⟩) hb
        have d0 := (gb _).trans h0
        have d1 := (gb _).trans h1
        have d2 := (gb _).trans h2
        have d3 := (gb _).trans h3
        have d4 := (gb _).trans h4
        have d5 := (gb _).trans h5
        have d6 := (gb _).trans h6
        have li := itoa_le ri i1 i2
        have lf := itoa_le rf f1 f2
        have lv := itoa_le rv v1 v2
        have ls := itoa_le rs s1 s2
        have lk := kindW_le rk
        have lp := itoa_le rp p1 p2
        clear h0 h1 h2 h3 h4 h5 h6 gb hru hr hoo hle c1
        obtain ⟨x0, hx0, z0⟩ := let_ o 18000 hol
        obtain ⟨ti, hti, zi⟩ := let_ _ _ li
        obtain ⟨tf, htf, zf⟩ := let_ _ _ lf
        obtain ⟨tv, htv, zv⟩ := let_ _ _ lv
        obtain ⟨ts, hts, zs⟩ := let_ _ _ ls
        obtain ⟨pp, hpp, zp⟩ := let_ _ _ lp
        obtain ⟨kw, hkw, zk⟩ : ∃ s, kindW rk = s ∧ s.size ≤ 9 := ⟨_, rfl, by simpa using lk⟩
        obtain ⟨tc, htc, zc⟩ : ∃ s, (if rc.size = 0 then (⟨#[45]⟩ : ByteArray) else rc) = s ∧ s.size ≤ 100 := ⟨_, rfl, by
          split
          · exact Nat.le_of_lt (by decide)
          · exact hcs⟩
        have hNi := fun W => number_any ri i1 i2 W
        have hNf := fun W => number_any rf f1 f2 W
        have hNv := fun W => number_any rv v1 v2 W
        have hNs := fun W => number_any rs s1 s2 W
        have hNp := fun W => number_any rp p1 p2 W
        have hNk := fun W => refKind_any rk q1 q2 W
        have hNc := fun W => refOr_any rc W
        rw [hti] at hNi
        rw [htf] at hNf
        rw [htv] at hNv
        rw [hts] at hNs
        rw [hpp] at hNp
        rw [hkw] at hNk
        rw [htc] at hNc
        rw [hx0]
        have HX0 := Lib.hid hx0
        have HI := Lib.hid hti
        have HF := Lib.hid htf
        have HV := Lib.hid htv
        have HS := Lib.hid hts
        have HPP := Lib.hid hpp
        have HKW := Lib.hid hkw
        have HCC := Lib.hid htc
        clear hx0 hti htf htv hts hpp hkw htc li lf lv ls lk lp hcs hol q1 q2 p1 p2 i1 i2 f1 f2 k1 k2 v1 v2 s1 s2
        by_cases hk0 : k = 0
        · have e1 : decide (0 < k) = false := by simp; omega
          have HK0 := Lib.hid hk0
          clear hk0
          go_wp2_with fail
          obtain ⟨s1, a1, y1⟩ := cat_ x0 ⟨#[45]⟩ 18000 21 z0 (by decide)
          have n1 : ¬ (9223372036854775807 < x0.size + 1) := by omega
          obtain ⟨s2, a2, y2⟩ := cat_ s1 ⟨#[32]⟩ 18021 1 y1 (by decide)
          have n2 : ¬ (9223372036854775807 < s1.size + 1) := by omega
          obtain ⟨s3, a3, y3⟩ := cat_ s2 ti 18022 21 y2 zi
          have n3 : ¬ (9223372036854775807 < s2.size + ti.size) := by omega
          obtain ⟨s4, a4, y4⟩ := cat_ s3 ⟨#[32]⟩ 18043 1 y3 (by decide)
          have n4 : ¬ (9223372036854775807 < s3.size + 1) := by omega
          obtain ⟨s5, a5, y5⟩ := cat_ s4 tf 18044 21 y4 zf
          have n5 : ¬ (9223372036854775807 < s4.size + tf.size) := by omega
          obtain ⟨s6, a6, y6⟩ := cat_ s5 ⟨#[32]⟩ 18065 1 y5 (by decide)
          have n6 : ¬ (9223372036854775807 < s5.size + 1) := by omega
          obtain ⟨s7, a7, y7⟩ := cat_ s6 kw 18066 9 y6 zk
          have n7 : ¬ (9223372036854775807 < s6.size + kw.size) := by omega
          obtain ⟨s8, a8, y8⟩ := cat_ s7 ⟨#[32]⟩ 18075 1 y7 (by decide)
          have n8 : ¬ (9223372036854775807 < s7.size + 1) := by omega
          obtain ⟨s9, a9, y9⟩ := cat_ s8 tv 18076 21 y8 zv
          have n9 : ¬ (9223372036854775807 < s8.size + tv.size) := by omega
          obtain ⟨s10, a10, y10⟩ := cat_ s9 ⟨#[32]⟩ 18097 1 y9 (by decide)
          have n10 : ¬ (9223372036854775807 < s9.size + 1) := by omega
          obtain ⟨s11, a11, y11⟩ := cat_ s10 ts 18098 21 y10 zs
          have n11 : ¬ (9223372036854775807 < s10.size + ts.size) := by omega
          obtain ⟨s12, a12, y12⟩ := cat_ s11 ⟨#[32]⟩ 18119 1 y11 (by decide)
          have n12 : ¬ (9223372036854775807 < s11.size + 1) := by omega
          obtain ⟨s13, a13, y13⟩ := cat_ s12 tc 18120 100 y12 zc
          have n13 : ¬ (9223372036854775807 < s12.size + tc.size) := by omega
          obtain ⟨s14, a14, y14⟩ := cat_ s13 ⟨#[10]⟩ 18220 1 y13 (by decide)
          have n14 : ¬ (9223372036854775807 < s13.size + 1) := by omega
          have HL : Hid (s14 = ⟨(textTo l (k + 1)).toArray⟩) := Lib.hid (by
            rw [HTS.out, HROW.out, HOO.out, decide_eq_true HK0.out]
            exact line_cat HX0.out rfl HI.out HF.out HKW.out HV.out HS.out HCC.out a1 a2 a3 a4 a5 a6 a7 a8 a9 a10 a11 a12 a13 a14)
          clear z0 zi zf zk zv zs zc y1 y2 y3 y4 y5 y6 y7 y8 y9 y10 y11 y12 y13 y14
          have hP := PrS.make wr rp ri rf rk rv rs rc
          have hB7 := hB.alloc hB.size (.cells #[.int .i64 rp, .int .i64 ri, .int .i64 rf, .int .i64 rk, .int .i64 rv, .int .i64 rs, .string rc] 40)
          obtain ⟨w7, hw7⟩ := name_of (wr.alloc (.cells #[.int .i64 rp, .int .i64 ri, .int .i64 rf, .int .i64 rk, .int .i64 rv, .int .i64 rs, .string rc] 40))
          rw [hw7] at hP hB7 ⊢
          have HB := Lib.hid hB
          clear hw7 d0 d1 d2 d3 d4 d5 d6 hB
          go_region_held3 (fun W => PrS wr wr.heap.size rp ri rf rk rv rs rc W) (first | assumption | exact PrS.drew ‹_› | exact PrS.next (by assumption) (by assumption)) (first | (go_at_call 35; (first | (with_reducible refine (hNi _).mono ?_) | (with_reducible refine (hNf _).mono ?_) | (with_reducible refine (hNv _).mono ?_) | (with_reducible refine (hNs _).mono ?_)); rintro e w' ⟨rfl, rfl⟩) | (go_at_call 36; (with_reducible refine (hNk _).mono ?_); rintro e w' ⟨rfl, hbk⟩) | (go_at_call 37; (with_reducible refine (hNc _).mono ?_); rintro e w' ⟨rfl, rfl⟩))
          go_wp2_with fail
          refine ⟨⟨k + 1, hlt, by go_num, by rw [HL.out], ?_⟩, by simp [intOf]; omega⟩
          exact HB.out.next (PrS.gr (b := wr.heap.size) (rp := rp) (ri := ri) (rf := rf) (rk := rk) (rv := rv) (rs := rs) (rc := rc) (by assumption))
        · have e1 : decide (0 < k) = true := by simp; omega
          have HK0 := Lib.hid hk0
          clear hk0
          go_wp2_with fail
          refine (hNp _).mono ?_
          rintro e w' ⟨rfl, rfl⟩
          go_wp2_with fail
          obtain ⟨s1, a1, y1⟩ := cat_ x0 pp 18000 21 z0 zp
          have n1 : ¬ (9223372036854775807 < x0.size + pp.size) := by omega
          obtain ⟨s2, a2, y2⟩ := cat_ s1 ⟨#[32]⟩ 18021 1 y1 (by decide)
          have n2 : ¬ (9223372036854775807 < s1.size + 1) := by omega
          obtain ⟨s3, a3, y3⟩ := cat_ s2 ti 18022 21 y2 zi
          have n3 : ¬ (9223372036854775807 < s2.size + ti.size) := by omega
          obtain ⟨s4, a4, y4⟩ := cat_ s3 ⟨#[32]⟩ 18043 1 y3 (by decide)
          have n4 : ¬ (9223372036854775807 < s3.size + 1) := by omega
          obtain ⟨s5, a5, y5⟩ := cat_ s4 tf 18044 21 y4 zf
          have n5 : ¬ (9223372036854775807 < s4.size + tf.size) := by omega
          obtain ⟨s6, a6, y6⟩ := cat_ s5 ⟨#[32]⟩ 18065 1 y5 (by decide)
          have n6 : ¬ (9223372036854775807 < s5.size + 1) := by omega
          obtain ⟨s7, a7, y7⟩ := cat_ s6 kw 18066 9 y6 zk
          have n7 : ¬ (9223372036854775807 < s6.size + kw.size) := by omega
          obtain ⟨s8, a8, y8⟩ := cat_ s7 ⟨#[32]⟩ 18075 1 y7 (by decide)
          have n8 : ¬ (9223372036854775807 < s7.size + 1) := by omega
          obtain ⟨s9, a9, y9⟩ := cat_ s8 tv 18076 21 y8 zv
          have n9 : ¬ (9223372036854775807 < s8.size + tv.size) := by omega
          obtain ⟨s10, a10, y10⟩ := cat_ s9 ⟨#[32]⟩ 18097 1 y9 (by decide)
          have n10 : ¬ (9223372036854775807 < s9.size + 1) := by omega
          obtain ⟨s11, a11, y11⟩ := cat_ s10 ts 18098 21 y10 zs
          have n11 : ¬ (9223372036854775807 < s10.size + ts.size) := by omega
          obtain ⟨s12, a12, y12⟩ := cat_ s11 ⟨#[32]⟩ 18119 1 y11 (by decide)
          have n12 : ¬ (9223372036854775807 < s11.size + 1) := by omega
          obtain ⟨s13, a13, y13⟩ := cat_ s12 tc 18120 100 y12 zc
          have n13 : ¬ (9223372036854775807 < s12.size + tc.size) := by omega
          obtain ⟨s14, a14, y14⟩ := cat_ s13 ⟨#[10]⟩ 18220 1 y13 (by decide)
          have n14 : ¬ (9223372036854775807 < s13.size + 1) := by omega
          have HL : Hid (s14 = ⟨(textTo l (k + 1)).toArray⟩) := Lib.hid (by
            rw [HTS.out, HROW.out, HOO.out, decide_eq_false HK0.out]
            exact line_cat HX0.out HPP.out HI.out HF.out HKW.out HV.out HS.out HCC.out a1 a2 a3 a4 a5 a6 a7 a8 a9 a10 a11 a12 a13 a14)
          clear z0 zi zf zk zv zs zc y1 y2 y3 y4 y5 y6 y7 y8 y9 y10 y11 y12 y13 y14 zp
          have hP := PrS.make wr rp ri rf rk rv rs rc
          have hB7 := hB.alloc hB.size (.cells #[.int .i64 rp, .int .i64 ri, .int .i64 rf, .int .i64 rk, .int .i64 rv, .int .i64 rs, .string rc] 40)
          obtain ⟨w7, hw7⟩ := name_of (wr.alloc (.cells #[.int .i64 rp, .int .i64 ri, .int .i64 rf, .int .i64 rk, .int .i64 rv, .int .i64 rs, .string rc] 40))
          rw [hw7] at hP hB7 ⊢
          have HB := Lib.hid hB
          clear hw7 d0 d1 d2 d3 d4 d5 d6 hB
          go_region_held3 (fun W => PrS wr wr.heap.size rp ri rf rk rv rs rc W) (first | assumption | exact PrS.drew ‹_› | exact PrS.next (by assumption) (by assumption)) (first | (go_at_call 35; (first | (with_reducible refine (hNi _).mono ?_) | (with_reducible refine (hNf _).mono ?_) | (with_reducible refine (hNv _).mono ?_) | (with_reducible refine (hNs _).mono ?_)); rintro e w' ⟨rfl, rfl⟩) | (go_at_call 36; (with_reducible refine (hNk _).mono ?_); rintro e w' ⟨rfl, hbk⟩) | (go_at_call 37; (with_reducible refine (hNc _).mono ?_); rintro e w' ⟨rfl, rfl⟩))
          go_wp2_with fail
          refine ⟨⟨k + 1, hlt, by go_num, by rw [HL.out], ?_⟩, by simp [intOf]; omega⟩
          exact HB.out.next (PrS.gr (b := wr.heap.size) (rp := rp) (ri := ri) (rf := rf) (rk := rk) (rv := rv) (rs := rs) (rc := rc) (by assumption))
      · obtain rfl : k = n := by omega
        have hle := textTo_le HWF.out HSM.out k (by have := HN.out; omega)
        obtain ⟨o, hoo⟩ := name_of (textTo l k)
        rw [hoo] at hle ⊢
        have hol : o.length ≤ 18000 := by omega
        have HOO := Lib.hid hoo
        clear hoo hle
        go_wp2_with fail
        go_ret2
        exact ⟨by rw [HPT.out, HE.out, HOO.out, HE0.out]; rfl, hB⟩
  · have e0 : (E != 0) = true := by simpa using hE0
    have HPT : Hid (printT l = []) := Lib.hid (by rw [printT, if_neg (fun e => hE0 (HE.out.symm.trans e))])
    clear hE0
    go_enter Tryd.func18, Tryd.ntmps18
    go_wp2_with fail
    refine hC.mono ?_
    rintro e w1 ⟨rfl, hb1⟩
    go_wp2_with fail
    go_ret2
    exact ⟨by rw [HPT.out, HE.out]; rfl, hb1⟩
end P7
end Go.Proofs.YtlpkfklbdofmeaaDoor
