/- Walks: table.became, grown, Grown. -/
import Derived.Test.YthpfoegmoldkgaaGreatDoorT7k
import Derived.Test.YthpfoegmoldkgaaGreatDoorT7e
import Derived.Deep.RegionHeld3
namespace Go.Proofs.YthpfoegmoldkgaaGreatDoor
open Go.RowKit
namespace P7

def noP (r : Row) : Row := ⟨0, r.i, r.f, r.k, r.v, r.s, r.c⟩
def becameT (r s : Row) (a b : Nat) : Bool :=
  if r.i ≠ s.i ∨ r.f ≠ s.f ∨ b < a then false
  else if came r = true then decide (noP r = noP s) && decide (b = a)
  else if r.k = 1 then decide (s.k ≠ 0 ∧ r.s ≤ s.s) && Lib.hasPrefix s.c.data.toList r.c.data.toList
  else true

set_option maxRecDepth 10000 in
set_option maxHeartbeats 4000000 in
theorem became_any (r s : Row) (a b : Nat) (w : World) : Calls Tryz.prog 39 #[rowV r, rowV s, .int .i64 a, .int .i64 b] w fun e w' => e = .returned (.bool (becameT r s a b)) ∧ Below w.heap.size w w' := by
  obtain ⟨rp, ri, rf, rk, rv, rs, rc⟩ := r
  obtain ⟨sp, si, sf, sk, sv, ss, sc⟩ := s
  have hE := fun W => eq_row ⟨0, ri, rf, rk, rv, rs, rc⟩ ⟨0, si, sf, sk, sv, ss, sc⟩ W
  unfold rowV at hE
  show Calls _ _ #[.agg #[.int .i64 rp, .int .i64 ri, .int .i64 rf, .int .i64 rk, .int .i64 rv, .int .i64 rs, .string rc], .agg #[.int .i64 sp, .int .i64 si, .int .i64 sf, .int .i64 sk, .int .i64 sv, .int .i64 ss, .string sc], .int .i64 a, .int .i64 b] _ _
  have hB0 : Below w.heap.size w ((w.alloc (.cells #[.int .i64 0, .int .i64 ri, .int .i64 rf, .int .i64 rk, .int .i64 rv, .int .i64 rs, .string rc] 34)).alloc (.cells #[.int .i64 0, .int .i64 si, .int .i64 sf, .int .i64 sk, .int .i64 sv, .int .i64 ss, .string sc] 34)) := by go_grown
  have hC := came_any ⟨0, ri, rf, rk, rv, rs, rc⟩ ((w.alloc (.cells #[.int .i64 0, .int .i64 ri, .int .i64 rf, .int .i64 rk, .int .i64 rv, .int .i64 rs, .string rc] 34)).alloc (.cells #[.int .i64 0, .int .i64 si, .int .i64 sf, .int .i64 sk, .int .i64 sv, .int .i64 ss, .string sc] 34))
  have k0 := Lib.hid (heap_alloc2_old w (.cells #[.int .i64 0, .int .i64 ri, .int .i64 rf, .int .i64 rk, .int .i64 rv, .int .i64 rs, .string rc] 34) (.cells #[.int .i64 0, .int .i64 si, .int .i64 sf, .int .i64 sk, .int .i64 sv, .int .i64 ss, .string sc] 34))
  have k1 := Lib.hid (heap_alloc2_new w (.cells #[.int .i64 0, .int .i64 ri, .int .i64 rf, .int .i64 rk, .int .i64 rv, .int .i64 rs, .string rc] 34) (.cells #[.int .i64 0, .int .i64 si, .int .i64 sf, .int .i64 sk, .int .i64 sv, .int .i64 ss, .string sc] 34))
  have HB := Lib.hid hB0
  clear hB0
  by_cases hi : ri = si
  · by_cases hf : rf = sf
    · by_cases hba : b < a
      · have e1 : (ri != si) = false := by simpa using hi
        have e2 : (rf != sf) = false := by simpa using hf
        have HV : Hid (becameT ⟨rp, ri, rf, rk, rv, rs, rc⟩ ⟨sp, si, sf, sk, sv, ss, sc⟩ a b = false) := Lib.hid (by rw [becameT, if_pos (.inr (.inr hba))])
        clear hi hf hC hE
        go_enter Tryz.func39, Tryz.ntmps39
        go_wp2_with fail
        go_ret
        exact ⟨ret_bool HV.out.symm, HB.out⟩
      · have e1 : (ri != si) = false := by simpa using hi
        have e2 : (rf != sf) = false := by simpa using hf
        have e3 : decide (b < a) = false := by simpa using hba
        have HV0 : Hid (∀ v : Bool, (if came ⟨rp, ri, rf, rk, rv, rs, rc⟩ = true then decide (noP ⟨rp, ri, rf, rk, rv, rs, rc⟩ = noP ⟨sp, si, sf, sk, sv, ss, sc⟩) && decide (b = a) else if rk = 1 then decide (sk ≠ 0 ∧ rs ≤ ss) && Lib.hasPrefix sc.data.toList rc.data.toList else true) = v → becameT ⟨rp, ri, rf, rk, rv, rs, rc⟩ ⟨sp, si, sf, sk, sv, ss, sc⟩ a b = v) := Lib.hid (fun v hv => by
          rw [becameT, if_neg (by simp only; omega)]
          exact hv)
        clear hi hf hba
        by_cases hk : 2 ≤ rk
        · have hc : came ⟨0, ri, rf, rk, rv, rs, rc⟩ = true := decide_eq_true hk
          have HV := Lib.hid (HV0.out _ (if_pos (show came ⟨rp, ri, rf, rk, rv, rs, rc⟩ = true from hc)))
          rw [hc] at hC
          clear hc
          go_enter Tryz.func39, Tryz.ntmps39
          go_wp2_with fail
          refine hC.mono ?_
          rintro e w3 ⟨rfl, hb3⟩
          have c0 := fun j => cell_of_row w3 w.heap.size j _ _ _ (blk_next k0.out hb3)
          have c1 := fun j => cell_of_row w3 (w.heap.size + 1) j _ _ _ (blk_next k1.out hb3)
          have hB3 := HB.out.next hb3
          clear hC hb3
          obtain ⟨t, ht⟩ := name_of (decide ((⟨0, ri, rf, rk, rv, rs, rc⟩ : Row) = ⟨0, si, sf, sk, sv, ss, sc⟩))
          rw [ht] at hE
          have HTT : Hid (becameT ⟨rp, ri, rf, rk, rv, rs, rc⟩ ⟨sp, si, sf, sk, sv, ss, sc⟩ a b = (t && decide (b = a))) := Lib.hid (by rw [HV.out, ← ht]; rfl)
          clear ht
          by_cases hab : b = a
          · have f1 : ((b : Int) == a) = true := by simp; omega
            have f2 : decide (b = a) = true := by simpa using hab
            have HF := Lib.hid f2
            clear hab
            cases t
            · go_wp2_with fail
              go_ret
              exact ⟨ret_bool (by rw [HTT.out]; rfl), hB3⟩
            · go_wp2_with fail
              go_ret
              exact ⟨ret_bool (by rw [HTT.out, HF.out]; rfl), hB3⟩
          · have f1 : ((b : Int) == a) = false := by simp; omega
            have f2 : decide (b = a) = false := by simpa using hab
            have HF := Lib.hid f2
            clear hab f2
            cases t
            · go_wp2_with fail
              go_ret
              exact ⟨ret_bool (by rw [HTT.out]; rfl), hB3⟩
            · go_wp2_with fail
              go_ret
              exact ⟨ret_bool (by rw [HTT.out, HF.out]; rfl), hB3⟩
        · have hc : came ⟨0, ri, rf, rk, rv, rs, rc⟩ = false := decide_eq_false hk
          have HV1 := Lib.hid (fun v hv => HV0.out v ((if_neg (show ¬ came ⟨rp, ri, rf, rk, rv, rs, rc⟩ = true from by rw [show came ⟨rp, ri, rf, rk, rv, rs, rc⟩ = false from hc]; decide)).trans hv))
          rw [hc] at hC
          clear hc hE
          go_enter Tryz.func39, Tryz.ntmps39
          go_wp2_with fail
          refine hC.mono ?_
          rintro e w3 ⟨rfl, hb3⟩
          have c0 := fun j => cell_of_row w3 w.heap.size j _ _ _ (blk_next k0.out hb3)
          have c1 := fun j => cell_of_row w3 (w.heap.size + 1) j _ _ _ (blk_next k1.out hb3)
          have hB3 := HB.out.next hb3
          clear hC hb3
          by_cases hk1 : rk = 1
          · have f1 : (rk == 1) = true := by simpa using hk1
            have HV := Lib.hid (fun v hv => HV1.out v ((if_pos hk1).trans hv))
            clear hk1
            by_cases hk0 : sk = 0
            · have f2 : (sk != 0) = false := by simpa using hk0
              have HR := Lib.hid (HV.out false (by rw [decide_eq_false (fun h => h.1 hk0)]; rfl))
              clear hk0
              go_wp2_with fail
              go_ret
              exact ⟨ret_bool HR.out.symm, hB3⟩
            · have f2 : (sk != 0) = true := by simpa using hk0
              by_cases hss : rs ≤ ss
              · have hP := fun W => Tryz.strings_HasPrefix sc rc W
                have HR := Lib.hid (HV.out (Lib.hasPrefix sc.data.toList rc.data.toList) (by rw [decide_eq_true ⟨hk0, hss⟩]; rfl))
                clear hk0
                go_wp2_with fail
                refine (hP _).mono ?_
                rintro e w4 ⟨rfl, rfl⟩
                go_wp2_with fail
                go_ret
                exact ⟨ret_bool HR.out.symm, hB3⟩
              · have HR := Lib.hid (HV.out false (by rw [decide_eq_false (fun h => hss h.2)]; rfl))
                clear hk0
                go_wp2_with fail
                go_ret
                exact ⟨ret_bool HR.out.symm, hB3⟩
          · have f1 : (rk == 1) = false := by simpa using hk1
            have HR := Lib.hid (HV1.out true (if_neg hk1))
            clear hk1
            go_wp2_with fail
            go_ret
            exact ⟨ret_bool HR.out.symm, hB3⟩
    · have e1 : (ri != si) = false := by simpa using hi
      have e2 : (rf != sf) = true := by simpa using hf
      have HV : Hid (becameT ⟨rp, ri, rf, rk, rv, rs, rc⟩ ⟨sp, si, sf, sk, sv, ss, sc⟩ a b = false) := Lib.hid (by rw [becameT, if_pos (.inr (.inl hf))])
      clear hi hf hC hE
      go_enter Tryz.func39, Tryz.ntmps39
      go_wp2_with fail
      go_ret
      exact ⟨ret_bool HV.out.symm, HB.out⟩
  · have e1 : (ri != si) = true := by simpa using hi
    have HV : Hid (becameT ⟨rp, ri, rf, rk, rv, rs, rc⟩ ⟨sp, si, sf, sk, sv, ss, sc⟩ a b = false) := Lib.hid (by rw [becameT, if_pos (.inl hi)])
    clear hi hC hE
    go_enter Tryz.func39, Tryz.ntmps39
    go_wp2_with fail
    go_ret
    exact ⟨ret_bool HV.out.symm, HB.out⟩

/-! ### grown -/
def grownT (l m : List Row) : Nat → Nat → Nat → Bool
  | 0, _, _ => false
  | f + 1, i, k => becameT (at_ l i) (at_ m k) (kids l i).length (kids m k).length && (List.range (kids l i).length).all fun n => grownT l m f ((kids l i).getD n 0) ((kids m k).getD n 0)
theorem kids_mem {l : List Row} {i : Int} {j : Nat} : j ∈ kids l i ↔ j < l.length ∧ (at_ l j).p = i := by simp [kids, kidsTo]
theorem kids_at {l : List Row} {i : Int} {n : Nat} (h : n < (kids l i).length) : (kids l i).getD n 0 < l.length ∧ (at_ l ((kids l i).getD n 0)).p = i := by
  rw [List.getD_eq_getElem?_getD, List.getElem?_eq_getElem h, Option.getD_some]
  exact kids_mem.1 (List.getElem_mem h)
theorem became_more {r s : Row} {a b : Nat} (h : becameT r s a b = true) : a ≤ b := by
  unfold becameT at h
  split at h
  · cases h
  · omega

abbrev TwoS (W0 : World) (g go h ho : Nat) (rp ri rf rk rv rs : Int) (rc : ByteArray) (sp si sf sk sv ss : Int) (sc : ByteArray) (W : World) : Prop :=
  Below W0.heap.size W0 W ∧ W.cell? ⟨g, go, none⟩ = some (.int .i64 rp) ∧ W.cell? ⟨g, go + 1, none⟩ = some (.int .i64 ri) ∧ W.cell? ⟨g, go + 2, none⟩ = some (.int .i64 rf) ∧ W.cell? ⟨g, go + 3, none⟩ = some (.int .i64 rk) ∧ W.cell? ⟨g, go + 4, none⟩ = some (.int .i64 rv) ∧ W.cell? ⟨g, go + 5, none⟩ = some (.int .i64 rs) ∧ W.cell? ⟨g, go + 6, none⟩ = some (.string rc) ∧ W.cell? ⟨h, ho, none⟩ = some (.int .i64 sp) ∧ W.cell? ⟨h, ho + 1, none⟩ = some (.int .i64 si) ∧ W.cell? ⟨h, ho + 2, none⟩ = some (.int .i64 sf) ∧ W.cell? ⟨h, ho + 3, none⟩ = some (.int .i64 sk) ∧ W.cell? ⟨h, ho + 4, none⟩ = some (.int .i64 sv) ∧ W.cell? ⟨h, ho + 5, none⟩ = some (.int .i64 ss) ∧ W.cell? ⟨h, ho + 6, none⟩ = some (.string sc)
section
variable {W0 W W' : World} {g go h ho : Nat} {rp ri rf rk rv rs : Int} {rc : ByteArray} {sp si sf sk sv ss : Int} {sc : ByteArray}
theorem TwoS.gr (h0 : TwoS W0 g go h ho rp ri rf rk rv rs rc sp si sf sk sv ss sc W) : Below W0.heap.size W0 W := h0.1
theorem TwoS.next (h0 : TwoS W0 g go h ho rp ri rf rk rv rs rc sp si sf sk sv ss sc W) (hb : Below W.heap.size W W') (hg : g < W0.heap.size) (hh : h < W0.heap.size) : TwoS W0 g go h ho rp ri rf rk rv rs rc sp si sf sk sv ss sc W' := by
  obtain ⟨h0, r0, r1, r2, r3, r4, r5, r6, s0, s1, s2, s3, s4, s5, s6⟩ := h0
  have k := fun j => hb.cell (p := ⟨g, j, none⟩) (Nat.lt_of_lt_of_le hg h0.size)
  have q := fun j => hb.cell (p := ⟨h, j, none⟩) (Nat.lt_of_lt_of_le hh h0.size)
  exact ⟨h0.next hb, (k _).trans r0, (k _).trans r1, (k _).trans r2, (k _).trans r3, (k _).trans r4, (k _).trans r5, (k _).trans r6, (q _).trans s0, (q _).trans s1, (q _).trans s2, (q _).trans s3, (q _).trans s4, (q _).trans s5, (q _).trans s6⟩
theorem below_drew' {w : World} : Below w.heap.size w w.drew := ⟨rfl, rfl, rfl, Nat.le_refl _, fun _ _ => rfl⟩
end
abbrev OneS (W0 : World) (g go h ho x y : Nat) (W : World) : Prop := Below W0.heap.size W0 W ∧ W.cell? ⟨g, go, none⟩ = some (.int .i64 x) ∧ W.cell? ⟨h, ho, none⟩ = some (.int .i64 y)
theorem OneS.next {W0 W W' : World} {g go h ho x y : Nat} (h0 : OneS W0 g go h ho x y W) (hb : Below W.heap.size W W') (hg : g < W0.heap.size) (hh : h < W0.heap.size) : OneS W0 g go h ho x y W' :=
  ⟨h0.1.next hb, (hb.cell (p := ⟨g, go, none⟩) (Nat.lt_of_lt_of_le hg h0.1.size)).trans h0.2.1, (hb.cell (p := ⟨h, ho, none⟩) (Nat.lt_of_lt_of_le hh h0.1.size)).trans h0.2.2⟩
theorem OneS.gr {W0 W : World} {g go h ho x y : Nat} (h0 : OneS W0 g go h ho x y W) : Below W0.heap.size W0 W := h0.1

def GrwR (w : World) (a b : List Nat) (G : Nat → Nat → Bool) (n : Nat) (i : Value) (wr : World) : Prop := ∃ j : Nat, j ≤ n ∧ i = .int .i64 j ∧ (∀ q, q < j → G (a.getD q 0) (b.getD q 0) = true) ∧ Below w.heap.size w wr

set_option maxRecDepth 10000 in
set_option maxHeartbeats 4000000 in
theorem grown_any {l m : List Row} (hT : Tab l) (hl60 : l.length ≤ 60) (hm60 : m.length ≤ 60) : ∀ (f i k : Nat) (w : World) (vl vm : Value), Sl w w.heap.size 7 vl (rowsC l) → Sl w w.heap.size 7 vm (rowsC m) → i < l.length → k < m.length → l.length ≤ i + f →
    Calls Tryz.prog 23 #[vl, vm, .int .i64 i, .int .i64 k] w fun e w' => e = .returned (.bool (grownT l m f i k)) ∧ Below w.heap.size w w' := by
  intro f
  induction f with
  | zero => intro i k w vl vm _ _ hi _ hf; omega
  | succ f ih =>
    intro i k w vl vm hL hM hi hk hf
    have HIH := Lib.hid ih
    have HU := Lib.hid hT.up
    clear ih hT
    obtain ⟨Al, cl, rfl, hcl, hol⟩ := rows_open hL
    obtain ⟨Am, cm, rfl, hcm, hom⟩ := rows_open hM
    have HOL := Lib.hid (fun q hq => hol q hq)
    have HOM := Lib.hid (fun q hq => hom q hq)
    have HL := Lib.hid hL
    have HM := Lib.hid hM
    have hK1 := kids_any hL (by omega) (i : Int)
    obtain ⟨nl, hnl⟩ := name_of l.length
    obtain ⟨nm, hnm⟩ := name_of m.length
    have HNL := Lib.hid hnl
    have HNM := Lib.hid hnm
    rw [hnl] at hK1 HL hcl hl60 hi hf ⊢
    rw [hnm] at HM hcm hm60 hk ⊢
    clear hol hom hL hM hnl hnm
    go_enter Tryz.func23, Tryz.ntmps23
    go_wp2_with fail
    refine hK1.mono ?_
    rintro e w1 ⟨⟨A1, c1, rfl, hs1⟩, hb1⟩
    have hK2 := kids_any (HM.out.next hb1) (by have := HNM.out; omega) (k : Int)
    clear hK1
    go_wp2_with fail
    refine hK2.mono ?_
    rintro e w2 ⟨⟨A2, c2, rfl, hs2⟩, hb2⟩
    have hs1' := hs1.next hb2
    have hB2 := hb1.next hb2
    clear hK2 hs1 hb1 hb2
    obtain ⟨g, go, rfl, hg, r0, r1, r2, r3, r4, r5, r6⟩ := HOL.out i (by have := HNL.out; omega)
    obtain ⟨h, ho, rfl, hh, s0, s1, s2, s3, s4, s5, s6⟩ := HOM.out k (by have := HNM.out; omega)
    obtain ⟨⟨rp, ri, rf, rk, rv, rs, rc⟩, hr⟩ := name_of (at_ l i)
    obtain ⟨⟨sp, si, sf, sk, sv, ss, sc⟩, hsr⟩ := name_of (at_ m k)
    rw [hr] at r0 r1 r2 r3 r4 r5 r6
    rw [hsr] at s0 s1 s2 s3 s4 s5 s6
    dsimp only at r0 r1 r2 r3 r4 r5 r6 s0 s1 s2 s3 s4 s5 s6
    have q := fun j => hB2.cell (p := ⟨g, j, none⟩) hg
    have q' := fun j => hB2.cell (p := ⟨h, j, none⟩) hh
    have hg2 : g < w2.heap.size := Nat.lt_of_lt_of_le hg hB2.size
    have hh2 : h < w2.heap.size := Nat.lt_of_lt_of_le hh hB2.size
    have hS : TwoS w2 g (go + i * 7) h (ho + k * 7) rp ri rf rk rv rs rc sp si sf sk sv ss sc w2 := ⟨Below.refl _ _, (q _).trans r0, (q _).trans r1, (q _).trans r2, (q _).trans r3, (q _).trans r4, (q _).trans r5, (q _).trans r6, (q' _).trans s0, (q' _).trans s1, (q' _).trans s2, (q' _).trans s3, (q' _).trans s4, (q' _).trans s5, (q' _).trans s6⟩
    have hSd := hS.next below_drew' hg2 hh2
    obtain ⟨a, haa⟩ := name_of (kids l (i : Int)).length
    obtain ⟨b, hbb⟩ := name_of (kids m (k : Int)).length
    obtain ⟨t, ht⟩ := name_of (becameT (at_ l i) (at_ m k) a b)
    have hBc : ∀ W, Calls Tryz.prog 39 #[.agg #[.int .i64 rp, .int .i64 ri, .int .i64 rf, .int .i64 rk, .int .i64 rv, .int .i64 rs, .string rc], .agg #[.int .i64 sp, .int .i64 si, .int .i64 sf, .int .i64 sk, .int .i64 sv, .int .i64 ss, .string sc], .int .i64 a, .int .i64 b] W fun e w' => e = .returned (.bool t) ∧ Below W.heap.size W w' := fun W => by
      rw [← ht, hr, hsr]
      exact became_any ⟨rp, ri, rf, rk, rv, rs, rc⟩ ⟨sp, si, sf, sk, sv, ss, sc⟩ a b W
    rw [haa] at hs1' ⊢
    rw [hbb] at hs2 ⊢
    have HA := Lib.hid haa
    have HB := Lib.hid hbb
    have HT := Lib.hid ht
    have HB2 := Lib.hid hB2
    have HG : Hid (grownT l m (f + 1) i k = (t && (List.range a).all fun n => grownT l m f ((kids l i).getD n 0) ((kids m k).getD n 0))) := Lib.hid (by rw [grownT, haa, hbb, ht])
    clear r0 r1 r2 r3 r4 r5 r6 s0 s1 s2 s3 s4 s5 s6 q q' haa hbb ht hB2 hS hr hsr
    cases t
    · go_wp2_with fail
      go_region_held3 (fun W => TwoS w2 g (go + i * 7) h (ho + k * 7) rp ri rf rk rv rs rc sp si sf sk sv ss sc W) (first | assumption | exact TwoS.next (by assumption) (by assumption) (by assumption) (by assumption)) (first | (go_at_call 39; (with_reducible refine (hBc _).mono ?_); rintro e w3 ⟨rfl, hb3⟩; have hB23 := (below_drew' (w := w2)).next hb3))
      go_wp2_with fail
      go_ret
      exact ⟨ret_bool (by rw [HG.out]; rfl), HB2.out.next hB23⟩
    · have hab := became_more HT.out
      have ha60 : a ≤ 60 := by
        have := kidsTo_len l (i : Int) l.length
        have h1 := HA.out
        have h2 := HNL.out
        unfold kids at h1
        omega
      have hb60 : b ≤ 60 := by
        have := kidsTo_len m (k : Int) m.length
        have h1 := HB.out
        have h2 := HNM.out
        unfold kids at h1
        omega
      have HS1 := Lib.hid hs1'
      have HS2 := Lib.hid hs2
      clear hs1' hs2
      go_wp2_with fail
      go_region_held3 (fun W => TwoS w2 g (go + i * 7) h (ho + k * 7) rp ri rf rk rv rs rc sp si sf sk sv ss sc W) (first | assumption | exact TwoS.next (by assumption) (by assumption) (by assumption) (by assumption)) (first | (go_at_call 39; (with_reducible refine (hBc _).mono ?_); rintro e w3 ⟨rfl, hb3⟩; have hB23 := (below_drew' (w := w2)).next hb3))
      go_wp2_with fail
      clear hSd hBc
      go_loopw [34] (fun i' wr => GrwR w2 (kids l i) (kids m k) (grownT l m f) a i' wr) (fun i' _ => a - (intOf i').toNat)
      case atStart => exact ⟨0, Nat.zero_le _, rfl, fun q hq => by omega, hB23⟩
      case round =>
        obtain ⟨j, hj, rfl, hall, hBr⟩ := hrel
        have HALL := Lib.hid hall
        clear hall
        by_cases hlt : j < a
        · obtain ⟨A', n', c', he, -, -, hA'⟩ := HS1.out.next hBr
          injection he with e1 e2 e3
          subst e1 e2 e3
          obtain ⟨x, xo, rfl, hx, hxr⟩ := hA' (by omega)
          obtain ⟨A'', n'', c'', he2, -, -, hA''⟩ := HS2.out.next hBr
          injection he2 with e1 e2 e3
          subst e1 e2 e3
          obtain ⟨y, yo, rfl, hy, hyr⟩ := hA'' (by omega)
          have gx := range_iv hxr j (by have := HA.out; omega)
          have gy := range_iv hyr j (by have := HB.out; omega)
          have kx := kids_at (l := l) (i := (i : Int)) (n := j) (by have := HA.out; omega)
          have ky := kids_at (l := m) (i := (k : Int)) (n := j) (by have := HB.out; omega)
          obtain ⟨x1, hx1⟩ := name_of ((kids l (i : Int)).getD j 0)
          obtain ⟨y1, hy1⟩ := name_of ((kids m (k : Int)).getD j 0)
          rw [hx1] at gx kx
          rw [hy1] at gy ky
          have hup := HU.out x1 kx.1 kx.1
          rw [kx.2] at hup
          have hBd := (HB2.out.next hBr).next below_drew'
          have hGd := HIH.out x1 y1 wr.drew _ _ (HL.out.next hBd) (HM.out.next hBd) kx.1 ky.1 (by have := HNL.out; omega)
          obtain ⟨t1, ht1⟩ := name_of (grownT l m f x1 y1)
          rw [ht1] at hGd
          have HX1 := Lib.hid hx1
          have HY1 := Lib.hid hy1
          have HT1 := Lib.hid ht1
          have hS1 : OneS wr x (xo + j) y (yo + j) x1 y1 wr := ⟨Below.refl _ _, gx, gy⟩
          have hS1d := hS1.next below_drew' hx hy
          have HBR := Lib.hid hBr
          have hjb : j < b := Nat.lt_of_lt_of_le hlt hab
          clear hA' hA'' hxr hyr gx gy kx ky hx1 hy1 ht1 hS1 hBd hup hBr
          cases t1
          · go_wp2_with fail
            go_region_held3 (fun W => OneS wr x (xo + j) y (yo + j) x1 y1 W) (first | assumption | exact OneS.next (by assumption) (by assumption) (by assumption) (by assumption)) (first | (go_at_call 23; (with_reducible refine hGd.mono ?_); rintro e w5 ⟨rfl, hb5⟩; have hB25 := (HBR.out.next below_drew').next hb5))
            go_wp2_with fail
            go_ret
            refine ⟨ret_bool ?_, HB2.out.next hB25⟩
            rw [HG.out, Bool.true_and]
            symm
            rw [List.all_eq_false]
            exact ⟨j, List.mem_range.2 hlt, by rw [HX1.out, HY1.out, HT1.out]; simp⟩
          · go_wp2_with fail
            go_region_held3 (fun W => OneS wr x (xo + j) y (yo + j) x1 y1 W) (first | assumption | exact OneS.next (by assumption) (by assumption) (by assumption) (by assumption)) (first | (go_at_call 23; (with_reducible refine hGd.mono ?_); rintro e w5 ⟨rfl, hb5⟩; have hB25 := (HBR.out.next below_drew').next hb5))
            go_wp2_with fail
            refine ⟨⟨j + 1, hlt, by go_num, fun q hq => ?_, hB25⟩, by simp [intOf]; omega⟩
            by_cases e : q = j
            · subst e; rw [HX1.out, HY1.out, HT1.out]
            · exact HALL.out q (by omega)
        · obtain rfl : j = a := by omega
          go_wp2_with fail
          go_ret
          refine ⟨ret_bool ?_, HB2.out.next hBr⟩
          rw [HG.out, Bool.true_and]
          symm
          rw [List.all_eq_true]
          intro q hq
          exact HALL.out q (List.mem_range.1 hq)

/-- What Grown answers. -/
def GrownT (l m : List Row) : Bool := decide (chk (l.length + 1) l = 0) && decide (chk (m.length + 1) m = 0) && grownT l m l.length 0 0
set_option maxHeartbeats 1000000 in
theorem grownAll_any {w : World} {vl vm : Value} {l m : List Row} (hL : Sl w w.heap.size 7 vl (rowsC l)) (hM : Sl w w.heap.size 7 vm (rowsC m)) (hl : Small l) (hm : Small m) :
    Calls Tryz.prog 10 #[vl, vm] w fun e w' => e = .returned (.bool (GrownT l m)) ∧ Below w.heap.size w w' := by
  have hC := checkT_any hL hl
  obtain ⟨Al, cl, rfl, -, -⟩ := rows_open hL
  obtain ⟨Am, cm, rfl, -, -⟩ := rows_open hM
  obtain ⟨E, hE⟩ := name_of (chk (l.length + 1) l)
  obtain ⟨F, hF⟩ := name_of (chk (m.length + 1) m)
  rw [hE] at hC
  have HE := Lib.hid hE
  have HF := Lib.hid hF
  have HL := Lib.hid hL
  have HM := Lib.hid hM
  have HG : Hid (∀ v : Bool, (decide (E = 0) && decide (F = 0) && grownT l m l.length 0 0) = v → GrownT l m = v) := Lib.hid (fun v h => by rw [GrownT, hE, hF]; exact h)
  clear hE hF hL hM
  by_cases hE0 : E = 0
  · have e0 : (E == 0) = true := by simpa using hE0
    have HE0 := Lib.hid hE0
    clear hE0
    go_enter Tryz.func10, Tryz.ntmps10
    go_wp2_with fail
    refine hC.mono ?_
    rintro e w1 ⟨rfl, hb1⟩
    have hC2 := checkT_any (HM.out.next hb1) hm
    rw [HF.out] at hC2
    clear hC
    go_wp2_with fail
    refine hC2.mono ?_
    rintro e w2 ⟨rfl, hb2⟩
    have hB2 := hb1.next hb2
    clear hC2 hb1 hb2
    by_cases hF0 : F = 0
    · have f0 : (F == 0) = true := by simpa using hF0
      have HF0 := Lib.hid hF0
      have hTl : Tab l := HE.out.trans HE0.out
      have hTm : Tab m := HF.out.trans hF0
      have hG := grown_any hTl hl.1 hm.1 l.length 0 0 w2 _ _ (HL.out.next hB2) (HM.out.next hB2) hTl.pos hTm.pos (by omega)
      have HGG := Lib.hid (HG.out (grownT l m l.length 0 0) (by rw [decide_eq_true HE0.out, decide_eq_true hF0]; rfl))
      clear hF0 hTl hTm
      go_wp2_with fail
      refine hG.mono ?_
      rintro e w3 ⟨rfl, hb3⟩
      go_wp2_with fail
      go_ret
      exact ⟨ret_bool HGG.out.symm, hB2.next hb3⟩
    · have f0 : (F == 0) = false := by simpa using hF0
      have HGG := Lib.hid (HG.out false (by rw [decide_eq_false hF0]; simp))
      clear hF0
      go_wp2_with fail
      go_ret
      exact ⟨ret_bool HGG.out.symm, hB2⟩
  · have e0 : (E == 0) = false := by simpa using hE0
    have HGG := Lib.hid (HG.out false (by rw [decide_eq_false hE0]; simp))
    clear hE0
    go_enter Tryz.func10, Tryz.ntmps10
    go_wp2_with fail
    refine hC.mono ?_
    rintro e w1 ⟨rfl, hb1⟩
    go_wp2_with fail
    go_ret
    exact ⟨ret_bool HGG.out.symm, hb1⟩
end P7
end Go.Proofs.YthpfoegmoldkgaaGreatDoor
