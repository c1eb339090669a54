/- Merged: T7k T7l T7r T7t Un Uo. -/
import Derived.Test.YtajbchecjbddgaaGreatDoorT7g
import Derived.Test.YtajbchecjbddgaaGreatDoorH1
import Derived.Test.YtajbchecjbddgaaGreatDoorH2
import Derived.Deep.RegionHeld3
import Derived.Test.YtajbchecjbddgaaGreatDoorU1
/- Two rows held against one another; Rows of layer 6. -/
namespace Go.Proofs.YtajbchecjbddgaaGreatDoor
open Go.RowKit PC
namespace P7

theorem eq_row (i j : Row) (w : World) : (Op.equalIn 10000 69 (rowV i) (rowV j)).run Tryz.prog w = .ok (decide (i = j)) w := by
  obtain ⟨a, b, c, d, e, f, g⟩ := i
  obtain ⟨a', b', c', d', e', f', g'⟩ := j
  unfold rowV
  rw [run_equalIn_agg w 9999 69 _ _ (by kernel_rfl) (by kernel_rfl)]
  rw [show (Tryz.prog.fieldsOf 69).toList = [⟨"Parent", 3, 0, false, "", "", 0⟩, ⟨"In", 3, 1, false, "", "", 8⟩, ⟨"Func", 3, 2, false, "", "", 16⟩, ⟨"Kind", 3, 3, false, "", "", 24⟩, ⟨"V", 2, 4, false, "", "", 32⟩, ⟨"Steps", 3, 5, false, "", "", 40⟩, ⟨"Closes", 9, 6, false, "", "", 48⟩] from by kernel_rfl]
  have hi : ∀ (x y : Int) w, (Op.equalIn 9999 3 (.int .i64 x) (.int .i64 y)).run Tryz.prog w = .ok (x == y) w := fun x y w => run_equalIn_int w 9998 _ .i64 .i64 x y Tryz.underlying3
  have hi' : ∀ (x y : Int) w, (Op.equalIn 9999 2 (.int .i64 x) (.int .i64 y)).run Tryz.prog w = .ok (x == y) w := fun x y w => run_equalIn_int w 9998 _ .i64 .i64 x y Tryz.underlying2
  have hs : ∀ (x y : ByteArray) w, (Op.equalIn 9999 9 (.string x) (.string y)).run Tryz.prog w = .ok (decide (x = y)) w := fun x y w => by
    rw [run_equalIn_string w 9998 _ x y Tryz.underlying9]
    by_cases h : x = y
    · rw [decide_eq_true h, h, str_beq]
    · rw [decide_eq_false h, str_bne h]
  have p0 : ∀ (cs : Array Value) (k : Nat) (v : Value) w, cs[k]? = some v → (part 3 cs k).run Tryz.prog w = .ok v w := by
    intro cs k v w h
    simp [part, h]
  have p1 : ∀ (cs : Array Value) (k : Nat) (v : Value) w, cs[k]? = some v → (part 2 cs k).run Tryz.prog w = .ok v w := by
    intro cs k v w h
    simp [part, h]
  have p2 : ∀ (cs : Array Value) (k : Nat) (v : Value) w, cs[k]? = some v → (part 9 cs k).run Tryz.prog w = .ok v w := by
    intro cs k v w h
    simp [part, h]
  simp [Op.eqFields, hi, hi', hs, p0, p1, p2, Row.eq_iff]
  by_cases h1 : a = a' <;> by_cases h2 : b = b' <;> by_cases h3 : c = c' <;> by_cases h4 : d = d' <;> by_cases h5 : e = e' <;> by_cases h6 : f = f' <;> by_cases h7 : g = g' <;> simp [h1, h2, h3, h4, h5, h6, h7]
theorem neq_row (i j : Row) (w : World) : (binOp .neq 69 (rowV i) (rowV j)).run Tryz.prog w = .ok (.bool (!decide (i = j))) w := by
  have h := eq_row i j w
  unfold rowV at h ⊢
  rw [run_neq_struct, h]
  rfl
theorem eql_row (i j : Row) (w : World) : (binOp .eql 69 (rowV i) (rowV j)).run Tryz.prog w = .ok (.bool (decide (i = j))) w := by
  have h := eq_row i j w
  unfold rowV at h ⊢
  rw [run_eql_struct, h]
  rfl
end P7
end Go.Proofs.YtajbchecjbddgaaGreatDoor

/- Walks: table.became, grown, Grown. -/
namespace Go.Proofs.YtajbchecjbddgaaGreatDoor
open Go.RowKit
namespace P7

def noP (r : Row) : Row := ⟨0, r.i, r.f, r.k, r.v, r.s, r.c⟩
def becameT (r s : Row) (a b : Nat) : Bool :=
  if r.i ≠ s.i ∨ r.f ≠ s.f ∨ b < a then false
  else if came r = true then decide (noP r = noP s) && decide (b = a)
  else if r.k = 1 then decide (s.k ≠ 0 ∧ r.s ≤ s.s) && Lib.hasPrefix s.c.data.toList r.c.data.toList
  else true

set_option maxRecDepth 10000 in
set_option maxHeartbeats 4000000 in
theorem became_any (r s : Row) (a b : Nat) (w : World) : Calls Tryz.prog 56 #[rowV r, rowV s, .int .i64 a, .int .i64 b] w fun e w' => e = .returned (.bool (becameT r s a b)) ∧ Below w.heap.size w w' := by
  obtain ⟨rp, ri, rf, rk, rv, rs, rc⟩ := r
  obtain ⟨sp, si, sf, sk, sv, ss, sc⟩ := s
  have hE := fun W => eq_row ⟨0, ri, rf, rk, rv, rs, rc⟩ ⟨0, si, sf, sk, sv, ss, sc⟩ W
  unfold rowV at hE
  show Calls _ _ #[.agg #[.int .i64 rp, .int .i64 ri, .int .i64 rf, .int .i64 rk, .int .i64 rv, .int .i64 rs, .string rc], .agg #[.int .i64 sp, .int .i64 si, .int .i64 sf, .int .i64 sk, .int .i64 sv, .int .i64 ss, .string sc], .int .i64 a, .int .i64 b] _ _
  have hB0 : Below w.heap.size w ((w.alloc (.cells #[.int .i64 0, .int .i64 ri, .int .i64 rf, .int .i64 rk, .int .i64 rv, .int .i64 rs, .string rc] 69)).alloc (.cells #[.int .i64 0, .int .i64 si, .int .i64 sf, .int .i64 sk, .int .i64 sv, .int .i64 ss, .string sc] 69)) := by go_grown
  have hC := came_any ⟨0, ri, rf, rk, rv, rs, rc⟩ ((w.alloc (.cells #[.int .i64 0, .int .i64 ri, .int .i64 rf, .int .i64 rk, .int .i64 rv, .int .i64 rs, .string rc] 69)).alloc (.cells #[.int .i64 0, .int .i64 si, .int .i64 sf, .int .i64 sk, .int .i64 sv, .int .i64 ss, .string sc] 69))
  have k0 := Lib.hid (heap_alloc2_old w (.cells #[.int .i64 0, .int .i64 ri, .int .i64 rf, .int .i64 rk, .int .i64 rv, .int .i64 rs, .string rc] 69) (.cells #[.int .i64 0, .int .i64 si, .int .i64 sf, .int .i64 sk, .int .i64 sv, .int .i64 ss, .string sc] 69))
  have k1 := Lib.hid (heap_alloc2_new w (.cells #[.int .i64 0, .int .i64 ri, .int .i64 rf, .int .i64 rk, .int .i64 rv, .int .i64 rs, .string rc] 69) (.cells #[.int .i64 0, .int .i64 si, .int .i64 sf, .int .i64 sk, .int .i64 sv, .int .i64 ss, .string sc] 69))
  have HB := Lib.hid hB0
  clear hB0
  by_cases hi : ri = si
  · by_cases hf : rf = sf
    · by_cases hba : b < a
      · have e1 : (ri != si) = false := by simpa using hi
        have e2 : (rf != sf) = false := by simpa using hf
        have HV : Hid (becameT ⟨rp, ri, rf, rk, rv, rs, rc⟩ ⟨sp, si, sf, sk, sv, ss, sc⟩ a b = false) := Lib.hid (by rw [becameT, if_pos (.inr (.inr hba))])
        clear hi hf hC hE
        go_enter Tryz.func56, Tryz.ntmps56
        go_wp2_with fail
        go_ret
        exact ⟨ret_bool HV.out.symm, HB.out⟩
      · have e1 : (ri != si) = false := by simpa using hi
        have e2 : (rf != sf) = false := by simpa using hf
        have e3 : decide (b < a) = false := by simpa using hba
        have HV0 : Hid (∀ v : Bool, (if came ⟨rp, ri, rf, rk, rv, rs, rc⟩ = true then decide (noP ⟨rp, ri, rf, rk, rv, rs, rc⟩ = noP ⟨sp, si, sf, sk, sv, ss, sc⟩) && decide (b = a) else if rk = 1 then decide (sk ≠ 0 ∧ rs ≤ ss) && Lib.hasPrefix sc.data.toList rc.data.toList else true) = v → becameT ⟨rp, ri, rf, rk, rv, rs, rc⟩ ⟨sp, si, sf, sk, sv, ss, sc⟩ a b = v) := Lib.hid (fun v hv => by
          rw [becameT, if_neg (by simp only; omega)]
          exact hv)
        clear hi hf hba
        by_cases hk : 2 ≤ rk
        · have hc : came ⟨0, ri, rf, rk, rv, rs, rc⟩ = true := decide_eq_true hk
          have HV := Lib.hid (HV0.out _ (if_pos (show came ⟨rp, ri, rf, rk, rv, rs, rc⟩ = true from hc)))
          rw [hc] at hC
          clear hc
          go_enter Tryz.func56, Tryz.ntmps56
          go_wp2_with fail
          refine hC.mono ?_
          rintro e w3 ⟨rfl, hb3⟩
          have c0 := fun j => cell_of_row w3 w.heap.size j _ _ _ (blk_next k0.out hb3)
          have c1 := fun j => cell_of_row w3 (w.heap.size + 1) j _ _ _ (blk_next k1.out hb3)
          have hB3 := HB.out.next hb3
          clear hC hb3
          obtain ⟨t, ht⟩ := name_of (decide ((⟨0, ri, rf, rk, rv, rs, rc⟩ : Row) = ⟨0, si, sf, sk, sv, ss, sc⟩))
          rw [ht] at hE
          have HTT : Hid (becameT ⟨rp, ri, rf, rk, rv, rs, rc⟩ ⟨sp, si, sf, sk, sv, ss, sc⟩ a b = (t && decide (b = a))) := Lib.hid (by rw [HV.out, ← ht]; rfl)
          clear ht
          by_cases hab : b = a
          · have f1 : ((b : Int) == a) = true := by simp; omega
            have f2 : decide (b = a) = true := by simpa using hab
            have HF := Lib.hid f2
            clear hab
            cases t
            · go_wp2_with fail
              go_ret
              exact ⟨ret_bool (by rw [HTT.out]; rfl), hB3⟩
            · go_wp2_with fail
              go_ret
              exact ⟨ret_bool (by rw [HTT.out, HF.out]; rfl), hB3⟩
          · have f1 : ((b : Int) == a) = false := by simp; omega
            have f2 : decide (b = a) = false := by simpa using hab
            have HF := Lib.hid f2
            clear hab f2
            cases t
            · go_wp2_with fail
              go_ret
              exact ⟨ret_bool (by rw [HTT.out]; rfl), hB3⟩
            · go_wp2_with fail
              go_ret
              exact ⟨ret_bool (by rw [HTT.out, HF.out]; rfl), hB3⟩
        · have hc : came ⟨0, ri, rf, rk, rv, rs, rc⟩ = false := decide_eq_false hk
          have HV1 := Lib.hid (fun v hv => HV0.out v ((if_neg (show ¬ came ⟨rp, ri, rf, rk, rv, rs, rc⟩ = true from by rw [show came ⟨rp, ri, rf, rk, rv, rs, rc⟩ = false from hc]; decide)).trans hv))
          rw [hc] at hC
          clear hc hE
          go_enter Tryz.func56, Tryz.ntmps56
          go_wp2_with fail
          refine hC.mono ?_
          rintro e w3 ⟨rfl, hb3⟩
          have c0 := fun j => cell_of_row w3 w.heap.size j _ _ _ (blk_next k0.out hb3)
          have c1 := fun j => cell_of_row w3 (w.heap.size + 1) j _ _ _ (blk_next k1.out hb3)
          have hB3 := HB.out.next hb3
          clear hC hb3
          by_cases hk1 : rk = 1
          · have f1 : (rk == 1) = true := by simpa using hk1
            have HV := Lib.hid (fun v hv => HV1.out v ((if_pos hk1).trans hv))
            clear hk1
            by_cases hk0 : sk = 0
            · have f2 : (sk != 0) = false := by simpa using hk0
              have HR := Lib.hid (HV.out false (by rw [decide_eq_false (fun h => h.1 hk0)]; rfl))
              clear hk0
              go_wp2_with fail
              go_ret
              exact ⟨ret_bool HR.out.symm, hB3⟩
            · have f2 : (sk != 0) = true := by simpa using hk0
              by_cases hss : rs ≤ ss
              · have hP := fun W => Tryz.strings_HasPrefix sc rc W
                have HR := Lib.hid (HV.out (Lib.hasPrefix sc.data.toList rc.data.toList) (by rw [decide_eq_true ⟨hk0, hss⟩]; rfl))
                clear hk0
                go_wp2_with fail
                refine (hP _).mono ?_
                rintro e w4 ⟨rfl, rfl⟩
                go_wp2_with fail
                go_ret
                exact ⟨ret_bool HR.out.symm, hB3⟩
              · have HR := Lib.hid (HV.out false (by rw [decide_eq_false (fun h => hss h.2)]; rfl))
                clear hk0
                go_wp2_with fail
                go_ret
                exact ⟨ret_bool HR.out.symm, hB3⟩
          · have f1 : (rk == 1) = false := by simpa using hk1
            have HR := Lib.hid (HV1.out true (if_neg hk1))
            clear hk1
            go_wp2_with fail
            go_ret
            exact ⟨ret_bool HR.out.symm, hB3⟩
    · have e1 : (ri != si) = false := by simpa using hi
      have e2 : (rf != sf) = true := by simpa using hf
      have HV : Hid (becameT ⟨rp, ri, rf, rk, rv, rs, rc⟩ ⟨sp, si, sf, sk, sv, ss, sc⟩ a b = false) := Lib.hid (by rw [becameT, if_pos (.inr (.inl hf))])
      clear hi hf hC hE
      go_enter Tryz.func56, Tryz.ntmps56
      go_wp2_with fail
      go_ret
      exact ⟨ret_bool HV.out.symm, HB.out⟩
  · have e1 : (ri != si) = true := by simpa using hi
    have HV : Hid (becameT ⟨rp, ri, rf, rk, rv, rs, rc⟩ ⟨sp, si, sf, sk, sv, ss, sc⟩ a b = false) := Lib.hid (by rw [becameT, if_pos (.inl hi)])
    clear hi hC hE
    go_enter Tryz.func56, Tryz.ntmps56
    go_wp2_with fail
    go_ret
    exact ⟨ret_bool HV.out.symm, HB.out⟩

/-! ### grown -/
def grownT (l m : List Row) : Nat → Nat → Nat → Bool
  | 0, _, _ => false
  | f + 1, i, k => becameT (at_ l i) (at_ m k) (kids l i).length (kids m k).length && (List.range (kids l i).length).all fun n => grownT l m f ((kids l i).getD n 0) ((kids m k).getD n 0)
theorem kids_mem {l : List Row} {i : Int} {j : Nat} : j ∈ kids l i ↔ j < l.length ∧ (at_ l j).p = i := by simp [kids, kidsTo]
theorem kids_at {l : List Row} {i : Int} {n : Nat} (h : n < (kids l i).length) : (kids l i).getD n 0 < l.length ∧ (at_ l ((kids l i).getD n 0)).p = i := by
  rw [List.getD_eq_getElem?_getD, List.getElem?_eq_getElem h, Option.getD_some]
  exact kids_mem.1 (List.getElem_mem h)
theorem became_more {r s : Row} {a b : Nat} (h : becameT r s a b = true) : a ≤ b := by
  unfold becameT at h
  split at h
  · cases h
  · omega

abbrev TwoS (W0 : World) (g go h ho : Nat) (rp ri rf rk rv rs : Int) (rc : ByteArray) (sp si sf sk sv ss : Int) (sc : ByteArray) (W : World) : Prop :=
  Below W0.heap.size W0 W ∧ W.cell? ⟨g, go, none⟩ = some (.int .i64 rp) ∧ W.cell? ⟨g, go + 1, none⟩ = some (.int .i64 ri) ∧ W.cell? ⟨g, go + 2, none⟩ = some (.int .i64 rf) ∧ W.cell? ⟨g, go + 3, none⟩ = some (.int .i64 rk) ∧ W.cell? ⟨g, go + 4, none⟩ = some (.int .i64 rv) ∧ W.cell? ⟨g, go + 5, none⟩ = some (.int .i64 rs) ∧ W.cell? ⟨g, go + 6, none⟩ = some (.string rc) ∧ W.cell? ⟨h, ho, none⟩ = some (.int .i64 sp) ∧ W.cell? ⟨h, ho + 1, none⟩ = some (.int .i64 si) ∧ W.cell? ⟨h, ho + 2, none⟩ = some (.int .i64 sf) ∧ W.cell? ⟨h, ho + 3, none⟩ = some (.int .i64 sk) ∧ W.cell? ⟨h, ho + 4, none⟩ = some (.int .i64 sv) ∧ W.cell? ⟨h, ho + 5, none⟩ = some (.int .i64 ss) ∧ W.cell? ⟨h, ho + 6, none⟩ = some (.string sc)
section
variable {W0 W W' : World} {g go h ho : Nat} {rp ri rf rk rv rs : Int} {rc : ByteArray} {sp si sf sk sv ss : Int} {sc : ByteArray}
theorem TwoS.gr (h0 : TwoS W0 g go h ho rp ri rf rk rv rs rc sp si sf sk sv ss sc W) : Below W0.heap.size W0 W := h0.1
theorem TwoS.next (h0 : TwoS W0 g go h ho rp ri rf rk rv rs rc sp si sf sk sv ss sc W) (hb : Below W.heap.size W W') (hg : g < W0.heap.size) (hh : h < W0.heap.size) : TwoS W0 g go h ho rp ri rf rk rv rs rc sp si sf sk sv ss sc W' := by
  obtain ⟨h0, r0, r1, r2, r3, r4, r5, r6, s0, s1, s2, s3, s4, s5, s6⟩ := h0
  have k := fun j => hb.cell (p := ⟨g, j, none⟩) (Nat.lt_of_lt_of_le hg h0.size)
  have q := fun j => hb.cell (p := ⟨h, j, none⟩) (Nat.lt_of_lt_of_le hh h0.size)
  exact ⟨h0.next hb, (k _).trans r0, (k _).trans r1, (k _).trans r2, (k _).trans r3, (k _).trans r4, (k _).trans r5, (k _).trans r6, (q _).trans s0, (q _).trans s1, (q _).trans s2, (q _).trans s3, (q _).trans s4, (q _).trans s5, (q _).trans s6⟩
theorem below_drew' {w : World} : Below w.heap.size w w.drew := ⟨rfl, rfl, rfl, Nat.le_refl _, fun _ _ => rfl⟩
end
abbrev OneS (W0 : World) (g go h ho x y : Nat) (W : World) : Prop := Below W0.heap.size W0 W ∧ W.cell? ⟨g, go, none⟩ = some (.int .i64 x) ∧ W.cell? ⟨h, ho, none⟩ = some (.int .i64 y)
theorem OneS.next {W0 W W' : World} {g go h ho x y : Nat} (h0 : OneS W0 g go h ho x y W) (hb : Below W.heap.size W W') (hg : g < W0.heap.size) (hh : h < W0.heap.size) : OneS W0 g go h ho x y W' :=
  ⟨h0.1.next hb, (hb.cell (p := ⟨g, go, none⟩) (Nat.lt_of_lt_of_le hg h0.1.size)).trans h0.2.1, (hb.cell (p := ⟨h, ho, none⟩) (Nat.lt_of_lt_of_le hh h0.1.size)).trans h0.2.2⟩
theorem OneS.gr {W0 W : World} {g go h ho x y : Nat} (h0 : OneS W0 g go h ho x y W) : Below W0.heap.size W0 W := h0.1

def GrwR (w : World) (a b : List Nat) (G : Nat → Nat → Bool) (n : Nat) (i : Value) (wr : World) : Prop := ∃ j : Nat, j ≤ n ∧ i = .int .i64 j ∧ (∀ q, q < j → G (a.getD q 0) (b.getD q 0) = true) ∧ Below w.heap.size w wr

set_option maxRecDepth 10000 in
set_option maxHeartbeats 4000000 in
theorem grown_any {l m : List Row} (hT : Tab l) (hl60 : l.length ≤ 60) (hm60 : m.length ≤ 60) : ∀ (f i k : Nat) (w : World) (vl vm : Value), Sl w w.heap.size 7 vl (rowsC l) → Sl w w.heap.size 7 vm (rowsC m) → i < l.length → k < m.length → l.length ≤ i + f →
    Calls Tryz.prog 33 #[vl, vm, .int .i64 i, .int .i64 k] w fun e w' => e = .returned (.bool (grownT l m f i k)) ∧ Below w.heap.size w w' := by
  intro f
  induction f with
  | zero => intro i k w vl vm _ _ hi _ hf; omega
  | succ f ih =>
    intro i k w vl vm hL hM hi hk hf
    have HIH := Lib.hid ih
    have HU := Lib.hid hT.up
    clear ih hT
    obtain ⟨Al, cl, rfl, hcl, hol⟩ := rows_open hL
    obtain ⟨Am, cm, rfl, hcm, hom⟩ := rows_open hM
    have HOL := Lib.hid (fun q hq => hol q hq)
    have HOM := Lib.hid (fun q hq => hom q hq)
    have HL := Lib.hid hL
    have HM := Lib.hid hM
    have hK1 := kids_any hL (by omega) (i : Int)
    obtain ⟨nl, hnl⟩ := name_of l.length
    obtain ⟨nm, hnm⟩ := name_of m.length
    have HNL := Lib.hid hnl
    have HNM := Lib.hid hnm
    rw [hnl] at hK1 HL hcl hl60 hi hf ⊢
    rw [hnm] at HM hcm hm60 hk ⊢
    clear hol hom hL hM hnl hnm
    go_enter Tryz.func33, Tryz.ntmps33
    go_wp2_with fail
    refine hK1.mono ?_
    rintro e w1 ⟨⟨A1, c1, rfl, hs1⟩, hb1⟩
    have hK2 := kids_any (HM.out.next hb1) (by have := HNM.out; omega) (k : Int)
    clear hK1
    go_wp2_with fail
    refine hK2.mono ?_
    rintro e w2 ⟨⟨A2, c2, rfl, hs2⟩, hb2⟩
    have hs1' := hs1.next hb2
    have hB2 := hb1.next hb2
    clear hK2 hs1 hb1 hb2
    obtain ⟨g, go, rfl, hg, r0, r1, r2, r3, r4, r5, r6⟩ := HOL.out i (by have := HNL.out; omega)
    obtain ⟨h, ho, rfl, hh, s0, s1, s2, s3, s4, s5, s6⟩ := HOM.out k (by have := HNM.out; omega)
    obtain ⟨⟨rp, ri, rf, rk, rv, rs, rc⟩, hr⟩ := name_of (at_ l i)
    obtain ⟨⟨sp, si, sf, sk, sv, ss, sc⟩, hsr⟩ := name_of (at_ m k)
    rw [hr] at r0 r1 r2 r3 r4 r5 r6
    rw [hsr] at s0 s1 s2 s3 s4 s5 s6
    dsimp only at r0 r1 r2 r3 r4 r5 r6 s0 s1 s2 s3 s4 s5 s6
    have q := fun j => hB2.cell (p := ⟨g, j, none⟩) hg
    have q' := fun j => hB2.cell (p := ⟨h, j, none⟩) hh
    have hg2 : g < w2.heap.size := Nat.lt_of_lt_of_le hg hB2.size
    have hh2 : h < w2.heap.size := Nat.lt_of_lt_of_le hh hB2.size
    have hS : TwoS w2 g (go + i * 7) h (ho + k * 7) rp ri rf rk rv rs rc sp si sf sk sv ss sc w2 := ⟨Below.refl _ _, (q _).trans r0, (q _).trans r1, (q _).trans r2, (q _).trans r3, (q _).trans r4, (q _).trans r5, (q _).trans r6, (q' _).trans s0, (q' _).trans s1, (q' _).trans s2, (q' _).trans s3, (q' _).trans s4, (q' _).trans s5, (q' _).trans s6⟩
    have hSd := hS.next below_drew' hg2 hh2
    obtain ⟨a, haa⟩ := name_of (kids l (i : Int)).length
    obtain ⟨b, hbb⟩ := name_of (kids m (k : Int)).length
    obtain ⟨t, ht⟩ := name_of (becameT (at_ l i) (at_ m k) a b)
    have hBc : ∀ W, Calls Tryz.prog 56 #[.agg #[.int .i64 rp, .int .i64 ri, .int .i64 rf, .int .i64 rk, .int .i64 rv, .int .i64 rs, .string rc], .agg #[.int .i64 sp, .int .i64 si, .int .i64 sf, .int .i64 sk, .int .i64 sv, .int .i64 ss, .string sc], .int .i64 a, .int .i64 b] W fun e w' => e = .returned (.bool t) ∧ Below W.heap.size W w' := fun W => by
      rw [← ht, hr, hsr]
      exact became_any ⟨rp, ri, rf, rk, rv, rs, rc⟩ ⟨sp, si, sf, sk, sv, ss, sc⟩ a b W
    rw [haa] at hs1' ⊢
    rw [hbb] at hs2 ⊢
    have HA := Lib.hid haa
    have HB := Lib.hid hbb
    have HT := Lib.hid ht
    have HB2 := Lib.hid hB2
    have HG : Hid (grownT l m (f + 1) i k = (t && (List.range a).all fun n => grownT l m f ((kids l i).getD n 0) ((kids m k).getD n 0))) := Lib.hid (by rw [grownT, haa, hbb, ht])
    clear r0 r1 r2 r3 r4 r5 r6 s0 s1 s2 s3 s4 s5 s6 q q' haa hbb ht hB2 hS hr hsr
    cases t
    · go_wp2_with fail
      go_region_held3 (fun W => TwoS w2 g (go + i * 7) h (ho + k * 7) rp ri rf rk rv rs rc sp si sf sk sv ss sc W) (first | assumption | exact TwoS.next (by assumption) (by assumption) (by assumption) (by assumption)) (first | (go_at_call 56; (with_reducible refine (hBc _).mono ?_); rintro e w3 ⟨rfl, hb3⟩; have hB23 := (below_drew' (w := w2)).next hb3))
      go_wp2_with fail
      go_ret
      exact ⟨ret_bool (by rw [HG.out]; rfl), HB2.out.next hB23⟩
    · have hab := became_more HT.out
      have ha60 : a ≤ 60 := by
        have := kidsTo_len l (i : Int) l.length
        have h1 := HA.out
        have h2 := HNL.out
        unfold kids at h1
        omega
      have hb60 : b ≤ 60 := by
        have := kidsTo_len m (k : Int) m.length
        have h1 := HB.out
        have h2 := HNM.out
        unfold kids at h1
        omega
      have HS1 := Lib.hid hs1'
      have HS2 := Lib.hid hs2
      clear hs1' hs2
      go_wp2_with fail
      go_region_held3 (fun W => TwoS w2 g (go + i * 7) h (ho + k * 7) rp ri rf rk rv rs rc sp si sf sk sv ss sc W) (first | assumption | exact TwoS.next (by assumption) (by assumption) (by assumption) (by assumption)) (first | (go_at_call 56; (with_reducible refine (hBc _).mono ?_); rintro e w3 ⟨rfl, hb3⟩; have hB23 := (below_drew' (w := w2)).next hb3))
      go_wp2_with fail
      clear hSd hBc
      go_loopw [34] (fun i' wr => GrwR w2 (kids l i) (kids m k) (grownT l m f) a i' wr) (fun i' _ => a - (intOf i').toNat)
      case atStart => exact ⟨0, Nat.zero_le _, rfl, fun q hq => by omega, hB23⟩
      case round =>
        obtain ⟨j, hj, rfl, hall, hBr⟩ := hrel
        have HALL := Lib.hid hall
        clear hall
        by_cases hlt : j < a
        · obtain ⟨A', n', c', he, -, -, hA'⟩ := HS1.out.next hBr
          injection he with e1 e2 e3
          subst e1 e2 e3
          obtain ⟨x, xo, rfl, hx, hxr⟩ := hA' (by omega)
          obtain ⟨A'', n'', c'', he2, -, -, hA''⟩ := HS2.out.next hBr
          injection he2 with e1 e2 e3
          subst e1 e2 e3
          obtain ⟨y, yo, rfl, hy, hyr⟩ := hA'' (by omega)
          have gx := range_iv hxr j (by have := HA.out; omega)
          have gy := range_iv hyr j (by have := HB.out; omega)
          have kx := kids_at (l := l) (i := (i : Int)) (n := j) (by have := HA.out; omega)
          have ky := kids_at (l := m) (i := (k : Int)) (n := j) (by have := HB.out; omega)
          obtain ⟨x1, hx1⟩ := name_of ((kids l (i : Int)).getD j 0)
          obtain ⟨y1, hy1⟩ := name_of ((kids m (k : Int)).getD j 0)
          rw [hx1] at gx kx
          rw [hy1] at gy ky
          have hup := HU.out x1 kx.1 kx.1
          rw [kx.2] at hup
          have hBd := (HB2.out.next hBr).next below_drew'
          have hGd := HIH.out x1 y1 wr.drew _ _ (HL.out.next hBd) (HM.out.next hBd) kx.1 ky.1 (by have := HNL.out; omega)
          obtain ⟨t1, ht1⟩ := name_of (grownT l m f x1 y1)
          rw [ht1] at hGd
          have HX1 := Lib.hid hx1
          have HY1 := Lib.hid hy1
          have HT1 := Lib.hid ht1
          have hS1 : OneS wr x (xo + j) y (yo + j) x1 y1 wr := ⟨Below.refl _ _, gx, gy⟩
          have hS1d := hS1.next below_drew' hx hy
          have HBR := Lib.hid hBr
          have hjb : j < b := Nat.lt_of_lt_of_le hlt hab
          clear hA' hA'' hxr hyr gx gy kx ky hx1 hy1 ht1 hS1 hBd hup hBr
          cases t1
          · go_wp2_with fail
            go_region_held3 (fun W => OneS wr x (xo + j) y (yo + j) x1 y1 W) (first | assumption | exact OneS.next (by assumption) (by assumption) (by assumption) (by assumption)) (first | (go_at_call 33; (with_reducible refine hGd.mono ?_); rintro e w5 ⟨rfl, hb5⟩; have hB25 := (HBR.out.next below_drew').next hb5))
            go_wp2_with fail
            go_ret
            refine ⟨ret_bool ?_, HB2.out.next hB25⟩
            rw [HG.out, Bool.true_and]
            symm
            rw [List.all_eq_false]
            exact ⟨j, List.mem_range.2 hlt, by rw [HX1.out, HY1.out, HT1.out]; simp⟩
          · go_wp2_with fail
            go_region_held3 (fun W => OneS wr x (xo + j) y (yo + j) x1 y1 W) (first | assumption | exact OneS.next (by assumption) (by assumption) (by assumption) (by assumption)) (first | (go_at_call 33; (with_reducible refine hGd.mono ?_); rintro e w5 ⟨rfl, hb5⟩; have hB25 := (HBR.out.next below_drew').next hb5))
            go_wp2_with fail
            refine ⟨⟨j + 1, hlt, by go_num, fun q hq => ?_, hB25⟩, by simp [intOf]; omega⟩
            by_cases e : q = j
            · subst e; rw [HX1.out, HY1.out, HT1.out]
            · exact HALL.out q (by omega)
        · obtain rfl : j = a := by omega
          go_wp2_with fail
          go_ret
          refine ⟨ret_bool ?_, HB2.out.next hBr⟩
          rw [HG.out, Bool.true_and]
          symm
          rw [List.all_eq_true]
          intro q hq
          exact HALL.out q (List.mem_range.1 hq)

/-- What Grown answers. -/
def GrownT (l m : List Row) : Bool := decide (chk (l.length + 1) l = 0) && decide (chk (m.length + 1) m = 0) && grownT l m l.length 0 0
set_option maxHeartbeats 1000000 in
theorem grownAll_any {w : World} {vl vm : Value} {l m : List Row} (hL : Sl w w.heap.size 7 vl (rowsC l)) (hM : Sl w w.heap.size 7 vm (rowsC m)) (hl : Small l) (hm : Small m) :
    Calls Tryz.prog 14 #[vl, vm] w fun e w' => e = .returned (.bool (GrownT l m)) ∧ Below w.heap.size w w' := by
  have hC := checkT_any hL hl
  obtain ⟨Al, cl, rfl, -, -⟩ := rows_open hL
  obtain ⟨Am, cm, rfl, -, -⟩ := rows_open hM
  obtain ⟨E, hE⟩ := name_of (chk (l.length + 1) l)
  obtain ⟨F, hF⟩ := name_of (chk (m.length + 1) m)
  rw [hE] at hC
  have HE := Lib.hid hE
  have HF := Lib.hid hF
  have HL := Lib.hid hL
  have HM := Lib.hid hM
  have HG : Hid (∀ v : Bool, (decide (E = 0) && decide (F = 0) && grownT l m l.length 0 0) = v → GrownT l m = v) := Lib.hid (fun v h => by rw [GrownT, hE, hF]; exact h)
  clear hE hF hL hM
  by_cases hE0 : E = 0
  · have e0 : (E == 0) = true := by simpa using hE0
    have HE0 := Lib.hid hE0
    clear hE0
    go_enter Tryz.func14, Tryz.ntmps14
    go_wp2_with fail
    refine hC.mono ?_
    rintro e w1 ⟨rfl, hb1⟩
    have hC2 := checkT_any (HM.out.next hb1) hm
    rw [HF.out] at hC2
    clear hC
    go_wp2_with fail
    refine hC2.mono ?_
    rintro e w2 ⟨rfl, hb2⟩
    have hB2 := hb1.next hb2
    clear hC2 hb1 hb2
    by_cases hF0 : F = 0
    · have f0 : (F == 0) = true := by simpa using hF0
      have HF0 := Lib.hid hF0
      have hTl : Tab l := HE.out.trans HE0.out
      have hTm : Tab m := HF.out.trans hF0
      have hG := grown_any hTl hl.1 hm.1 l.length 0 0 w2 _ _ (HL.out.next hB2) (HM.out.next hB2) hTl.pos hTm.pos (by omega)
      have HGG := Lib.hid (HG.out (grownT l m l.length 0 0) (by rw [decide_eq_true HE0.out, decide_eq_true hF0]; rfl))
      clear hF0 hTl hTm
      go_wp2_with fail
      refine hG.mono ?_
      rintro e w3 ⟨rfl, hb3⟩
      go_wp2_with fail
      go_ret
      exact ⟨ret_bool HGG.out.symm, hB2.next hb3⟩
    · have f0 : (F == 0) = false := by simpa using hF0
      have HGG := Lib.hid (HG.out false (by rw [decide_eq_false hF0]; simp))
      clear hF0
      go_wp2_with fail
      go_ret
      exact ⟨ret_bool HGG.out.symm, hB2⟩
  · have e0 : (E == 0) = false := by simpa using hE0
    have HGG := Lib.hid (HG.out false (by rw [decide_eq_false hE0]; simp))
    clear hE0
    go_enter Tryz.func14, Tryz.ntmps14
    go_wp2_with fail
    refine hC.mono ?_
    rintro e w1 ⟨rfl, hb1⟩
    go_wp2_with fail
    go_ret
    exact ⟨ret_bool HGG.out.symm, hb1⟩
end P7
end Go.Proofs.YtajbchecjbddgaaGreatDoor

/- Plain law: what the program's Grown tells is what the reference's does. -/
namespace Go.Proofs.YtajbchecjbddgaaGreatDoor
open Go.RowKit
namespace P7

/-- The how-manieth kid of its parent a row is. -/
def rank (l : List Row) (i : Nat) : Nat := (kidsTo l (at_ l i).p i).length
def wayL (l : List Row) : Nat → Nat → List Nat
  | 0, _ => []
  | f + 1, i => if 0 ≤ (at_ l i).p then rank l i :: wayL l f (at_ l i).p.toNat else []
def findL (m : List Row) (w : List Nat) : Option Nat := w.foldr (fun x o => o.bind fun i => (kids m (i : Int))[x]?) (some 0)
def FF (l m : List Row) (i : Nat) : Option Nat := findL m (wayL l (i + 1) i)
def refBec (r s : Row) (first : Bool) : Bool :=
  if (first = false ∧ r.i ≠ s.i) ∨ r.f ≠ s.f then false
  else if came r = true then decide (r.k = s.k ∧ r.v = s.v ∧ r.s = s.s ∧ r.c = s.c)
  else if r.k = 1 then decide (s.k ≠ 0 ∧ r.s ≤ s.s) && Lib.hasPrefix s.c.data.toList r.c.data.toList
  else true
def okAt (l m : List Row) (i : Nat) : Bool := match FF l m i with
  | none => false
  | some k => refBec (at_ l i) (at_ m k) (decide (i = 0)) && !(came (at_ l i) && decide ((kids l i).length ≠ (kids m k).length))

theorem wayL_fuel {l : List Row} {N : Nat} (hu : Up l N) (hN : N ≤ l.length) : ∀ (i : Nat) (n m : Nat), i < N → i < n → i < m → wayL l n i = wayL l m i := by
  intro i
  induction i using Nat.strongRecOn with
  | ind i ih =>
    intro n m hi hn hm
    cases n with
    | zero => omega
    | succ n =>
      cases m with
      | zero => omega
      | succ m =>
        rw [wayL, wayL]
        by_cases hp : 0 ≤ (at_ l i).p
        · have := (hu i hi (by omega)).1
          rw [if_pos hp, if_pos hp, ih (at_ l i).p.toNat (by omega) n m (by omega) (by omega) (by omega)]
        · rw [if_neg hp, if_neg hp]
theorem FF_zero {l m : List Row} (h : (at_ l 0).p = -1) : FF l m 0 = some 0 := by
  rw [FF, wayL, if_neg (by omega)]; rfl
theorem FF_step {l m : List Row} (hT : Tab l) {i : Nat} (hi : i < l.length) (h0 : i ≠ 0) : FF l m i = (FF l m (at_ l i).p.toNat).bind fun k => (kids m (k : Int))[rank l i]? := by
  have hp := hT.up i hi hi
  have h1 := hp.2 h0
  rw [FF, wayL, if_pos h1, wayL_fuel hT.up (Nat.le_refl _) (at_ l i).p.toNat i ((at_ l i).p.toNat + 1) (by omega) (by omega) (by omega)]
  rfl
theorem kids_split {l : List Row} {c : Nat} (hc : c < l.length) : (kids l (at_ l c).p)[rank l c]? = some c := by
  have h : ∀ n, c < n → (kidsTo l (at_ l c).p n)[(kidsTo l (at_ l c).p c).length]? = some c := by
    intro n
    induction n with
    | zero => intro h; omega
    | succ n ih =>
      intro h
      rw [kidsTo_succ]
      by_cases e : c = n
      · subst e
        rw [if_pos rfl, List.getElem?_append_right (Nat.le_refl _)]
        simp
      · have := ih (by omega)
        rw [List.getElem?_append_left (List.getElem?_eq_some_iff.1 this).1]
        exact this
  exact h _ hc
theorem kids_nodup (l : List Row) (i : Int) : (kids l i).Nodup := List.Pairwise.filter _ List.nodup_range
theorem kid_rank {l : List Row} {i : Int} {n : Nat} (h : n < (kids l i).length) : rank l ((kids l i).getD n 0) = n := by
  obtain ⟨c, hc⟩ := name_of ((kids l i).getD n 0)
  have h1 := kids_at h
  rw [hc] at h1 ⊢
  have h2 := kids_split h1.1
  rw [h1.2] at h2
  have h5 : (kids l i)[n]? = some c := by rw [← hc, List.getD_eq_getElem?_getD, List.getElem?_eq_getElem h, Option.getD_some]
  exact ((List.getElem?_inj h (kids_nodup l i)).1 (h5.trans h2.symm)).symm
theorem Tab.root {l : List Row} (h : Tab l) : (at_ l 0).p = -1 ∧ (at_ l 0).i = 0 := by
  have h1 := right_up (h.row 0 h.pos)
  constructor
  · have := h1.1
    rw [placeOk, if_pos rfl] at this
    exact of_decide_eq_true this
  · have := h1.2.1
    simp only [spanOk, decide_eq_true_eq] at this
    exact this.2.1 trivial
theorem bec_ref {r s : Row} {a b : Nat} {first : Bool} (hf : first = true → r.i = s.i) : becameT r s a b = true ↔ refBec r s first = true ∧ a ≤ b ∧ (came r = true → a = b) := by
  unfold becameT refBec
  by_cases h1 : r.i = s.i
  · by_cases h2 : r.f = s.f
    · by_cases h3 : b < a
      · rw [if_pos (.inr (.inr h3))]
        constructor
        · intro h; cases h
        · rintro ⟨_, h, _⟩; omega
      · rw [if_neg (show ¬ (r.i ≠ s.i ∨ r.f ≠ s.f ∨ b < a) by rintro (h | h | h); exact h h1; exact h h2; exact h3 h), if_neg (show ¬ ((first = false ∧ r.i ≠ s.i) ∨ r.f ≠ s.f) by rintro (h | h); exact h.2 h1; exact h h2)]
        by_cases hc : came r = true
        · rw [if_pos hc, if_pos hc]
          simp only [Bool.and_eq_true, decide_eq_true_eq, Row.eq_iff, noP, h1, h2, true_and]
          constructor
          · rintro ⟨h, rfl⟩; exact ⟨h, Nat.le_refl _, fun _ => rfl⟩
          · rintro ⟨h, h4, h5⟩; exact ⟨h, (h5 hc).symm⟩
        · rw [if_neg hc, if_neg hc]
          exact ⟨fun h => ⟨h, by omega, fun e => absurd e hc⟩, fun h => h.1⟩
    · rw [if_pos (.inr (.inl h2)), if_pos (.inr h2)]
      simp
  · have : first = false := by
      cases first with
      | false => rfl
      | true => exact absurd (hf rfl) h1
    rw [if_pos (.inl h1), if_pos (.inl ⟨this, h1⟩)]
    simp
theorem grown_of {l m : List Row} (hl : Tab l) (h : grownT l m l.length 0 0 = true) : ∀ i, i < l.length → ∃ k f, FF l m i = some k ∧ l.length ≤ i + (f + 1) ∧ grownT l m (f + 1) i k = true := by
  intro i
  induction i using Nat.strongRecOn with
  | ind i ih =>
    intro hi
    by_cases h0 : i = 0
    · subst h0
      obtain ⟨f, hf⟩ : ∃ f, l.length = f + 1 := ⟨l.length - 1, by omega⟩
      rw [hf] at h
      exact ⟨0, f, FF_zero hl.root.1, by omega, h⟩
    · have hp := hl.up i hi hi
      have hp0 := hp.2 h0
      obtain ⟨k, f, h1, h2, h3⟩ := ih (at_ l i).p.toNat (by omega) (by omega)
      have hcast : (((at_ l i).p.toNat : Nat) : Int) = (at_ l i).p := by omega
      rw [grownT, hcast] at h3
      simp only [Bool.and_eq_true, List.all_eq_true, List.mem_range] at h3
      have h4 := became_more h3.1
      have h5 := kids_split hi
      obtain ⟨h6, h7⟩ := List.getElem?_eq_some_iff.1 h5
      have h8 := h3.2 (rank l i) h6
      have h9 : (kids l (at_ l i).p).getD (rank l i) 0 = i := by rw [List.getD_eq_getElem?_getD, h5]; rfl
      rw [h9] at h8
      have h10 : (kids m (k : Int))[rank l i]? = some ((kids m (k : Int)).getD (rank l i) 0) := by
        rw [List.getD_eq_getElem?_getD, List.getElem?_eq_getElem (by omega), Option.getD_some]
      cases f with
      | zero => omega
      | succ f => exact ⟨_, f, by rw [FF_step hl hi h0, h1]; exact h10, by omega, h8⟩
theorem FF_lt {l m : List Row} (hl : Tab l) (hm : Tab m) {i k : Nat} (hi : i < l.length) (h : FF l m i = some k) : k < m.length := by
  by_cases h0 : i = 0
  · subst h0
    rw [FF_zero hl.root.1] at h
    cases h
    exact hm.pos
  · rw [FF_step hl hi h0] at h
    cases hq : FF l m (at_ l i).p.toNat with
    | none => rw [hq] at h; cases h
    | some q =>
      rw [hq] at h
      exact (kids_mem.1 (List.mem_of_getElem? h)).1
theorem root_in {l m : List Row} (hl : Tab l) (hm : Tab m) {i k : Nat} (h : FF l m i = some k) : decide (i = 0) = true → (at_ l i).i = (at_ m k).i := by
  intro e
  have e := of_decide_eq_true e
  subst e
  rw [FF_zero hl.root.1] at h
  cases h
  rw [hl.root.2, hm.root.2]
theorem of_okAt {l m : List Row} (hl : Tab l) (hm : Tab m) (h : ∀ i, i < l.length → okAt l m i = true) : ∀ (f i k : Nat), FF l m i = some k → l.length ≤ i + f → i < l.length → grownT l m f i k = true := by
  intro f
  induction f with
  | zero => intro i k _ h1 h2; omega
  | succ f ih =>
    intro i k hF hf hi
    have hK : ∀ n, n < (kids l (i : Int)).length → ∃ c, (kids l (i : Int)).getD n 0 = c ∧ c < l.length ∧ i < c ∧ FF l m c = (kids m (k : Int))[n]? := by
      intro n hn
      have h1 := kids_at hn
      have h2 := kid_rank hn
      obtain ⟨c, hc⟩ := name_of ((kids l (i : Int)).getD n 0)
      rw [hc] at h1 h2
      have h3 := hl.up c h1.1 h1.1
      rw [h1.2] at h3
      have h4 : c ≠ 0 := by omega
      refine ⟨c, hc, h1.1, by omega, ?_⟩
      rw [FF_step hl h1.1 h4, h1.2, h2, show (i : Int).toNat = i from rfl, hF]
      rfl
    have hab : (kids l (i : Int)).length ≤ (kids m (k : Int)).length := by
      rcases Nat.eq_zero_or_pos (kids l (i : Int)).length with e | e
      · omega
      · obtain ⟨c, _, hc, _, h2⟩ := hK ((kids l (i : Int)).length - 1) (by omega)
        have h3 := h c hc
        rw [okAt, h2] at h3
        cases h4 : (kids m (k : Int))[(kids l (i : Int)).length - 1]? with
        | none => rw [h4] at h3; cases h3
        | some _ => have := (List.getElem?_eq_some_iff.1 h4).1; omega
    have h1 := h i hi
    rw [okAt, hF] at h1
    simp only [Bool.and_eq_true, Bool.not_eq_true', Bool.and_eq_false_iff, decide_eq_false_iff_not] at h1
    rw [grownT, Bool.and_eq_true]
    refine ⟨(bec_ref (root_in hl hm hF)).2 ⟨h1.1, hab, fun hc => ?_⟩, ?_⟩
    · rcases h1.2 with e | e
      · rw [hc] at e; cases e
      · omega
    · rw [List.all_eq_true]
      intro n hn
      have hn := List.mem_range.1 hn
      obtain ⟨c, hc, hcl, hic, h2⟩ := hK n hn
      rw [hc]
      refine ih c _ (h2.trans ?_) (by omega) hcl
      rw [List.getD_eq_getElem?_getD, List.getElem?_eq_getElem (by omega), Option.getD_some]
/-- The reference's Grown. -/
def refGrownT (l m : List Row) : Bool := decide (chk (l.length + 1) l = 0) && decide (chk (m.length + 1) m = 0) && (List.range l.length).all fun i => okAt l m i
theorem grown_ref (l m : List Row) : GrownT l m = refGrownT l m := by
  unfold GrownT refGrownT
  by_cases hl : Tab l
  · by_cases hm : Tab m
    · rw [decide_eq_true (show chk (l.length + 1) l = 0 from hl), decide_eq_true (show chk (m.length + 1) m = 0 from hm), Bool.true_and, Bool.true_and, Bool.true_and]
      rw [Bool.eq_iff_iff, List.all_eq_true]
      constructor
      · intro h i hi
        have hi := List.mem_range.1 hi
        obtain ⟨k, f, hF, hf, hg⟩ := grown_of hl h i hi
        rw [grownT, Bool.and_eq_true] at hg
        have h1 := (bec_ref (root_in hl hm hF)).1 hg.1
        rw [okAt, hF]
        simp only [Bool.and_eq_true, Bool.not_eq_true', Bool.and_eq_false_iff, decide_eq_false_iff_not]
        refine ⟨h1.1, ?_⟩
        cases hc : came (at_ l i) with
        | false => exact .inl rfl
        | true => exact .inr (fun e => e (h1.2.2 hc))
      · intro h
        exact of_okAt hl hm (fun i hi => h i (List.mem_range.2 hi)) _ 0 0 (FF_zero hl.root.1) (by omega) hl.pos
    · rw [decide_eq_false (show ¬ chk (m.length + 1) m = 0 from hm)]; simp
  · rw [decide_eq_false (show ¬ chk (l.length + 1) l = 0 from hl)]; simp
end P7
end Go.Proofs.YtajbchecjbddgaaGreatDoor

/- Plain laws: Grown is an order. -/
namespace Go.Proofs.YtajbchecjbddgaaGreatDoor
open Go.RowKit
namespace P7

theorem Tab.kind {l : List Row} (h : Tab l) {i : Nat} (hi : i < l.length) : 0 ≤ (at_ l i).k := by
  have h1 := (right_up (h.row i hi)).2.1
  simp only [spanOk, decide_eq_true_eq] at h1
  omega
theorem Tab.self {l : List Row} (h : Tab l) {i : Nat} (hi : i < l.length) : ((at_ l i).v = 0 ∨ (at_ l i).k = 2 ∨ (at_ l i).k = 3) ∧ ((at_ l i).k = 0 → (at_ l i).s = 0 ∧ (at_ l i).c.size = 0) := by
  have h1 := (right_up (h.row i hi)).2.2.2
  unfold stateOk selfOk at h1
  rw [Bool.and_eq_true, decide_eq_true_eq] at h1
  exact h1.1
theorem bec_split {r s : Row} {a b : Nat} (h : becameT r s a b = true) : r.i = s.i ∧ r.f = s.f ∧ a ≤ b ∧ (if came r = true then decide (noP r = noP s) && decide (b = a)
  else if r.k = 1 then decide (s.k ≠ 0 ∧ r.s ≤ s.s) && Lib.hasPrefix s.c.data.toList r.c.data.toList
  else true) = true := by
  unfold becameT at h
  split at h
  · cases h
  · rename_i hn
    have h1 : r.i = s.i := by
      by_cases e : r.i = s.i
      · exact e
      · exact absurd (.inl e) hn
    have h2 : r.f = s.f := by
      by_cases e : r.f = s.f
      · exact e
      · exact absurd (.inr (.inl e)) hn
    have h3 : a ≤ b := by
      rcases Nat.lt_or_ge b a with e | e
      · exact absurd (.inr (.inr e)) hn
      · exact e
    exact ⟨h1, h2, h3, h⟩
theorem bec_mk {r s : Row} {a b : Nat} (h1 : r.i = s.i) (h2 : r.f = s.f) (h3 : a ≤ b) (h : (if came r = true then decide (noP r = noP s) && decide (b = a)
  else if r.k = 1 then decide (s.k ≠ 0 ∧ r.s ≤ s.s) && Lib.hasPrefix s.c.data.toList r.c.data.toList
  else true) = true) : becameT r s a b = true := by
  unfold becameT
  rw [if_neg (by rintro (e | e | e); exact e h1; exact e h2; omega)]
  exact h
theorem pre_refl (c : ByteArray) : Lib.hasPrefix c.data.toList c.data.toList = true := by
  unfold Lib.hasPrefix
  rw [List.isPrefixOf_iff_prefix]
  exact List.prefix_refl _
theorem bec_refl (r : Row) (a : Nat) : becameT r r a a = true := by
  refine bec_mk rfl rfl (Nat.le_refl _) ?_
  split
  · simp
  · split
    · rename_i h
      rw [pre_refl, h]
      simp
    · rfl
theorem noP_k {r s : Row} (h : noP r = noP s) : r.i = s.i ∧ r.f = s.f ∧ r.k = s.k ∧ r.v = s.v ∧ r.s = s.s ∧ r.c = s.c := by
  have := (Row.eq_iff _ _).1 h
  exact this.2
theorem bec_trans {r s t : Row} {a b c : Nat} (hs : 0 ≤ s.k) (h1 : becameT r s a b = true) (h2 : becameT s t b c = true) : becameT r t a c = true := by
  obtain ⟨a1, a2, a3, a4⟩ := bec_split h1
  obtain ⟨b1, b2, b3, b4⟩ := bec_split h2
  refine bec_mk (a1.trans b1) (a2.trans b2) (Nat.le_trans a3 b3) ?_
  by_cases hr : came r = true
  · rw [if_pos hr] at a4 ⊢
    simp only [Bool.and_eq_true, decide_eq_true_eq] at a4 ⊢
    have hk := (noP_k a4.1).2.2.1
    have hcs : came s = true := by
      unfold came at hr ⊢
      rwa [← hk]
    rw [if_pos hcs] at b4
    simp only [Bool.and_eq_true, decide_eq_true_eq] at b4
    exact ⟨a4.1.trans b4.1, b4.2.trans a4.2⟩
  · rw [if_neg hr] at a4 ⊢
    by_cases hk : r.k = 1
    · rw [if_pos hk] at a4 ⊢
      simp only [Bool.and_eq_true, decide_eq_true_eq, Lib.hasPrefix, List.isPrefixOf_iff_prefix] at a4 ⊢
      by_cases hcs : came s = true
      · rw [if_pos hcs] at b4
        simp only [Bool.and_eq_true, decide_eq_true_eq] at b4
        obtain ⟨-, -, e1, -, e2, e3⟩ := noP_k b4.1
        rw [← e1, ← e2, ← e3]
        exact a4
      · rw [if_neg hcs] at b4
        have hs1 : s.k = 1 := by
          unfold came at hcs
          simp only [decide_eq_true_eq] at hcs
          have := a4.1.1
          omega
        rw [if_pos hs1] at b4
        simp only [Bool.and_eq_true, decide_eq_true_eq, Lib.hasPrefix, List.isPrefixOf_iff_prefix] at b4
        exact ⟨⟨b4.1.1, Int.le_trans a4.1.2 b4.1.2⟩, List.IsPrefix.trans a4.2 b4.2⟩
    · rw [if_neg hk]
theorem bytes_inj {a b : ByteArray} (h : a.data.toList = b.data.toList) : a = b := by
  obtain ⟨a⟩ := a
  obtain ⟨b⟩ := b
  have := Array.toList_inj.1 h
  simp only at this
  rw [this]
theorem bec_anti {r s : Row} {a b : Nat} (hr0 : 0 ≤ r.k) (hs0 : 0 ≤ s.k) (hr : (r.v = 0 ∨ r.k = 2 ∨ r.k = 3) ∧ (r.k = 0 → r.s = 0 ∧ r.c.size = 0)) (hs : (s.v = 0 ∨ s.k = 2 ∨ s.k = 3) ∧ (s.k = 0 → s.s = 0 ∧ s.c.size = 0))
    (h1 : becameT r s a b = true) (h2 : becameT s r b a = true) : noP r = noP s ∧ a = b := by
  obtain ⟨a1, a2, a3, a4⟩ := bec_split h1
  obtain ⟨b1, b2, b3, b4⟩ := bec_split h2
  refine ⟨?_, by omega⟩
  by_cases cr : came r = true
  · rw [if_pos cr] at a4
    simp only [Bool.and_eq_true, decide_eq_true_eq] at a4
    exact a4.1
  · by_cases cs : came s = true
    · rw [if_pos cs] at b4
      simp only [Bool.and_eq_true, decide_eq_true_eq] at b4
      exact b4.1.symm
    · rw [if_neg cr] at a4
      rw [if_neg cs] at b4
      unfold came at cr cs
      simp only [decide_eq_true_eq] at cr cs
      have hv : r.v = 0 := by omega
      have hv' : s.v = 0 := by omega
      by_cases hk : r.k = 1
      · rw [if_pos hk] at a4
        simp only [Bool.and_eq_true, decide_eq_true_eq, Lib.hasPrefix, List.isPrefixOf_iff_prefix] at a4
        have hk' : s.k = 1 := by omega
        rw [if_pos hk'] at b4
        simp only [Bool.and_eq_true, decide_eq_true_eq, Lib.hasPrefix, List.isPrefixOf_iff_prefix] at b4
        have hl := List.IsPrefix.eq_of_length a4.2 (Nat.le_antisymm a4.2.length_le b4.2.length_le)
        exact (Row.eq_iff _ _).2 ⟨rfl, a1, a2, hk.trans hk'.symm, hv.trans hv'.symm, by have := a4.1.2; have := b4.1.2; show r.s = s.s; omega, bytes_inj hl⟩
      · have hk0 : r.k = 0 := by omega
        have hk' : s.k = 0 := by
          by_cases e : s.k = 1
          · rw [if_pos e] at b4
            simp only [Bool.and_eq_true, decide_eq_true_eq] at b4
            exact absurd hk0 b4.1.1
          · omega
        have e1 := hr.2 hk0
        have e2 := hs.2 hk'
        refine (Row.eq_iff _ _).2 ⟨rfl, a1, a2, hk0.trans hk'.symm, hv.trans hv'.symm, e1.1.trans e2.1.symm, ?_⟩
        refine bytes_inj ?_
        have z1 : r.c.data.toList = [] := List.length_eq_zero_iff.1 (by simpa using e1.2)
        have z2 : s.c.data.toList = [] := List.length_eq_zero_iff.1 (by simpa using e2.2)
        exact z1.trans z2.symm

theorem grownT_split {l m : List Row} {f i k : Nat} (h : grownT l m (f + 1) i k = true) : becameT (at_ l i) (at_ m k) (kids l i).length (kids m k).length = true ∧ ∀ n, n < (kids l i).length → grownT l m f ((kids l i).getD n 0) ((kids m k).getD n 0) = true := by
  rw [grownT, Bool.and_eq_true, List.all_eq_true] at h
  exact ⟨h.1, fun n hn => h.2 n (List.mem_range.2 hn)⟩
theorem grownT_mk {l m : List Row} {f i k : Nat} (h1 : becameT (at_ l i) (at_ m k) (kids l i).length (kids m k).length = true) (h2 : ∀ n, n < (kids l i).length → grownT l m f ((kids l i).getD n 0) ((kids m k).getD n 0) = true) : grownT l m (f + 1) i k = true := by
  rw [grownT, Bool.and_eq_true, List.all_eq_true]
  exact ⟨h1, fun n hn => h2 n (List.mem_range.1 hn)⟩
theorem grownT_refl {l : List Row} (hT : Tab l) : ∀ (f i : Nat), i < l.length → l.length ≤ i + f → grownT l l f i i = true
  | 0, i, hi, hf => by omega
  | f + 1, i, hi, hf => by
    refine grownT_mk (bec_refl _ _) fun n hn => ?_
    have h1 := kids_at hn
    obtain ⟨c, hc⟩ := name_of ((kids l (i : Int)).getD n 0)
    rw [hc] at h1 ⊢
    have h2 := hT.up c h1.1 h1.1
    rw [h1.2] at h2
    exact grownT_refl hT f c h1.1 (by omega)
theorem grownT_trans {l m n : List Row} (hm : Tab m) : ∀ (f f' i k j : Nat), k < m.length → grownT l m f i k = true → grownT m n f' k j = true → grownT l n f i j = true
  | 0, _, _, _, _, _, h, _ => by cases h
  | _ + 1, 0, _, _, _, _, _, h => by cases h
  | f + 1, f' + 1, i, k, j, hk, h1, h2 => by
    obtain ⟨a1, a2⟩ := grownT_split h1
    obtain ⟨b1, b2⟩ := grownT_split h2
    have h3 := became_more a1
    refine grownT_mk (bec_trans (hm.kind hk) a1 b1) fun x hx => ?_
    exact grownT_trans hm f f' _ _ _ (kids_at (by omega)).1 (a2 x hx) (b2 x (by omega))

/-! ### Two tables of one shape are one -/
def an (l : List Row) (x q : Nat) : Bool := wi l (x : Int) (q + 1) (q : Int)
theorem an_step {l : List Row} (hT : Tab l) {x q : Nat} (hq : q < l.length) : an l x q = if q = x then true else if 0 ≤ (at_ l q).p then an l x (at_ l q).p.toNat else false := by
  unfold an
  rw [wi, if_pos ⟨by omega, by omega⟩, Int.toNat_natCast]
  by_cases h : q = x
  · rw [if_pos (by omega), if_pos h]
  · rw [if_neg (by omega), if_neg h]
    have hu := hT.up q hq hq
    by_cases hp : 0 ≤ (at_ l q).p
    · rw [if_pos hp]
      obtain ⟨p, hp'⟩ := Int.eq_ofNat_of_zero_le hp
      rw [hp'] at hu ⊢
      rw [Int.toNat_natCast]
      exact wi_fuel hT.up p q (p + 1) (by omega) (by omega) (by omega)
    · rw [if_neg hp]
      cases q with
      | zero => rfl
      | succ q => exact absurd (hu.2 (by omega)) hp
theorem an_le {l : List Row} (hT : Tab l) {x : Nat} : ∀ q, q < l.length → an l x q = true → x ≤ q := by
  intro q
  induction q using Nat.strongRecOn with
  | ind q ih =>
    intro hq h
    rw [an_step hT hq] at h
    split at h
    · omega
    · split at h
      · have hu := hT.up q hq hq
        have := ih (at_ l q).p.toNat (by omega) (by omega) h
        omega
      · cases h
theorem an_trans {l : List Row} (hT : Tab l) {x y : Nat} (h1 : an l x y = true) : ∀ z, z < l.length → an l y z = true → an l x z = true := by
  intro z
  induction z using Nat.strongRecOn with
  | ind z ih =>
    intro hz h
    by_cases e : z = y
    · subst e; exact h1
    · rw [an_step hT hz, if_neg e] at h
      split at h
      · rename_i hp
        have hu := hT.up z hz hz
        have h2 := ih (at_ l z).p.toNat (by omega) (by omega) h
        rw [an_step hT hz, if_pos hp]
        split
        · rfl
        · exact h2
      · cases h
theorem an_place {l : List Row} (hT : Tab l) {i : Nat} (hi : i + 1 < l.length) : 0 ≤ (at_ l (i + 1)).p ∧ (at_ l (i + 1)).p < i + 1 ∧ an l (at_ l (i + 1)).p.toNat i = true := by
  have h1 := (right_up (hT.row (i + 1) hi)).1
  unfold placeOk at h1
  rw [if_neg (by omega), Bool.and_eq_true, decide_eq_true_eq] at h1
  refine ⟨h1.1.1, by omega, ?_⟩
  have h2 := h1.2
  rw [show (((i + 1 : Nat) : Int) - 1) = (i : Int) by omega] at h2
  unfold an
  rw [Int.toNat_of_nonneg h1.1.1]
  rw [← h2]
  exact wi_fuel hT.up i _ _ (by omega) (by omega) (by omega)
theorem an_back {l : List Row} (hT : Tab l) {x i : Nat} (hx : x < i) : ∀ q, i ≤ q → q < l.length → an l x q = true → an l x i = true := by
  intro q
  induction q with
  | zero => intro h; omega
  | succ q ih =>
    intro hiq hq h
    by_cases e : i = q + 1
    · subst e; exact h
    · obtain ⟨p1, p2, p3⟩ := an_place hT hq
      rw [an_step hT hq, if_neg (by omega), if_pos p1] at h
      exact ih (by omega) (by omega) (an_trans hT h q (by omega) p3)
theorem kidsTo_congr {l m : List Row} {n : Nat} (h : ∀ j, j < n → (at_ l j).p = (at_ m j).p) (x : Int) : kidsTo l x n = kidsTo m x n := by
  unfold kidsTo
  refine List.filter_congr fun k hk => ?_
  rw [h k (List.mem_range.1 hk)]
theorem kidsTo_later {l : List Row} {x : Int} {i : Nat} : ∀ n, i ≤ n → (kidsTo l x i).length ≤ (kidsTo l x n).length ∧ ((kidsTo l x i).length < (kidsTo l x n).length → ∃ q, i ≤ q ∧ q < n ∧ (at_ l q).p = x) ∧ (∀ q, i ≤ q → q < n → (at_ l q).p = x → (kidsTo l x i).length < (kidsTo l x n).length) := by
  intro n
  induction n with
  | zero =>
    intro h
    have : i = 0 := by omega
    subst this
    exact ⟨Nat.le_refl _, fun h => absurd h (Nat.lt_irrefl _), fun q h1 h2 => by omega⟩
  | succ n ih =>
    intro h
    by_cases e : i = n + 1
    · subst e
      exact ⟨Nat.le_refl _, fun h => absurd h (Nat.lt_irrefl _), fun q h1 h2 => by omega⟩
    · obtain ⟨h1, h2, h3⟩ := ih (by omega)
      rw [kidsTo_succ]
      by_cases hp : (at_ l n).p = x
      · rw [if_pos hp, List.length_append]
        refine ⟨by omega, fun _ => ⟨n, by omega, by omega, hp⟩, fun q _ _ _ => ?_⟩
        show _ < _ + 1
        omega
      · rw [if_neg hp, List.append_nil]
        refine ⟨h1, fun h => ?_, fun q g1 g2 g3 => ?_⟩
        · obtain ⟨q, g1, g2, g3⟩ := h2 h
          exact ⟨q, g1, by omega, g3⟩
        · by_cases e : q = n
          · subst e; exact absurd g3 hp
          · exact h3 q g1 (by omega) g3
/-- Where two tables are alike so far, and have as many kids of each row so far, the next row of the one is one of the other, and its parent no later. -/
theorem next_le {l m : List Row} (hl : Tab l) (hm : Tab m) {i : Nat} (h0 : 0 < i) (hil : i ≤ l.length) (him : i < m.length) (hag : ∀ j, j < i → (at_ l j).p = (at_ m j).p)
    (hct : ∀ j, j < i → (kids l (j : Int)).length = (kids m (j : Int)).length) : i < l.length ∧ (at_ m i).p ≤ (at_ l i).p := by
  have hu := hm.up i him him
  have hp := hu.2 (by omega)
  obtain ⟨p, hpp⟩ := Int.eq_ofNat_of_zero_le hp
  rw [hpp] at hu ⊢
  have hpi : p < i := by omega
  have h1 : (kidsTo m (p : Int) i).length < (kids m (p : Int)).length := (kidsTo_later m.length (by omega)).2.2 i (Nat.le_refl _) him hpp
  rw [← hct p hpi, ← kidsTo_congr hag] at h1
  obtain ⟨q, g1, g2, g3⟩ := (kidsTo_later (l := l) (x := (p : Int)) (i := i) l.length hil).2.1 h1
  have ha : an l p q = true := by
    have := hl.up q g2 g2
    rw [an_step hl g2, if_neg (by omega), if_pos (by omega), g3, Int.toNat_natCast, an_step hl (by omega), if_pos rfl]
  have hb := an_back hl hpi q g1 g2 ha
  refine ⟨by omega, ?_⟩
  rw [an_step hl (by omega), if_neg (by omega)] at hb
  have hul := hl.up i (by omega) (by omega)
  split at hb
  · have := an_le hl _ (by omega) hb
    omega
  · cases hb
theorem same_of {l m : List Row} (hl : Tab l) (hm : Tab m) (R : Nat → Nat → Prop) (h0 : R 0 0) (hR : ∀ i k, i < l.length → k < m.length → R i k → noP (at_ l i) = noP (at_ m k) ∧ (kids l (i : Int)).length = (kids m (k : Int)).length ∧ ∀ n, n < (kids l (i : Int)).length → R ((kids l (i : Int)).getD n 0) ((kids m (k : Int)).getD n 0)) : l = m := by
  have hmain : ∀ i, i ≤ l.length → i ≤ m.length → ∀ j, j < i → (at_ l j).p = (at_ m j).p ∧ R j j := by
    intro i
    induction i with
    | zero => intro _ _ j h; omega
    | succ i ih =>
      intro h1 h2 j hj
      have hi := ih (by omega) (by omega)
      by_cases e : j = i
      · subst e
        by_cases hz : j = 0
        · subst hz
          exact ⟨hl.root.1.trans hm.root.1.symm, h0⟩
        · have hct : ∀ q, q < j → (kids l (q : Int)).length = (kids m (q : Int)).length := fun q hq => (hR q q (by omega) (by omega) (hi q hq).2).2.1
          have e1 := (next_le hl hm (by omega) (by omega) (by omega) (fun q hq => (hi q hq).1) hct).2
          have e2 := (next_le hm hl (by omega) (by omega) (by omega) (fun q hq => (hi q hq).1.symm) (fun q hq => (hct q hq).symm)).2
          have e3 : (at_ l j).p = (at_ m j).p := Int.le_antisymm e2 e1
          refine ⟨e3, ?_⟩
          have hu := hl.up j (by omega) (by omega)
          obtain ⟨p, hp⟩ := Int.eq_ofNat_of_zero_le (hu.2 hz)
          have hpj : p < j := by omega
          have r1 := kids_split (l := l) (c := j) (by omega)
          have r2 := kids_split (l := m) (c := j) (by omega)
          have r3 : rank l j = rank m j := by
            unfold rank
            rw [e3, kidsTo_congr (fun q hq => (hi q hq).1)]
          rw [← e3, hp, ← r3] at r2
          rw [hp] at r1
          have r4 := (hR p p (by omega) (by omega) (hi p hpj).2).2.2 (rank l j) (List.getElem?_eq_some_iff.1 r1).1
          rw [List.getD_eq_getElem?_getD, List.getD_eq_getElem?_getD, r1, r2] at r4
          exact r4
      · exact hi j (by omega)
  have hlen : l.length = m.length := by
    have hpl := hl.pos
    have hpm := hm.pos
    rcases Nat.lt_trichotomy l.length m.length with h | h | h
    · have hi := hmain l.length (Nat.le_refl _) (by omega)
      have := (next_le hl hm (i := l.length) hpl (Nat.le_refl _) h (fun q hq => (hi q hq).1) (fun q hq => (hR q q (by omega) (by omega) (hi q hq).2).2.1)).1
      omega
    · exact h
    · have hi := hmain m.length (by omega) (Nat.le_refl _)
      have := (next_le hm hl (i := m.length) hpm (Nat.le_refl _) h (fun q hq => (hi q hq).1.symm) (fun q hq => (hR q q (by omega) (by omega) (hi q hq).2).2.1.symm)).1
      omega
  refine List.ext_getElem hlen fun i h1 h2 => ?_
  obtain ⟨e1, e2⟩ := hmain l.length (Nat.le_refl _) (by omega) i h1
  have e3 := noP_k (hR i i h1 h2 e2).1
  rw [at_eq h1, at_eq h2] at e1 e3
  exact (Row.eq_iff _ _).2 ⟨e1, e3⟩

/-! ### GrownT -/
theorem GrownT_iff {l m : List Row} : GrownT l m = true ↔ Tab l ∧ Tab m ∧ grownT l m l.length 0 0 = true := by
  unfold GrownT Tab
  rw [Bool.and_eq_true, Bool.and_eq_true, decide_eq_true_eq, decide_eq_true_eq, and_assoc]
theorem GrownT_self (l : List Row) : GrownT l l = decide (chk (l.length + 1) l = 0) := by
  by_cases h : Tab l
  · rw [decide_eq_true (show chk (l.length + 1) l = 0 from h)]
    exact GrownT_iff.2 ⟨h, h, grownT_refl h _ _ h.pos (by omega)⟩
  · rw [decide_eq_false (show ¬ chk (l.length + 1) l = 0 from h), Bool.eq_false_iff]
    exact fun e => h (GrownT_iff.1 e).1
theorem GrownT_trans {l m n : List Row} (h1 : GrownT l m = true) (h2 : GrownT m n = true) : GrownT l n = true := by
  obtain ⟨a1, a2, a3⟩ := GrownT_iff.1 h1
  obtain ⟨b1, b2, b3⟩ := GrownT_iff.1 h2
  exact GrownT_iff.2 ⟨a1, b2, grownT_trans a2 _ _ _ _ _ a2.pos a3 b3⟩
theorem GrownT_anti {l m : List Row} (h1 : GrownT l m = true) (h2 : GrownT m l = true) : l = m := by
  obtain ⟨hl, hm, a3⟩ := GrownT_iff.1 h1
  obtain ⟨-, -, b3⟩ := GrownT_iff.1 h2
  refine same_of hl hm (fun i k => (∃ f, grownT l m f i k = true) ∧ ∃ f, grownT m l f k i = true) ⟨⟨_, a3⟩, ⟨_, b3⟩⟩ ?_
  rintro i k hi hk ⟨⟨f, h1⟩, ⟨f', h2⟩⟩
  cases f with
  | zero => cases h1
  | succ f =>
    cases f' with
    | zero => cases h2
    | succ f' =>
      obtain ⟨a1, a2⟩ := grownT_split h1
      obtain ⟨b1, b2⟩ := grownT_split h2
      obtain ⟨e1, e2⟩ := bec_anti (hl.kind hi) (hm.kind hk) (hl.self hi) (hm.self hk) a1 b1
      exact ⟨e1, e2, fun n hn => ⟨⟨_, a2 n hn⟩, ⟨_, b2 n (by omega)⟩⟩⟩
def DoneT (l : List Row) : Bool := l.all came
theorem DoneT_at {l : List Row} (h : DoneT l = true) {i : Nat} (hi : i < l.length) : came (at_ l i) = true := by
  unfold DoneT at h
  rw [List.all_eq_true] at h
  rw [at_eq hi]
  exact h _ (List.getElem_mem hi)
theorem GrownT_done {l m : List Row} (h1 : GrownT l m = true) (hd : DoneT l = true) : l = m := by
  obtain ⟨hl, hm, a3⟩ := GrownT_iff.1 h1
  refine same_of hl hm (fun i k => ∃ f, grownT l m f i k = true) ⟨_, a3⟩ ?_
  rintro i k hi hk ⟨f, h1⟩
  cases f with
  | zero => cases h1
  | succ f =>
    obtain ⟨a1, a2⟩ := grownT_split h1
    obtain ⟨-, -, -, b⟩ := bec_split a1
    rw [if_pos (DoneT_at hd hi), Bool.and_eq_true, decide_eq_true_eq, decide_eq_true_eq] at b
    exact ⟨b.1, b.2.symm, fun n hn => ⟨_, a2 n hn⟩⟩
end P7
end Go.Proofs.YtajbchecjbddgaaGreatDoor

/- Audit: which shot may come behind another one, plain. -/
namespace Go.Proofs.YtajbchecjbddgaaGreatDoor
namespace P20
open P7

/-- What a row became, and a row or none. -/
def toN (a b : Sh) (i : Nat) : Nat := (FF a.l b.l i).getD 0
def toR (a b : Sh) (r : Int) : Int := if 0 ≤ r then (toN a b r.toNat : Int) else r
/-- The scope that one became. -/
def ltN (a b : Sh) (i : Nat) : Option Nat := fnd b.sc (toR a b (sA a.sc i).r) (sA a.sc i).k
def scUp (x y : Sc) : Prop := y.n = x.n ∧ (x.a = true → y.a = true) ∧ (x.c = true → y.c = true)
instance (x y : Sc) : Decidable (scUp x y) := by unfold scUp; exact inferInstance
def ltOk (a b : Sh) (i : Nat) : Prop := ltN a b i ≠ none ∧ scUp (sA a.sc i) (sA b.sc ((ltN a b i).getD 0))
instance (a b : Sh) (i : Nat) : Decidable (ltOk a b i) := by unfold ltOk; exact inferInstance
/-- The last of the first so many that became this one. -/
def oldN (a b : Sh) : Nat → Nat → Option Nat
  | 0, _ => none
  | m + 1, k => if ltN a b m = some k then some m else oldN a b m k
def oldS (a b : Sh) (k : Nat) : Option Nat := oldN a b a.sc.length k
def shutN (a b : Sh) (k : Nat) : Bool := match oldS a b k with
  | none => false
  | some i => (sA a.sc i).c
/-- Is a scope in one that was shut? -/
def inShut (a b : Sh) (i : Nat) : Bool := (ch b i).any (shutN a b)
/-- Has a row become this one? -/
def wasB (a b : Sh) (i : Nat) : Bool := (List.range a.l.length).any fun j => decide (toN a b j = i)
def nextOk (a b : Sh) : Prop :=
  GrownT a.l b.l = true ∧ a.ws.length = b.ws.length ∧ (∀ i, i < a.sc.length → ltOk a b i) ∧
  (∀ k, k < b.sc.length → oldS a b k = none → inShut a b k = false) ∧
  (∀ i, i < b.l.length → wasB a b i = false → inShut a b ((ofN b i).getD 0) = false)
instance (a b : Sh) : Decidable (nextOk a b) := by unfold nextOk; exact inferInstance
/-- What Next tells. -/
def nxt (a b : Sh) : Int := if chkS a ≠ 0 then chkS a else if chkS b ≠ 0 then chkS b else if nextOk a b then 0 else 26

theorem wasB_iff {a b : Sh} {i : Nat} : wasB a b i = true ↔ ∃ j, j < a.l.length ∧ toN a b j = i := by
  unfold wasB
  rw [List.any_eq_true]
  constructor
  · rintro ⟨j, h1, h2⟩; exact ⟨j, List.mem_range.1 h1, of_decide_eq_true h2⟩
  · rintro ⟨j, h1, h2⟩; exact ⟨j, List.mem_range.2 h1, decide_eq_true h2⟩
theorem oldN_some {a b : Sh} {k : Nat} : ∀ {m i : Nat}, oldN a b m k = some i → i < m ∧ ltN a b i = some k
  | m + 1, i, h => by
    rw [oldN] at h
    split at h
    · rename_i h1
      cases h
      exact ⟨by omega, h1⟩
    · have := oldN_some h
      exact ⟨by omega, this.2⟩
theorem oldN_none {a b : Sh} {k : Nat} : ∀ {m : Nat}, oldN a b m k = none ↔ ∀ i, i < m → ltN a b i ≠ some k
  | 0 => ⟨fun _ i h => by omega, fun _ => rfl⟩
  | m + 1 => by
    rw [oldN]
    split
    · rename_i h1
      exact ⟨(fun h => by cases h), fun h => absurd h1 (h m (by omega))⟩
    · rename_i h1
      rw [oldN_none]
      refine ⟨fun h i hi => ?_, fun h i hi => h i (by omega)⟩
      by_cases e : i = m
      · rw [e]; exact h1
      · exact h i (by omega)

/-! ### Tables that have grown -/
section
variable {l m : List Row}
theorem FF_some (h : GrownT l m = true) {i : Nat} (hi : i < l.length) : ∃ k, FF l m i = some k ∧ k < m.length ∧ becameT (at_ l i) (at_ m k) (kids l i).length (kids m k).length = true := by
  obtain ⟨hl, hm, hg⟩ := GrownT_iff.1 h
  obtain ⟨k, f, h1, h2, h3⟩ := grown_of hl hg i hi
  exact ⟨k, h1, FF_lt hl hm hi h1, (grownT_split h3).1⟩
/-- A row's parent became the parent of what it became. -/
theorem FF_par (h : GrownT l m = true) {i : Nat} (hi : i < l.length) (h0 : i ≠ 0) {k : Nat} (hk : FF l m i = some k) : ∃ p q, (at_ l i).p = (p : Nat) ∧ p < i ∧ FF l m p = some q ∧ (at_ m k).p = (q : Nat) ∧ (kids m (q : Int))[rank l i]? = some k := by
  obtain ⟨hl, hm, hg⟩ := GrownT_iff.1 h
  have hp := hl.up i hi hi
  have hp0 := hp.2 h0
  rw [FF_step hl hi h0] at hk
  cases hq : FF l m (at_ l i).p.toNat with
  | none => rw [hq] at hk; cases hk
  | some q =>
    rw [hq] at hk
    have hk' : (kids m (q : Int))[rank l i]? = some k := hk
    refine ⟨(at_ l i).p.toNat, q, by omega, by omega, hq, (kids_mem.1 (List.mem_of_getElem? hk')).2, hk'⟩
theorem FF_pos (h : GrownT l m = true) {i : Nat} (hi : i < l.length) (h0 : i ≠ 0) {k : Nat} (hk : FF l m i = some k) : k ≠ 0 := by
  obtain ⟨hl, hm, hg⟩ := GrownT_iff.1 h
  obtain ⟨p, q, _, _, _, h4, _⟩ := FF_par h hi h0 hk
  intro e
  rw [e, hm.root.1] at h4
  omega
theorem FF_root (h : GrownT l m = true) : FF l m 0 = some 0 := FF_zero (GrownT_iff.1 h).1.root.1
theorem FF_inj (h : GrownT l m = true) : ∀ (i j : Nat), i < l.length → j < l.length → ∀ k, FF l m i = some k → FF l m j = some k → i = j := by
  intro i
  induction i using Nat.strongRecOn with
  | ind i ih =>
    intro j hi hj k h1 h2
    by_cases hi0 : i = 0
    · by_cases hj0 : j = 0
      · omega
      · have := FF_pos h hj hj0 h2
        rw [hi0, FF_root h] at h1
        cases h1
        omega
    · by_cases hj0 : j = 0
      · have := FF_pos h hi hi0 h1
        rw [hj0, FF_root h] at h2
        cases h2
        omega
      · obtain ⟨p, q, a1, a2, a3, a4, a5⟩ := FF_par h hi hi0 h1
        obtain ⟨p', q', b1, b2, b3, b4, b5⟩ := FF_par h hj hj0 h2
        have hq : q = q' := by omega
        subst hq
        have hpp := ih p a2 p' (by omega) (by omega) q a3 b3
        subst hpp
        have hr : rank l i = rank l j := by
          have hlt := (List.getElem?_eq_some_iff.1 a5).1
          exact (List.getElem?_inj hlt (kids_nodup m (q : Int))).1 (a5.trans b5.symm)
        have e1 := kids_split hi
        have e2 := kids_split hj
        rw [a1, hr] at e1
        rw [b1] at e2
        rw [e1] at e2
        exact Option.some.inj e2
end
section
variable {a b c : Sh}
theorem toN_of {i k : Nat} (h : FF a.l b.l i = some k) : toN a b i = k := by unfold toN; rw [h]; rfl
theorem toN_ff (h : GrownT a.l b.l = true) {i : Nat} (hi : i < a.l.length) : FF a.l b.l i = some (toN a b i) := by
  obtain ⟨k, hk, _⟩ := FF_some h hi
  rw [toN_of hk]; exact hk
theorem toN_lt (h : GrownT a.l b.l = true) {i : Nat} (hi : i < a.l.length) : toN a b i < b.l.length := by
  obtain ⟨k, hk, h1, _⟩ := FF_some h hi
  rw [toN_of hk]; exact h1
theorem toN_inj (h : GrownT a.l b.l = true) {i j : Nat} (hi : i < a.l.length) (hj : j < a.l.length) (e : toN a b i = toN a b j) : i = j :=
  FF_inj h i j hi hj _ (toN_ff h hi) (by rw [e]; exact toN_ff h hj)
theorem toN_zero (h : GrownT a.l b.l = true) : toN a b 0 = 0 := toN_of (FF_root h)
theorem toN_row (h : GrownT a.l b.l = true) {i : Nat} (hi : i < a.l.length) : (at_ b.l (toN a b i)).i = (at_ a.l i).i ∧ ((at_ a.l i).p < 0 → (at_ b.l (toN a b i)).p = (at_ a.l i).p) ∧ (0 ≤ (at_ a.l i).p → (at_ b.l (toN a b i)).p = (toN a b (at_ a.l i).p.toNat : Nat)) := by
  obtain ⟨hl, hm, hg⟩ := GrownT_iff.1 h
  obtain ⟨k, hk, h1, h2⟩ := FF_some h hi
  rw [toN_of hk]
  refine ⟨(bec_split h2).1.symm, fun hp => ?_, fun hp => ?_⟩
  · have e : i = 0 := by
      rcases Nat.eq_zero_or_pos i with e | e
      · exact e
      · have := (hl.up i hi hi).2 (by omega)
        omega
    subst e
    rw [FF_root h] at hk
    cases hk
    rw [hl.root.1, hm.root.1]
  · have h0 : i ≠ 0 := by
      intro e
      rw [e, hl.root.1] at hp
      omega
    obtain ⟨p, q, a1, a2, a3, a4, _⟩ := FF_par h hi h0 hk
    rw [a4, a1, Int.toNat_natCast, toN_of a3]
theorem toR_row (h : GrownT a.l b.l = true) {i : Nat} (hi : i < a.l.length) : (at_ b.l (toN a b i)).p = toR a b (at_ a.l i).p := by
  have h1 := toN_row h hi
  unfold toR
  split
  · exact h1.2.2 (by assumption)
  · exact h1.2.1 (by omega)
end
end P20
end Go.Proofs.YtajbchecjbddgaaGreatDoor

/- Audit, plain: what a shot's scopes became; Next is an order; what was in a closed scope stays. -/
namespace Go.Proofs.YtajbchecjbddgaaGreatDoor
namespace P20
open P7

theorem chkS_split {s : Sh} (h : chkS s = 0) : Tab s.l ∧ scOk s ∧ numOk s ∧ stOk s ∧ clOk s := by
  unfold chkS at h
  split at h
  · exact absurd h (by assumption)
  · rename_i h0
    split at h
    · cases h
    · rename_i h1
      split at h
      · cases h
      · rename_i h2
        split at h
        · cases h
        · rename_i h3
          split at h
          · cases h
          · rename_i h4
            exact ⟨Classical.not_not.1 h0, Classical.not_not.1 h1, Classical.not_not.1 h2, Classical.not_not.1 h3, Classical.not_not.1 h4⟩
theorem nxt_zero {a b : Sh} : nxt a b = 0 ↔ chkS a = 0 ∧ chkS b = 0 ∧ nextOk a b := by
  unfold nxt
  constructor
  · intro h
    split at h
    · exact absurd h (by assumption)
    · rename_i h0
      split at h
      · exact absurd h (by assumption)
      · rename_i h1
        split at h
        · exact ⟨Classical.not_not.1 h0, Classical.not_not.1 h1, by assumption⟩
        · cases h
  · rintro ⟨h0, h1, h2⟩
    rw [if_neg (by simpa using h0), if_neg (by simpa using h1), if_pos h2]
theorem Tab_lt {l : List Row} (h : Tab l) : ∀ j, j < l.length → (at_ l j).p < j := fun j hj => (h.up j hj hj).1

/-- What is asked of two shots here. -/
structure Nx (a b : Sh) : Prop where
  ca : chkS a = 0
  cb : chkS b = 0
  ok : nextOk a b
section
variable {a b c : Sh}
theorem Nx.g (h : Nx a b) : GrownT a.l b.l = true := h.ok.1
theorem Nx.sa (h : Nx a b) : scOk a := (chkS_split h.ca).2.1
theorem Nx.sb (h : Nx a b) : scOk b := (chkS_split h.cb).2.1
theorem Nx.ta (h : Nx a b) : Tab a.l := (chkS_split h.ca).1
theorem Nx.tb (h : Nx a b) : Tab b.l := (chkS_split h.cb).1
theorem Nx.lt_some (h : Nx a b) {i : Nat} (hi : i < a.sc.length) : ∃ k, ltN a b i = some k ∧ k < b.sc.length ∧ isAt b.sc (toR a b (sA a.sc i).r) (sA a.sc i).k k ∧ scUp (sA a.sc i) (sA b.sc k) := by
  have h1 := h.ok.2.2.1 i hi
  cases hk : ltN a b i with
  | none => exact absurd hk h1.1
  | some k =>
    have h2 := h1.2
    rw [hk] at h2
    obtain ⟨h3, h4, _⟩ := fnd_some hk
    exact ⟨k, rfl, h3, h4, h2⟩
theorem toR_inj (h : GrownT a.l b.l = true) {r r' : Int} (h1 : r < a.l.length) (h2 : r' < a.l.length) (e : toR a b r = toR a b r') : r = r' := by
  unfold toR at e
  split at e <;> split at e
  · have := toN_inj h (i := r.toNat) (j := r'.toNat) (by omega) (by omega) (by omega)
    omega
  · omega
  · omega
  · exact e
theorem sc_row (h : toldTo a a.sc.length) (hl : 0 < a.l.length) {i : Nat} (hi : i < a.sc.length) : (sA a.sc i).r < a.l.length := by
  by_cases h0 : i = 0
  · have := (h i hi).1.1 h0
    omega
  · exact (h.r_row hi h0).2
theorem Nx.lt_inj (h : Nx a b) {i j k : Nat} (hi : i < a.sc.length) (hj : j < a.sc.length) (h1 : ltN a b i = some k) (h2 : ltN a b j = some k) : i = j := by
  obtain ⟨_, ⟨a1, a2⟩, _⟩ := fnd_some h1
  obtain ⟨_, ⟨b1, b2⟩, _⟩ := fnd_some h2
  have e := toR_inj h.g (sc_row h.sa.1 h.ta.pos hi) (sc_row h.sa.1 h.ta.pos hj) (a1.symm.trans b1)
  exact h.sa.1.uniq hi hj (r := (sA a.sc i).r) (k := (sA a.sc i).k) ⟨rfl, rfl⟩ ⟨e.symm, by rw [← b2, a2]⟩
theorem Nx.old_iff (h : Nx a b) {i k : Nat} : oldS a b k = some i ↔ i < a.sc.length ∧ ltN a b i = some k := by
  constructor
  · exact oldN_some
  · rintro ⟨h1, h2⟩
    cases hk : oldS a b k with
    | none => exact absurd h2 (oldN_none.1 hk i h1)
    | some j =>
      obtain ⟨h3, h4⟩ := oldN_some hk
      rw [h.lt_inj h1 h3 h2 h4]
theorem Nx.shut_iff (h : Nx a b) {k : Nat} : shutN a b k = true ↔ ∃ i, i < a.sc.length ∧ ltN a b i = some k ∧ (sA a.sc i).c = true := by
  unfold shutN
  constructor
  · intro hs
    split at hs
    · cases hs
    · rename_i i hi
      obtain ⟨h1, h2⟩ := h.old_iff.1 hi
      exact ⟨i, h1, h2, hs⟩
  · rintro ⟨i, h1, h2, h3⟩
    rw [h.old_iff.2 ⟨h1, h2⟩]
    exact h3
/-- The scope of what a row became is what its scope became. -/
theorem Nx.of_row (h : Nx a b) {i : Nat} (hi : i < a.l.length) : ∃ j, ofN a i = some j ∧ j < a.sc.length ∧ ofN b (toN a b i) = ltN a b j := by
  obtain ⟨j, hj, hjl⟩ := ofN_lt h.sa hi
  refine ⟨j, hj, hjl, ?_⟩
  obtain ⟨_, ⟨h1, h2⟩, _⟩ := fnd_some hj
  unfold ofN ltN
  rw [toR_row h.g hi, (toN_row h.g hi).1, h1, h2]
/-- What is around a scope became what is around what it became. -/
theorem Nx.around (h : Nx a b) {i k : Nat} (hi : i < a.sc.length) (hk : ltN a b i = some k) : (i = 0 ∧ k = 0) ∨ (i ≠ 0 ∧ k ≠ 0 ∧ ∃ j, arN a i = some j ∧ j < i ∧ arN b k = ltN a b j) := by
  obtain ⟨k', hk', hkl, ⟨h1, h2⟩, h3⟩ := h.lt_some hi
  rw [hk] at hk'
  cases hk'
  have hrb := h.sb.1.r_bd hkl
  have hra := h.sa.1.r_bd hi
  by_cases h0 : i = 0
  · refine .inl ⟨h0, hrb.2.2 ?_⟩
    rw [h1]
    unfold toR
    rw [if_neg (by omega)]
    omega
  · have hrr := h.sa.1.r_row hi h0
    have e1 : toR a b (sA a.sc i).r = (toN a b (sA a.sc i).r.toNat : Nat) := by unfold toR; rw [if_pos hrr.1]
    have hk0 : k ≠ 0 := fun e => by
      have := hrb.2.1 e
      rw [h1, e1] at this
      omega
    obtain ⟨j, hj1, hj2⟩ := arN_lt h.sa (Tab_lt h.ta) hi h0
    refine .inr ⟨h0, hk0, j, hj1, hj2, ?_⟩
    unfold arN
    unfold arN at hj1
    rw [if_neg (by omega)] at hj1
    rw [if_neg (by rw [h1, e1]; omega)]
    by_cases hK : 0 < (sA a.sc i).k
    · rw [if_pos hK] at hj1
      rw [if_pos (by rw [h2]; exact hK)]
      obtain ⟨_, ⟨g1, g2⟩, _⟩ := fnd_some hj1
      unfold ltN
      rw [h1, h3.1, g1, g2]
    · rw [if_neg hK] at hj1
      rw [if_neg (by rw [h2]; exact hK)]
      obtain ⟨j', e1', _, e3⟩ := h.of_row (i := (sA a.sc i).r.toNat) (by omega)
      rw [hj1] at e1'
      cases e1'
      rw [h1, e1, Int.toNat_natCast]
      exact e3
/-- Which are around what a scope became. -/
theorem Nx.chain (h : Nx a b) : ∀ (i : Nat), i < a.sc.length → ∀ k, ltN a b i = some k → ∀ x, x ∈ ch b k ↔ ∃ y, y ∈ ch a i ∧ ltN a b y = some x := by
  intro i
  induction i using Nat.strongRecOn with
  | ind i ih =>
    intro hi k hk x
    obtain ⟨k', hk', hkl, _, _⟩ := h.lt_some hi
    rw [hk] at hk'
    cases hk'
    rcases h.around hi hk with ⟨e1, e2⟩ | ⟨h0, hk0, j, hj1, hj2, hj3⟩
    · subst e1 e2
      rw [ch_zero h.sa.1 hi, ch_zero h.sb.1 hkl]
      constructor
      · intro hx
        rw [List.mem_singleton] at hx
        exact ⟨0, by simp, by rw [hx]; exact hk⟩
      · rintro ⟨y, hy, hx⟩
        rw [List.mem_singleton] at hy
        rw [hy, hk] at hx
        cases hx
        simp
    · obtain ⟨q, hq, hql, _, _⟩ := h.lt_some (i := j) (by omega)
      rw [hq] at hj3
      rw [ch_step h.sb (Tab_lt h.tb) hkl hk0 hj3, ch_step h.sa (Tab_lt h.ta) hi h0 hj1]
      rw [List.mem_cons, ih j hj2 (by omega) q hq x]
      constructor
      · rintro (rfl | ⟨y, hy, hx⟩)
        · exact ⟨i, by simp, hk⟩
        · exact ⟨y, List.mem_cons_of_mem _ hy, hx⟩
      · rintro ⟨y, hy, hx⟩
        rcases List.mem_cons.1 hy with rfl | hy
        · rw [hk] at hx
          cases hx
          exact .inl rfl
        · exact .inr ⟨y, hy, hx⟩
theorem ch_self (s : Sh) (i : Nat) : i ∈ ch s i := by
  unfold ch
  rw [chF]
  simp
theorem Nx.in_iff (h : Nx a b) {i j k q : Nat} (hi : i < a.sc.length) (hj : j < a.sc.length) (hk : ltN a b i = some k) (hq : ltN a b j = some q) : q ∈ ch b k ↔ j ∈ ch a i := by
  rw [h.chain i hi k hk q]
  constructor
  · rintro ⟨y, hy, hx⟩
    have hyl : y < a.sc.length := Nat.lt_of_le_of_lt (ch_lt h.sa (Tab_lt h.ta) i hi y hy) hi
    rw [h.lt_inj hj hyl hq hx]
    exact hy
  · intro hx
    exact ⟨j, hx, hq⟩
/-- A row is in a scope just if what it became is in what that became. -/
theorem Nx.row_iff (h : Nx a b) {i j q : Nat} (hi : i < a.l.length) (hj : j < a.sc.length) (hq : ltN a b j = some q) : rowIn b (toN a b i) q ↔ rowIn a i j := by
  obtain ⟨x, h1, h2, h3⟩ := h.of_row hi
  obtain ⟨k, hk, _⟩ := h.lt_some h2
  unfold rowIn
  rw [h1, h3, hk]
  exact h.in_iff h2 hj hk hq
theorem inShut_iff {i : Nat} : inShut a b i = true ↔ ∃ x, x ∈ ch b i ∧ shutN a b x = true := by
  unfold inShut
  rw [List.any_eq_true]

/-! ### An order -/
theorem FF_self {l : List Row} (hT : Tab l) : ∀ i, i < l.length → FF l l i = some i := by
  intro i
  induction i using Nat.strongRecOn with
  | ind i ih =>
    intro hi
    by_cases h0 : i = 0
    · subst h0
      exact FF_zero hT.root.1
    · have hp := hT.up i hi hi
      have hp0 := hp.2 h0
      have hq := ih (at_ l i).p.toNat (by omega) (by omega)
      rw [FF_step hT hi h0, hq]
      show (kids l (((at_ l i).p.toNat : Nat) : Int))[rank l i]? = some i
      rw [Int.toNat_of_nonneg hp0]
      exact kids_split hi
theorem toN_self (hT : Tab a.l) {i : Nat} (hi : i < a.l.length) : toN a a i = i := toN_of (FF_self hT i hi)
theorem nextOk_self (h : chkS a = 0) : nextOk a a := by
  obtain ⟨hT, hs, _⟩ := chkS_split h
  have hL : ∀ i, i < a.sc.length → ltN a a i = some i := fun i hi => by
    unfold ltN
    have e : toR a a (sA a.sc i).r = (sA a.sc i).r := by
      have := sc_row hs.1 hT.pos hi
      unfold toR
      split
      · rw [toN_self hT (by omega)]
        omega
      · rfl
    rw [e]
    exact hs.1.fnd_own hi ⟨rfl, rfl⟩
  refine ⟨by rw [GrownT_self]; exact decide_eq_true hT, rfl, fun i hi => ⟨by rw [hL i hi]; simp, by rw [hL i hi]; exact ⟨rfl, id, id⟩⟩, fun k hk ho => ?_, fun i hi hw => ?_⟩
  · exact absurd (hL k hk) (oldN_none.1 ho k hk)
  · have : wasB a a i = true := wasB_iff.2 ⟨i, hi, toN_self hT hi⟩
    rw [this] at hw
    cases hw
theorem nxt_self (a : Sh) : nxt a a = chkS a := by
  unfold nxt
  by_cases h : chkS a = 0
  · rw [if_neg (by simpa using h), if_neg (by simpa using h), if_pos (nextOk_self h), h]
  · rw [if_pos h]
theorem FF_comp {l m n : List Row} (h1 : GrownT l m = true) (h2 : GrownT m n = true) : ∀ (i : Nat), i < l.length → ∀ k, FF l m i = some k → FF l n i = FF m n k := by
  intro i
  induction i using Nat.strongRecOn with
  | ind i ih =>
    intro hi k hk
    obtain ⟨hl, hm, _⟩ := GrownT_iff.1 h1
    by_cases h0 : i = 0
    · subst h0
      rw [FF_root h1] at hk
      cases hk
      rw [FF_root h2, FF_zero hl.root.1]
    · have hk0 := FF_pos h1 hi h0 hk
      have hkl := FF_lt hl hm hi hk
      obtain ⟨p, q, a1, a2, a3, a4, a5⟩ := FF_par h1 hi h0 hk
      have hr : rank m k = rank l i := by
        have e1 := kids_split hkl
        rw [a4] at e1
        have hlt := (List.getElem?_eq_some_iff.1 a5).1
        exact ((List.getElem?_inj hlt (kids_nodup m (q : Int))).1 (a5.trans e1.symm)).symm
      rw [FF_step hl hi h0, FF_step hm hkl hk0, a1, a4, Int.toNat_natCast, Int.toNat_natCast, ih p a2 (by omega) q a3, hr]
theorem toN_comp (h1 : GrownT a.l b.l = true) (h2 : GrownT b.l c.l = true) {i : Nat} (hi : i < a.l.length) : toN a c i = toN b c (toN a b i) := by
  have e := FF_comp h1 h2 i hi _ (toN_ff h1 hi)
  unfold toN at e ⊢
  rw [e]
theorem toR_comp (h1 : GrownT a.l b.l = true) (h2 : GrownT b.l c.l = true) {r : Int} (hr : r < a.l.length) : toR a c r = toR b c (toR a b r) := by
  unfold toR
  by_cases h0 : 0 ≤ r
  · rw [if_pos h0, if_pos h0, if_pos (by omega), Int.toNat_natCast, toN_comp h1 h2 (by omega)]
  · rw [if_neg h0, if_neg h0, if_neg h0]
theorem lt_comp (h1 : Nx a b) (h2 : Nx b c) {i k : Nat} (hi : i < a.sc.length) (hk : ltN a b i = some k) : ltN a c i = ltN b c k := by
  obtain ⟨_, ⟨e1, e2⟩, _⟩ := fnd_some hk
  unfold ltN
  rw [e1, e2, toR_comp h1.g h2.g (sc_row h1.sa.1 h1.ta.pos hi)]
theorem nextOk_trans (h1 : Nx a b) (h2 : Nx b c) : nextOk a c := by
  have hG := GrownT_trans h1.g h2.g
  refine ⟨hG, h1.ok.2.1.trans h2.ok.2.1, fun i hi => ?_, fun k hk ho => ?_, fun i hi hw => ?_⟩
  · obtain ⟨k, hk, hkl, _, hu⟩ := h1.lt_some hi
    obtain ⟨j, hj, _, _, hv⟩ := h2.lt_some hkl
    have e := (lt_comp h1 h2 hi hk).trans hj
    refine ⟨by rw [e]; simp, ?_⟩
    rw [e]
    exact ⟨hv.1.trans hu.1, fun h => hv.2.1 (hu.2.1 h), fun h => hv.2.2 (hu.2.2 h)⟩
  · have hno : ∀ i, i < a.sc.length → ltN a c i ≠ some k := oldN_none.1 ho
    rw [← Bool.not_eq_true]
    intro hs
    obtain ⟨x, hx, hsx⟩ := inShut_iff.1 hs
    obtain ⟨i, hi, hix, hc⟩ : ∃ i, i < a.sc.length ∧ ltN a c i = some x ∧ (sA a.sc i).c = true := by
      unfold shutN at hsx
      split at hsx
      · cases hsx
      · rename_i i hi
        obtain ⟨g1, g2⟩ := oldN_some hi
        exact ⟨i, g1, g2, hsx⟩
    obtain ⟨j, hj, hjl, _, hu⟩ := h1.lt_some hi
    have hjx : ltN b c j = some x := by rw [← lt_comp h1 h2 hi hj]; exact hix
    have hsb : inShut b c k = true := inShut_iff.2 ⟨x, hx, h2.shut_iff.2 ⟨j, hjl, hjx, hu.2.2 hc⟩⟩
    cases ho2 : oldS b c k with
    | none =>
      rw [h2.ok.2.2.2.1 k hk ho2] at hsb
      cases hsb
    | some k' =>
      obtain ⟨hk'l, hk'⟩ := h2.old_iff.1 ho2
      have hj' : j ∈ ch b k' := (h2.in_iff hk'l hjl hk' hjx).1 hx
      have hsa : inShut a b k' = true := inShut_iff.2 ⟨j, hj', h1.shut_iff.2 ⟨i, hi, hj, hc⟩⟩
      cases ho3 : oldS a b k' with
      | none =>
        rw [h1.ok.2.2.2.1 k' hk'l ho3] at hsa
        cases hsa
      | some k'' =>
        obtain ⟨g1, g2⟩ := h1.old_iff.1 ho3
        exact hno k'' g1 ((lt_comp h1 h2 g1 g2).trans hk')
  · have hno : ∀ j, j < a.l.length → toN a c j ≠ i := fun j hj e => by
      have : wasB a c i = true := wasB_iff.2 ⟨j, hj, e⟩
      rw [this] at hw
      cases hw
    rw [← Bool.not_eq_true]
    intro hs
    obtain ⟨x, hx, hsx⟩ := inShut_iff.1 hs
    obtain ⟨i', hi', hix, hc⟩ : ∃ i, i < a.sc.length ∧ ltN a c i = some x ∧ (sA a.sc i).c = true := by
      unfold shutN at hsx
      split at hsx
      · cases hsx
      · rename_i i hi
        obtain ⟨g1, g2⟩ := oldN_some hi
        exact ⟨i, g1, g2, hsx⟩
    obtain ⟨j, hj, hjl, _, hu⟩ := h1.lt_some hi'
    have hjx : ltN b c j = some x := by rw [← lt_comp h1 h2 hi' hj]; exact hix
    have hsb : inShut b c ((ofN c i).getD 0) = true := inShut_iff.2 ⟨x, hx, h2.shut_iff.2 ⟨j, hjl, hjx, hu.2.2 hc⟩⟩
    cases hw2 : wasB b c i with
    | false =>
      rw [h2.ok.2.2.2.2 i hi hw2] at hsb
      cases hsb
    | true =>
      obtain ⟨r, hr, rfl⟩ := wasB_iff.1 hw2
      have hj' : rowIn b r j := (h2.row_iff hr hjl hjx).1 hx
      have hsa : inShut a b ((ofN b r).getD 0) = true := inShut_iff.2 ⟨j, hj', h1.shut_iff.2 ⟨i', hi', hj, hc⟩⟩
      cases hw3 : wasB a b r with
      | false =>
        rw [h1.ok.2.2.2.2 r hr hw3] at hsa
        cases hsa
      | true =>
        obtain ⟨r', hr', rfl⟩ := wasB_iff.1 hw3
        exact hno r' hr' (toN_comp h1.g h2.g hr')
theorem nxt_trans (h1 : nxt a b = 0) (h2 : nxt b c = 0) : nxt a c = 0 := by
  obtain ⟨a1, a2, a3⟩ := nxt_zero.1 h1
  obtain ⟨b1, b2, b3⟩ := nxt_zero.1 h2
  exact nxt_zero.2 ⟨a1, b2, nextOk_trans ⟨a1, a2, a3⟩ ⟨b1, b2, b3⟩⟩

/-! ### What was in a closed scope -/
def inRows (s : Sh) (j : Nat) : List Nat := (List.range s.l.length).filter fun i => decide (rowIn s i j)
def stepsOf (s : Sh) (L : List Nat) : Int := (L.map fun i => (at_ s.l i).s).foldl (· + ·) 0
theorem Nx.rows (h : Nx a b) {j q : Nat} (hj : j < a.sc.length) (hq : ltN a b j = some q) (hc : (sA a.sc j).c = true) : (inRows b q).Perm ((inRows a j).map (toN a b)) := by
  have hnd : ((inRows a j).map (toN a b)).Nodup := by
    refine List.pairwise_map.2 (List.Pairwise.imp_of_mem (R := fun x y => x ≠ y) ?_ (List.Pairwise.filter _ List.nodup_range))
    intro x y hx hy hne e
    unfold inRows at hx hy
    rw [List.mem_filter, List.mem_range] at hx hy
    exact hne (toN_inj h.g hx.1 hy.1 e)
  refine (List.perm_ext_iff_of_nodup (List.Pairwise.filter _ List.nodup_range) hnd).2 fun x => ?_
  unfold inRows
  rw [List.mem_filter, List.mem_range, List.mem_map, decide_eq_true_iff]
  constructor
  · rintro ⟨h1, h2⟩
    cases hw : wasB a b x with
    | false =>
      have h3 := h.ok.2.2.2.2 x h1 hw
      have h4 : inShut a b ((ofN b x).getD 0) = true := inShut_iff.2 ⟨q, h2, h.shut_iff.2 ⟨j, hj, hq, hc⟩⟩
      rw [h3] at h4
      cases h4
    | true =>
      obtain ⟨r, hr, rfl⟩ := wasB_iff.1 hw
      exact ⟨r, by rw [List.mem_filter, List.mem_range, decide_eq_true_iff]; exact ⟨hr, (h.row_iff hr hj hq).1 h2⟩, rfl⟩
  · rintro ⟨r, hr, rfl⟩
    rw [List.mem_filter, List.mem_range, decide_eq_true_iff] at hr
    exact ⟨toN_lt h.g hr.1, (h.row_iff hr.1 hj hq).2 hr.2⟩
theorem foldl_add (L : List Int) : ∀ z, L.foldl (· + ·) z = z + L.foldl (· + ·) 0 := by
  induction L with
  | nil => intro z; simp
  | cons x L ih =>
    intro z
    rw [List.foldl_cons, List.foldl_cons, ih (z + x), ih (0 + x)]
    omega
theorem foldl_perm {L M : List Int} (h : L.Perm M) : L.foldl (· + ·) 0 = M.foldl (· + ·) 0 := by
  induction h with
  | nil => rfl
  | cons x _ ih => rw [List.foldl_cons, List.foldl_cons, foldl_add _ (0 + x), foldl_add _ (0 + x), ih]
  | swap x y l => rw [List.foldl_cons, List.foldl_cons, List.foldl_cons, List.foldl_cons, foldl_add _ (0 + y + x), foldl_add _ (0 + x + y)]; omega
  | trans _ _ h1 h2 => exact h1.trans h2
theorem Nx.stays (h : Nx a b) {j q : Nat} (hj : j < a.sc.length) (hq : ltN a b j = some q) (hc : (sA a.sc j).c = true) :
    (inRows b q).length = (inRows a j).length ∧ stepsOf b (inRows b q) = stepsOf a (inRows a j) := by
  have hp := h.rows hj hq hc
  refine ⟨by rw [hp.length_eq, List.length_map], ?_⟩
  unfold stepsOf
  rw [foldl_perm (hp.map _), List.map_map]
  congr 1
  refine List.map_congr_left fun i hi => ?_
  unfold inRows at hi
  rw [List.mem_filter, List.mem_range, decide_eq_true_iff] at hi
  have hcl := (chkS_split h.ca).2.2.2.2 j hj hc
  have hk := (hcl.2 i hi.1 hi.2).1
  obtain ⟨k, hk1, hk2, hk3⟩ := FF_some h.g hi.1
  have hb := (bec_split hk3).2.2.2
  have hcm : came (at_ a.l i) = true := decide_eq_true hk
  rw [if_pos hcm, Bool.and_eq_true, decide_eq_true_iff] at hb
  have := (noP_k hb.1).2.2.2.2.1
  rw [Function.comp_apply, toN_of hk1]
  exact this.symm
/-- A closed scope's rows: all have come to something, and stand nowhere. -/
theorem closed_rows {s : Sh} (h : chkS s = 0) {j : Nat} (hj : j < s.sc.length) (hc : (sA s.sc j).c = true) : (sA s.sc j).v = 0 ∧ ∀ i ∈ inRows s j, 2 ≤ (at_ s.l i).k ∧ (i : Int) ∉ allS s.ws ∧ (i : Int) ∉ allD s.ws := by
  have hcl := (chkS_split h).2.2.2.2 j hj hc
  refine ⟨hcl.1, fun i hi => ?_⟩
  unfold inRows at hi
  rw [List.mem_filter, List.mem_range, decide_eq_true_iff] at hi
  exact hcl.2 i hi.1 hi.2
end
end P20
end Go.Proofs.YtajbchecjbddgaaGreatDoor
