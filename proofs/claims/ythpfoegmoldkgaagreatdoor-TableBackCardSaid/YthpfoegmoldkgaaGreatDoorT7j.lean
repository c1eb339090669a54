/- Walk: package table's Print. -/
import Derived.Test.YthpfoegmoldkgaaGreatDoorT7i
namespace Go.Proofs.YthpfoegmoldkgaaGreatDoor
open Go.RowKit
namespace P7

section
variable {P : Program} {ops : Array Oper} {Q : Exit → Act → World → Prop} {md : Region.Mode} {S S' : World → Prop}
/-- A stronger condition for the rest of a region. -/
theorem wpAnyH_strong (h : ∀ w, S' w → S w) : ∀ (fuel : Nat) (listed : Array Bool) (a : Act) (w : World), wpAnyH P md ops Q S' fuel listed a w → wpAnyH P md ops Q S fuel listed a w
  | 0, _, _, _, k => k
  | fuel + 1, _, _, _, k => ⟨k.1, fun i hi => wpOp_mono (fun a' w' h' => ⟨h w' h'.1, wpAnyH_strong h fuel _ a' w' h'.2⟩) (k.2 i hi)⟩
end

def BldR (w : World) (B : Nat) (l : List Row) (n : Nat) (i : Value) (wr : World) : Prop := ∃ k : Nat, k ≤ n ∧ i = .int .i64 k ∧ Lib.IsBuilder 38 5 B B (Lib.byteCells (textTo l k)) wr ∧ Below w.heap.size w wr ∧ B < wr.heap.size
theorem bld_next {w w' : World} {B b : Nat} {bs : List Value} (h : Lib.IsBuilder 38 5 B b bs w) (hb : Below w.heap.size w w') : Lib.IsBuilder 38 5 B b bs w' := by
  rcases h with ⟨h1, v, h2, h3, h4⟩ | ⟨h1, v, h2, h3, h4⟩
  · exact .inl ⟨h1, v, blk_next h2 hb, own_below h3 hb, h4⟩
  · exact .inr ⟨h1, v, blk_next h2 hb, own_below h3 hb, h4⟩
theorem lt_of_bld {w : World} {B b : Nat} {bs : List Value} (h : Lib.IsBuilder 38 5 B b bs w) : b < w.heap.size := by
  rcases h with ⟨_, _, h2, _⟩ | ⟨_, _, h2, _⟩ <;> exact lt_of_block h2
theorem digit_byte (d : Nat) (h : d < 10) : 48 ≤ UInt8.ofNat (48 + d) := by
  rw [UInt8.le_iff_toNat_le, UInt8.toNat_ofNat']
  have h48 : (48 : UInt8).toNat = 48 := rfl
  omega
theorem digits_byte (u : Nat) : ∀ b ∈ Lib.decDigits u, 48 ≤ b := by
  induction u using Nat.strongRecOn with
  | ind u ih =>
    rw [Lib.decDigits]
    by_cases h : u < 10
    · rw [dif_pos h]
      intro b hb
      have : b = UInt8.ofNat (48 + u) := by simpa using hb
      rw [this]; exact digit_byte u h
    · rw [dif_neg h]
      intro b hb
      rcases List.mem_append.1 hb with hb | hb
      · exact ih (u / 10) (by omega) b hb
      · have : b = UInt8.ofNat (48 + u % 10) := by simpa using hb
        rw [this]; exact digit_byte _ (by omega)
theorem or_head {k : Nat} {rp : Int} (h : (k = 0 → rp = -1) ∧ (k ≠ 0 → 0 ≤ rp)) (W : World) : Calls Tryz.prog 11 #[.string ⟨(Lib.itoa rp).toArray⟩, .string ⟨#[45, 49]⟩, .string ⟨#[45]⟩] W fun e w' => e = .returned (.string ⟨(if decide (k = 0) then [45] else Lib.itoa rp).toArray⟩) ∧ w' = W := by
  by_cases h0 : k = 0
  · rw [h.1 h0, show Lib.itoa (-1) = [45, 49] from by rw [Lib.itoa, if_pos (by decide)]; exact congrArg (45 :: ·) (Lib.decDigits_one (by decide)), decide_eq_true h0]
    exact or_same ⟨#[45, 49]⟩ _ W
  · rw [decide_eq_false h0]
    refine or_else _ _ _ (fun e => ?_) W
    have h1 := h.2 h0
    obtain ⟨a, rfl⟩ := Int.eq_ofNat_of_zero_le h1
    have e2 : Lib.itoa (a : Int) = [45, 49] := congrArg (·.data.toList) e
    rw [Lib.itoa_nonneg] at e2
    have := digits_byte a 45 (by rw [e2]; simp)
    exact absurd this (by decide)
theorem or_tail (c : ByteArray) (W : World) : Calls Tryz.prog 11 #[.string c, .string ⟨#[]⟩, .string ⟨#[45]⟩] W fun e w' => e = .returned (.string (if c.size = 0 then ⟨#[45]⟩ else c)) ∧ w' = W := by
  by_cases h : c.size = 0
  · rw [if_pos h]
    have : c = ⟨#[]⟩ := by
      apply ByteArray.ext
      exact Array.eq_empty_of_size_eq_zero h
    rw [this]
    exact or_same _ _ W
  · rw [if_neg h]
    exact or_else _ _ _ (fun e => h (by rw [e]; rfl)) W
theorem kinds_at (k : Int) (kw : ByteArray) (hk : kindW k = kw) (h0 : 0 ≤ k) (h1 : k ≤ 4) (W : World) : Calls Tryz.prog 13 #[] W fun e w' => e = .returned (.slice (some ⟨W.heap.size, 0, none⟩) 5 5) ∧ Below W.heap.size W w' ∧ w'.cell? ⟨W.heap.size, k.toNat, none⟩ = some (.string kw) ∧ W.heap.size < w'.heap.size := by
  refine (kinds_any W).mono ?_
  rintro e w' ⟨rfl, rfl⟩
  refine ⟨rfl, by go_grown, ?_, by simp⟩
  rw [cell_of_row _ _ _ _ _ _ (heap_alloc_last W _), ← hk]
  have h : k = 0 ∨ k = 1 ∨ k = 2 ∨ k = 3 ∨ k = 4 := by omega
  rcases h with rfl | rfl | rfl | rfl | rfl <;> rfl
theorem join_line (r : Row) (first : Bool) : Lib.join ([(⟨(if first then [45] else Lib.itoa r.p).toArray⟩ : ByteArray), ⟨(Lib.itoa r.i).toArray⟩, ⟨(Lib.itoa r.f).toArray⟩, kindW r.k, ⟨(Lib.itoa r.v).toArray⟩, ⟨(Lib.itoa r.s).toArray⟩, (if r.c.size = 0 then (⟨#[45]⟩ : ByteArray) else r.c)].map (·.data.toList)) [32] ++ [10] = lineB r first := by
  rw [List.map_cons, Lib.join_cons]
  by_cases h : r.c.size = 0 <;> simp [Lib.joinTail, lineB, h]
theorem textTo_mono (l : List Row) (a b : Nat) (h : a ≤ b) : (textTo l a).length ≤ (textTo l b).length := by
  induction b with
  | zero => rw [show a = 0 by omega]; exact Nat.le_refl _
  | succ b ih =>
    rcases Nat.lt_or_ge b a with h1 | h1
    · rw [show a = b + 1 by omega]; exact Nat.le_refl _
    · rw [textTo_succ, List.length_append]
      have := ih h1
      omega
set_option maxRecDepth 10000 in
set_option maxHeartbeats 4000000 in
theorem printB_any {w : World} {v : Value} {l : List Row} (hR : Rws w v l) (hs : SmallB l) (htl : (textTo l l.length).length ≤ 131072) (hpow : Pow w) : Calls Tryz.prog 6 #[v] w (PrintPost l w) := by
  have hC := checkB_any hR.sl hs
  have HTL := Lib.hid htl
  clear htl
  have HPOW := Lib.hid hpow
  clear hpow
  obtain ⟨A, c, rfl, hc, ho⟩ := rows_open hR.sl
  obtain ⟨E, hE⟩ := name_of (chk (l.length + 1) l)
  obtain ⟨n, hn⟩ := name_of l.length
  have HN := Lib.hid hn
  have HE := Lib.hid hE
  have HO := Lib.hid (fun k hk => ho k hk)
  have HWF := Lib.hid (fun k hk => hR.wfAt (k := k) hk)
  have HSM := Lib.hid hs
  have HR := Lib.hid hR
  have hlen := hs.1
  rw [hE] at hC
  rw [hn] at hc hlen hC ⊢
  clear hn ho hs hR hE
  by_cases hE0 : E = 0
  · have hT : Tab l := HE.out.trans hE0
    have HT := Lib.hid hT
    have e0 : (E != 0) = false := by simpa using hE0
    have HPT : Hid (printT l = textTo l n) := Lib.hid (by rw [printT, if_pos (HE.out.trans hE0), HN.out])
    have HE0 := Lib.hid hE0
    clear hE0 hT
    go_enter Tryz.func6, Tryz.ntmps6
    go_wp2_with fail
    refine hC.mono ?_
    rintro e w1 ⟨rfl, hb1⟩
    clear hC
    go_wp2_with fail
    -- the loop
    go_loopw [16] (fun i wr => BldR w w1.heap.size l n i wr) (fun i _ => n - (intOf i).toNat)
    case atStart => exact ⟨0, Nat.zero_le _, rfl, Lib.fresh_isBuilder 38 5 w1, hb1.alloc hb1.size _, by simp⟩
    case round =>
      obtain ⟨k, hk, rfl, hI, hB, hsz⟩ := hrel
      by_cases hlt : k < n
      · obtain ⟨b, off, rfl, hb, h0, h1, h2, h3, h4, h5, h6⟩ := HO.out k (by have := HN.out; omega)
        have hwf := HWF.out k (by have := HN.out; omega)
        have hru := right_up (HT.out.row k (by have := HN.out; omega))
        have hle : (textTo l (k + 1)).length ≤ 131072 := Nat.le_trans (textTo_mono l (k + 1) l.length (by have := HN.out; omega)) HTL.out
        rw [textTo_succ, List.length_append] at hle
        have hcs := HSM.out.2 k (by have := HN.out; omega)
        obtain ⟨⟨rp, ri, rf, rk, rv, rs, rc⟩, hr⟩ := name_of (at_ l k)
        have HTS := Lib.hid (textTo_succ l k)
        have HROW := Lib.hid hr
        have hfirst : (k = 0 → rp = -1) ∧ (k ≠ 0 → 0 ≤ rp) := by
          have h := hru.1
          constructor
          · intro e; subst e; rw [place_first, hr] at h; exact of_decide_eq_true h
          · intro e
            have := (place_up' h e).1
            rw [hr] at this; exact this
        rw [hr] at h0 h1 h2 h3 h4 h5 h6 hwf hru hcs
        rw [hr] at hle
        have hll : (lineB ⟨rp, ri, rf, rk, rv, rs, rc⟩ (decide (k = 0))).length ≤ 131072 := by omega
        obtain ⟨⟨p1, p2⟩, ⟨i1, i2⟩, ⟨f1, f2⟩, ⟨k1, k2⟩, ⟨v1, v2⟩, ⟨s1, s2⟩, c1⟩ := hwf
        obtain ⟨-, -, -, -, q1, q2, -, -⟩ := span_good hru.2.1
        dsimp only at h0 h1 h2 h3 h4 h5 h6 p1 p2 i1 i2 f1 f2 k1 k2 v1 v2 s1 s2 c1 q1 q2 hcs
        have gb := fun j => hB.cell (p := ⟨b, j, none⟩) hb
        have d0 := (gb _).trans h0
        have d1 := (gb _).trans h1
        have d2 := (gb _).trans h2
        have d3 := (gb _).trans h3
        have d4 := (gb _).trans h4
        have d5 := (gb _).trans h5
        have d6 := (gb _).trans h6
        obtain ⟨ti, hti⟩ := name_of (⟨(Lib.itoa ri).toArray⟩ : ByteArray)
        obtain ⟨tf, htf⟩ := name_of (⟨(Lib.itoa rf).toArray⟩ : ByteArray)
        obtain ⟨tv, htv⟩ := name_of (⟨(Lib.itoa rv).toArray⟩ : ByteArray)
        obtain ⟨ts, hts⟩ := name_of (⟨(Lib.itoa rs).toArray⟩ : ByteArray)
        obtain ⟨ip, hip⟩ := name_of (⟨(Lib.itoa rp).toArray⟩ : ByteArray)
        obtain ⟨pp, hpp⟩ := name_of (⟨(if decide (k = 0) then [45] else Lib.itoa rp).toArray⟩ : ByteArray)
        obtain ⟨kw, hkw⟩ := name_of (kindW rk)
        obtain ⟨tc, htc⟩ := name_of (if rc.size = 0 then (⟨#[45]⟩ : ByteArray) else rc)
        have hIp := fun W hW => itoa_any rp p1 p2 W hW
        have hIi := fun W hW => itoa_any ri i1 i2 W hW
        have hIf := fun W hW => itoa_any rf f1 f2 W hW
        have hIs := fun W hW => itoa_any rs s1 s2 W hW
        have hFv := fun W hW => format_any rv v1 v2 W hW
        rw [hip] at hIp
        rw [hti] at hIi
        rw [htf] at hIf
        rw [hts] at hIs
        rw [htv] at hFv
        have hOp : ∀ W, Calls Tryz.prog 11 #[.string ip, .string ⟨#[45, 49]⟩, .string ⟨#[45]⟩] W fun e w' => e = .returned (.string pp) ∧ w' = W := fun W => by
          rw [← hip, ← hpp]
          exact or_head hfirst W
        have hOc : ∀ W, Calls Tryz.prog 11 #[.string rc, .string ⟨#[]⟩, .string ⟨#[45]⟩] W fun e w' => e = .returned (.string tc) ∧ w' = W := fun W => by
          rw [← htc]
          exact or_tail rc W
        have HLW : Hid (Lib.join ([pp, ti, tf, kw, tv, ts, tc].map (·.data.toList)) [32] ++ [10] = lineB ⟨rp, ri, rf, rk, rv, rs, rc⟩ (decide (k = 0))) := Lib.hid (by
          rw [← hpp, ← hti, ← htf, ← hkw, ← htv, ← hts, ← htc]
          exact join_line ⟨rp, ri, rf, rk, rv, rs, rc⟩ _)
        have HKW := Lib.hid hkw
        have HPW := Lib.hid (HPOW.out.next hB)
        have hP := PrS.make wr rp ri rf rk rv rs rc
        have hlw := lt_of_bld hI
        have HI := Lib.hid hI
        have HB := Lib.hid hB
        have HLE := Lib.hid (And.intro hle hll)
        clear h0 h1 h2 h3 h4 h5 h6 gb hr hru hip hti htf htv hts hpp hkw htc hI hB hle hll hfirst p1 p2 i1 i2 f1 f2 k1 k2 v1 v2 s1 s2 c1
        go_wp2_with fail
        obtain ⟨w7, hw7⟩ := name_of (wr.alloc (.cells #[.int .i64 rp, .int .i64 ri, .int .i64 rf, .int .i64 rk, .int .i64 rv, .int .i64 rs, .string rc] 34))
        rw [hw7] at hP ⊢
        clear hw7 d0 d1 d2 d3 d4 d5 d6
        refine wp_region_held_drew (S := (fun W => PrS wr wr.heap.size rp ri rf rk rv rs rc W)) (by kernel_rfl) hP.drew (fun hH => ?_)
        refine wpAnyH_take (i := 0) (v := .pointer (some ⟨wr.heap.size, 0, none⟩)) rfl (by kernel_rfl) (by kernel_rfl) (by kernel_rfl) (fun _ _ _ h => h) (Or.inl ⟨by rfl, fun W hS => ?_⟩) hH ?_
        · clear hS
          go_simp
        try simp only [Act.put]
        try simp only [List.setIfInBounds_toArray]
        refine wpAnyH_take (i := 1) (v := .int .i64 rp) rfl (by kernel_rfl) (by kernel_rfl) (by kernel_rfl) (fun _ _ _ h => h) (Or.inl ⟨by rfl, fun W hS => ?_⟩) hH ?_
        · obtain ⟨-, c0, c1, c2, c3, c4, c5, c6, -⟩ := hS
          go_simp
        try simp only [Act.put]
        try simp only [List.setIfInBounds_toArray]
        refine wpAnyH_take (i := 4) (v := .pointer (some ⟨wr.heap.size, 1, none⟩)) rfl (by kernel_rfl) (by kernel_rfl) (by kernel_rfl) (fun _ _ _ h => h) (Or.inl ⟨by rfl, fun W hS => ?_⟩) hH ?_
        · clear hS
          go_simp
        try simp only [Act.put]
        try simp only [List.setIfInBounds_toArray]
        refine wpAnyH_take (i := 5) (v := .int .i64 ri) rfl (by kernel_rfl) (by kernel_rfl) (by kernel_rfl) (fun _ _ _ h => h) (Or.inl ⟨by rfl, fun W hS => ?_⟩) hH ?_
        · obtain ⟨-, c0, c1, c2, c3, c4, c5, c6, -⟩ := hS
          go_simp
        try simp only [Act.put]
        try simp only [List.setIfInBounds_toArray]
        refine wpAnyH_take (i := 7) (v := .pointer (some ⟨wr.heap.size, 2, none⟩)) rfl (by kernel_rfl) (by kernel_rfl) (by kernel_rfl) (fun _ _ _ h => h) (Or.inl ⟨by rfl, fun W hS => ?_⟩) hH ?_
        · clear hS
          go_simp
        try simp only [Act.put]
        try simp only [List.setIfInBounds_toArray]
        refine wpAnyH_take (i := 8) (v := .int .i64 rf) rfl (by kernel_rfl) (by kernel_rfl) (by kernel_rfl) (fun _ _ _ h => h) (Or.inl ⟨by rfl, fun W hS => ?_⟩) hH ?_
        · obtain ⟨-, c0, c1, c2, c3, c4, c5, c6, -⟩ := hS
          go_simp
        try simp only [Act.put]
        try simp only [List.setIfInBounds_toArray]
        refine wpAnyH_take (i := 11) (v := .pointer (some ⟨wr.heap.size, 3, none⟩)) rfl (by kernel_rfl) (by kernel_rfl) (by kernel_rfl) (fun _ _ _ h => h) (Or.inl ⟨by rfl, fun W hS => ?_⟩) hH ?_
        · clear hS
          go_simp
        try simp only [Act.put]
        try simp only [List.setIfInBounds_toArray]
        refine wpAnyH_take (i := 12) (v := .int .i64 rk) rfl (by kernel_rfl) (by kernel_rfl) (by kernel_rfl) (fun _ _ _ h => h) (Or.inl ⟨by rfl, fun W hS => ?_⟩) hH ?_
        · obtain ⟨-, c0, c1, c2, c3, c4, c5, c6, -⟩ := hS
          go_simp
        try simp only [Act.put]
        try simp only [List.setIfInBounds_toArray]
        refine wpAnyH_take (i := 15) (v := .pointer (some ⟨wr.heap.size, 4, none⟩)) rfl (by kernel_rfl) (by kernel_rfl) (by kernel_rfl) (fun _ _ _ h => h) (Or.inl ⟨by rfl, fun W hS => ?_⟩) hH ?_
        · clear hS
          go_simp
        try simp only [Act.put]
        try simp only [List.setIfInBounds_toArray]
        refine wpAnyH_take (i := 16) (v := .int .i64 rv) rfl (by kernel_rfl) (by kernel_rfl) (by kernel_rfl) (fun _ _ _ h => h) (Or.inl ⟨by rfl, fun W hS => ?_⟩) hH ?_
        · obtain ⟨-, c0, c1, c2, c3, c4, c5, c6, -⟩ := hS
          go_simp
        try simp only [Act.put]
        try simp only [List.setIfInBounds_toArray]
        refine wpAnyH_take (i := 18) (v := .pointer (some ⟨wr.heap.size, 5, none⟩)) rfl (by kernel_rfl) (by kernel_rfl) (by kernel_rfl) (fun _ _ _ h => h) (Or.inl ⟨by rfl, fun W hS => ?_⟩) hH ?_
        · clear hS
          go_simp
        try simp only [Act.put]
        try simp only [List.setIfInBounds_toArray]
        refine wpAnyH_take (i := 19) (v := .int .i64 rs) rfl (by kernel_rfl) (by kernel_rfl) (by kernel_rfl) (fun _ _ _ h => h) (Or.inl ⟨by rfl, fun W hS => ?_⟩) hH ?_
        · obtain ⟨-, c0, c1, c2, c3, c4, c5, c6, -⟩ := hS
          go_simp
        try simp only [Act.put]
        try simp only [List.setIfInBounds_toArray]
        refine wpAnyH_take (i := 21) (v := .pointer (some ⟨wr.heap.size, 6, none⟩)) rfl (by kernel_rfl) (by kernel_rfl) (by kernel_rfl) (fun _ _ _ h => h) (Or.inl ⟨by rfl, fun W hS => ?_⟩) hH ?_
        · clear hS
          go_simp
        try simp only [Act.put]
        try simp only [List.setIfInBounds_toArray]
        refine wpAnyH_take (i := 22) (v := .string rc) rfl (by kernel_rfl) (by kernel_rfl) (by kernel_rfl) (fun _ _ _ h => h) (Or.inl ⟨by rfl, fun W hS => ?_⟩) hH ?_
        · obtain ⟨-, c0, c1, c2, c3, c4, c5, c6, -⟩ := hS
          go_simp
        try simp only [Act.put]
        try simp only [List.setIfInBounds_toArray]
        refine wpAnyH_ready (rs := [2]) (by kernel_rfl) (by simp) (AllReadyH.cons rfl (fun K hK => ?_) AllReadyH.nil)
        go_simp
        refine (hIp _ (HPW.out.next (PrS.gr hH))).mono ?_
        rintro e w8 ⟨rfl, hb⟩
        refine hK.out _ _ (hH.next hb) (fun hH => ?_)
        clear hK K
        try simp only [Act.put]
        try simp only [List.setIfInBounds_toArray]
        refine wpAnyH_ready (rs := [3]) (by kernel_rfl) (by simp) (AllReadyH.cons rfl (fun K hK => ?_) AllReadyH.nil)
        go_simp
        refine (hOp _).mono ?_
        rintro e w' ⟨rfl, rfl⟩
        refine hK.out _ _ hH (fun hH => ?_)
        clear hK K
        try simp only [Act.put]
        try simp only [List.setIfInBounds_toArray]
        refine wpAnyH_ready (rs := [6]) (by kernel_rfl) (by simp) (AllReadyH.cons rfl (fun K hK => ?_) AllReadyH.nil)
        go_simp
        refine (hIi _ (HPW.out.next (PrS.gr hH))).mono ?_
        rintro e w9 ⟨rfl, hb⟩
        refine hK.out _ _ (hH.next hb) (fun hH => ?_)
        clear hK K
        try simp only [Act.put]
        try simp only [List.setIfInBounds_toArray]
        refine wpAnyH_ready (rs := [9]) (by kernel_rfl) (by simp) (AllReadyH.cons rfl (fun K hK => ?_) AllReadyH.nil)
        go_simp
        refine (hIf _ (HPW.out.next (PrS.gr hH))).mono ?_
        rintro e w10 ⟨rfl, hb⟩
        refine hK.out _ _ (hH.next hb) (fun hH => ?_)
        clear hK K
        try simp only [Act.put]
        try simp only [List.setIfInBounds_toArray]
        refine wpAnyH_ready (rs := [10]) (by kernel_rfl) (by simp) (AllReadyH.cons rfl (fun K hK => ?_) AllReadyH.nil)
        go_simp
        refine (kinds_at rk kw HKW.out q1 q2 _).mono ?_
        rintro e w11 ⟨rfl, hb, hcell, hgl⟩
        refine hK.out _ _ (hH.next hb) (fun hH => ?_)
        clear hK K
        try simp only [Act.put]
        try simp only [List.setIfInBounds_toArray]
        obtain ⟨g, hg⟩ := name_of w10.heap.size
        rw [hg] at hcell hgl ⊢
        have hH2 := And.intro hH (And.intro hcell hgl)
        refine wpAnyH_strong (S' := fun W => PrS wr wr.heap.size rp ri rf rk rv rs rc W ∧ W.cell? ⟨g, rk.toNat, none⟩ = some (.string kw) ∧ g < W.heap.size) (fun _ h => h.1) _ _ _ _ ?_
        clear hH hcell hgl hg hb
        have hH := hH2
        clear hH2
        refine wpAnyH_take (i := 13) (v := .pointer (some ⟨g, rk.toNat, none⟩)) rfl (by kernel_rfl) (by kernel_rfl) (by kernel_rfl) (fun _ _ _ h => h) (Or.inl ⟨by rfl, fun W hS => ?_⟩) hH ?_
        · clear hS
          go_simp
          intro h5
          omega
        try simp only [Act.put]
        try simp only [List.setIfInBounds_toArray]
        refine wpAnyH_take (i := 14) (v := .string kw) rfl (by kernel_rfl) (by kernel_rfl) (by kernel_rfl) (fun _ _ _ h => h) (Or.inl ⟨by rfl, fun W hS => ?_⟩) hH ?_
        · obtain ⟨-, hS, -⟩ := hS
          go_simp
        try simp only [Act.put]
        try simp only [List.setIfInBounds_toArray]
        refine wpAnyH_ready (rs := [17]) (by kernel_rfl) (by simp) (AllReadyH.cons rfl (fun K hK => ?_) AllReadyH.nil)
        go_simp
        refine (hFv _ (HPW.out.next (PrS.gr hH.1))).mono ?_
        rintro e w12 ⟨rfl, hb⟩
        refine hK.out _ _ ⟨hH.1.next hb, (hb.cell (p := ⟨g, _, none⟩) hH.2.2).trans hH.2.1, Nat.lt_of_lt_of_le hH.2.2 hb.size⟩ (fun hH => ?_)
        clear hK K
        try simp only [Act.put]
        try simp only [List.setIfInBounds_toArray]
        refine wpAnyH_ready (rs := [20]) (by kernel_rfl) (by simp) (AllReadyH.cons rfl (fun K hK => ?_) AllReadyH.nil)
        go_simp
        refine (hIs _ (HPW.out.next (PrS.gr hH.1))).mono ?_
        rintro e w13 ⟨rfl, hb⟩
        refine hK.out _ _ ⟨hH.1.next hb, (hb.cell (p := ⟨g, _, none⟩) hH.2.2).trans hH.2.1, Nat.lt_of_lt_of_le hH.2.2 hb.size⟩ (fun hH => ?_)
        clear hK K
        try simp only [Act.put]
        try simp only [List.setIfInBounds_toArray]
        refine wpAnyH_ready (rs := [23]) (by kernel_rfl) (by simp) (AllReadyH.cons rfl (fun K hK => ?_) AllReadyH.nil)
        go_simp
        refine (hOc _).mono ?_
        rintro e w13 ⟨rfl, rfl⟩
        refine hK.out _ _ hH (fun hH => ?_)
        clear hK K
        try simp only [Act.put]
        try simp only [List.setIfInBounds_toArray]
        refine wpAnyH_ready (rs := [24]) (by kernel_rfl) (by simp) (AllReadyH.cons rfl (fun K hK => ?_) AllReadyH.nil)
        go_simp
        have hb : Below w13.heap.size w13 (w13.alloc (.cells #[.string pp, .string ti, .string tf, .string kw, .string tv, .string ts, .string tc] 9)) := by go_grown
        have hB13 := HB.out.next (PrS.gr hH.1)
        have hI13 := bld_next HI.out (PrS.gr hH.1)
        refine hK.out _ _ ⟨hH.1.next hb, (hb.cell (p := ⟨g, _, none⟩) hH.2.2).trans hH.2.1, Nat.lt_of_lt_of_le hH.2.2 hb.size⟩ (fun hH => ?_)
        clear hK K
        try simp only [Act.put]
        try simp only [List.setIfInBounds_toArray]
        refine wpAnyH_take (i := 25) (v := .slice (some ⟨w13.heap.size, 0, none⟩) 7 7) rfl (by kernel_rfl) (by kernel_rfl) (by kernel_rfl) (fun _ _ _ h => h) (Or.inl ⟨by rfl, fun W hS => ?_⟩) hH ?_
        · clear hS
          go_simp
        try simp only [Act.put]
        try simp only [List.setIfInBounds_toArray]
        refine wpAnyH_done (by kernel_rfl) ?_ _
        have hB14 := hB13.next hb
        have hI14 := bld_next hI13 hb
        clear hH hB13 hI13 hIp hIi hIf hIs hFv hOp hOc hb
        have hcl := fun j => cell_of_row _ _ j _ _ _ (heap_alloc_last w13 (.cells #[.string pp, .string ti, .string tf, .string kw, .string tv, .string ts, .string tc] 9))
        obtain ⟨h18, h300⟩ := HLE.out
        have hjl : (Lib.join ([pp, ti, tf, kw, tv, ts, tc].map (·.data.toList)) [32]).length ≤ 131072 := by
          have := congrArg List.length HLW.out
          rw [List.length_append] at this
          omega
        have hJ := Tryz.strings_Join w13.heap.size 0 7 [pp, ti, tf, kw, tv, ts, tc] ⟨#[32]⟩ (w13.alloc (.cells #[.string pp, .string ti, .string tf, .string kw, .string tv, .string ts, .string tc] 9)) (fun j x hx => by
          rw [Nat.zero_add, hcl]
          match j, hx with
          | 0, hx | 1, hx | 2, hx | 3, hx | 4, hx | 5, hx | 6, hx => exact congrArg (fun y => y.map Value.string) hx
          | j + 7, hx => simp at hx) (by simp) (by simp) (by simp) (Nat.le_trans hjl (by decide))
        obtain ⟨jj, hjj, zj⟩ := let_ _ 131072 hjl
        obtain ⟨ln, hln, zl⟩ := cat_ jj ⟨#[10]⟩ 131072 1 zj (by decide)
        have nj : ¬ (9223372036854775807 < jj.size + 1) := by omega
        have HLN : Hid (ln = ⟨(lineB ⟨rp, ri, rf, rk, rv, rs, rc⟩ (decide (k = 0))).toArray⟩) := Lib.hid (by rw [← hln, ← hjj, ← HLW.out]; exact bs_append _ [10])
        have hJ' : Calls Tryz.prog 16 #[.slice (some ⟨w13.heap.size, 0, none⟩) 7 7, .string ⟨#[32]⟩] (w13.alloc (.cells #[.string pp, .string ti, .string tf, .string kw, .string tv, .string ts, .string tc] 9)) fun e w' => e = .returned (.string jj) ∧ Below (w13.alloc (.cells #[.string pp, .string ti, .string tf, .string kw, .string tv, .string ts, .string tc] 9)).heap.size (w13.alloc (.cells #[.string pp, .string ti, .string tf, .string kw, .string tv, .string ts, .string tc] 9)) w' := by rw [← hjj]; exact hJ
        clear hJ hcl hjl hjj zj
        go_wp2_with fail
        refine hJ'.mono ?_
        rintro e w15 ⟨rfl, hb15⟩
        have hI15 := bld_next hI14 hb15
        have hB15 := hB14.next hb15
        have hl15 := lt_of_bld hI15
        clear hJ' hb15 hI14 hB14
        have hW := writeString_any w1.heap.size w1.heap.size _ ln w15 hI15 (by rw [Lib.byteCells_length]; omega) (by omega)
        go_wp2_with fail
        refine hW.mono ?_
        rintro e w16 ⟨rfl, hI16, hb16⟩
        have hB16 := hB15.trans (hb16.mono hb1.size)
        have hI17 : Lib.IsBuilder 38 5 w1.heap.size w1.heap.size (Lib.byteCells (textTo l (k + 1))) w16 := by
          rw [HLN.out, Lib.strCells_toArray, ← Lib.byteCells_append] at hI16
          rw [HTS.out, HROW.out]
          exact hI16
        have hLen := Tryz.Builder_Len _ _ _ w16 hI17
        rw [Lib.byteCells_length] at hLen
        obtain ⟨m, hm⟩ := name_of (textTo l (k + 1)).length
        have hm2 : m ≤ 131072 := by
          rw [← hm, HTS.out, HROW.out, List.length_append]
          omega
        rw [hm] at hLen
        have hl16 := lt_of_bld hI17
        have HI17 := Lib.hid hI17
        clear hW hI16 hb16 hI15 hB15 hm hI17
        go_wp2_with fail
        refine hLen.mono ?_
        rintro e w' ⟨rfl, rfl⟩
        go_wp2_with fail
        exact ⟨⟨k + 1, hlt, by go_num, HI17.out, hB16, hl16⟩, by simp [intOf]; omega⟩
      · obtain rfl : k = n := by omega
        have hS := Tryz.Builder_String_any _ _ _ wr hI (by omega)
        clear hI
        go_wp2_with fail
        refine hS.mono ?_
        rintro e w16 ⟨rfl, hb16⟩
        go_wp2_with fail
        go_ret2
        exact ⟨by rw [HPT.out, HE.out, HE0.out]; rfl, hB.trans (hb16.mono hb1.size)⟩
  · have e0 : (E != 0) = true := by simpa using hE0
    have HPT : Hid (printT l = []) := Lib.hid (by rw [printT, if_neg (fun e => hE0 (HE.out.symm.trans e))])
    clear hE0
    go_enter Tryz.func6, Tryz.ntmps6
    go_wp2_with fail
    refine hC.mono ?_
    rintro e w1 ⟨rfl, hb1⟩
    go_wp2_with fail
    go_ret2
    exact ⟨by rw [HPT.out, HE.out]; rfl, hb1⟩
theorem print_any {w : World} {v : Value} {l : List Row} (hR : Rws w v l) (hs : Small l) (hpow : Pow w) : Calls Tryz.prog 6 #[v] w (PrintPost l w) :=
  printB_any hR hs.big (by
    have h1 := textTo_le (fun k hk => hR.wfAt (k := k) hk) hs l.length (Nat.le_refl _)
    have h2 := hs.1
    omega) hpow
end P7
end Go.Proofs.YthpfoegmoldkgaaGreatDoor
