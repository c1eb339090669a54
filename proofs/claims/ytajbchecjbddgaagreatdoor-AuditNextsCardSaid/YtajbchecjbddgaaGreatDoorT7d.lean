/- Walks: binary, the reference's right and Check. -/
import Derived.Test.YtajbchecjbddgaaGreatDoorH2
namespace Go.Proofs.YtajbchecjbddgaaGreatDoor
open Go.RowKit
namespace P7

theorem byte_all (c : ByteArray) (k : Nat) (hk : k < c.size) (P : UInt8 → Bool) (h : (c.data.toList.take k).all P = true) (hp : P c[k] = true) : (c.data.toList.take (k + 1)).all P = true := by
  have hl : k < c.data.toList.length := by simpa using hk
  rw [List.take_succ_eq_append_getElem hl, List.all_append, h]
  have : c.data.toList[k] = c[k] := rfl
  simp [this, hp]
theorem byte_not {c : ByteArray} {k : Nat} (hk : k < c.size) {P : UInt8 → Bool} (hp : P c[k] = false) : c.data.toList.all P = false := by
  rw [List.all_eq_false]
  exact ⟨c[k], by have : c.data.toList[k]'(by simpa using hk) = c[k] := rfl; rw [← this]; exact List.getElem_mem _, by rw [hp]; simp⟩

set_option maxHeartbeats 1000000 in
theorem binary_any (s : ByteArray) (hs : s.size ≤ 1000) (w : World) : Calls Tryz.prog 83 #[.string s] w fun e w' => e = .returned (.bool (binOk s)) ∧ w' = w := by
  go_enter Tryz.func83, Tryz.ntmps83
  go_wp2_with fail
  go_loop [3] (fun i => ∃ k : Nat, k ≤ s.size ∧ i = .int .i64 k ∧ (s.data.toList.take k).all (fun b => decide (b = 48 ∨ b = 49)) = true) (fun i => s.size - (intOf i).toNat)
  case atStart => exact ⟨0, Nat.zero_le _, rfl, rfl⟩
  case round =>
    obtain ⟨k, hk, rfl, hall⟩ := hrel
    have HALL := Lib.hid hall
    clear hall
    by_cases hlt : k < s.size
    · go_wp2_with fail
      · go_round
        case rel =>
          have h1 : (s[k].toNat : Int) = 48 := by assumption
          exact ⟨k + 1, hlt, by go_num, byte_all s k hlt _ HALL.out (by
            have : s[k] = 48 := UInt8.toNat_inj.1 (by have : (48 : UInt8).toNat = 48 := rfl; omega)
            simp [this])⟩
        case measure => simp [intOf]; omega
      · have h1 : ¬ (s[k].toNat : Int) = 48 := by assumption
        have h2 : ((s[k].toNat : Int) != 48) = true ∧ ((s[k].toNat : Int) != 49) = true := by assumption
        go_ret
        refine ⟨ret_bool ?_, rfl⟩
        symm
        refine byte_not hlt (decide_eq_false ?_)
        rintro (h | h)
        · rw [h] at h1; exact h1 rfl
        · rw [h] at h2; exact absurd h2.2 (by decide)
      · have h1 : ¬ (s[k].toNat : Int) = 48 := by assumption
        have h2 : ((s[k].toNat : Int) != 48) = false ∨ ((s[k].toNat : Int) != 49) = false := by assumption
        go_round
        case rel =>
          exact ⟨k + 1, hlt, by go_num, byte_all s k hlt _ HALL.out (by
            have : s[k] = 49 := UInt8.toNat_inj.1 (by
              have h3 : (49 : UInt8).toNat = 49 := rfl
              rcases h2 with h2 | h2
              · exact absurd (by simpa using h2) h1
              · have h2' : (s[k].toNat : Int) = 49 := by simpa using h2
                omega)
            simp [this])⟩
        case measure => simp [intOf]; omega
    · have : k = s.size := by omega
      subst this
      go_wp2_with fail
      go_ret
      refine ⟨ret_bool ?_, rfl⟩
      have := HALL.out
      rw [List.take_of_length_le (by simp)] at this
      exact this.symm

theorem place_first {fuel : Nat} {l : List Row} : placeOk fuel l 0 = decide ((at_ l 0).p = -1) := rfl
theorem place_later {fuel : Nat} {l : List Row} {k : Nat} (h : k ≠ 0) : placeOk fuel l k = (decide (0 ≤ (at_ l k).p ∧ (at_ l k).p < k) && wi l (at_ l k).p fuel ((k : Int) - 1)) := by rw [placeOk, if_neg h]
theorem right_11 {fuel : Nat} {l : List Row} {k : Nat} (h : placeOk fuel l k = false) : right fuel l k = 11 := by rw [right, if_pos h]
theorem right_10 {fuel : Nat} {l : List Row} {k : Nat} (h : placeOk fuel l k = true) (h2 : spanOk (at_ l k) (decide (k = 0)) = false) : right fuel l k = 10 := by rw [right, if_neg (by rw [h]; decide), if_pos h2]
theorem right_11b {fuel : Nat} {l : List Row} {k : Nat} (h : placeOk fuel l k = true) (h2 : spanOk (at_ l k) (decide (k = 0)) = true) (h3 : binOk (at_ l k).c = false) : right fuel l k = 11 := by rw [right, if_neg (by rw [h]; decide), if_neg (by rw [h2]; decide), if_pos h3]
theorem right_19 {fuel : Nat} {l : List Row} {k : Nat} (h : placeOk fuel l k = true) (h2 : spanOk (at_ l k) (decide (k = 0)) = true) (h3 : binOk (at_ l k).c = true) (h4 : stateOk l k = false) : right fuel l k = 19 := by rw [right, if_neg (by rw [h]; decide), if_neg (by rw [h2]; decide), if_neg (by rw [h3]; decide), if_pos h4]
theorem right_0 {fuel : Nat} {l : List Row} {k : Nat} (h : placeOk fuel l k = true) (h2 : spanOk (at_ l k) (decide (k = 0)) = true) (h3 : binOk (at_ l k).c = true) (h4 : stateOk l k = true) : right fuel l k = 0 := by rw [right, if_neg (by rw [h]; decide), if_neg (by rw [h2]; decide), if_neg (by rw [h3]; decide), if_neg (by rw [h4]; decide)]

/-- came, of both. -/
theorem refCame_any (r : Row) (w : World) : Calls Tryz.prog 47 #[rowV r] w fun e w' => e = .returned (.bool (came r)) ∧ Below w.heap.size w w' := by
  obtain ⟨rp, ri, rf, rk, rv, rs, rc⟩ := r
  show Calls _ _ #[.agg #[.int .i64 rp, .int .i64 ri, .int .i64 rf, .int .i64 rk, .int .i64 rv, .int .i64 rs, .string rc]] _ _
  go_enter Tryz.func47, Tryz.ntmps47
  go_wp2_with fail
  go_ret
  exact ⟨rfl, by go_grown⟩

/-! ### right -/
theorem span_bad {rp ri rf rk rv rs : Int} {rc : ByteArray} {b : Bool} (h : spanOk ⟨rp, ri, rf, rk, rv, rs, rc⟩ b = false) (h1 : 0 ≤ ri) (h2 : b = true → ri = 0) (h3 : 0 ≤ rf) (h4 : rf ≤ 31) (h5 : 0 ≤ rk) (h6 : rk ≤ 4) (h7 : 0 ≤ rs) (h8 : rs ≤ 1048576) : False :=
  of_decide_eq_false h ⟨h1, h2, h3, h4, h5, h6, h7, h8⟩
theorem span_good {rp ri rf rk rv rs : Int} {rc : ByteArray} {b : Bool} (h : spanOk ⟨rp, ri, rf, rk, rv, rs, rc⟩ b = true) : 0 ≤ ri ∧ (b = true → ri = 0) ∧ 0 ≤ rf ∧ rf ≤ 31 ∧ 0 ≤ rk ∧ rk ≤ 4 ∧ 0 ≤ rs ∧ rs ≤ 1048576 := of_decide_eq_true h
theorem self_ok1 {rp ri rf rk rv rs : Int} {rc : ByteArray} (h : rv = 0) (h2 : rk = 0 → rs = 0 ∧ rc.size = 0) : selfOk ⟨rp, ri, rf, rk, rv, rs, rc⟩ = true := decide_eq_true ⟨.inl h, h2⟩
theorem self_ok2 {rp ri rf rk rv rs : Int} {rc : ByteArray} (h : rk = 2 ∨ rk = 3) (h2 : rk ≠ 0) : selfOk ⟨rp, ri, rf, rk, rv, rs, rc⟩ = true := decide_eq_true ⟨.inr h, fun e => absurd e h2⟩
theorem self_bad1 {rp ri rf rk rv rs : Int} {rc : ByteArray} (h1 : ¬ rv = 0) (h2 : ¬ rk = 2) (h3 : ¬ rk = 3) : selfOk ⟨rp, ri, rf, rk, rv, rs, rc⟩ = false := decide_eq_false fun ⟨h, _⟩ => by rcases h with h | h | h <;> contradiction
theorem self_bad2 {rp ri rf rk rv rs : Int} {rc : ByteArray} (h1 : rk = 0) (h2 : ¬ rs = 0) : selfOk ⟨rp, ri, rf, rk, rv, rs, rc⟩ = false := decide_eq_false fun ⟨_, h⟩ => h2 (h h1).1
theorem self_bad3 {rp ri rf rk rv rs : Int} {rc : ByteArray} (h1 : rk = 0) (h2 : ¬ rc.size = 0) : selfOk ⟨rp, ri, rf, rk, rv, rs, rc⟩ = false := decide_eq_false fun ⟨_, h⟩ => h2 (h h1).2
theorem under_bad1 {q r : Row} (h : q.k = 0) : (true && (false || underOk q r)) = false := by rw [Bool.false_or, Bool.true_and]; exact decide_eq_false fun ⟨a, _⟩ => a h
theorem under_bad2 {q r : Row} (h : 2 ≤ q.k) (h2 : ¬ 2 ≤ r.k) : (true && (false || underOk q r)) = false := by rw [Bool.false_or, Bool.true_and]; exact decide_eq_false fun ⟨_, a⟩ => h2 (a h)
theorem under_ok1 {q r : Row} (h : ¬ q.k = 0) (h2 : ¬ 2 ≤ q.k) : (true && (false || underOk q r)) = true := by rw [Bool.false_or, Bool.true_and]; exact decide_eq_true ⟨h, fun a => absurd a h2⟩
theorem under_ok2 {q r : Row} (h : ¬ q.k = 0) (h2 : 2 ≤ r.k) : (true && (false || underOk q r)) = true := by rw [Bool.false_or, Bool.true_and]; exact decide_eq_true ⟨h, fun _ => h2⟩
theorem str_nil {c : ByteArray} (h : c.size = 0) : c.data.toList = [] := List.eq_nil_of_length_eq_zero (by simpa using h)
theorem str_empty' {c : ByteArray} (h : c.size = 0) : c.toList = [] := by rw [ByteArray.toList_eq, str_nil h]
theorem str_empty {c : ByteArray} (h : c.size = 0) : (!c.toList.isEmpty) = false := by rw [str_empty' h]; rfl
theorem str_full' {c : ByteArray} (h : ¬ c.size = 0) : c.toList.isEmpty = false := by
  rw [ByteArray.toList_eq]
  cases hl : c.data.toList with
  | nil => exact absurd (by have : c.data.toList.length = 0 := by rw [hl]; rfl
                            simpa using this) h
  | cons => rfl
theorem str_full {c : ByteArray} (h : ¬ c.size = 0) : (!c.toList.isEmpty) = true := by rw [str_full' h]; rfl
section
variable {w : World} {l : List Row} {k n c b off : Nat} {rp ri rf rk rv rs : Int} {rc : ByteArray}
set_option maxRecDepth 10000 in
set_option maxHeartbeats 4000000 in
theorem rr_span_f (HS : Hid (Sl w w.heap.size 7 (.slice (some ⟨b, off, none⟩) n c) (rowsC l))) (HN : Hid (l.length = n)) (hlen : n ≤ 60) (hk : k < n) (hc : n ≤ c) (hb : b < w.heap.size)
    (h0 : w.cell? ⟨b, off + k * 7, none⟩ = some (.int .i64 rp)) (h1 : w.cell? ⟨b, off + k * 7 + 1, none⟩ = some (.int .i64 ri)) (h2 : w.cell? ⟨b, off + k * 7 + 2, none⟩ = some (.int .i64 rf)) (h3 : w.cell? ⟨b, off + k * 7 + 3, none⟩ = some (.int .i64 rk))
    (h4 : w.cell? ⟨b, off + k * 7 + 4, none⟩ = some (.int .i64 rv)) (h5 : w.cell? ⟨b, off + k * 7 + 5, none⟩ = some (.int .i64 rs)) (h6 : w.cell? ⟨b, off + k * 7 + 6, none⟩ = some (.string rc)) (hcs : rc.size ≤ 100) (HROW : Hid (at_ l k = ⟨rp, ri, rf, rk, rv, rs, rc⟩))
    (HB : Hid (Below w.heap.size w (w.alloc (.cells #[.int .i64 rp, .int .i64 ri, .int .i64 rf, .int .i64 rk, .int .i64 rv, .int .i64 rs, .string rc] 69)))) (hk0 : k = 0) (hp : placeOk (n + 1) l k = true) (hsp : spanOk ⟨rp, ri, rf, rk, rv, rs, rc⟩ (decide (k = 0)) = false) :
    Calls Tryz.prog 69 #[.slice (some ⟨b, off, none⟩) n c, .int .i64 k] w fun e w' => e = .returned (.int .i64 (right (n + 1) l k)) ∧ Below w.heap.size w w' := by
  have e0 : ((k : Int) == 0) = true := by simpa using hk0
  have e1 : decide (0 < k) = false := by simp; omega
  have hp1 : (rp != -1) = false := by
    have : placeOk (n + 1) l k = decide (rp = -1) := by rw [hk0, place_first, ← hk0, HROW.out]
    rw [this] at hp
    simpa using hp
  have ed : decide (k = 0) = true := by simpa using hk0
  have HED := Lib.hid ed
  have HP := Lib.hid hp
  clear hk0 ed hp
  have _u := And.intro hlen (And.intro hc (And.intro hb (And.intro hcs (And.intro HS HN))))
  clear _u
  have HV := Lib.hid (right_10 HP.out (by rw [HROW.out]; exact hsp))
  by_cases hri : ri = 0
  · have e2 : (ri != 0) = false := by simpa using hri
    have HRI := Lib.hid hri
    have HSP := Lib.hid hsp
    clear hri hsp
    go_enter Tryz.func69, Tryz.ntmps69
    go_wp2_with fail
    all_goals first
      | (go_ret; exact ⟨by rw [HV.out]; rfl, HB.out⟩)
      | exact (span_bad HSP.out (by omega) (fun _ => HRI.out) (by omega) (by omega) (by omega) (by omega) (by omega) (by omega)).elim
  · have e2 : (ri != 0) = true := by simpa using hri
    clear hri hsp
    go_enter Tryz.func69, Tryz.ntmps69
    go_wp2_with fail
    all_goals (go_ret; exact ⟨by rw [HV.out]; rfl, HB.out⟩)
set_option maxRecDepth 10000 in
set_option maxHeartbeats 4000000 in
theorem rr_bin_f (HS : Hid (Sl w w.heap.size 7 (.slice (some ⟨b, off, none⟩) n c) (rowsC l))) (HN : Hid (l.length = n)) (hlen : n ≤ 60) (hk : k < n) (hc : n ≤ c) (hb : b < w.heap.size)
    (h0 : w.cell? ⟨b, off + k * 7, none⟩ = some (.int .i64 rp)) (h1 : w.cell? ⟨b, off + k * 7 + 1, none⟩ = some (.int .i64 ri)) (h2 : w.cell? ⟨b, off + k * 7 + 2, none⟩ = some (.int .i64 rf)) (h3 : w.cell? ⟨b, off + k * 7 + 3, none⟩ = some (.int .i64 rk))
    (h4 : w.cell? ⟨b, off + k * 7 + 4, none⟩ = some (.int .i64 rv)) (h5 : w.cell? ⟨b, off + k * 7 + 5, none⟩ = some (.int .i64 rs)) (h6 : w.cell? ⟨b, off + k * 7 + 6, none⟩ = some (.string rc)) (hcs : rc.size ≤ 100) (HROW : Hid (at_ l k = ⟨rp, ri, rf, rk, rv, rs, rc⟩))
    (HB : Hid (Below w.heap.size w (w.alloc (.cells #[.int .i64 rp, .int .i64 ri, .int .i64 rf, .int .i64 rk, .int .i64 rv, .int .i64 rs, .string rc] 69)))) (hk0 : k = 0) (hp : placeOk (n + 1) l k = true) (hsp : spanOk ⟨rp, ri, rf, rk, rv, rs, rc⟩ (decide (k = 0)) = true) (hbn : binOk rc = false) :
    Calls Tryz.prog 69 #[.slice (some ⟨b, off, none⟩) n c, .int .i64 k] w fun e w' => e = .returned (.int .i64 (right (n + 1) l k)) ∧ Below w.heap.size w w' := by
  have e0 : ((k : Int) == 0) = true := by simpa using hk0
  have e1 : decide (0 < k) = false := by simp; omega
  have hp1 : (rp != -1) = false := by
    have : placeOk (n + 1) l k = decide (rp = -1) := by rw [hk0, place_first, ← hk0, HROW.out]
    rw [this] at hp
    simpa using hp
  have ed : decide (k = 0) = true := by simpa using hk0
  have HED := Lib.hid ed
  have HP := Lib.hid hp
  clear hk0 ed hp
  have _u := And.intro hlen (And.intro hc (And.intro hb (And.intro hcs (And.intro HS HN))))
  clear _u
  obtain ⟨hs1, hs2, hs3, hs4, hs5, hs6, hs7, hs8⟩ := span_good hsp
  have hri : ri = 0 := hs2 HED.out
  have e2 : (ri != 0) = false := by simpa using hri
  clear hri
  have HSP := Lib.hid hsp
  clear hs2 hsp
  have hBin := binary_any rc (by omega) (w.alloc (.cells #[.int .i64 rp, .int .i64 ri, .int .i64 rf, .int .i64 rk, .int .i64 rv, .int .i64 rs, .string rc] 69))
  rw [hbn] at hBin
  have HV := Lib.hid (right_11b HP.out (by rw [HROW.out]; exact HSP.out) (by rw [HROW.out]; exact hbn))
  clear hbn
  go_enter Tryz.func69, Tryz.ntmps69
  go_wp2_with fail
  refine hBin.mono ?_
  rintro e w' ⟨rfl, rfl⟩
  go_wp2_with fail
  go_ret
  exact ⟨by rw [HV.out]; rfl, HB.out⟩
set_option maxRecDepth 10000 in
set_option maxHeartbeats 40000000 in
theorem rr_state_f (HS : Hid (Sl w w.heap.size 7 (.slice (some ⟨b, off, none⟩) n c) (rowsC l))) (HN : Hid (l.length = n)) (hlen : n ≤ 60) (hk : k < n) (hc : n ≤ c) (hb : b < w.heap.size)
    (h0 : w.cell? ⟨b, off + k * 7, none⟩ = some (.int .i64 rp)) (h1 : w.cell? ⟨b, off + k * 7 + 1, none⟩ = some (.int .i64 ri)) (h2 : w.cell? ⟨b, off + k * 7 + 2, none⟩ = some (.int .i64 rf)) (h3 : w.cell? ⟨b, off + k * 7 + 3, none⟩ = some (.int .i64 rk))
    (h4 : w.cell? ⟨b, off + k * 7 + 4, none⟩ = some (.int .i64 rv)) (h5 : w.cell? ⟨b, off + k * 7 + 5, none⟩ = some (.int .i64 rs)) (h6 : w.cell? ⟨b, off + k * 7 + 6, none⟩ = some (.string rc)) (hcs : rc.size ≤ 100) (HROW : Hid (at_ l k = ⟨rp, ri, rf, rk, rv, rs, rc⟩))
    (HB : Hid (Below w.heap.size w (w.alloc (.cells #[.int .i64 rp, .int .i64 ri, .int .i64 rf, .int .i64 rk, .int .i64 rv, .int .i64 rs, .string rc] 69)))) (hk0 : k = 0) (hp : placeOk (n + 1) l k = true) (hsp : spanOk ⟨rp, ri, rf, rk, rv, rs, rc⟩ (decide (k = 0)) = true) (hbn : binOk rc = true) :
    Calls Tryz.prog 69 #[.slice (some ⟨b, off, none⟩) n c, .int .i64 k] w fun e w' => e = .returned (.int .i64 (right (n + 1) l k)) ∧ Below w.heap.size w w' := by
  have e0 : ((k : Int) == 0) = true := by simpa using hk0
  have e1 : decide (0 < k) = false := by simp; omega
  have hp1 : (rp != -1) = false := by
    have : placeOk (n + 1) l k = decide (rp = -1) := by rw [hk0, place_first, ← hk0, HROW.out]
    rw [this] at hp
    simpa using hp
  have ed : decide (k = 0) = true := by simpa using hk0
  have HED := Lib.hid ed
  have HP := Lib.hid hp
  clear hk0 ed hp
  have _u := And.intro hlen (And.intro hc (And.intro hb (And.intro hcs (And.intro HS HN))))
  clear _u
  obtain ⟨hs1, hs2, hs3, hs4, hs5, hs6, hs7, hs8⟩ := span_good hsp
  have hri : ri = 0 := hs2 HED.out
  have e2 : (ri != 0) = false := by simpa using hri
  clear hri
  have HSP := Lib.hid hsp
  clear hs2 hsp
  have hBin := binary_any rc (by omega) (w.alloc (.cells #[.int .i64 rp, .int .i64 ri, .int .i64 rf, .int .i64 rk, .int .i64 rv, .int .i64 rs, .string rc] 69))
  have hse := fun e => right_19 HP.out (by rw [HROW.out]; exact HSP.out) (by rw [HROW.out]; exact hbn) (show stateOk l k = false from e)
  have hgo := fun e => right_0 HP.out (by rw [HROW.out]; exact HSP.out) (by rw [HROW.out]; exact hbn) (show stateOk l k = true from e)
  have HBAD := Lib.hid hse
  have HOK := Lib.hid hgo
  rw [hbn] at hBin
  clear hbn hse hgo
  go_enter Tryz.func69, Tryz.ntmps69
  go_wp2_with fail
  refine hBin.mono ?_
  rintro e w' ⟨rfl, rfl⟩
  clear hBin
  by_cases hv : rv = 0
  · have f1 : (rv != 0) = false := by simpa using hv
    by_cases hz : rk = 0
    · have f2 : (rk == 0) = true := by simpa using hz
      by_cases hS : rs = 0
      · have f3 : (rs != 0) = false := by simpa using hS
        by_cases hC : rc.size = 0
        · have f4 : (!rc.toList.isEmpty) = false := str_empty hC
          have f4' : rc.toList = [] := str_empty' hC
          have HV := Lib.hid (HOK.out (by rw [stateOk, HROW.out, self_ok1 hv (fun _ => ⟨hS, hC⟩), HED.out]; rfl))
          clear hv hz hS hC
          go_wp2_with fail
          go_ret
          exact ⟨by rw [HV.out]; rfl, HB.out⟩
        · have f4 : (!rc.toList.isEmpty) = true := str_full hC
          have f4' : rc.toList.isEmpty = false := str_full' hC
          have HV := Lib.hid (HBAD.out (by rw [stateOk, HROW.out, self_bad3 hz hC]; rfl))
          clear hv hz hS hC
          go_wp2_with fail
          go_ret
          exact ⟨by rw [HV.out]; rfl, HB.out⟩
      · have f3 : (rs != 0) = true := by simpa using hS
        have HV := Lib.hid (HBAD.out (by rw [stateOk, HROW.out, self_bad2 hz hS]; rfl))
        clear hv hz hS
        go_wp2_with fail
        go_ret
        exact ⟨by rw [HV.out]; rfl, HB.out⟩
    · have f2 : (rk == 0) = false := by simpa using hz
      have HV := Lib.hid (HOK.out (by rw [stateOk, HROW.out, self_ok1 hv (fun e => absurd e hz), HED.out]; rfl))
      clear hv hz
      go_wp2_with fail
      go_ret
      exact ⟨by rw [HV.out]; rfl, HB.out⟩
  · have f1 : (rv != 0) = true := by simpa using hv
    by_cases h2' : rk = 2
    · have f2 : (rk != 2) = false := by simpa using h2'
      have f2' : (rk == 0) = false := by simp; omega
      have HV := Lib.hid (HOK.out (by rw [stateOk, HROW.out, self_ok2 (.inl h2') (by omega), HED.out]; rfl))
      clear hv h2'
      go_wp2_with fail
      go_ret
      exact ⟨by rw [HV.out]; rfl, HB.out⟩
    · have f2 : (rk != 2) = true := by simpa using h2'
      by_cases h3' : rk = 3
      · have f3 : (rk != 3) = false := by simpa using h3'
        have f3' : (rk == 0) = false := by simp; omega
        have HV := Lib.hid (HOK.out (by rw [stateOk, HROW.out, self_ok2 (.inr h3') (by omega), HED.out]; rfl))
        clear hv h2' h3'
        go_wp2_with fail
        go_ret
        exact ⟨by rw [HV.out]; rfl, HB.out⟩
      · have f3 : (rk != 3) = true := by simpa using h3'
        have HV := Lib.hid (HBAD.out (by rw [stateOk, HROW.out, self_bad1 hv h2' h3']; rfl))
        clear hv h2' h3'
        go_wp2_with fail
        go_ret
        exact ⟨by rw [HV.out]; rfl, HB.out⟩
set_option maxRecDepth 10000 in
set_option maxHeartbeats 4000000 in
theorem rr_span_l (HS : Hid (Sl w w.heap.size 7 (.slice (some ⟨b, off, none⟩) n c) (rowsC l))) (HN : Hid (l.length = n)) (hlen : n ≤ 60) (hk : k < n) (hc : n ≤ c) (hb : b < w.heap.size)
    (h0 : w.cell? ⟨b, off + k * 7, none⟩ = some (.int .i64 rp)) (h1 : w.cell? ⟨b, off + k * 7 + 1, none⟩ = some (.int .i64 ri)) (h2 : w.cell? ⟨b, off + k * 7 + 2, none⟩ = some (.int .i64 rf)) (h3 : w.cell? ⟨b, off + k * 7 + 3, none⟩ = some (.int .i64 rk))
    (h4 : w.cell? ⟨b, off + k * 7 + 4, none⟩ = some (.int .i64 rv)) (h5 : w.cell? ⟨b, off + k * 7 + 5, none⟩ = some (.int .i64 rs)) (h6 : w.cell? ⟨b, off + k * 7 + 6, none⟩ = some (.string rc)) (hcs : rc.size ≤ 100) (HROW : Hid (at_ l k = ⟨rp, ri, rf, rk, rv, rs, rc⟩))
    (HB : Hid (Below w.heap.size w (w.alloc (.cells #[.int .i64 rp, .int .i64 ri, .int .i64 rf, .int .i64 rk, .int .i64 rv, .int .i64 rs, .string rc] 69)))) (hk0 : ¬ k = 0) (hp : placeOk (n + 1) l k = true) (hsp : spanOk ⟨rp, ri, rf, rk, rv, rs, rc⟩ (decide (k = 0)) = false) :
    Calls Tryz.prog 69 #[.slice (some ⟨b, off, none⟩) n c, .int .i64 k] w fun e w' => e = .returned (.int .i64 (right (n + 1) l k)) ∧ Below w.heap.size w w' := by
  have e0 : ((k : Int) == 0) = false := by simpa using hk0
  have e1 : decide (0 < k) = true := by simp; omega
  have hk1 : 1 ≤ k := by omega
  have hq := hp
  rw [place_later hk0, HROW.out] at hq
  obtain ⟨hq1, hw⟩ := Bool.and_eq_true_iff.1 hq
  have hq2 := of_decide_eq_true hq1
  have hp0 : 0 ≤ rp := hq2.1
  have hpk : rp < (k : Int) := hq2.2
  have hW := refWithin_any (HS.out.next HB.out) (by have := HN.out; omega) ((k : Int) - 1) rp
  rw [HN.out, hw] at hW
  have hwk : wrap64 ((k : Int) - 1) = (k : Int) - 1 := by unfold wrap64; omega
  have ed : decide (k = 0) = false := by simpa using hk0
  have HED := Lib.hid ed
  have HP := Lib.hid hp
  clear hq hq1 hq2 hk0 hw ed hp
  have _u := And.intro hlen (And.intro hc (And.intro hb (And.intro hcs (And.intro HS HN))))
  clear _u
  have HV := Lib.hid (right_10 HP.out (by rw [HROW.out]; exact hsp))
  have HSP := Lib.hid hsp
  clear hsp
  go_enter Tryz.func69, Tryz.ntmps69
  go_wp2_with fail
  refine hW.mono ?_
  rintro e w' ⟨rfl, rfl⟩
  go_wp2_with fail
  all_goals first
    | (go_ret; exact ⟨by rw [HV.out]; rfl, HB.out⟩)
    | exact (span_bad HSP.out (by omega) (fun e => by rw [HED.out] at e; cases e) (by omega) (by omega) (by omega) (by omega) (by omega) (by omega)).elim
set_option maxRecDepth 10000 in
set_option maxHeartbeats 4000000 in
theorem rr_bin_l (HS : Hid (Sl w w.heap.size 7 (.slice (some ⟨b, off, none⟩) n c) (rowsC l))) (HN : Hid (l.length = n)) (hlen : n ≤ 60) (hk : k < n) (hc : n ≤ c) (hb : b < w.heap.size)
    (h0 : w.cell? ⟨b, off + k * 7, none⟩ = some (.int .i64 rp)) (h1 : w.cell? ⟨b, off + k * 7 + 1, none⟩ = some (.int .i64 ri)) (h2 : w.cell? ⟨b, off + k * 7 + 2, none⟩ = some (.int .i64 rf)) (h3 : w.cell? ⟨b, off + k * 7 + 3, none⟩ = some (.int .i64 rk))
    (h4 : w.cell? ⟨b, off + k * 7 + 4, none⟩ = some (.int .i64 rv)) (h5 : w.cell? ⟨b, off + k * 7 + 5, none⟩ = some (.int .i64 rs)) (h6 : w.cell? ⟨b, off + k * 7 + 6, none⟩ = some (.string rc)) (hcs : rc.size ≤ 100) (HROW : Hid (at_ l k = ⟨rp, ri, rf, rk, rv, rs, rc⟩))
    (HB : Hid (Below w.heap.size w (w.alloc (.cells #[.int .i64 rp, .int .i64 ri, .int .i64 rf, .int .i64 rk, .int .i64 rv, .int .i64 rs, .string rc] 69)))) (hk0 : ¬ k = 0) (hp : placeOk (n + 1) l k = true) (hsp : spanOk ⟨rp, ri, rf, rk, rv, rs, rc⟩ (decide (k = 0)) = true) (hbn : binOk rc = false) :
    Calls Tryz.prog 69 #[.slice (some ⟨b, off, none⟩) n c, .int .i64 k] w fun e w' => e = .returned (.int .i64 (right (n + 1) l k)) ∧ Below w.heap.size w w' := by
  have e0 : ((k : Int) == 0) = false := by simpa using hk0
  have e1 : decide (0 < k) = true := by simp; omega
  have hk1 : 1 ≤ k := by omega
  have hq := hp
  rw [place_later hk0, HROW.out] at hq
  obtain ⟨hq1, hw⟩ := Bool.and_eq_true_iff.1 hq
  have hq2 := of_decide_eq_true hq1
  have hp0 : 0 ≤ rp := hq2.1
  have hpk : rp < (k : Int) := hq2.2
  have hW := refWithin_any (HS.out.next HB.out) (by have := HN.out; omega) ((k : Int) - 1) rp
  rw [HN.out, hw] at hW
  have hwk : wrap64 ((k : Int) - 1) = (k : Int) - 1 := by unfold wrap64; omega
  have ed : decide (k = 0) = false := by simpa using hk0
  have HED := Lib.hid ed
  have HP := Lib.hid hp
  clear hq hq1 hq2 hk0 hw ed hp
  have _u := And.intro hlen (And.intro hc (And.intro hb (And.intro hcs (And.intro HS HN))))
  clear _u
  obtain ⟨hs1, hs2, hs3, hs4, hs5, hs6, hs7, hs8⟩ := span_good hsp
  have HSP := Lib.hid hsp
  clear hs2 hsp
  have hBin := binary_any rc (by omega) (w.alloc (.cells #[.int .i64 rp, .int .i64 ri, .int .i64 rf, .int .i64 rk, .int .i64 rv, .int .i64 rs, .string rc] 69))
  rw [hbn] at hBin
  have HV := Lib.hid (right_11b HP.out (by rw [HROW.out]; exact HSP.out) (by rw [HROW.out]; exact hbn))
  clear hbn
  go_enter Tryz.func69, Tryz.ntmps69
  go_wp2_with fail
  refine hW.mono ?_
  rintro e w' ⟨rfl, rfl⟩
  go_wp2_with fail
  refine hBin.mono ?_
  rintro e w' ⟨rfl, rfl⟩
  go_wp2_with fail
  go_ret
  exact ⟨by rw [HV.out]; rfl, HB.out⟩
set_option maxRecDepth 10000 in
set_option maxHeartbeats 40000000 in
theorem rr_state_l (HS : Hid (Sl w w.heap.size 7 (.slice (some ⟨b, off, none⟩) n c) (rowsC l))) (HN : Hid (l.length = n)) (hlen : n ≤ 60) (hk : k < n) (hc : n ≤ c) (hb : b < w.heap.size)
    (h0 : w.cell? ⟨b, off + k * 7, none⟩ = some (.int .i64 rp)) (h1 : w.cell? ⟨b, off + k * 7 + 1, none⟩ = some (.int .i64 ri)) (h2 : w.cell? ⟨b, off + k * 7 + 2, none⟩ = some (.int .i64 rf)) (h3 : w.cell? ⟨b, off + k * 7 + 3, none⟩ = some (.int .i64 rk))
    (h4 : w.cell? ⟨b, off + k * 7 + 4, none⟩ = some (.int .i64 rv)) (h5 : w.cell? ⟨b, off + k * 7 + 5, none⟩ = some (.int .i64 rs)) (h6 : w.cell? ⟨b, off + k * 7 + 6, none⟩ = some (.string rc)) (hcs : rc.size ≤ 100) (HROW : Hid (at_ l k = ⟨rp, ri, rf, rk, rv, rs, rc⟩))
    (HB : Hid (Below w.heap.size w (w.alloc (.cells #[.int .i64 rp, .int .i64 ri, .int .i64 rf, .int .i64 rk, .int .i64 rv, .int .i64 rs, .string rc] 69)))) (hk0 : ¬ k = 0) (hp : placeOk (n + 1) l k = true) {qp qi qf qk qv qs : Int} {qc : ByteArray} (HQ : Hid (at_ l rp.toNat = ⟨qp, qi, qf, qk, qv, qs, qc⟩)) (g0 : w.cell? ⟨b, off + rp.toNat * 7, none⟩ = some (.int .i64 qp)) (g1 : w.cell? ⟨b, off + rp.toNat * 7 + 1, none⟩ = some (.int .i64 qi)) (g2 : w.cell? ⟨b, off + rp.toNat * 7 + 2, none⟩ = some (.int .i64 qf)) (g3 : w.cell? ⟨b, off + rp.toNat * 7 + 3, none⟩ = some (.int .i64 qk)) (g4 : w.cell? ⟨b, off + rp.toNat * 7 + 4, none⟩ = some (.int .i64 qv)) (g5 : w.cell? ⟨b, off + rp.toNat * 7 + 5, none⟩ = some (.int .i64 qs)) (g6 : w.cell? ⟨b, off + rp.toNat * 7 + 6, none⟩ = some (.string qc)) (hsp : spanOk ⟨rp, ri, rf, rk, rv, rs, rc⟩ (decide (k = 0)) = true) (hbn : binOk rc = true) :
    Calls Tryz.prog 69 #[.slice (some ⟨b, off, none⟩) n c, .int .i64 k] w fun e w' => e = .returned (.int .i64 (right (n + 1) l k)) ∧ Below w.heap.size w w' := by
  have e0 : ((k : Int) == 0) = false := by simpa using hk0
  have e1 : decide (0 < k) = true := by simp; omega
  have hk1 : 1 ≤ k := by omega
  have hq := hp
  rw [place_later hk0, HROW.out] at hq
  obtain ⟨hq1, hw⟩ := Bool.and_eq_true_iff.1 hq
  have hq2 := of_decide_eq_true hq1
  have hp0 : 0 ≤ rp := hq2.1
  have hpk : rp < (k : Int) := hq2.2
  have hW := refWithin_any (HS.out.next HB.out) (by have := HN.out; omega) ((k : Int) - 1) rp
  rw [HN.out, hw] at hW
  have hwk : wrap64 ((k : Int) - 1) = (k : Int) - 1 := by unfold wrap64; omega
  have ed : decide (k = 0) = false := by simpa using hk0
  have HED := Lib.hid ed
  have HP := Lib.hid hp
  clear hq hq1 hq2 hk0 hw ed hp
  have _u := And.intro hlen (And.intro hc (And.intro hb (And.intro hcs (And.intro HS HN))))
  clear _u
  obtain ⟨hs1, hs2, hs3, hs4, hs5, hs6, hs7, hs8⟩ := span_good hsp
  have HSP := Lib.hid hsp
  clear hs2 hsp
  have hBin := binary_any rc (by omega) (w.alloc (.cells #[.int .i64 rp, .int .i64 ri, .int .i64 rf, .int .i64 rk, .int .i64 rv, .int .i64 rs, .string rc] 69))
  have hse := fun e => right_19 HP.out (by rw [HROW.out]; exact HSP.out) (by rw [HROW.out]; exact hbn) (show stateOk l k = false from e)
  have hgo := fun e => right_0 HP.out (by rw [HROW.out]; exact HSP.out) (by rw [HROW.out]; exact hbn) (show stateOk l k = true from e)
  have HBAD := Lib.hid hse
  have HOK := Lib.hid hgo
  rw [hbn] at hBin
  clear hbn hse hgo
  go_enter Tryz.func69, Tryz.ntmps69
  go_wp2_with fail
  refine hW.mono ?_
  rintro e w' ⟨rfl, rfl⟩
  go_wp2_with fail
  refine hBin.mono ?_
  rintro e w' ⟨rfl, rfl⟩
  clear hBin
  by_cases hv : rv = 0
  · have f1 : (rv != 0) = false := by simpa using hv
    by_cases hz : rk = 0
    · have f2 : (rk == 0) = true := by simpa using hz
      by_cases hS : rs = 0
      · have f3 : (rs != 0) = false := by simpa using hS
        by_cases hC : rc.size = 0
        · have f4 : (!rc.toList.isEmpty) = false := str_empty hC
          have f4' : rc.toList = [] := str_empty' hC
          have HSELF := Lib.hid (show selfOk ⟨rp, ri, rf, rk, rv, rs, rc⟩ = true from self_ok1 hv (fun _ => ⟨hS, hC⟩))
          clear hv hz hS hC
          by_cases hq0 : qk = 0
          · have HV := Lib.hid (HBAD.out (by rw [stateOk, HROW.out, HSELF.out, HED.out]; show (true && (false || underOk (at_ l rp.toNat) _)) = false; rw [HQ.out]; exact under_bad1 hq0))
            have f5 : (qk == 0) = true := by simpa using hq0
            clear hq0
            go_wp2_with fail
            go_ret
            exact ⟨by rw [HV.out]; rfl, HB.out⟩
          have f5 : (qk == 0) = false := by simpa using hq0
          by_cases hq2 : 2 ≤ qk
          · have cq : came ⟨qp, qi, qf, qk, qv, qs, qc⟩ = true := decide_eq_true hq2
            have hC := refCame_any ⟨qp, qi, qf, qk, qv, qs, qc⟩ (w.alloc (.cells #[.int .i64 rp, .int .i64 ri, .int .i64 rf, .int .i64 rk, .int .i64 rv, .int .i64 rs, .string rc] 69))
            rw [cq] at hC
            by_cases hr2 : 2 ≤ rk
            · have HV := Lib.hid (HOK.out (by rw [stateOk, HROW.out, HSELF.out, HED.out]; show (true && (false || underOk (at_ l rp.toNat) _)) = true; rw [HQ.out]; exact under_ok2 hq0 hr2))
              have cr : came ⟨rp, ri, rf, rk, rv, rs, rc⟩ = true := decide_eq_true hr2
              clear hq0
              go_wp2_with fail
              refine hC.mono ?_
              rintro e w2 ⟨rfl, hb2⟩
              have hB2 := HB.out.next hb2
              have hcell := fun j => (hb2.cell (p := ⟨w.heap.size, j, none⟩) (by simp)).trans (cell_of_row _ _ j _ _ _ (heap_alloc_last w (.cells #[.int .i64 rp, .int .i64 ri, .int .i64 rf, .int .i64 rk, .int .i64 rv, .int .i64 rs, .string rc] 69)))
              have hsz := hb2.size
              have hC2 := refCame_any ⟨rp, ri, rf, rk, rv, rs, rc⟩ w2
              rw [cr] at hC2
              clear hb2 hC
              go_wp2_with fail
              refine hC2.mono ?_
              rintro e w3 ⟨rfl, hb3⟩
              go_wp2_with fail
              go_ret
              exact ⟨by rw [HV.out]; rfl, hB2.next hb3⟩
            · have HV := Lib.hid (HBAD.out (by rw [stateOk, HROW.out, HSELF.out, HED.out]; show (true && (false || underOk (at_ l rp.toNat) _)) = false; rw [HQ.out]; exact under_bad2 hq2 hr2))
              have cr : came ⟨rp, ri, rf, rk, rv, rs, rc⟩ = false := decide_eq_false hr2
              clear hq0
              go_wp2_with fail
              refine hC.mono ?_
              rintro e w2 ⟨rfl, hb2⟩
              have hB2 := HB.out.next hb2
              have hcell := fun j => (hb2.cell (p := ⟨w.heap.size, j, none⟩) (by simp)).trans (cell_of_row _ _ j _ _ _ (heap_alloc_last w (.cells #[.int .i64 rp, .int .i64 ri, .int .i64 rf, .int .i64 rk, .int .i64 rv, .int .i64 rs, .string rc] 69)))
              have hsz := hb2.size
              have hC2 := refCame_any ⟨rp, ri, rf, rk, rv, rs, rc⟩ w2
              rw [cr] at hC2
              clear hb2 hC
              go_wp2_with fail
              refine hC2.mono ?_
              rintro e w3 ⟨rfl, hb3⟩
              go_wp2_with fail
              go_ret
              exact ⟨by rw [HV.out]; rfl, hB2.next hb3⟩
          · have cq : came ⟨qp, qi, qf, qk, qv, qs, qc⟩ = false := decide_eq_false hq2
            have hC := refCame_any ⟨qp, qi, qf, qk, qv, qs, qc⟩ (w.alloc (.cells #[.int .i64 rp, .int .i64 ri, .int .i64 rf, .int .i64 rk, .int .i64 rv, .int .i64 rs, .string rc] 69))
            rw [cq] at hC
            have HV := Lib.hid (HOK.out (by rw [stateOk, HROW.out, HSELF.out, HED.out]; show (true && (false || underOk (at_ l rp.toNat) _)) = true; rw [HQ.out]; exact under_ok1 hq0 hq2))
            clear hq0
            go_wp2_with fail
            refine hC.mono ?_
            rintro e w2 ⟨rfl, hb2⟩
            have hB2 := HB.out.next hb2
            go_wp2_with fail
            go_ret
            exact ⟨by rw [HV.out]; rfl, hB2⟩
        · have f4 : (!rc.toList.isEmpty) = true := str_full hC
          have f4' : rc.toList.isEmpty = false := str_full' hC
          have HV := Lib.hid (HBAD.out (by rw [stateOk, HROW.out, self_bad3 hz hC]; rfl))
          clear hv hz hS hC
          go_wp2_with fail
          go_ret
          exact ⟨by rw [HV.out]; rfl, HB.out⟩
      · have f3 : (rs != 0) = true := by simpa using hS
        have HV := Lib.hid (HBAD.out (by rw [stateOk, HROW.out, self_bad2 hz hS]; rfl))
        clear hv hz hS
        go_wp2_with fail
        go_ret
        exact ⟨by rw [HV.out]; rfl, HB.out⟩
    · have f2 : (rk == 0) = false := by simpa using hz
      have HSELF := Lib.hid (show selfOk ⟨rp, ri, rf, rk, rv, rs, rc⟩ = true from self_ok1 hv (fun e => absurd e hz))
      clear hv hz
      by_cases hq0 : qk = 0
      · have HV := Lib.hid (HBAD.out (by rw [stateOk, HROW.out, HSELF.out, HED.out]; show (true && (false || underOk (at_ l rp.toNat) _)) = false; rw [HQ.out]; exact under_bad1 hq0))
        have f5 : (qk == 0) = true := by simpa using hq0
        clear hq0
        go_wp2_with fail
        go_ret
        exact ⟨by rw [HV.out]; rfl, HB.out⟩
      have f5 : (qk == 0) = false := by simpa using hq0
      by_cases hq2 : 2 ≤ qk
      · have cq : came ⟨qp, qi, qf, qk, qv, qs, qc⟩ = true := decide_eq_true hq2
        have hC := refCame_any ⟨qp, qi, qf, qk, qv, qs, qc⟩ (w.alloc (.cells #[.int .i64 rp, .int .i64 ri, .int .i64 rf, .int .i64 rk, .int .i64 rv, .int .i64 rs, .string rc] 69))
        rw [cq] at hC
        by_cases hr2 : 2 ≤ rk
        · have HV := Lib.hid (HOK.out (by rw [stateOk, HROW.out, HSELF.out, HED.out]; show (true && (false || underOk (at_ l rp.toNat) _)) = true; rw [HQ.out]; exact under_ok2 hq0 hr2))
          have cr : came ⟨rp, ri, rf, rk, rv, rs, rc⟩ = true := decide_eq_true hr2
          clear hq0
          go_wp2_with fail
          refine hC.mono ?_
          rintro e w2 ⟨rfl, hb2⟩
          have hB2 := HB.out.next hb2
          have hcell := fun j => (hb2.cell (p := ⟨w.heap.size, j, none⟩) (by simp)).trans (cell_of_row _ _ j _ _ _ (heap_alloc_last w (.cells #[.int .i64 rp, .int .i64 ri, .int .i64 rf, .int .i64 rk, .int .i64 rv, .int .i64 rs, .string rc] 69)))
          have hsz := hb2.size
          have hC2 := refCame_any ⟨rp, ri, rf, rk, rv, rs, rc⟩ w2
          rw [cr] at hC2
          clear hb2 hC
          go_wp2_with fail
          refine hC2.mono ?_
          rintro e w3 ⟨rfl, hb3⟩
          go_wp2_with fail
          go_ret
          exact ⟨by rw [HV.out]; rfl, hB2.next hb3⟩
        · have HV := Lib.hid (HBAD.out (by rw [stateOk, HROW.out, HSELF.out, HED.out]; show (true && (false || underOk (at_ l rp.toNat) _)) = false; rw [HQ.out]; exact under_bad2 hq2 hr2))
          have cr : came ⟨rp, ri, rf, rk, rv, rs, rc⟩ = false := decide_eq_false hr2
          clear hq0
          go_wp2_with fail
          refine hC.mono ?_
          rintro e w2 ⟨rfl, hb2⟩
          have hB2 := HB.out.next hb2
          have hcell := fun j => (hb2.cell (p := ⟨w.heap.size, j, none⟩) (by simp)).trans (cell_of_row _ _ j _ _ _ (heap_alloc_last w (.cells #[.int .i64 rp, .int .i64 ri, .int .i64 rf, .int .i64 rk, .int .i64 rv, .int .i64 rs, .string rc] 69)))
          have hsz := hb2.size
          have hC2 := refCame_any ⟨rp, ri, rf, rk, rv, rs, rc⟩ w2
          rw [cr] at hC2
          clear hb2 hC
          go_wp2_with fail
          refine hC2.mono ?_
          rintro e w3 ⟨rfl, hb3⟩
          go_wp2_with fail
          go_ret
          exact ⟨by rw [HV.out]; rfl, hB2.next hb3⟩
      · have cq : came ⟨qp, qi, qf, qk, qv, qs, qc⟩ = false := decide_eq_false hq2
        have hC := refCame_any ⟨qp, qi, qf, qk, qv, qs, qc⟩ (w.alloc (.cells #[.int .i64 rp, .int .i64 ri, .int .i64 rf, .int .i64 rk, .int .i64 rv, .int .i64 rs, .string rc] 69))
        rw [cq] at hC
        have HV := Lib.hid (HOK.out (by rw [stateOk, HROW.out, HSELF.out, HED.out]; show (true && (false || underOk (at_ l rp.toNat) _)) = true; rw [HQ.out]; exact under_ok1 hq0 hq2))
        clear hq0
        go_wp2_with fail
        refine hC.mono ?_
        rintro e w2 ⟨rfl, hb2⟩
        have hB2 := HB.out.next hb2
        go_wp2_with fail
        go_ret
        exact ⟨by rw [HV.out]; rfl, hB2⟩
  · have f1 : (rv != 0) = true := by simpa using hv
    by_cases h2' : rk = 2
    · have f2 : (rk != 2) = false := by simpa using h2'
      have f2' : (rk == 0) = false := by simp; omega
      have HSELF := Lib.hid (show selfOk ⟨rp, ri, rf, rk, rv, rs, rc⟩ = true from self_ok2 (.inl h2') (by omega))
      clear hv h2'
      by_cases hq0 : qk = 0
      · have HV := Lib.hid (HBAD.out (by rw [stateOk, HROW.out, HSELF.out, HED.out]; show (true && (false || underOk (at_ l rp.toNat) _)) = false; rw [HQ.out]; exact under_bad1 hq0))
        have f5 : (qk == 0) = true := by simpa using hq0
        clear hq0
        go_wp2_with fail
        go_ret
        exact ⟨by rw [HV.out]; rfl, HB.out⟩
      have f5 : (qk == 0) = false := by simpa using hq0
      by_cases hq2 : 2 ≤ qk
      · have cq : came ⟨qp, qi, qf, qk, qv, qs, qc⟩ = true := decide_eq_true hq2
        have hC := refCame_any ⟨qp, qi, qf, qk, qv, qs, qc⟩ (w.alloc (.cells #[.int .i64 rp, .int .i64 ri, .int .i64 rf, .int .i64 rk, .int .i64 rv, .int .i64 rs, .string rc] 69))
        rw [cq] at hC
        by_cases hr2 : 2 ≤ rk
        · have HV := Lib.hid (HOK.out (by rw [stateOk, HROW.out, HSELF.out, HED.out]; show (true && (false || underOk (at_ l rp.toNat) _)) = true; rw [HQ.out]; exact under_ok2 hq0 hr2))
          have cr : came ⟨rp, ri, rf, rk, rv, rs, rc⟩ = true := decide_eq_true hr2
          clear hq0
          go_wp2_with fail
          refine hC.mono ?_
          rintro e w2 ⟨rfl, hb2⟩
          have hB2 := HB.out.next hb2
          have hcell := fun j => (hb2.cell (p := ⟨w.heap.size, j, none⟩) (by simp)).trans (cell_of_row _ _ j _ _ _ (heap_alloc_last w (.cells #[.int .i64 rp, .int .i64 ri, .int .i64 rf, .int .i64 rk, .int .i64 rv, .int .i64 rs, .string rc] 69)))
          have hsz := hb2.size
          have hC2 := refCame_any ⟨rp, ri, rf, rk, rv, rs, rc⟩ w2
          rw [cr] at hC2
          clear hb2 hC
          go_wp2_with fail
          refine hC2.mono ?_
          rintro e w3 ⟨rfl, hb3⟩
          go_wp2_with fail
          go_ret
          exact ⟨by rw [HV.out]; rfl, hB2.next hb3⟩
        · have HV := Lib.hid (HBAD.out (by rw [stateOk, HROW.out, HSELF.out, HED.out]; show (true && (false || underOk (at_ l rp.toNat) _)) = false; rw [HQ.out]; exact under_bad2 hq2 hr2))
          have cr : came ⟨rp, ri, rf, rk, rv, rs, rc⟩ = false := decide_eq_false hr2
          clear hq0
          go_wp2_with fail
          refine hC.mono ?_
          rintro e w2 ⟨rfl, hb2⟩
          have hB2 := HB.out.next hb2
          have hcell := fun j => (hb2.cell (p := ⟨w.heap.size, j, none⟩) (by simp)).trans (cell_of_row _ _ j _ _ _ (heap_alloc_last w (.cells #[.int .i64 rp, .int .i64 ri, .int .i64 rf, .int .i64 rk, .int .i64 rv, .int .i64 rs, .string rc] 69)))
          have hsz := hb2.size
          have hC2 := refCame_any ⟨rp, ri, rf, rk, rv, rs, rc⟩ w2
          rw [cr] at hC2
          clear hb2 hC
          go_wp2_with fail
          refine hC2.mono ?_
          rintro e w3 ⟨rfl, hb3⟩
          go_wp2_with fail
          go_ret
          exact ⟨by rw [HV.out]; rfl, hB2.next hb3⟩
      · have cq : came ⟨qp, qi, qf, qk, qv, qs, qc⟩ = false := decide_eq_false hq2
        have hC := refCame_any ⟨qp, qi, qf, qk, qv, qs, qc⟩ (w.alloc (.cells #[.int .i64 rp, .int .i64 ri, .int .i64 rf, .int .i64 rk, .int .i64 rv, .int .i64 rs, .string rc] 69))
        rw [cq] at hC
        have HV := Lib.hid (HOK.out (by rw [stateOk, HROW.out, HSELF.out, HED.out]; show (true && (false || underOk (at_ l rp.toNat) _)) = true; rw [HQ.out]; exact under_ok1 hq0 hq2))
        clear hq0
        go_wp2_with fail
        refine hC.mono ?_
        rintro e w2 ⟨rfl, hb2⟩
        have hB2 := HB.out.next hb2
        go_wp2_with fail
        go_ret
        exact ⟨by rw [HV.out]; rfl, hB2⟩
    · have f2 : (rk != 2) = true := by simpa using h2'
      by_cases h3' : rk = 3
      · have f3 : (rk != 3) = false := by simpa using h3'
        have f3' : (rk == 0) = false := by simp; omega
        have HSELF := Lib.hid (show selfOk ⟨rp, ri, rf, rk, rv, rs, rc⟩ = true from self_ok2 (.inr h3') (by omega))
        clear hv h2' h3'
        by_cases hq0 : qk = 0
        · have HV := Lib.hid (HBAD.out (by rw [stateOk, HROW.out, HSELF.out, HED.out]; show (true && (false || underOk (at_ l rp.toNat) _)) = false; rw [HQ.out]; exact under_bad1 hq0))
          have f5 : (qk == 0) = true := by simpa using hq0
          clear hq0
          go_wp2_with fail
          go_ret
          exact ⟨by rw [HV.out]; rfl, HB.out⟩
        have f5 : (qk == 0) = false := by simpa using hq0
        by_cases hq2 : 2 ≤ qk
        · have cq : came ⟨qp, qi, qf, qk, qv, qs, qc⟩ = true := decide_eq_true hq2
          have hC := refCame_any ⟨qp, qi, qf, qk, qv, qs, qc⟩ (w.alloc (.cells #[.int .i64 rp, .int .i64 ri, .int .i64 rf, .int .i64 rk, .int .i64 rv, .int .i64 rs, .string rc] 69))
          rw [cq] at hC
          by_cases hr2 : 2 ≤ rk
          · have HV := Lib.hid (HOK.out (by rw [stateOk, HROW.out, HSELF.out, HED.out]; show (true && (false || underOk (at_ l rp.toNat) _)) = true; rw [HQ.out]; exact under_ok2 hq0 hr2))
            have cr : came ⟨rp, ri, rf, rk, rv, rs, rc⟩ = true := decide_eq_true hr2
            clear hq0
            go_wp2_with fail
            refine hC.mono ?_
            rintro e w2 ⟨rfl, hb2⟩
            have hB2 := HB.out.next hb2
            have hcell := fun j => (hb2.cell (p := ⟨w.heap.size, j, none⟩) (by simp)).trans (cell_of_row _ _ j _ _ _ (heap_alloc_last w (.cells #[.int .i64 rp, .int .i64 ri, .int .i64 rf, .int .i64 rk, .int .i64 rv, .int .i64 rs, .string rc] 69)))
            have hsz := hb2.size
            have hC2 := refCame_any ⟨rp, ri, rf, rk, rv, rs, rc⟩ w2
            rw [cr] at hC2
            clear hb2 hC
            go_wp2_with fail
            refine hC2.mono ?_
            rintro e w3 ⟨rfl, hb3⟩
            go_wp2_with fail
            go_ret
            exact ⟨by rw [HV.out]; rfl, hB2.next hb3⟩
          · have HV := Lib.hid (HBAD.out (by rw [stateOk, HROW.out, HSELF.out, HED.out]; show (true && (false || underOk (at_ l rp.toNat) _)) = false; rw [HQ.out]; exact under_bad2 hq2 hr2))
            have cr : came ⟨rp, ri, rf, rk, rv, rs, rc⟩ = false := decide_eq_false hr2
            clear hq0
            go_wp2_with fail
            refine hC.mono ?_
            rintro e w2 ⟨rfl, hb2⟩
            have hB2 := HB.out.next hb2
            have hcell := fun j => (hb2.cell (p := ⟨w.heap.size, j, none⟩) (by simp)).trans (cell_of_row _ _ j _ _ _ (heap_alloc_last w (.cells #[.int .i64 rp, .int .i64 ri, .int .i64 rf, .int .i64 rk, .int .i64 rv, .int .i64 rs, .string rc] 69)))
            have hsz := hb2.size
            have hC2 := refCame_any ⟨rp, ri, rf, rk, rv, rs, rc⟩ w2
            rw [cr] at hC2
            clear hb2 hC
            go_wp2_with fail
            refine hC2.mono ?_
            rintro e w3 ⟨rfl, hb3⟩
            go_wp2_with fail
            go_ret
            exact ⟨by rw [HV.out]; rfl, hB2.next hb3⟩
        · have cq : came ⟨qp, qi, qf, qk, qv, qs, qc⟩ = false := decide_eq_false hq2
          have hC := refCame_any ⟨qp, qi, qf, qk, qv, qs, qc⟩ (w.alloc (.cells #[.int .i64 rp, .int .i64 ri, .int .i64 rf, .int .i64 rk, .int .i64 rv, .int .i64 rs, .string rc] 69))
          rw [cq] at hC
          have HV := Lib.hid (HOK.out (by rw [stateOk, HROW.out, HSELF.out, HED.out]; show (true && (false || underOk (at_ l rp.toNat) _)) = true; rw [HQ.out]; exact under_ok1 hq0 hq2))
          clear hq0
          go_wp2_with fail
          refine hC.mono ?_
          rintro e w2 ⟨rfl, hb2⟩
          have hB2 := HB.out.next hb2
          go_wp2_with fail
          go_ret
          exact ⟨by rw [HV.out]; rfl, hB2⟩
      · have f3 : (rk != 3) = true := by simpa using h3'
        have HV := Lib.hid (HBAD.out (by rw [stateOk, HROW.out, self_bad1 hv h2' h3']; rfl))
        clear hv h2' h3'
        go_wp2_with fail
        go_ret
        exact ⟨by rw [HV.out]; rfl, HB.out⟩
end

theorem rows_at {w : World} {l : List Row} {A : Option Addr} {B : Nat} (hr : ∀ k, k < l.length → ∃ b off, A = some ⟨b, off, none⟩ ∧ b < B ∧ RowAt w b (off + k * 7) (at_ l k)) {b off : Nat} (hA : A = some ⟨b, off, none⟩) {k : Nat} (hk : k < l.length) :
    b < B ∧ RowAt w b (off + k * 7) (at_ l k) := by
  obtain ⟨b', off', h1, h2, h3⟩ := hr k hk
  rw [hA] at h1
  injection h1 with h1
  injection h1 with e1 e2
  subst e1 e2
  exact ⟨h2, h3⟩

set_option maxRecDepth 10000 in
set_option maxHeartbeats 4000000 in
theorem refRight_any {w : World} {v : Value} {l : List Row} (h : Sl w w.heap.size 7 v (rowsC l)) (hs : Small l) (k : Nat) (hk : k < l.length) :
    Calls Tryz.prog 69 #[v, .int .i64 k] w fun e w' => e = .returned (.int .i64 (right (l.length + 1) l k)) ∧ Below w.heap.size w w' := by
  obtain ⟨A, c, rfl, hc, hr⟩ := rows_open h
  obtain ⟨b, off, rfl, hb, h0, h1, h2, h3, h4, h5, h6⟩ := hr k hk
  have hcs := hs.2 k hk
  have hlen := hs.1
  have HR := Lib.hid (fun m hm => (rows_at hr rfl (k := m) hm).2)
  have HS := Lib.hid h
  clear hr h hs
  obtain ⟨n, hn⟩ := name_of l.length
  have HN := Lib.hid hn
  rw [hn] at hc hk hlen HS ⊢
  clear hn
  obtain ⟨⟨rp, ri, rf, rk, rv, rs, rc⟩, hr⟩ := name_of (at_ l k)
  rw [hr] at h0 h1 h2 h3 h4 h5 h6 hcs
  dsimp only at h0 h1 h2 h3 h4 h5 h6 hcs
  have HROW := Lib.hid hr
  clear hr
  have hB0 : Below w.heap.size w (w.alloc (.cells #[.int .i64 rp, .int .i64 ri, .int .i64 rf, .int .i64 rk, .int .i64 rv, .int .i64 rs, .string rc] 69)) := by go_grown
  have HB := Lib.hid hB0
  clear hB0
  by_cases hp : placeOk (n + 1) l k = true
  · by_cases hsp : spanOk ⟨rp, ri, rf, rk, rv, rs, rc⟩ (decide (k = 0)) = true
    · by_cases hbn : binOk rc = true
      · by_cases hk0 : k = 0
        · exact rr_state_f HS HN hlen hk hc hb h0 h1 h2 h3 h4 h5 h6 hcs HROW HB hk0 hp hsp hbn
        · have hq := hp
          rw [place_later hk0, HROW.out] at hq
          have hq2 := of_decide_eq_true (Bool.and_eq_true_iff.1 hq).1
          dsimp only at hq2
          obtain ⟨⟨qp, qi, qf, qk, qv, qs, qc⟩, hqr⟩ := name_of (at_ l rp.toNat)
          obtain ⟨g0, g1, g2, g3, g4, g5, g6⟩ := HR.out rp.toNat (by have := HN.out; omega)
          rw [hqr] at g0 g1 g2 g3 g4 g5 g6
          exact rr_state_l HS HN hlen hk hc hb h0 h1 h2 h3 h4 h5 h6 hcs HROW HB hk0 hp (Lib.hid hqr) g0 g1 g2 g3 g4 g5 g6 hsp hbn
      · have hbn' : binOk rc = false := by simpa using hbn
        by_cases hk0 : k = 0
        · exact rr_bin_f HS HN hlen hk hc hb h0 h1 h2 h3 h4 h5 h6 hcs HROW HB hk0 hp hsp hbn'
        · exact rr_bin_l HS HN hlen hk hc hb h0 h1 h2 h3 h4 h5 h6 hcs HROW HB hk0 hp hsp hbn'
    · have hsp' : spanOk ⟨rp, ri, rf, rk, rv, rs, rc⟩ (decide (k = 0)) = false := by simpa using hsp
      by_cases hk0 : k = 0
      · exact rr_span_f HS HN hlen hk hc hb h0 h1 h2 h3 h4 h5 h6 hcs HROW HB hk0 hp hsp'
      · exact rr_span_l HS HN hlen hk hc hb h0 h1 h2 h3 h4 h5 h6 hcs HROW HB hk0 hp hsp'
  · have hp : placeOk (n + 1) l k = false := by simpa using hp
    have HV := Lib.hid (right_11 hp)
    by_cases hk0 : k = 0
    · have e0 : ((k : Int) == 0) = true := by simpa using hk0
      have hp1 : (rp != -1) = true := by
        have : placeOk (n + 1) l k = decide (rp = -1) := by rw [hk0, place_first, ← hk0, HROW.out]
        rw [this] at hp
        simpa using hp
      clear hp hk0
      go_enter Tryz.func69, Tryz.ntmps69
      go_wp2_with fail
      go_ret
      exact ⟨by rw [HV.out]; rfl, HB.out⟩
    · have e0 : ((k : Int) == 0) = false := by simpa using hk0
      have e1 : decide (0 < k) = true := by simp; omega
      have hk1 : 1 ≤ k := by omega
      rw [place_later hk0, HROW.out] at hp
      by_cases hp0 : rp < 0
      · clear hp hk0
        go_enter Tryz.func69, Tryz.ntmps69
        go_wp2_with fail
        go_ret
        exact ⟨by rw [HV.out]; rfl, HB.out⟩
      · by_cases hpk : (k : Int) ≤ rp
        · clear hp hk0
          have hp0' : 0 ≤ rp := by omega
          go_enter Tryz.func69, Tryz.ntmps69
          go_wp2_with fail
          go_ret
          exact ⟨by rw [HV.out]; rfl, HB.out⟩
        · have hw : wi l rp (n + 1) ((k : Int) - 1) = false := by
            have : decide (0 ≤ rp ∧ rp < k) = true := by simp; omega
            rw [this, Bool.true_and] at hp
            exact hp
          have hp0' : 0 ≤ rp := by omega
          have hpk' : rp < (k : Int) := by omega
          have hW := refWithin_any (HS.out.next HB.out) (by have := HN.out; omega) ((k : Int) - 1) rp
          rw [HN.out, hw] at hW
          have hwk : wrap64 ((k : Int) - 1) = (k : Int) - 1 := by unfold wrap64; omega
          clear hp hk0 hw
          go_enter Tryz.func69, Tryz.ntmps69
          go_wp2_with fail
          refine hW.mono ?_
          rintro e w' ⟨rfl, rfl⟩
          go_wp2_with fail
          go_ret
          exact ⟨by rw [HV.out]; rfl, HB.out⟩

def ChkR (w : World) (g : Nat → Int) (n : Nat) (i : Value) (wr : World) : Prop := ∃ j : Nat, j ≤ n ∧ i = .int .i64 j ∧ (∀ m, m < j → g m = 0) ∧ Below w.heap.size w wr
set_option maxHeartbeats 1000000 in
theorem refCheck_any {w : World} {v : Value} {l : List Row} (h : Sl w w.heap.size 7 v (rowsC l)) (hs : Small l) :
    Calls Tryz.prog 39 #[v] w fun e w' => e = .returned (.int .i64 (chk (l.length + 1) l)) ∧ Below w.heap.size w w' := by
  obtain ⟨A, c, rfl, hc, -⟩ := rows_open h
  have hlen := hs.1
  have HSM := Lib.hid hs
  have HS := Lib.hid h
  obtain ⟨n, hn⟩ := name_of l.length
  have HN := Lib.hid hn
  rw [hn] at hc hlen HS ⊢
  clear hn h hs
  by_cases h0 : n = 0
  · subst h0
    have HV : Hid (chk (0 + 1) l = 17) := Lib.hid (by rw [chk, if_pos HN.out])
    go_enter Tryz.func39, Tryz.ntmps39
    go_wp2_with fail
    go_ret
    exact ⟨by rw [HV.out]; rfl, Below.refl _ _⟩
  · have e0 : ((n : Int) == 0) = false := by simpa using h0
    have hC : chk (n + 1) l = firstW (right (n + 1) l) n 0 := by rw [chk, if_neg (by have := HN.out; omega), HN.out]
    have HC := Lib.hid hC
    clear hC
    go_enter Tryz.func39, Tryz.ntmps39
    go_wp2_with fail
    go_loopw [3] (fun i wr => ChkR w (right (n + 1) l) n i wr) (fun i _ => n - (intOf i).toNat)
    case atStart => exact ⟨0, Nat.zero_le _, rfl, fun m hm => by omega, Below.refl _ _⟩
    case round =>
      obtain ⟨j, hj, rfl, hall, hB⟩ := hrel
      have HALL := Lib.hid hall
      clear hall
      by_cases hlt : j < n
      · have hR := refRight_any (HS.out.next hB) HSM.out j (by have := HN.out; omega)
        rw [HN.out] at hR
        obtain ⟨r, hr⟩ := name_of (right (n + 1) l j)
        rw [hr] at hR
        have HRR := Lib.hid hr
        clear hr
        go_wp2_with fail
        refine hR.mono ?_
        rintro e w2 ⟨rfl, hb2⟩
        have hB2 := hB.next hb2
        clear hR
        by_cases hr0 : r = 0
        · have f1 : (r != 0) = false := by simpa using hr0
          have HR0 := Lib.hid hr0
          clear hr0
          go_wp2_with fail
          refine ⟨⟨j + 1, hlt, by go_num, fun m hm => ?_, hB2⟩, by simp [intOf]; omega⟩
          by_cases e : m = j
          · rw [e, HRR.out, HR0.out]
          · exact HALL.out m (by omega)
        · have f1 : (r != 0) = true := by simpa using hr0
          have HR0 := Lib.hid hr0
          clear hr0
          go_wp2_with fail
          go_ret
          refine ⟨ret_int ?_, hB2⟩
          rw [HC.out, firstW_of n 0 j hlt (fun m hm => by rw [Nat.zero_add]; exact HALL.out m hm) (by rw [Nat.zero_add, HRR.out]; exact HR0.out), Nat.zero_add, HRR.out]
      · have : j = n := by omega
        subst this
        go_wp2_with fail
        go_ret
        refine ⟨ret_int ?_, hB⟩
        rw [HC.out, firstW_ok _ _ fun m hm => by rw [Nat.zero_add]; exact HALL.out m hm]
end P7
end Go.Proofs.YtajbchecjbddgaaGreatDoor
