/- Walks of package table: a row that is looked at: row, place, span, told, state. -/
import Derived.Test.YtajbchecjbddgaaGreatDoorT7d
import Derived.Test.YtajbchecjbddgaaGreatDoorH2
import Derived.Test.YtajbchecjbddgaaGreatDoorShelf
import Derived.Shelf.Strings.SlTrimAscii
namespace Go.Proofs.YtajbchecjbddgaaGreatDoor
open Go.RowKit
namespace P7

theorem came_any (r : Row) (w : World) : Calls Tryz.prog 75 #[rowV r] w fun e w' => e = .returned (.bool (came r)) ∧ Below w.heap.size w w' := by
  obtain ⟨rp, ri, rf, rk, rv, rs, rc⟩ := r
  show Calls _ _ #[.agg #[.int .i64 rp, .int .i64 ri, .int .i64 rf, .int .i64 rk, .int .i64 rv, .int .i64 rs, .string rc]] _ _
  go_enter Tryz.func75, Tryz.ntmps75
  go_wp2_with fail
  go_ret
  exact ⟨rfl, by go_grown⟩

/-- One result, in a block that is known whole. -/
theorem results_cell_one {P : Program} {fn : Func} {p : Tmp} {ty : TypeId} (h : fn.results = #[.cell p ty]) (tmps : Array Value) (w : World) (g : Nat) (te : TypeId) (cs : Array Value) (fr : Nat × Nat) (d : TypeDesc)
    (hp : tmps.getD p undef = .pointer (some ⟨g, 0, none⟩)) (hg : w.heap[g]? = some (.cells cs te fr))
    (hu : P.underlying ty = some d) (hd : (match d with | .struct _ | .array _ _ => true | _ => false) = true) (hi : (P.info? ty).map (·.size) = some cs.size) :
    (results fn tmps).run P w = .ok (.agg cs) w := by
  have hp' : tmps[p]?.getD undef = .pointer (some ⟨g, 0, none⟩) := by simpa using hp
  simp [results, h, hp', asAddr, run_loadVar_row w g te ty cs fr d hg hu hd hi]

theorem field_p (rp ri rf rk rv rs : Int) (rc : ByteArray) (w : World) : (Instr.field 69 (.agg #[.int .i64 rp, .int .i64 ri, .int .i64 rf, .int .i64 rk, .int .i64 rv, .int .i64 rs, .string rc]) 0).run Tryz.prog w = .ok (.int .i64 rp) w := by kernel_rfl
theorem field_c (rp ri rf rk rv rs : Int) (rc : ByteArray) (w : World) : (Instr.field 69 (.agg #[.int .i64 rp, .int .i64 ri, .int .i64 rf, .int .i64 rk, .int .i64 rv, .int .i64 rs, .string rc]) 6).run Tryz.prog w = .ok (.string rc) w := by kernel_rfl
section
variable {w : World} {l : List Row} {A : Option Addr} {n c k : Nat} {rp ri rf rk rv rs : Int} {rc : ByteArray}
set_option maxHeartbeats 1000000 in
theorem row_any (h : Sl w w.heap.size 7 (.slice A n c) (rowsC l)) (hk : k < l.length) (hlen : l.length ≤ 60) (hr : at_ l k = ⟨rp, ri, rf, rk, rv, rs, rc⟩) :
    Calls Tryz.prog 84 #[.agg #[.slice A n c, .int .i64 k]] w fun e w' => e = .returned (.agg #[.int .i64 rp, .int .i64 ri, .int .i64 rf, .int .i64 rk, .int .i64 rv, .int .i64 rs, .string rc]) ∧ Below w.heap.size w w' := by
  obtain ⟨A', c', he, hc, ho⟩ := rows_open h
  injection he with e1 e2 e3
  subst e1 e3
  obtain ⟨b, off, rfl, hb, h0, h1, h2, h3, h4, h5, h6⟩ := ho k hk
  rw [hr] at h0 h1 h2 h3 h4 h5 h6
  dsimp only at h0 h1 h2 h3 h4 h5 h6
  have hkn : k < n := by omega
  have hn60 : n ≤ 60 := by omega
  clear ho hr hk h e2
  go_enter Tryz.func84, Tryz.ntmps84
  go_wp2_with fail
  refine bodyPost_ret (results_cell_one rfl _ _ (w.heap.size + 1) 69 _ _ _ rfl (heap_alloc2_new w _ _) Tryz.underlying69 rfl (by kernel_rfl)) rfl ?_
  exact ⟨rfl, by go_grown⟩

set_option maxHeartbeats 2000000 in
theorem place_any (h : Sl w w.heap.size 7 (.slice A n c) (rowsC l)) (hk : k < l.length) (hlen : l.length ≤ 60) (hr : at_ l k = ⟨rp, ri, rf, rk, rv, rs, rc⟩) :
    Calls Tryz.prog 71 #[.agg #[.slice A n c, .int .i64 k]] w fun e w' => e = .returned (.bool (placeOk l.length l k)) ∧ Below w.heap.size w w' := by
  have hB1 : Below w.heap.size w (w.alloc (.cells #[.slice A n c, .int .i64 k] 105)) := by go_grown
  have hR := row_any (h.next hB1) hk hlen hr
  have HS := Lib.hid h
  have hkn : k < n := by obtain ⟨A', c', he, _, _⟩ := rows_open h; injection he with _ e _; omega
  have hn60 : n ≤ 60 := by obtain ⟨A', c', he, _, _⟩ := rows_open h; injection he with _ e _; omega
  have HN : Hid (l.length = n) := Lib.hid (by obtain ⟨A', c', he, _, _⟩ := rows_open h; injection he with _ e _; exact e.symm)
  have HROW := Lib.hid hr
  have HB1 := Lib.hid hB1
  have hfp := field_p rp ri rf rk rv rs rc
  have hfc := field_c rp ri rf rk rv rs rc
  rw [HN.out]
  clear h hr hk hB1 hlen
  by_cases hk0 : k = 0
  · have e0 : ((k : Int) == 0) = true := by simpa using hk0
    have HV : Hid (placeOk n l k = (rp == -1)) := Lib.hid (by rw [hk0, place_first, ← hk0, HROW.out]; rfl)
    clear hk0
    go_enter Tryz.func71, Tryz.ntmps71
    go_wp2_with fail
    refine hR.mono ?_
    rintro e w2 ⟨rfl, hb2⟩
    have hB2 := HB1.out.next hb2
    have hcell := fun j => (hb2.cell (p := ⟨w.heap.size, j, none⟩) (by simp)).trans (cell_of_row _ _ j _ _ _ (heap_alloc_last w (.cells #[.slice A n c, .int .i64 k] 105)))
    have hsz := hb2.size
    simp only [World.size_alloc] at hsz
    clear hR hb2
    go_wp2_with fail
    go_ret
    exact ⟨ret_bool HV.out.symm, hB2⟩
  · have e0 : ((k : Int) == 0) = false := by simpa using hk0
    have hk1 : 1 ≤ k := by omega
    have HV : Hid (placeOk n l k = (decide (0 ≤ rp ∧ rp < k) && wi l rp n ((k : Int) - 1))) := Lib.hid (by rw [place_later hk0, HROW.out])
    have hwk : wrap64 ((k : Int) - 1) = (k : Int) - 1 := by unfold wrap64; omega
    clear hk0
    by_cases hp0 : 0 ≤ rp
    · by_cases hpk : rp < (k : Int)
      · have HE : Hid (decide (0 ≤ rp ∧ rp < (k : Int)) = true) := Lib.hid (by simp; omega)
        go_enter Tryz.func71, Tryz.ntmps71
        go_wp2_with fail
        refine hR.mono ?_
        rintro e w2 ⟨rfl, hb2⟩
        have hB2 := HB1.out.next hb2
        have hcell := fun j => (hb2.cell (p := ⟨w.heap.size, j, none⟩) (by simp)).trans (cell_of_row _ _ j _ _ _ (heap_alloc_last w (.cells #[.slice A n c, .int .i64 k] 105)))
        have hsz := hb2.size
        simp only [World.size_alloc] at hsz
        clear hR hb2
        have hW := within_any (HS.out.next hB2) (by have := HN.out; omega) ((k : Int) - 1) rp
        rw [HN.out] at hW
        go_wp2_with fail
        refine hW.mono ?_
        rintro e w3 ⟨rfl, rfl⟩
        go_wp2_with fail
        go_ret
        exact ⟨ret_bool (by rw [HV.out, HE.out]; rfl), hB2⟩
      · have HE : Hid (decide (0 ≤ rp ∧ rp < (k : Int)) = false) := Lib.hid (by simp; omega)
        have hpk' : decide (rp < (k : Int)) = false := by simpa using hpk
        go_enter Tryz.func71, Tryz.ntmps71
        go_wp2_with fail
        refine hR.mono ?_
        rintro e w2 ⟨rfl, hb2⟩
        have hB2 := HB1.out.next hb2
        have hcell := fun j => (hb2.cell (p := ⟨w.heap.size, j, none⟩) (by simp)).trans (cell_of_row _ _ j _ _ _ (heap_alloc_last w (.cells #[.slice A n c, .int .i64 k] 105)))
        have hsz := hb2.size
        simp only [World.size_alloc] at hsz
        clear hR hb2
        go_wp2_with fail
        go_ret
        exact ⟨ret_bool (by rw [HV.out, HE.out]; rfl), hB2⟩
    · have HE : Hid (decide (0 ≤ rp ∧ rp < (k : Int)) = false) := Lib.hid (by simp; omega)
      have hp0' : rp < 0 := by omega
      go_enter Tryz.func71, Tryz.ntmps71
      go_wp2_with fail
      refine hR.mono ?_
      rintro e w2 ⟨rfl, hb2⟩
      have hB2 := HB1.out.next hb2
      have hcell := fun j => (hb2.cell (p := ⟨w.heap.size, j, none⟩) (by simp)).trans (cell_of_row _ _ j _ _ _ (heap_alloc_last w (.cells #[.slice A n c, .int .i64 k] 105)))
      have hsz := hb2.size
      simp only [World.size_alloc] at hsz
      clear hR hb2
      go_wp2_with fail
      go_ret
      exact ⟨ret_bool (by rw [HV.out, HE.out]; rfl), hB2⟩

theorem dropWhile_nil {α : Type} (p : α → Bool) : ∀ l : List α, l.dropWhile p = [] ↔ ∀ x ∈ l, p x = true
  | [] => by simp
  | x :: l => by
    rw [List.dropWhile_cons]
    by_cases h : p x = true
    · rw [if_pos h, dropWhile_nil p l]; simp [h]
    · rw [if_neg h]; simp [h]
theorem dropWhile_head {α : Type} (p : α → Bool) {x : α} {r : List α} : ∀ l : List α, l.dropWhile p = x :: r → p x = false
  | [], h => by simp at h
  | y :: l, h => by
    rw [List.dropWhile_cons] at h
    by_cases hy : p y = true
    · rw [if_pos hy] at h; exact dropWhile_head p l h
    · rw [if_neg hy] at h
      injection h with h1 _
      subst h1; simpa using hy
theorem trim_nil (l cs : List UInt8) : Lib.trimS l cs = [] ↔ ∀ b ∈ l, cs.contains b = true := by
  unfold Lib.trimS Lib.trimLeftS Lib.trimRightS
  constructor
  · intro h b hb
    rw [dropWhile_nil] at h
    by_cases hc : cs.contains b = true
    · exact hc
    · cases hd : l.reverse.dropWhile (cs.contains ·) with
      | nil =>
        rw [dropWhile_nil] at hd
        exact absurd (hd b (by simpa using hb)) hc
      | cons x r =>
        have h1 := dropWhile_head _ _ hd
        have h2 := h x (by rw [hd]; simp)
        rw [h1] at h2; cases h2
  · intro h
    have : l.reverse.dropWhile (cs.contains ·) = [] := by
      rw [dropWhile_nil]
      intro x hx
      exact h x (by simpa using hx)
    rw [this]
    rfl
theorem bin_trim (s : ByteArray) : (Lib.trimS s.data.toList [48, 49] = []) ↔ binOk s = true := by
  rw [trim_nil, binOk, List.all_eq_true]
  constructor
  · intro h b hb
    have := h b hb
    simp at this
    simpa using this
  · intro h b hb
    have := h b hb
    simp at this
    simpa using this
set_option maxRecDepth 10000 in
set_option maxHeartbeats 2000000 in
theorem told_any (h : Sl w w.heap.size 7 (.slice A n c) (rowsC l)) (hk : k < l.length) (hlen : l.length ≤ 60) (hr : at_ l k = ⟨rp, ri, rf, rk, rv, rs, rc⟩) (hcs : rc.size ≤ 100) :
    Calls Tryz.prog 73 #[.agg #[.slice A n c, .int .i64 k]] w fun e w' => e = .returned (.bool (binOk rc)) ∧ Below w.heap.size w w' := by
  have hB1 : Below w.heap.size w (w.alloc (.cells #[.slice A n c, .int .i64 k] 105)) := by go_grown
  have hR := row_any (h.next hB1) hk hlen hr
  have HS := Lib.hid h
  have hkn : k < n := by obtain ⟨A', c', he, _, _⟩ := rows_open h; injection he with _ e _; omega
  have hn60 : n ≤ 60 := by obtain ⟨A', c', he, _, _⟩ := rows_open h; injection he with _ e _; omega
  have HN : Hid (l.length = n) := Lib.hid (by obtain ⟨A', c', he, _, _⟩ := rows_open h; injection he with _ e _; exact e.symm)
  have HROW := Lib.hid hr
  have HB1 := Lib.hid hB1
  have hfp := field_p rp ri rf rk rv rs rc
  have hfc := field_c rp ri rf rk rv rs rc
  clear h hr hk hB1 hlen
  obtain ⟨t, ht⟩ := name_of (Lib.trimS rc.data.toList [48, 49])
  have HT := Lib.hid ht
  have hT : ∀ W, Calls Tryz.prog 86 #[.string rc, .string ⟨#[48, 49]⟩] W fun e w' => e = .returned (.string ⟨t.toArray⟩) ∧ Below W.heap.size W w' := fun W => by
    rw [← ht]
    exact Any.strings_Trim_laid Tryz.lays160 (by kernel_rfl) rc ⟨#[48, 49]⟩ W (by omega) (by decide) (ascii_of_all (by decide))
  clear ht
  go_enter Tryz.func73, Tryz.ntmps73
  go_wp2_with fail
  refine hR.mono ?_
  rintro e w2 ⟨rfl, hb2⟩
  have hB2 := HB1.out.next hb2
  have hcell := fun j => (hb2.cell (p := ⟨w.heap.size, j, none⟩) (by simp)).trans (cell_of_row _ _ j _ _ _ (heap_alloc_last w (.cells #[.slice A n c, .int .i64 k] 105)))
  have hsz := hb2.size
  simp only [World.size_alloc] at hsz
  clear hR hb2
  go_wp2_with fail
  refine (hT _).mono ?_
  rintro e w3 ⟨rfl, hb3⟩
  go_wp2_with fail
  go_ret
  refine ⟨ret_bool ?_, hB2.next hb3⟩
  have h := bin_trim rc
  rw [HT.out] at h
  cases hb : binOk rc
  · cases t with
    | nil => exact absurd (h.1 rfl) (by rw [hb]; decide)
    | cons => rfl
  · rw [h.2 hb]; rfl

/-! ### span, state -/
set_option maxRecDepth 10000 in
set_option maxHeartbeats 4000000 in
theorem span_yes (h : Sl w w.heap.size 7 (.slice A n c) (rowsC l)) (hk : k < l.length) (hlen : l.length ≤ 60) (hr : at_ l k = ⟨rp, ri, rf, rk, rv, rs, rc⟩) (hsp : spanOk ⟨rp, ri, rf, rk, rv, rs, rc⟩ (decide (k = 0)) = true) :
    Calls Tryz.prog 72 #[.agg #[.slice A n c, .int .i64 k]] w fun e w' => e = .returned (.bool true) ∧ Below w.heap.size w w' := by
  have hB1 : Below w.heap.size w (w.alloc (.cells #[.slice A n c, .int .i64 k] 105)) := by go_grown
  have hR := row_any (h.next hB1) hk hlen hr
  have HS := Lib.hid h
  have hkn : k < n := by obtain ⟨A', c', he, _, _⟩ := rows_open h; injection he with _ e _; omega
  have hn60 : n ≤ 60 := by obtain ⟨A', c', he, _, _⟩ := rows_open h; injection he with _ e _; omega
  have HN : Hid (l.length = n) := Lib.hid (by obtain ⟨A', c', he, _, _⟩ := rows_open h; injection he with _ e _; exact e.symm)
  have HROW := Lib.hid hr
  have HB1 := Lib.hid hB1
  have hfp := field_p rp ri rf rk rv rs rc
  have hfc := field_c rp ri rf rk rv rs rc
  clear h hr hk hB1 hlen
  obtain ⟨hs1, hs2, hs3, hs4, hs5, hs6, hs7, hs8⟩ := span_good hsp
  by_cases hk0 : k = 0
  · have e1 : decide (0 < k) = false := by simp; omega
    have e2 : (ri == 0) = true := by simpa using hs2 (by simpa using hk0)
    clear hk0 hs2 hsp
    go_enter Tryz.func72, Tryz.ntmps72
    go_wp2_with fail
    refine hR.mono ?_
    rintro e w2 ⟨rfl, hb2⟩
    have hB2 := HB1.out.next hb2
    have hcell := fun j => (hb2.cell (p := ⟨w.heap.size, j, none⟩) (by simp)).trans (cell_of_row _ _ j _ _ _ (heap_alloc_last w (.cells #[.slice A n c, .int .i64 k] 105)))
    have hsz := hb2.size
    simp only [World.size_alloc] at hsz
    have hlt2 : w.heap.size < w2.heap.size := by omega
    have hB3 := hB2.alloc hB2.size (.cells #[.int .i64 rp, .int .i64 ri, .int .i64 rf, .int .i64 rk, .int .i64 rv, .int .i64 rs, .string rc] 69)
    have HB3 := Lib.hid hB3
    clear hR hb2 hB3
    go_wp2_with fail
    go_ret
    exact ⟨rfl, HB3.out⟩
  · have e1 : decide (0 < k) = true := by simp; omega
    clear hk0 hs2 hsp
    go_enter Tryz.func72, Tryz.ntmps72
    go_wp2_with fail
    refine hR.mono ?_
    rintro e w2 ⟨rfl, hb2⟩
    have hB2 := HB1.out.next hb2
    have hcell := fun j => (hb2.cell (p := ⟨w.heap.size, j, none⟩) (by simp)).trans (cell_of_row _ _ j _ _ _ (heap_alloc_last w (.cells #[.slice A n c, .int .i64 k] 105)))
    have hsz := hb2.size
    simp only [World.size_alloc] at hsz
    have hlt2 : w.heap.size < w2.heap.size := by omega
    have hB3 := hB2.alloc hB2.size (.cells #[.int .i64 rp, .int .i64 ri, .int .i64 rf, .int .i64 rk, .int .i64 rv, .int .i64 rs, .string rc] 69)
    have HB3 := Lib.hid hB3
    clear hR hb2 hB3
    go_wp2_with fail
    go_ret
    exact ⟨rfl, HB3.out⟩
set_option maxRecDepth 10000 in
set_option maxHeartbeats 4000000 in
theorem span_no (h : Sl w w.heap.size 7 (.slice A n c) (rowsC l)) (hk : k < l.length) (hlen : l.length ≤ 60) (hr : at_ l k = ⟨rp, ri, rf, rk, rv, rs, rc⟩) (hsp : spanOk ⟨rp, ri, rf, rk, rv, rs, rc⟩ (decide (k = 0)) = false) :
    Calls Tryz.prog 72 #[.agg #[.slice A n c, .int .i64 k]] w fun e w' => e = .returned (.bool false) ∧ Below w.heap.size w w' := by
  have hB1 : Below w.heap.size w (w.alloc (.cells #[.slice A n c, .int .i64 k] 105)) := by go_grown
  have hR := row_any (h.next hB1) hk hlen hr
  have HS := Lib.hid h
  have hkn : k < n := by obtain ⟨A', c', he, _, _⟩ := rows_open h; injection he with _ e _; omega
  have hn60 : n ≤ 60 := by obtain ⟨A', c', he, _, _⟩ := rows_open h; injection he with _ e _; omega
  have HN : Hid (l.length = n) := Lib.hid (by obtain ⟨A', c', he, _, _⟩ := rows_open h; injection he with _ e _; exact e.symm)
  have HROW := Lib.hid hr
  have HB1 := Lib.hid hB1
  have hfp := field_p rp ri rf rk rv rs rc
  have hfc := field_c rp ri rf rk rv rs rc
  clear h hr hk hB1 hlen
  by_cases hk0 : k = 0
  · have e1 : decide (0 < k) = false := by simp; omega
    by_cases hri : ri = 0
    · have e2 : (ri == 0) = true := by simpa using hri
      have HSP := Lib.hid hsp
      have HRI := Lib.hid hri
      clear hk0 hsp hri
      go_enter Tryz.func72, Tryz.ntmps72
      go_wp2_with fail
      refine hR.mono ?_
      rintro e w2 ⟨rfl, hb2⟩
      have hB2 := HB1.out.next hb2
      have hcell := fun j => (hb2.cell (p := ⟨w.heap.size, j, none⟩) (by simp)).trans (cell_of_row _ _ j _ _ _ (heap_alloc_last w (.cells #[.slice A n c, .int .i64 k] 105)))
      have hsz := hb2.size
      simp only [World.size_alloc] at hsz
      have hlt2 : w.heap.size < w2.heap.size := by omega
      have hB3 := hB2.alloc hB2.size (.cells #[.int .i64 rp, .int .i64 ri, .int .i64 rf, .int .i64 rk, .int .i64 rv, .int .i64 rs, .string rc] 69)
      have HB3 := Lib.hid hB3
      clear hR hb2 hB3
      go_wp2_with fail
      all_goals first
        | exact (span_bad HSP.out (by have := HRI.out; omega) (fun _ => HRI.out) (by omega) (by omega) (by omega) (by omega) (by omega) (by omega)).elim
        | (go_ret; exact ⟨rfl, HB3.out⟩)
        | (go_ret; exact ⟨ret_bool (decide_eq_false fun hle => span_bad HSP.out (by have := HRI.out; omega) (fun _ => HRI.out) (by omega) (by omega) (by omega) (by omega) (by omega) (by omega)), HB3.out⟩)
    · have e2 : (ri == 0) = false := by simpa using hri
      clear hk0 hsp hri
      go_enter Tryz.func72, Tryz.ntmps72
      go_wp2_with fail
      refine hR.mono ?_
      rintro e w2 ⟨rfl, hb2⟩
      have hB2 := HB1.out.next hb2
      have hcell := fun j => (hb2.cell (p := ⟨w.heap.size, j, none⟩) (by simp)).trans (cell_of_row _ _ j _ _ _ (heap_alloc_last w (.cells #[.slice A n c, .int .i64 k] 105)))
      have hsz := hb2.size
      simp only [World.size_alloc] at hsz
      have hlt2 : w.heap.size < w2.heap.size := by omega
      have hB3 := hB2.alloc hB2.size (.cells #[.int .i64 rp, .int .i64 ri, .int .i64 rf, .int .i64 rk, .int .i64 rv, .int .i64 rs, .string rc] 69)
      have HB3 := Lib.hid hB3
      clear hR hb2 hB3
      go_wp2_with fail
      all_goals (go_ret; exact ⟨rfl, HB3.out⟩)
  · have e1 : decide (0 < k) = true := by simp; omega
    have hd : decide (k = 0) = false := by simpa using hk0
    rw [hd] at hsp
    have HSP := Lib.hid hsp
    clear hk0 hsp hd
    go_enter Tryz.func72, Tryz.ntmps72
    go_wp2_with fail
    refine hR.mono ?_
    rintro e w2 ⟨rfl, hb2⟩
    have hB2 := HB1.out.next hb2
    have hcell := fun j => (hb2.cell (p := ⟨w.heap.size, j, none⟩) (by simp)).trans (cell_of_row _ _ j _ _ _ (heap_alloc_last w (.cells #[.slice A n c, .int .i64 k] 105)))
    have hsz := hb2.size
    simp only [World.size_alloc] at hsz
    have hlt2 : w.heap.size < w2.heap.size := by omega
    have hB3 := hB2.alloc hB2.size (.cells #[.int .i64 rp, .int .i64 ri, .int .i64 rf, .int .i64 rk, .int .i64 rv, .int .i64 rs, .string rc] 69)
    have HB3 := Lib.hid hB3
    clear hR hb2 hB3
    go_wp2_with fail
    all_goals first
      | exact (span_bad HSP.out (by omega) (fun e => by cases e) (by omega) (by omega) (by omega) (by omega) (by omega) (by omega)).elim
      | (go_ret; exact ⟨rfl, HB3.out⟩)
      | (go_ret; exact ⟨ret_bool (decide_eq_false fun hle => span_bad HSP.out (by omega) (fun e => by cases e) (by omega) (by omega) (by omega) (by omega) (by omega) (by omega)), HB3.out⟩)
theorem span_any (h : Sl w w.heap.size 7 (.slice A n c) (rowsC l)) (hk : k < l.length) (hlen : l.length ≤ 60) (hr : at_ l k = ⟨rp, ri, rf, rk, rv, rs, rc⟩) : Calls Tryz.prog 72 #[.agg #[.slice A n c, .int .i64 k]] w fun e w' => e = .returned (.bool (spanOk (at_ l k) (decide (k = 0)))) ∧ Below w.heap.size w w' := by
  rw [hr]
  cases hsp : spanOk ⟨rp, ri, rf, rk, rv, rs, rc⟩ (decide (k = 0))
  · exact span_no h hk hlen hr hsp
  · exact span_yes h hk hlen hr hsp
set_option maxRecDepth 10000 in
set_option maxHeartbeats 40000000 in
theorem state_any (h : Sl w w.heap.size 7 (.slice A n c) (rowsC l)) (hk : k < l.length) (hlen : l.length ≤ 60) (hr : at_ l k = ⟨rp, ri, rf, rk, rv, rs, rc⟩) (hup : k ≠ 0 → 0 ≤ rp ∧ rp < (k : Int)) :
    Calls Tryz.prog 74 #[.agg #[.slice A n c, .int .i64 k]] w fun e w' => e = .returned (.bool (stateOk l k)) ∧ Below w.heap.size w w' := by
  have hB1 : Below w.heap.size w (w.alloc (.cells #[.slice A n c, .int .i64 k] 105)) := by go_grown
  have hR := row_any (h.next hB1) hk hlen hr
  have HS := Lib.hid h
  have hkn : k < n := by obtain ⟨A', c', he, _, _⟩ := rows_open h; injection he with _ e _; omega
  have hn60 : n ≤ 60 := by obtain ⟨A', c', he, _, _⟩ := rows_open h; injection he with _ e _; omega
  have HN : Hid (l.length = n) := Lib.hid (by obtain ⟨A', c', he, _, _⟩ := rows_open h; injection he with _ e _; exact e.symm)
  have HROW := Lib.hid hr
  have HB1 := Lib.hid hB1
  have hfp := field_p rp ri rf rk rv rs rc
  have hfc := field_c rp ri rf rk rv rs rc
  have HRO := Lib.hid (show ∀ m, m < l.length → ∃ b off, A = some ⟨b, off, none⟩ ∧ b < w.heap.size ∧ RowAt w b (off + m * 7) (at_ l m) from by
    obtain ⟨A', c', he, _, ho⟩ := rows_open h
    injection he with e1 _ _
    subst e1
    exact ho)
  have HUP := Lib.hid hup
  clear h hr hk hB1 hlen hup
  go_enter Tryz.func74, Tryz.ntmps74
  go_wp2_with fail
  refine hR.mono ?_
  rintro e w2 ⟨rfl, hb2⟩
  have hB2 := HB1.out.next hb2
  have hcell := fun j => (hb2.cell (p := ⟨w.heap.size, j, none⟩) (by simp)).trans (cell_of_row _ _ j _ _ _ (heap_alloc_last w (.cells #[.slice A n c, .int .i64 k] 105)))
  have hsz := hb2.size
  simp only [World.size_alloc] at hsz
  have hlt2 : w.heap.size < w2.heap.size := by omega
  have hB3 := hB2.alloc hB2.size (.cells #[.int .i64 rp, .int .i64 ri, .int .i64 rf, .int .i64 rk, .int .i64 rv, .int .i64 rs, .string rc] 69)
  have HB3 := Lib.hid hB3
  clear hR hb2 hB3
  by_cases hv : rv = 0
  · have f1 : (rv != 0) = false := by simpa using hv
    by_cases hz : rk = 0
    · have f2 : (rk == 0) = true := by simpa using hz
      by_cases hS : rs = 0
      · have f3 : (rs != 0) = false := by simpa using hS
        by_cases hC : rc.size = 0
        · have f4 : (!rc.toList.isEmpty) = false := str_empty hC
          have f4' : rc.toList = [] := str_empty' hC
          have HSELF := Lib.hid (show selfOk ⟨rp, ri, rf, rk, rv, rs, rc⟩ = true from self_ok1 hv (fun _ => ⟨hS, hC⟩))
          clear hv hz hS hC
          by_cases hk0 : k = 0
          · have e0 : ((k : Int) == 0) = true := by simpa using hk0
            have HV : Hid (stateOk l k = true) := Lib.hid (by rw [stateOk, HROW.out, HSELF.out, decide_eq_true hk0]; rfl)
            clear hk0
            go_wp2_with fail
            go_ret
            exact ⟨ret_bool HV.out.symm, HB3.out⟩
          have e0 : ((k : Int) == 0) = false := by simpa using hk0
          obtain ⟨p0, p1⟩ := HUP.out hk0
          obtain ⟨⟨qp, qi, qf, qk, qv, qs, qc⟩, hqr⟩ := name_of (at_ l rp.toNat)
          obtain ⟨b, off, hbo, hbl, g0, g1, g2, g3, g4, g5, g6⟩ := HRO.out rp.toNat (by have := HN.out; omega)
          rw [hqr] at g0 g1 g2 g3 g4 g5 g6
          subst hbo
          have gb := fun j => hB2.cell (p := ⟨b, j, none⟩) hbl
          have d0 := (gb _).trans g0
          have d1 := (gb _).trans g1
          have d2 := (gb _).trans g2
          have d3 := (gb _).trans g3
          have d4 := (gb _).trans g4
          have d5 := (gb _).trans g5
          have d6 := (gb _).trans g6
          have hpn : rp < (n : Int) := by omega
          have hb2 : b < w2.heap.size := by omega
          have HST : Hid (stateOk l k = underOk ⟨qp, qi, qf, qk, qv, qs, qc⟩ ⟨rp, ri, rf, rk, rv, rs, rc⟩) := Lib.hid (by rw [stateOk, HROW.out, HSELF.out, decide_eq_false hk0]; show (true && (false || underOk (at_ l rp.toNat) _)) = _; rw [hqr]; simp)
          clear g0 g1 g2 g3 g4 g5 g6 gb hqr hk0
          have hB4 : Below w.heap.size w ((w2.alloc (.cells #[.int .i64 rp, .int .i64 ri, .int .i64 rf, .int .i64 rk, .int .i64 rv, .int .i64 rs, .string rc] 69)).alloc (.cells #[.int .i64 qp, .int .i64 qi, .int .i64 qf, .int .i64 qk, .int .i64 qv, .int .i64 qs, .string qc] 69)) := HB3.out.alloc HB3.out.size _
          by_cases hq0 : qk = 0
          · have f5 : (qk != 0) = false := by simpa using hq0
            have HV := Lib.hid (HST.out.trans (show underOk _ _ = false from decide_eq_false fun ⟨a, _⟩ => a hq0))
            clear hq0
            go_wp2_with fail
            go_ret
            exact ⟨ret_bool HV.out.symm, hB4⟩
          have f5 : (qk != 0) = true := by simpa using hq0
          have hC := came_any ⟨qp, qi, qf, qk, qv, qs, qc⟩ ((w2.alloc (.cells #[.int .i64 rp, .int .i64 ri, .int .i64 rf, .int .i64 rk, .int .i64 rv, .int .i64 rs, .string rc] 69)).alloc (.cells #[.int .i64 qp, .int .i64 qi, .int .i64 qf, .int .i64 qk, .int .i64 qv, .int .i64 qs, .string qc] 69))
          by_cases hq2 : 2 ≤ qk
          · have cq : came ⟨qp, qi, qf, qk, qv, qs, qc⟩ = true := decide_eq_true hq2
            rw [cq] at hC
            have HV := Lib.hid (HST.out.trans (show underOk _ _ = decide (2 ≤ rk) from by unfold underOk; by_cases h2 : 2 ≤ rk <;> simp [hq0, hq2, h2]))
            clear hq0
            go_wp2_with fail
            refine hC.mono ?_
            rintro e w5 ⟨rfl, hb5⟩
            have hB5 := hB4.next hb5
            have hcell3 := fun j => (hb5.cell (p := ⟨w2.heap.size, j, none⟩) (by simp; omega)).trans (cell_of_row _ _ j _ _ _ (heap_alloc2_old w2 (.cells #[.int .i64 rp, .int .i64 ri, .int .i64 rf, .int .i64 rk, .int .i64 rv, .int .i64 rs, .string rc] 69) (.cells #[.int .i64 qp, .int .i64 qi, .int .i64 qf, .int .i64 qk, .int .i64 qv, .int .i64 qs, .string qc] 69)))
            have hsz5 := hb5.size
            simp only [World.size_alloc] at hsz5
            have hlt5 : w2.heap.size < w5.heap.size := by omega
            have hC2 := came_any ⟨rp, ri, rf, rk, rv, rs, rc⟩ w5
            clear hC hb5
            go_wp2_with fail
            refine hC2.mono ?_
            rintro e w6 ⟨rfl, hb6⟩
            go_wp2_with fail
            go_ret
            exact ⟨ret_bool HV.out.symm, hB5.next hb6⟩
          · have cq : came ⟨qp, qi, qf, qk, qv, qs, qc⟩ = false := decide_eq_false hq2
            rw [cq] at hC
            have HV := Lib.hid (HST.out.trans (show underOk _ _ = true from decide_eq_true ⟨hq0, fun a => absurd a hq2⟩))
            clear hq0
            go_wp2_with fail
            refine hC.mono ?_
            rintro e w5 ⟨rfl, hb5⟩
            have hB5 := hB4.next hb5
            go_wp2_with fail
            go_ret
            exact ⟨ret_bool HV.out.symm, hB5⟩
        · have f4 : (!rc.toList.isEmpty) = true := str_full hC
          have f4' : rc.toList.isEmpty = false := str_full' hC
          have HV : Hid (stateOk l k = false) := Lib.hid (by rw [stateOk, HROW.out, show selfOk ⟨rp, ri, rf, rk, rv, rs, rc⟩ = false from self_bad3 hz hC]; rfl)
          clear hv hz hS hC
          go_wp2_with fail
          go_ret
          exact ⟨ret_bool HV.out.symm, HB3.out⟩
      · have f3 : (rs != 0) = true := by simpa using hS
        have HV : Hid (stateOk l k = false) := Lib.hid (by rw [stateOk, HROW.out, show selfOk ⟨rp, ri, rf, rk, rv, rs, rc⟩ = false from self_bad2 hz hS]; rfl)
        clear hv hz hS
        go_wp2_with fail
        go_ret
        exact ⟨ret_bool HV.out.symm, HB3.out⟩
    · have f2 : (rk == 0) = false := by simpa using hz
      have HSELF := Lib.hid (show selfOk ⟨rp, ri, rf, rk, rv, rs, rc⟩ = true from self_ok1 hv (fun e => absurd e hz))
      clear hv hz
      by_cases hk0 : k = 0
      · have e0 : ((k : Int) == 0) = true := by simpa using hk0
        have HV : Hid (stateOk l k = true) := Lib.hid (by rw [stateOk, HROW.out, HSELF.out, decide_eq_true hk0]; rfl)
        clear hk0
        go_wp2_with fail
        go_ret
        exact ⟨ret_bool HV.out.symm, HB3.out⟩
      have e0 : ((k : Int) == 0) = false := by simpa using hk0
      obtain ⟨p0, p1⟩ := HUP.out hk0
      obtain ⟨⟨qp, qi, qf, qk, qv, qs, qc⟩, hqr⟩ := name_of (at_ l rp.toNat)
      obtain ⟨b, off, hbo, hbl, g0, g1, g2, g3, g4, g5, g6⟩ := HRO.out rp.toNat (by have := HN.out; omega)
      rw [hqr] at g0 g1 g2 g3 g4 g5 g6
      subst hbo
      have gb := fun j => hB2.cell (p := ⟨b, j, none⟩) hbl
      have d0 := (gb _).trans g0
      have d1 := (gb _).trans g1
      have d2 := (gb _).trans g2
      have d3 := (gb _).trans g3
      have d4 := (gb _).trans g4
      have d5 := (gb _).trans g5
      have d6 := (gb _).trans g6
      have hpn : rp < (n : Int) := by omega
      have hb2 : b < w2.heap.size := by omega
      have HST : Hid (stateOk l k = underOk ⟨qp, qi, qf, qk, qv, qs, qc⟩ ⟨rp, ri, rf, rk, rv, rs, rc⟩) := Lib.hid (by rw [stateOk, HROW.out, HSELF.out, decide_eq_false hk0]; show (true && (false || underOk (at_ l rp.toNat) _)) = _; rw [hqr]; simp)
      clear g0 g1 g2 g3 g4 g5 g6 gb hqr hk0
      have hB4 : Below w.heap.size w ((w2.alloc (.cells #[.int .i64 rp, .int .i64 ri, .int .i64 rf, .int .i64 rk, .int .i64 rv, .int .i64 rs, .string rc] 69)).alloc (.cells #[.int .i64 qp, .int .i64 qi, .int .i64 qf, .int .i64 qk, .int .i64 qv, .int .i64 qs, .string qc] 69)) := HB3.out.alloc HB3.out.size _
      by_cases hq0 : qk = 0
      · have f5 : (qk != 0) = false := by simpa using hq0
        have HV := Lib.hid (HST.out.trans (show underOk _ _ = false from decide_eq_false fun ⟨a, _⟩ => a hq0))
        clear hq0
        go_wp2_with fail
        go_ret
        exact ⟨ret_bool HV.out.symm, hB4⟩
      have f5 : (qk != 0) = true := by simpa using hq0
      have hC := came_any ⟨qp, qi, qf, qk, qv, qs, qc⟩ ((w2.alloc (.cells #[.int .i64 rp, .int .i64 ri, .int .i64 rf, .int .i64 rk, .int .i64 rv, .int .i64 rs, .string rc] 69)).alloc (.cells #[.int .i64 qp, .int .i64 qi, .int .i64 qf, .int .i64 qk, .int .i64 qv, .int .i64 qs, .string qc] 69))
      by_cases hq2 : 2 ≤ qk
      · have cq : came ⟨qp, qi, qf, qk, qv, qs, qc⟩ = true := decide_eq_true hq2
        rw [cq] at hC
        have HV := Lib.hid (HST.out.trans (show underOk _ _ = decide (2 ≤ rk) from by unfold underOk; by_cases h2 : 2 ≤ rk <;> simp [hq0, hq2, h2]))
        clear hq0
        go_wp2_with fail
        refine hC.mono ?_
        rintro e w5 ⟨rfl, hb5⟩
        have hB5 := hB4.next hb5
        have hcell3 := fun j => (hb5.cell (p := ⟨w2.heap.size, j, none⟩) (by simp; omega)).trans (cell_of_row _ _ j _ _ _ (heap_alloc2_old w2 (.cells #[.int .i64 rp, .int .i64 ri, .int .i64 rf, .int .i64 rk, .int .i64 rv, .int .i64 rs, .string rc] 69) (.cells #[.int .i64 qp, .int .i64 qi, .int .i64 qf, .int .i64 qk, .int .i64 qv, .int .i64 qs, .string qc] 69)))
        have hsz5 := hb5.size
        simp only [World.size_alloc] at hsz5
        have hlt5 : w2.heap.size < w5.heap.size := by omega
        have hC2 := came_any ⟨rp, ri, rf, rk, rv, rs, rc⟩ w5
        clear hC hb5
        go_wp2_with fail
        refine hC2.mono ?_
        rintro e w6 ⟨rfl, hb6⟩
        go_wp2_with fail
        go_ret
        exact ⟨ret_bool HV.out.symm, hB5.next hb6⟩
      · have cq : came ⟨qp, qi, qf, qk, qv, qs, qc⟩ = false := decide_eq_false hq2
        rw [cq] at hC
        have HV := Lib.hid (HST.out.trans (show underOk _ _ = true from decide_eq_true ⟨hq0, fun a => absurd a hq2⟩))
        clear hq0
        go_wp2_with fail
        refine hC.mono ?_
        rintro e w5 ⟨rfl, hb5⟩
        have hB5 := hB4.next hb5
        go_wp2_with fail
        go_ret
        exact ⟨ret_bool HV.out.symm, hB5⟩
  · have f1 : (rv != 0) = true := by simpa using hv
    by_cases h2' : rk = 2
    · have f2 : (rk != 2) = false := by simpa using h2'
      have f2' : (rk == 0) = false := by simp; omega
      have HSELF := Lib.hid (show selfOk ⟨rp, ri, rf, rk, rv, rs, rc⟩ = true from self_ok2 (.inl h2') (by omega))
      clear hv h2'
      by_cases hk0 : k = 0
      · have e0 : ((k : Int) == 0) = true := by simpa using hk0
        have HV : Hid (stateOk l k = true) := Lib.hid (by rw [stateOk, HROW.out, HSELF.out, decide_eq_true hk0]; rfl)
        clear hk0
        go_wp2_with fail
        go_ret
        exact ⟨ret_bool HV.out.symm, HB3.out⟩
      have e0 : ((k : Int) == 0) = false := by simpa using hk0
      obtain ⟨p0, p1⟩ := HUP.out hk0
      obtain ⟨⟨qp, qi, qf, qk, qv, qs, qc⟩, hqr⟩ := name_of (at_ l rp.toNat)
      obtain ⟨b, off, hbo, hbl, g0, g1, g2, g3, g4, g5, g6⟩ := HRO.out rp.toNat (by have := HN.out; omega)
      rw [hqr] at g0 g1 g2 g3 g4 g5 g6
      subst hbo
      have gb := fun j => hB2.cell (p := ⟨b, j, none⟩) hbl
      have d0 := (gb _).trans g0
      have d1 := (gb _).trans g1
      have d2 := (gb _).trans g2
      have d3 := (gb _).trans g3
      have d4 := (gb _).trans g4
      have d5 := (gb _).trans g5
      have d6 := (gb _).trans g6
      have hpn : rp < (n : Int) := by omega
      have hb2 : b < w2.heap.size := by omega
      have HST : Hid (stateOk l k = underOk ⟨qp, qi, qf, qk, qv, qs, qc⟩ ⟨rp, ri, rf, rk, rv, rs, rc⟩) := Lib.hid (by rw [stateOk, HROW.out, HSELF.out, decide_eq_false hk0]; show (true && (false || underOk (at_ l rp.toNat) _)) = _; rw [hqr]; simp)
      clear g0 g1 g2 g3 g4 g5 g6 gb hqr hk0
      have hB4 : Below w.heap.size w ((w2.alloc (.cells #[.int .i64 rp, .int .i64 ri, .int .i64 rf, .int .i64 rk, .int .i64 rv, .int .i64 rs, .string rc] 69)).alloc (.cells #[.int .i64 qp, .int .i64 qi, .int .i64 qf, .int .i64 qk, .int .i64 qv, .int .i64 qs, .string qc] 69)) := HB3.out.alloc HB3.out.size _
      by_cases hq0 : qk = 0
      · have f5 : (qk != 0) = false := by simpa using hq0
        have HV := Lib.hid (HST.out.trans (show underOk _ _ = false from decide_eq_false fun ⟨a, _⟩ => a hq0))
        clear hq0
        go_wp2_with fail
        go_ret
        exact ⟨ret_bool HV.out.symm, hB4⟩
      have f5 : (qk != 0) = true := by simpa using hq0
      have hC := came_any ⟨qp, qi, qf, qk, qv, qs, qc⟩ ((w2.alloc (.cells #[.int .i64 rp, .int .i64 ri, .int .i64 rf, .int .i64 rk, .int .i64 rv, .int .i64 rs, .string rc] 69)).alloc (.cells #[.int .i64 qp, .int .i64 qi, .int .i64 qf, .int .i64 qk, .int .i64 qv, .int .i64 qs, .string qc] 69))
      by_cases hq2 : 2 ≤ qk
      · have cq : came ⟨qp, qi, qf, qk, qv, qs, qc⟩ = true := decide_eq_true hq2
        rw [cq] at hC
        have HV := Lib.hid (HST.out.trans (show underOk _ _ = decide (2 ≤ rk) from by unfold underOk; by_cases h2 : 2 ≤ rk <;> simp [hq0, hq2, h2]))
        clear hq0
        go_wp2_with fail
        refine hC.mono ?_
        rintro e w5 ⟨rfl, hb5⟩
        have hB5 := hB4.next hb5
        have hcell3 := fun j => (hb5.cell (p := ⟨w2.heap.size, j, none⟩) (by simp; omega)).trans (cell_of_row _ _ j _ _ _ (heap_alloc2_old w2 (.cells #[.int .i64 rp, .int .i64 ri, .int .i64 rf, .int .i64 rk, .int .i64 rv, .int .i64 rs, .string rc] 69) (.cells #[.int .i64 qp, .int .i64 qi, .int .i64 qf, .int .i64 qk, .int .i64 qv, .int .i64 qs, .string qc] 69)))
        have hsz5 := hb5.size
        simp only [World.size_alloc] at hsz5
        have hlt5 : w2.heap.size < w5.heap.size := by omega
        have hC2 := came_any ⟨rp, ri, rf, rk, rv, rs, rc⟩ w5
        clear hC hb5
        go_wp2_with fail
        refine hC2.mono ?_
        rintro e w6 ⟨rfl, hb6⟩
        go_wp2_with fail
        go_ret
        exact ⟨ret_bool HV.out.symm, hB5.next hb6⟩
      · have cq : came ⟨qp, qi, qf, qk, qv, qs, qc⟩ = false := decide_eq_false hq2
        rw [cq] at hC
        have HV := Lib.hid (HST.out.trans (show underOk _ _ = true from decide_eq_true ⟨hq0, fun a => absurd a hq2⟩))
        clear hq0
        go_wp2_with fail
        refine hC.mono ?_
        rintro e w5 ⟨rfl, hb5⟩
        have hB5 := hB4.next hb5
        go_wp2_with fail
        go_ret
        exact ⟨ret_bool HV.out.symm, hB5⟩
    · have f2 : (rk != 2) = true := by simpa using h2'
      by_cases h3' : rk = 3
      · have f3 : (rk != 3) = false := by simpa using h3'
        have f3' : (rk == 0) = false := by simp; omega
        have HSELF := Lib.hid (show selfOk ⟨rp, ri, rf, rk, rv, rs, rc⟩ = true from self_ok2 (.inr h3') (by omega))
        clear hv h2' h3'
        by_cases hk0 : k = 0
        · have e0 : ((k : Int) == 0) = true := by simpa using hk0
          have HV : Hid (stateOk l k = true) := Lib.hid (by rw [stateOk, HROW.out, HSELF.out, decide_eq_true hk0]; rfl)
          clear hk0
          go_wp2_with fail
          go_ret
          exact ⟨ret_bool HV.out.symm, HB3.out⟩
        have e0 : ((k : Int) == 0) = false := by simpa using hk0
        obtain ⟨p0, p1⟩ := HUP.out hk0
        obtain ⟨⟨qp, qi, qf, qk, qv, qs, qc⟩, hqr⟩ := name_of (at_ l rp.toNat)
        obtain ⟨b, off, hbo, hbl, g0, g1, g2, g3, g4, g5, g6⟩ := HRO.out rp.toNat (by have := HN.out; omega)
        rw [hqr] at g0 g1 g2 g3 g4 g5 g6
        subst hbo
        have gb := fun j => hB2.cell (p := ⟨b, j, none⟩) hbl
        have d0 := (gb _).trans g0
        have d1 := (gb _).trans g1
        have d2 := (gb _).trans g2
        have d3 := (gb _).trans g3
        have d4 := (gb _).trans g4
        have d5 := (gb _).trans g5
        have d6 := (gb _).trans g6
        have hpn : rp < (n : Int) := by omega
        have hb2 : b < w2.heap.size := by omega
        have HST : Hid (stateOk l k = underOk ⟨qp, qi, qf, qk, qv, qs, qc⟩ ⟨rp, ri, rf, rk, rv, rs, rc⟩) := Lib.hid (by rw [stateOk, HROW.out, HSELF.out, decide_eq_false hk0]; show (true && (false || underOk (at_ l rp.toNat) _)) = _; rw [hqr]; simp)
        clear g0 g1 g2 g3 g4 g5 g6 gb hqr hk0
        have hB4 : Below w.heap.size w ((w2.alloc (.cells #[.int .i64 rp, .int .i64 ri, .int .i64 rf, .int .i64 rk, .int .i64 rv, .int .i64 rs, .string rc] 69)).alloc (.cells #[.int .i64 qp, .int .i64 qi, .int .i64 qf, .int .i64 qk, .int .i64 qv, .int .i64 qs, .string qc] 69)) := HB3.out.alloc HB3.out.size _
        by_cases hq0 : qk = 0
        · have f5 : (qk != 0) = false := by simpa using hq0
          have HV := Lib.hid (HST.out.trans (show underOk _ _ = false from decide_eq_false fun ⟨a, _⟩ => a hq0))
          clear hq0
          go_wp2_with fail
          go_ret
          exact ⟨ret_bool HV.out.symm, hB4⟩
        have f5 : (qk != 0) = true := by simpa using hq0
        have hC := came_any ⟨qp, qi, qf, qk, qv, qs, qc⟩ ((w2.alloc (.cells #[.int .i64 rp, .int .i64 ri, .int .i64 rf, .int .i64 rk, .int .i64 rv, .int .i64 rs, .string rc] 69)).alloc (.cells #[.int .i64 qp, .int .i64 qi, .int .i64 qf, .int .i64 qk, .int .i64 qv, .int .i64 qs, .string qc] 69))
        by_cases hq2 : 2 ≤ qk
        · have cq : came ⟨qp, qi, qf, qk, qv, qs, qc⟩ = true := decide_eq_true hq2
          rw [cq] at hC
          have HV := Lib.hid (HST.out.trans (show underOk _ _ = decide (2 ≤ rk) from by unfold underOk; by_cases h2 : 2 ≤ rk <;> simp [hq0, hq2, h2]))
          clear hq0
          go_wp2_with fail
          refine hC.mono ?_
          rintro e w5 ⟨rfl, hb5⟩
          have hB5 := hB4.next hb5
          have hcell3 := fun j => (hb5.cell (p := ⟨w2.heap.size, j, none⟩) (by simp; omega)).trans (cell_of_row _ _ j _ _ _ (heap_alloc2_old w2 (.cells #[.int .i64 rp, .int .i64 ri, .int .i64 rf, .int .i64 rk, .int .i64 rv, .int .i64 rs, .string rc] 69) (.cells #[.int .i64 qp, .int .i64 qi, .int .i64 qf, .int .i64 qk, .int .i64 qv, .int .i64 qs, .string qc] 69)))
          have hsz5 := hb5.size
          simp only [World.size_alloc] at hsz5
          have hlt5 : w2.heap.size < w5.heap.size := by omega
          have hC2 := came_any ⟨rp, ri, rf, rk, rv, rs, rc⟩ w5
          clear hC hb5
          go_wp2_with fail
          refine hC2.mono ?_
          rintro e w6 ⟨rfl, hb6⟩
          go_wp2_with fail
          go_ret
          exact ⟨ret_bool HV.out.symm, hB5.next hb6⟩
        · have cq : came ⟨qp, qi, qf, qk, qv, qs, qc⟩ = false := decide_eq_false hq2
          rw [cq] at hC
          have HV := Lib.hid (HST.out.trans (show underOk _ _ = true from decide_eq_true ⟨hq0, fun a => absurd a hq2⟩))
          clear hq0
          go_wp2_with fail
          refine hC.mono ?_
          rintro e w5 ⟨rfl, hb5⟩
          have hB5 := hB4.next hb5
          go_wp2_with fail
          go_ret
          exact ⟨ret_bool HV.out.symm, hB5⟩
      · have f3 : (rk != 3) = true := by simpa using h3'
        have HV : Hid (stateOk l k = false) := Lib.hid (by rw [stateOk, HROW.out, show selfOk ⟨rp, ri, rf, rk, rv, rs, rc⟩ = false from self_bad1 hv h2' h3']; rfl)
        clear hv h2' h3'
        go_wp2_with fail
        go_ret
        exact ⟨ret_bool HV.out.symm, HB3.out⟩
end
end P7
end Go.Proofs.YtajbchecjbddgaaGreatDoor
