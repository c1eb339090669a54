/- Audit: the law's find, has. -/
import Derived.Test.YtajbchecjbddgaaDoorU4
namespace Go.Proofs.YtajbchecjbddgaaDoor
open Go.RowKit
namespace P20
open P7

section
variable {w : World} {vr vs vw : Value} {s : Sh}
set_option maxRecDepth 10000 in
set_option maxHeartbeats 4000000 in
theorem lawFind_any (h : Shm w vr vs vw s) (hlen : s.sc.length ≤ 1000) (r k : Int) :
    Calls Tryd.prog 18 #[.agg #[vr, vs, vw], .int .i64 r, .int .i64 k] w fun e w' => e = .returned (.int .i64 (inI (fnd s.sc r k))) ∧ Below w.heap.size w w' := by
  obtain ⟨A, c, rfl, hnc, hA⟩ := scs_open h.scs
  obtain ⟨Ar, cr, rfl, -⟩ := rows_open h.rows.sl
  obtain ⟨Aw, cw, rfl, -⟩ := h.wks.open_
  have HA := Lib.hid hA
  obtain ⟨n, hn⟩ := name_of s.sc.length
  obtain ⟨nr, hnr⟩ := name_of s.l.length
  obtain ⟨nw, hnw⟩ := name_of s.ws.length
  have HN := Lib.hid hn
  rw [hn] at hnc hlen ⊢
  rw [hnr, hnw]
  clear hA h hn hnr hnw
  go_enter Tryd.func18, Tryd.ntmps18
  go_wp2_with fail
  go_loopw [7] (fun i wr => ∃ j : Nat, j ≤ n ∧ i = .int .i64 j ∧ Hid (∀ m, m < j → ¬ isAt s.sc r k m) ∧ Below w.heap.size w wr ∧ Hid (wr.heap[w.heap.size]? = some (.cells #[.slice Ar nr cr, .slice A n c, .slice Aw nw cw] 26 (0, 0)))) (fun i _ => n - (intOf i).toNat)
  case atStart => exact ⟨0, Nat.zero_le _, rfl, Lib.hid (fun m hm => by omega), by go_grown, Lib.hid (heap_alloc_last _ _)⟩
  case round =>
    obtain ⟨j, hj, rfl, hno, hB, hblk⟩ := hrel
    have q1 : wr.cell? ⟨w.heap.size, 1, none⟩ = some (.slice A n c) := by rw [cell_of_row _ _ _ _ _ _ hblk.out]; rfl
    by_cases hlt : j < n
    · obtain ⟨b, off, rfl, hb, c0, c1, -⟩ := HA.out j (by rw [HN.out]; exact hlt)
      have HR : Hid ((sA s.sc j).r = (sA s.sc j).r) := Lib.hid rfl
      obtain ⟨⟨xr, xk, xn, xa, xc, xv⟩, hx⟩ := name_of (sA s.sc j)
      rw [hx] at c0 c1
      dsimp only at c0 c1
      have HX := Lib.hid hx
      have d0 := (hB.cell (p := ⟨b, _, none⟩) hb).trans c0
      have d1 := (hB.cell (p := ⟨b, _, none⟩) hb).trans c1
      clear hx c0 c1
      by_cases h1 : xr = r
      · have e1 : (xr == r) = true := by simpa using h1
        by_cases h2 : xk = k
        · have e2 : (xk == k) = true := by simpa using h2
          have HF : Hid (fnd s.sc r k = some j) := Lib.hid (fnd_first (by rw [HN.out]; exact hlt) ⟨by rw [HX.out]; exact h1, by rw [HX.out]; exact h2⟩ hno.out)
          clear h1 h2
          go_wp2_with fail
          go_ret
          exact ⟨ret_int (by rw [HF.out]; rfl), hB⟩
        · have e2 : (xk == k) = false := by simpa using h2
          have HF : Hid (∀ m, m < j + 1 → ¬ isAt s.sc r k m) := Lib.hid fun m hm => by
            by_cases e : m = j
            · rw [e]; intro hat; exact h2 (by have := hat.2; rw [HX.out] at this; exact this)
            · exact hno.out m (by omega)
          clear h1 h2
          go_wp2_with fail
          exact ⟨⟨j + 1, by omega, by go_num, HF, hB, hblk⟩, by simp [intOf]; omega⟩
      · have e1 : (xr == r) = false := by simpa using h1
        have HF : Hid (∀ m, m < j + 1 → ¬ isAt s.sc r k m) := Lib.hid fun m hm => by
          by_cases e : m = j
          · rw [e]; intro hat; exact h1 (by have := hat.1; rw [HX.out] at this; exact this)
          · exact hno.out m (by omega)
        clear h1
        go_wp2_with fail
        exact ⟨⟨j + 1, by omega, by go_num, HF, hB, hblk⟩, by simp [intOf]; omega⟩
    · obtain rfl : j = n := by omega
      have HF : Hid (fnd s.sc r k = none) := Lib.hid (fnd_none.2 (by rw [HN.out]; exact hno.out))
      go_wp2_with fail
      go_ret
      exact ⟨ret_int (by rw [HF.out]; rfl), hB⟩
end
set_option maxRecDepth 10000 in
set_option maxHeartbeats 4000000 in
theorem has_any {w : World} {v : Value} {l : List Int} (h : Sl w w.heap.size 1 v (iv l)) (hlen : l.length ≤ 1000) (x : Int) :
    Calls Tryd.prog 44 #[v, .int .i64 x] w fun e w' => e = .returned (.bool (decide (x ∈ l))) ∧ Below w.heap.size w w' := by
  obtain ⟨A, c, rfl, hnc, hA⟩ := ints_open h
  have HA := Lib.hid hA
  obtain ⟨n, hn⟩ := name_of l.length
  have HN := Lib.hid hn
  rw [hn] at hnc hlen ⊢
  obtain ⟨R, hR⟩ := name_of (decide (x ∈ l))
  have HR := Lib.hid hR
  rw [hR]
  clear hA h hn hR
  go_enter Tryd.func44, Tryd.ntmps44
  go_wp2_with fail
  go_loop [5] (fun i => ∃ j : Nat, j ≤ n ∧ i = .int .i64 j ∧ Hid (∀ m, m < j → l.getD m 0 ≠ x)) (fun i => n - (intOf i).toNat)
  case atStart => exact ⟨0, Nat.zero_le _, rfl, Lib.hid (fun m hm => by omega)⟩
  case round =>
    obtain ⟨j, hj, rfl, hno⟩ := hrel
    by_cases hlt : j < n
    · obtain ⟨b, off, rfl, hb, c0⟩ := HA.out j (by rw [HN.out]; exact hlt)
      have HM : Hid (l.getD j 0 ∈ l) := Lib.hid (by
        have hj : j < l.length := by rw [HN.out]; exact hlt
        rw [List.getD_eq_getElem?_getD, List.getElem?_eq_getElem hj]
        exact List.getElem_mem hj)
      have HS : Hid (l.getD j 0 ≠ x → ∀ m, m < j + 1 → l.getD m 0 ≠ x) := Lib.hid (fun h m hm => by
        by_cases e : m = j
        · rw [e]; exact h
        · exact hno.out m (by omega))
      obtain ⟨y, hy⟩ := name_of (l.getD j 0)
      rw [hy] at c0 HM HS
      clear hy
      by_cases hxy : y = x
      · have e1 : (y == x) = true := by simpa using hxy
        have HV : Hid (true = R) := Lib.hid (by rw [← HR.out]; exact (decide_eq_true (by rw [← hxy]; exact HM.out)).symm)
        clear hxy
        go_wp2_with fail
        go_ret
        exact ⟨ret_bool HV.out, Below.refl _ _⟩
      · have e1 : (y == x) = false := by simpa using hxy
        have HV := Lib.hid (HS.out hxy)
        clear hxy
        go_wp2_with fail
        exact ⟨⟨j + 1, by omega, by go_num, HV⟩, by simp [intOf]; omega⟩
    · obtain rfl : j = n := by omega
      have HV : Hid (false = R) := Lib.hid (by
        rw [← HR.out]
        refine (decide_eq_false (fun hm => ?_)).symm
        obtain ⟨m, hm, e⟩ := List.getElem_of_mem hm
        refine hno.out m (by rw [← HN.out]; exact hm) ?_
        rw [List.getD_eq_getElem?_getD, List.getElem?_eq_getElem hm]
        exact e)
      clear hno
      go_wp2_with fail
      go_ret
      exact ⟨ret_bool HV.out, Below.refl _ _⟩
end P20
end Go.Proofs.YtajbchecjbddgaaDoor
