/- Walks: table.check (four questions, method values in a row) and table.Check. -/
import Derived.Test.YtajbchecjbddgaaGreatDoorT7f
import Derived.Laws.EntriesVeiled
namespace Go.Proofs.YtajbchecjbddgaaGreatDoor
open Go.RowKit
namespace P7

theorem place_up' {fuel : Nat} {l : List Row} {k : Nat} (h : placeOk fuel l k = true) (hk : k ≠ 0) : 0 ≤ (at_ l k).p ∧ (at_ l k).p < k := by
  rw [place_later hk] at h
  exact of_decide_eq_true (Bool.and_eq_true_iff.1 h).1
section
variable {w : World} {l : List Row} {A : Option Addr} {n c k : Nat} {rp ri rf rk rv rs : Int} {rc : ByteArray}

def AskR (w : World) (l : List Row) (A : Option Addr) (n c k : Nat) (i : Value) (wr : World) : Prop :=
  ∃ j : Int, (j = 0 ∨ j = 1 ∨ j = 2 ∨ j = 3 ∨ j = 4) ∧ i = .int .i64 j ∧ (0 < j → placeOk n l k = true) ∧ (1 < j → spanOk (at_ l k) (decide (k = 0)) = true) ∧ (2 < j → binOk (at_ l k).c = true) ∧ (3 < j → stateOk l k = true) ∧
    Below w.heap.size w wr ∧ wr.heap[w.heap.size + 1]? = some (.cells #[.func (.func 71) #[.agg #[.slice A n c, .int .i64 k]] #[], .int .i64 11, .func (.func 72) #[.agg #[.slice A n c, .int .i64 k]] #[], .int .i64 10, .func (.func 73) #[.agg #[.slice A n c, .int .i64 k]] #[], .int .i64 11, .func (.func 74) #[.agg #[.slice A n c, .int .i64 k]] #[], .int .i64 19] 106 (0, 0))

set_option maxRecDepth 10000 in
set_option maxHeartbeats 4000000 in
theorem check_any (h : Sl w w.heap.size 7 (.slice A n c) (rowsC l)) (hs : Small l) (hk : k < l.length) :
    Calls Tryz.prog 51 #[.slice A n c, .int .i64 k] w fun e w' => e = .returned (.int .i64 (right l.length l k)) ∧ Below w.heap.size w w' := by
  obtain ⟨⟨rp, ri, rf, rk, rv, rs, rc⟩, hr⟩ := name_of (at_ l k)
  have hcs := hs.2 k hk
  rw [hr] at hcs
  dsimp only at hcs
  have hn : l.length = n := by obtain ⟨A', c', he, _, _⟩ := rows_open h; injection he with _ e _; exact e.symm
  have HN := Lib.hid hn
  have HROW := Lib.hid hr
  have HS := Lib.hid h
  have HK := Lib.hid hk
  have HL := Lib.hid hs.1
  rw [hn]
  clear h hs hk hr hn
  have hmf : ∀ fn first cap w, (Instr.makeFunc fn first cap).run Tryz.prog w = .ok (.func fn first cap) w := fun _ _ _ _ => rfl
  go_enter Tryz.func51, Tryz.ntmps51
  go_wp2_with fail
  go_loopw [25] (fun i wr => AskR w l A n c k i wr) (fun i _ => 4 - (intOf i).toNat)
  case atStart => exact ⟨0, by decide, rfl, fun h => absurd h (by decide), fun h => absurd h (by decide), fun h => absurd h (by decide), fun h => absurd h (by decide), by go_grown, heap_alloc2_new w _ _⟩
  case round =>
    obtain ⟨j, hj, rfl, h0, h1, h2, h3, hB, hblk⟩ := hrel
    rcases hj with rfl | rfl | rfl | rfl | rfl
    · -- place
      clear h0 h1 h2 h3
      have q0 : wr.cell? ⟨w.heap.size + 1, 0, none⟩ = some (.func (.func 71) #[.agg #[.slice A n c, .int .i64 k]] #[]) := by rw [cell_of_row _ _ _ _ _ _ hblk]; rfl
      have q1 : wr.cell? ⟨w.heap.size + 1, 1, none⟩ = some (.int .i64 11) := by rw [cell_of_row _ _ _ _ _ _ hblk]; rfl
      have hW : Below wr.heap.size wr (wr.alloc (.cells #[.func (.func 71) #[.agg #[.slice A n c, .int .i64 k]] #[], .int .i64 11] 106)) := by go_grown
      have hC := place_any ((HS.out.next hB).next hW) HK.out HL.out HROW.out
      rw [HN.out] at hC
      obtain ⟨t, ht⟩ := name_of (placeOk n l k)
      rw [ht] at hC
      have HT := Lib.hid (show placeOk n l k = t from ht)
      clear ht
      have hBW := hB.next hW
      have hbW := blk_next hblk hW
      have hlt := lt_of_block hblk
      have HBLK := Lib.hid hbW
      clear hblk hW hbW hB
      go_wp2_with fail
      refine hC.mono ?_
      rintro e w5 ⟨rfl, hb5⟩
      have hB5 := hBW.next hb5
      have hblk5 := blk_next HBLK.out hb5
      have m1 : w5.cell? ⟨wr.heap.size, 1, none⟩ = some (.int .i64 11) := by rw [cell_of_row _ _ _ _ _ _ (blk_next (heap_alloc_last wr _) hb5)]; rfl
      clear hC hb5
      cases t
      · have HV : Hid (right n l k = 11) := Lib.hid (right_11 HT.out)
        go_wp2_with fail
        go_ret
        exact ⟨by rw [HV.out]; rfl, hB5⟩
      · clear m1
        go_wp2_with fail
        refine ⟨⟨1, by decide, rfl, fun _ => HT.out, fun h => absurd h (by decide), fun h => absurd h (by decide), fun h => absurd h (by decide), hB5, hblk5⟩, by simp [intOf]⟩
    · -- span
      have H0 := Lib.hid (h0 (by decide))
      clear h0 h1 h2 h3
      have q0 : wr.cell? ⟨w.heap.size + 1, 2, none⟩ = some (.func (.func 72) #[.agg #[.slice A n c, .int .i64 k]] #[]) := by rw [cell_of_row _ _ _ _ _ _ hblk]; rfl
      have q1 : wr.cell? ⟨w.heap.size + 1, 3, none⟩ = some (.int .i64 10) := by rw [cell_of_row _ _ _ _ _ _ hblk]; rfl
      have hW : Below wr.heap.size wr (wr.alloc (.cells #[.func (.func 72) #[.agg #[.slice A n c, .int .i64 k]] #[], .int .i64 10] 106)) := by go_grown
      have hC := span_any ((HS.out.next hB).next hW) HK.out HL.out HROW.out
      obtain ⟨t, ht⟩ := name_of (spanOk (at_ l k) (decide (k = 0)))
      rw [ht] at hC
      have HT := Lib.hid (show spanOk (at_ l k) (decide (k = 0)) = t from ht)
      clear ht
      have hBW := hB.next hW
      have hbW := blk_next hblk hW
      have hlt := lt_of_block hblk
      have HBLK := Lib.hid hbW
      clear hblk hW hbW hB
      go_wp2_with fail
      refine hC.mono ?_
      rintro e w5 ⟨rfl, hb5⟩
      have hB5 := hBW.next hb5
      have hblk5 := blk_next HBLK.out hb5
      have m1 : w5.cell? ⟨wr.heap.size, 1, none⟩ = some (.int .i64 10) := by rw [cell_of_row _ _ _ _ _ _ (blk_next (heap_alloc_last wr _) hb5)]; rfl
      clear hC hb5
      cases t
      · have HV : Hid (right n l k = 10) := Lib.hid (right_10 H0.out HT.out)
        go_wp2_with fail
        go_ret
        exact ⟨by rw [HV.out]; rfl, hB5⟩
      · clear m1
        go_wp2_with fail
        refine ⟨⟨2, by decide, rfl, fun _ => H0.out, fun _ => HT.out, fun h => absurd h (by decide), fun h => absurd h (by decide), hB5, hblk5⟩, by simp [intOf]⟩
    · -- told
      have H0 := Lib.hid (h0 (by decide))
      have H1 := Lib.hid (h1 (by decide))
      clear h0 h1 h2 h3
      have q0 : wr.cell? ⟨w.heap.size + 1, 4, none⟩ = some (.func (.func 73) #[.agg #[.slice A n c, .int .i64 k]] #[]) := by rw [cell_of_row _ _ _ _ _ _ hblk]; rfl
      have q1 : wr.cell? ⟨w.heap.size + 1, 5, none⟩ = some (.int .i64 11) := by rw [cell_of_row _ _ _ _ _ _ hblk]; rfl
      have hW : Below wr.heap.size wr (wr.alloc (.cells #[.func (.func 73) #[.agg #[.slice A n c, .int .i64 k]] #[], .int .i64 11] 106)) := by go_grown
      have hC := told_any ((HS.out.next hB).next hW) HK.out HL.out HROW.out hcs
      obtain ⟨t, ht⟩ := name_of (binOk rc)
      rw [ht] at hC
      have HT := Lib.hid (show binOk (at_ l k).c = t from by rw [HROW.out]; exact ht)
      clear ht
      have hBW := hB.next hW
      have hbW := blk_next hblk hW
      have hlt := lt_of_block hblk
      have HBLK := Lib.hid hbW
      clear hblk hW hbW hB
      go_wp2_with fail
      refine hC.mono ?_
      rintro e w5 ⟨rfl, hb5⟩
      have hB5 := hBW.next hb5
      have hblk5 := blk_next HBLK.out hb5
      have m1 : w5.cell? ⟨wr.heap.size, 1, none⟩ = some (.int .i64 11) := by rw [cell_of_row _ _ _ _ _ _ (blk_next (heap_alloc_last wr _) hb5)]; rfl
      clear hC hb5
      cases t
      · have HV : Hid (right n l k = 11) := Lib.hid (right_11b H0.out H1.out HT.out)
        go_wp2_with fail
        go_ret
        exact ⟨by rw [HV.out]; rfl, hB5⟩
      · clear m1
        go_wp2_with fail
        refine ⟨⟨3, by decide, rfl, fun _ => H0.out, fun _ => H1.out, fun _ => HT.out, fun h => absurd h (by decide), hB5, hblk5⟩, by simp [intOf]⟩
    · -- state
      have H0 := Lib.hid (h0 (by decide))
      have H1 := Lib.hid (h1 (by decide))
      have H2 := Lib.hid (h2 (by decide))
      clear h0 h1 h2 h3
      have q0 : wr.cell? ⟨w.heap.size + 1, 6, none⟩ = some (.func (.func 74) #[.agg #[.slice A n c, .int .i64 k]] #[]) := by rw [cell_of_row _ _ _ _ _ _ hblk]; rfl
      have q1 : wr.cell? ⟨w.heap.size + 1, 7, none⟩ = some (.int .i64 19) := by rw [cell_of_row _ _ _ _ _ _ hblk]; rfl
      have hW : Below wr.heap.size wr (wr.alloc (.cells #[.func (.func 74) #[.agg #[.slice A n c, .int .i64 k]] #[], .int .i64 19] 106)) := by go_grown
      have hC := state_any ((HS.out.next hB).next hW) HK.out HL.out HROW.out (fun hk0 => by have := place_up' H0.out hk0; rw [HROW.out] at this; exact this)
      obtain ⟨t, ht⟩ := name_of (stateOk l k)
      rw [ht] at hC
      have HT := Lib.hid (show stateOk l k = t from ht)
      clear ht
      have hBW := hB.next hW
      have hbW := blk_next hblk hW
      have hlt := lt_of_block hblk
      have HBLK := Lib.hid hbW
      clear hblk hW hbW hB
      go_wp2_with fail
      refine hC.mono ?_
      rintro e w5 ⟨rfl, hb5⟩
      have hB5 := hBW.next hb5
      have hblk5 := blk_next HBLK.out hb5
      have m1 : w5.cell? ⟨wr.heap.size, 1, none⟩ = some (.int .i64 19) := by rw [cell_of_row _ _ _ _ _ _ (blk_next (heap_alloc_last wr _) hb5)]; rfl
      clear hC hb5
      cases t
      · have HV : Hid (right n l k = 19) := Lib.hid (right_19 H0.out H1.out H2.out HT.out)
        go_wp2_with fail
        go_ret
        exact ⟨by rw [HV.out]; rfl, hB5⟩
      · clear m1
        go_wp2_with fail
        refine ⟨⟨4, by decide, rfl, fun _ => H0.out, fun _ => H1.out, fun _ => H2.out, fun _ => HT.out, hB5, hblk5⟩, by simp [intOf]⟩
    · go_wp2_with fail
      go_ret
      exact ⟨ret_int (right_0 (h0 (by decide)) (h1 (by decide)) (h2 (by decide)) (h3 (by decide))).symm, hB⟩
end
set_option maxHeartbeats 1000000 in
theorem checkAll_any {w : World} {v : Value} {l : List Row} (h : Sl w w.heap.size 7 v (rowsC l)) (hs : Small l) :
    Calls Tryz.prog 28 #[v] w fun e w' => e = .returned (.int .i64 (chk (l.length) l)) ∧ Below w.heap.size w w' := by
  obtain ⟨A, c, rfl, hc, -⟩ := rows_open h
  have hlen := hs.1
  have HSM := Lib.hid hs
  have HS := Lib.hid h
  obtain ⟨n, hn⟩ := name_of l.length
  have HN := Lib.hid hn
  rw [hn] at hc hlen HS ⊢
  clear hn h hs
  by_cases h0 : n = 0
  · subst h0
    have HV : Hid (chk 0 l = 17) := Lib.hid (by rw [chk, if_pos HN.out])
    go_enter Tryz.func28, Tryz.ntmps28
    go_wp2_with fail
    go_ret
    exact ⟨by rw [HV.out]; rfl, Below.refl _ _⟩
  · have e0 : ((n : Int) == 0) = false := by simpa using h0
    have hC : chk n l = firstW (right n l) n 0 := by rw [chk, if_neg (by have := HN.out; omega), HN.out]
    have HC := Lib.hid hC
    clear hC
    go_enter Tryz.func28, Tryz.ntmps28
    go_wp2_with fail
    go_loopw [10] (fun i wr => ChkR w (right n l) n i wr) (fun i _ => n - (intOf i).toNat)
    case atStart => exact ⟨0, Nat.zero_le _, rfl, fun m hm => by omega, Below.refl _ _⟩
    case round =>
      obtain ⟨j, hj, rfl, hall, hB⟩ := hrel
      have HALL := Lib.hid hall
      clear hall
      by_cases hlt : j < n
      · have hR := check_any (HS.out.next hB) HSM.out (k := j) (by have := HN.out; omega)
        rw [HN.out] at hR
        obtain ⟨r, hr⟩ := name_of (right n l j)
        rw [hr] at hR
        have HRR := Lib.hid hr
        clear hr
        go_wp2_with fail
        refine hR.mono ?_
        rintro e w2 ⟨rfl, hb2⟩
        have hB2 := hB.next hb2
        clear hR
        by_cases hr0 : r = 0
        · have f1 : (r != 0) = false := by simpa using hr0
          have HR0 := Lib.hid hr0
          clear hr0
          go_wp2_with fail
          refine ⟨⟨j + 1, hlt, by go_num, fun m hm => ?_, hB2⟩, by simp [intOf]; omega⟩
          by_cases e : m = j
          · rw [e, HRR.out, HR0.out]
          · exact HALL.out m (by omega)
        · have f1 : (r != 0) = true := by simpa using hr0
          have HR0 := Lib.hid hr0
          clear hr0
          go_wp2_with fail
          go_ret
          refine ⟨ret_int ?_, hB2⟩
          rw [HC.out, firstW_of n 0 j hlt (fun m hm => by rw [Nat.zero_add]; exact HALL.out m hm) (by rw [Nat.zero_add, HRR.out]; exact HR0.out), Nat.zero_add, HRR.out]
      · have : j = n := by omega
        subst this
        go_wp2_with fail
        go_ret
        refine ⟨ret_int ?_, hB⟩
        rw [HC.out, firstW_ok _ _ fun m hm => by rw [Nat.zero_add]; exact HALL.out m hm]
/-- Check, at a table or not. -/
theorem checkT_any {w : World} {v : Value} {l : List Row} (h : Sl w w.heap.size 7 v (rowsC l)) (hs : Small l) :
    Calls Tryz.prog 28 #[v] w fun e w' => e = .returned (.int .i64 (chk (l.length + 1) l)) ∧ Below w.heap.size w w' := by
  rw [chk_fuel (Nat.le_succ _) (Nat.le_refl l.length)]
  exact checkAll_any h hs
end P7
end Go.Proofs.YtajbchecjbddgaaGreatDoor
