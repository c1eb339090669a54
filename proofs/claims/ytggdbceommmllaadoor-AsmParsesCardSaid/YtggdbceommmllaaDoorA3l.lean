/- Asm: operands. -/
import Derived.Test.YtggdbceommmllaaDoorA3lo
namespace Go.Proofs.YtggdbceommmllaaDoor
open Go.RowKit
namespace P3
open P2 PC NumL CutL

/-- What stands while an operand is read. -/
abbrev OpS (g k f b off : Nat) (ys : ByteArray) (t : Nat) (i : Ins) (w0 W : World) : Prop :=
  W.cell? ⟨g, k, none⟩ = some (.int .u8 f) ∧ W.cell? ⟨b, off, none⟩ = some (.string ys) ∧ W.heap[t]? = some (.cells (insC i) 33 (0, 0)) ∧ Below w0.heap.size w0 W
theorem OpS.nx {g k f b off : Nat} {ys : ByteArray} {t : Nat} {i : Ins} {w0 W W' : World} (hb : Below W.heap.size W W') (h : OpS g k f b off ys t i w0 W) : OpS g k f b off ys t i w0 W' :=
  ⟨(hb.cell (World.block_lt_of_cell? _ _ h.1)).trans h.1, (hb.cell (World.block_lt_of_cell? _ _ h.2.1)).trans h.2.1, (hb.block _ (lt_of_block h.2.2.1)).trans h.2.2.1, h.2.2.2.next hb⟩
set_option maxRecDepth 10000 in
set_option maxHeartbeats 8000000 in
theorem operands_any (op : Nat) (ho : op ≤ 16) (ws : List (List UInt8)) (hws : ∀ x ∈ ws, x.length ≤ 200000) (hlen : ws.length ≤ 200001) (w : World) (v : Value) (hs : Sl w w.heap.size 1 v (wv ws)) :
    Calls Tryd.prog 38 #[.int .i64 op, .agg #[.int .u8 (form op 0 : Nat), .int .u8 (form op 1 : Nat), .int .u8 (form op 2 : Nat), .int .u8 (form op 3 : Nat)], v] w (InsPost (if ws.length = countF op then opsR op [0, 1, 2, 3] ws (op, 0, 0, 0, 0) else .inl 11) w) := by
  have hix := fun (k : Nat) (hk : k < 4) W => idx_forms op hk W
  have hff : ∀ k, k < 4 → form op k < 256 := by
    have hall : ∀ o, o < 17 → ∀ k, k < 4 → form o k < 256 := by decide
    exact fun k hk => hall op (by omega) k hk
  have HFF := Lib.hid hff
  have HIX := Lib.hid hix
  have HFA : Hid (∀ k, k < 4 → (#[Value.int .u8 (form op 0 : Nat), .int .u8 (form op 1 : Nat), .int .u8 (form op 2 : Nat), .int .u8 (form op 3 : Nat)] : Array Value)[k]? = some (.int .u8 (form op k : Nat))) := Lib.hid (four rfl rfl rfl rfl)
  obtain ⟨f0, e0⟩ := name_of (form op 0)
  obtain ⟨f1, e1⟩ := name_of (form op 1)
  obtain ⟨f2, e2⟩ := name_of (form op 2)
  obtain ⟨f3, e3⟩ := name_of (form op 3)
  rw [e0, e1, e2, e3] at HFA ⊢
  have HIX2 : Hid (∀ (k : Nat), k < 4 → ∀ W : World, (Instr.index 67 (.agg #[.int .u8 f0, .int .u8 f1, .int .u8 f2, .int .u8 f3]) (.int .i64 k)).run Tryd.prog W = .ok (.int .u8 (form op k : Nat)) W) := Lib.hid (by rw [← e0, ← e1, ← e2, ← e3]; exact HIX.out)
  have HN := Lib.hid (cntF_to ho)
  obtain ⟨A, n, c, rfl, hnc, hn, hA⟩ := hs
  simp only [wv_length, Nat.mul_one] at hn
  have HA := Lib.hid hA
  have h0 : (Sl w w.heap.size 1 (.slice A n c) (wv ws)) := ⟨A, n, c, rfl, hnc, by rw [wv_length]; omega, hA⟩
  have HSL := Lib.hid h0
  have HWS := Lib.hid hws
  obtain ⟨R, hR⟩ := name_of (if ws.length = countF op then opsR op [0, 1, 2, 3] ws ((op : Int), 0, 0, 0, 0) else .inl 11)
  have HR := Lib.hid hR
  rw [hR]
  have hnl : n ≤ 200001 := by omega
  have HNW := Lib.hid hn
  clear hA h0 hix hff e0 e1 e2 e3 HIX hws hR hn hlen
  go_enter Tryd.func38, Tryd.ntmps38
  go_wp2_with fail
  go_loop [8, 18] (fun m x => ∃ k : Nat, k ≤ 4 ∧ x = .int .i64 k ∧ m = .int .i64 (cntTo op k)) (fun _ x => 4 - (intOf x).toNat)
  case atStart => exact ⟨0, Nat.zero_le _, rfl, rfl⟩
  case round =>
    obtain ⟨k, hk, rfl, rfl⟩ := hrel
    by_cases hlt : k < 4
    · have hix := HIX2.out k hlt
      have hf := HFF.out k hlt
      have HCT : Hid (cntTo op (k + 1) = cntTo op k + if form op k = 0 then 0 else 1) := Lib.hid rfl
      have hcb := cntTo_le op k
      obtain ⟨q, hq⟩ := name_of (cntTo op k)
      obtain ⟨f, hf'⟩ := name_of (form op k)
      rw [hf'] at hix hf HCT
      rw [hq] at HCT hcb ⊢
      clear hq hf'
      by_cases hf0 : f = 0
      · have z0 : ((f : Int) != 0) = false := by simp [hf0]
        have HC2 : Hid (cntTo op (k + 1) = q) := Lib.hid (by rw [HCT.out, if_pos hf0]; rfl)
        clear HCT hf0
        go_wp2_with fail
        go_round
        case rel => exact ⟨k + 1, by omega, by go_num, by rw [HC2.out]⟩
        case measure => simp [intOf]; omega
      · have z0 : ((f : Int) != 0) = true := by simp; omega
        have HC2 : Hid (cntTo op (k + 1) = q + 1) := Lib.hid (by rw [HCT.out, if_neg hf0])
        clear HCT hf0
        go_wp2_with fail
        go_round
        case rel => exact ⟨k + 1, by omega, by go_num, by rw [HC2.out]; go_num⟩
        case measure => simp [intOf]; omega
    · obtain rfl : k = 4 := by omega
      have HN2 : Hid (n = cntTo op 4 ↔ ws.length = countF op) := Lib.hid (by rw [HN.out, HNW.out])
      have hcb := cntTo_le op 4
      obtain ⟨q, hq⟩ := name_of (cntTo op 4)
      have HQ := Lib.hid hq
      rw [hq] at HN2 hcb ⊢
      clear hq
      by_cases hnq : n = q
      · have z0 : ((n : Int) != q) = false := by simp; omega
        have HR2 : Hid (R = opsR op [0, 1, 2, 3] ws ((op : Int), 0, 0, 0, 0)) := Lib.hid (by rw [← HR.out, if_pos (HN2.out.1 hnq)])
        clear HN2 HR
        go_wp2_with fail
        have HB0 : Hid ((((w.alloc (.cells #[.int .u8 f0, .int .u8 f1, .int .u8 f2, .int .u8 f3] 67)).alloc (.cells #[.int .i64 0, .int .i64 0, .int .i64 0, .int .i64 0, .int .i64 0] 33)).alloc (.cells #[.int .i64 op, .int .i64 0, .int .i64 0, .int .i64 0, .int .i64 0] 33)).heap[w.heap.size]? = some (.cells #[.int .u8 f0, .int .u8 f1, .int .u8 f2, .int .u8 f3] 67 (0, 0))) := Lib.hid (blk3 w _ _ _).1
        have HB1 : Hid ((((w.alloc (.cells #[.int .u8 f0, .int .u8 f1, .int .u8 f2, .int .u8 f3] 67)).alloc (.cells #[.int .i64 0, .int .i64 0, .int .i64 0, .int .i64 0, .int .i64 0] 33)).alloc (.cells #[.int .i64 op, .int .i64 0, .int .i64 0, .int .i64 0, .int .i64 0] 33)).heap[w.heap.size + 1]? = some (.cells #[.int .i64 0, .int .i64 0, .int .i64 0, .int .i64 0, .int .i64 0] 33 (0, 0))) := Lib.hid (blk3 w _ _ _).2.1
        have HB2 : Hid ((((w.alloc (.cells #[.int .u8 f0, .int .u8 f1, .int .u8 f2, .int .u8 f3] 67)).alloc (.cells #[.int .i64 0, .int .i64 0, .int .i64 0, .int .i64 0, .int .i64 0] 33)).alloc (.cells #[.int .i64 op, .int .i64 0, .int .i64 0, .int .i64 0, .int .i64 0] 33)).heap[w.heap.size + 1 + 1]? = some (.cells (insC (op, 0, 0, 0, 0)) 33 (0, 0))) := Lib.hid (blk3 w _ _ _).2.2
        have HBW : Below w.heap.size w (((w.alloc (.cells #[.int .u8 f0, .int .u8 f1, .int .u8 f2, .int .u8 f3] 67)).alloc (.cells #[.int .i64 0, .int .i64 0, .int .i64 0, .int .i64 0, .int .i64 0] 33)).alloc (.cells #[.int .i64 op, .int .i64 0, .int .i64 0, .int .i64 0, .int .i64 0] 33)) := by go_grown
        obtain ⟨W2, hW2⟩ := name_of (((w.alloc (.cells #[.int .u8 f0, .int .u8 f1, .int .u8 f2, .int .u8 f3] 67)).alloc (.cells #[.int .i64 0, .int .i64 0, .int .i64 0, .int .i64 0, .int .i64 0] 33)).alloc (.cells #[.int .i64 op, .int .i64 0, .int .i64 0, .int .i64 0, .int .i64 0] 33))
        rw [hW2] at HB0 HB1 HB2 HBW ⊢
        have HS2 : Sl W2 w.heap.size 1 (.slice A q c) (wv ws) := by rw [← hnq]; exact HSL.out.below HBW
        clear hW2 HSL HA HNW
        go_loopw [2, 38] (fun s x wr => ∃ (k : Nat) (ws' : List (List UInt8)) (i : Ins) (A' : Option Addr) (n' c' : Nat), k ≤ 4 ∧ x = .int .i64 k ∧ s = .slice A' n' c' ∧ Hid (R = opsR op ([0, 1, 2, 3].drop k) ws' i) ∧ n' + cntTo op k = q ∧ Hid (chk i = 0) ∧ Hid (i.1 = op) ∧ Hid (Sl wr w.heap.size 1 (.slice A' n' c') (wv ws')) ∧ Hid (∀ x ∈ ws', x.length ≤ 200000) ∧ Hid (wr.heap[w.heap.size]? = some (.cells #[.int .u8 f0, .int .u8 f1, .int .u8 f2, .int .u8 f3] 67 (0, 0))) ∧ Hid (wr.heap[w.heap.size + 1]? = some (.cells #[.int .i64 0, .int .i64 0, .int .i64 0, .int .i64 0, .int .i64 0] 33 (0, 0))) ∧ Hid (wr.heap[w.heap.size + 1 + 1]? = some (.cells (insC i) 33 (0, 0))) ∧ Below w.heap.size w wr) (fun _ x _ => 4 - (intOf x).toNat)
        case atStart => exact ⟨0, ws, _, A, q, c, Nat.zero_le _, rfl, rfl, HR2, rfl, Lib.hid (chk_start ho), Lib.hid rfl, Lib.hid HS2, HWS, HB0, HB1, HB2, HBW⟩
        case round =>
          clear HB0 HB1 HB2 HBW HS2 HR2 HWS
          obtain ⟨k, ws', i, A', n', c', hk, rfl, rfl, HR, hnk, HC, HO, HS, HWS, HB0, HB1, HB2, hB⟩ := hrel
          by_cases hlt : k < 4
          · have hf := HFF.out k hlt
            have HCT : Hid (cntTo op (k + 1) = cntTo op k + if form op k = 0 then 0 else 1) := Lib.hid rfl
            have HRA := Lib.hid (opsR_at (op := op) hlt ws' i)
            have hip := fun W => idx_ptr (w.heap.size + 1 + 1) hlt W
            have hcf : wr.cell? ⟨w.heap.size, k, none⟩ = some (.int .u8 (form op k)) := by rw [cell_of_row _ _ _ _ _ _ HB0.out]; exact HFA.out k hlt
            have hmon := cntTo_mono op (j := k + 1) 4 (by omega)
            obtain ⟨p, hp⟩ := name_of (cntTo op k)
            obtain ⟨f, hf'⟩ := name_of (form op k)
            rw [hf'] at hcf hf HCT HRA
            rw [hp] at HCT hnk
            have HF := Lib.hid hf'
            clear hp hf'
            by_cases hf0 : f = 0
            · have z0 : ((f : Int) == 0) = true := by simp [hf0]
              have HC2 : Hid (cntTo op (k + 1) = p) := Lib.hid (by rw [HCT.out, if_pos hf0]; rfl)
              have HR2 : Hid (R = opsR op ([0, 1, 2, 3].drop (k + 1)) ws' i) := Lib.hid (by rw [HR.out, HRA.out, if_pos hf0])
              clear HCT HRA hf0 HR hmon
              go_wp2_with fail
              exact ⟨⟨k + 1, ws', i, A', n', c', hlt, by go_num, rfl, HR2, by rw [HC2.out]; exact hnk, HC, HO, HS, HWS, HB0, HB1, HB2, hB⟩, by simp [intOf]; omega⟩
            · have z0 : ((f : Int) == 0) = false := by rw [beq_eq_false_iff_ne]; omega
              have HC2 : Hid (cntTo op (k + 1) = p + 1) := Lib.hid (by rw [HCT.out, if_neg hf0])
              have hnpos : 0 < n' := by rw [HCT.out, if_neg hf0, HQ.out] at hmon; omega
              obtain ⟨y, us, rfl⟩ : ∃ y us, ws' = y :: us := by
                obtain ⟨_, _, _, he, _, hn, _⟩ := HS.out
                injection he with e1 e2 e3
                cases ws' with
                | nil => simp at hn; omega
                | cons y us => exact ⟨y, us, rfl⟩
              obtain ⟨m, rfl⟩ : ∃ m, n' = m + 1 := ⟨n' - 1, by omega⟩
              obtain ⟨b, off, rfl, hb, hr⟩ : ∃ b off, A' = some ⟨b, off, none⟩ ∧ b < w.heap.size ∧ wr.rangeAt b off (wv (y :: us)) := by
                obtain ⟨_, _, _, he, _, _, hA⟩ := HS.out
                injection he with e1 e2 e3
                subst e1 e2 e3
                exact hA (by omega)
              have hcy : wr.cell? ⟨b, off, none⟩ = some (.string ⟨y.toArray⟩) := hr 0 _ rfl
              have hnc' : m + 1 ≤ c' := by
                obtain ⟨_, _, _, he, hnc, _, _⟩ := HS.out
                injection he with e1 e2 e3
                subst e1 e2 e3
                exact hnc
              have hyl := HWS.out y List.mem_cons_self
              have HWS2 : Hid (∀ x ∈ us, x.length ≤ 200000) := Lib.hid fun x hx => HWS.out x (List.mem_cons_of_mem _ hx)
              have HST := Lib.hid (sl_tail HS.out)
              obtain ⟨ys, hys, hyz⟩ := let_ y 200000 hyl
              have HYS : Hid (ys.data.toList = y) := Lib.hid (by rw [← hys])
              have hRd := fun W => readForm_any f hf ys hyz W
              rw [HYS.out] at hRd
              rw [hys] at hcy
              have hg0 : w.heap.size + 1 + 1 < wr.heap.size := lt_of_block HB2.out
              have hS : OpS w.heap.size k f b off ys (w.heap.size + 1 + 1) i wr wr.drew := ⟨hcf, hcy, HB2.out, below_drew'⟩
              clear hr hys hyl HWS
              cases hrf : readF f y with
              | none =>
                have hRd2 := fun W => np_of_none (hRd W) hrf
                have HR2 : Hid (R = .inl 11) := Lib.hid (by rw [HR.out, HRA.out, if_neg hf0, show (y :: us).headD [] = y from rfl, hrf])
                clear hRd HRA HCT hf0 hmon hrf
                go_wp2_with fail
                clear hcf hcy
                go_region_held (fun W => OpS w.heap.size k f b off ys (w.heap.size + 1 + 1) i wr W) (first | assumption | ((with_reducible apply OpS.nx) <;> assumption)) (first | (go_at_call 53; (with_reducible refine (hRd2 _).mono ?_); rintro e w5 ⟨rfl, hb5⟩))
                · have hB5 := (hB.next below_drew').next hb5
                  have HD1 := Lib.hid (blk_next HB1.out (below_drew'.next hb5))
                  clear hb5 hS HB0 HB1 HB2
                  go_wp2_with (refine wpList_store_blk rfl 33 33 (.tmp 6) _ rfl (w.heap.size + 1) rfl _ rfl _ HD1.out (by kernel_rfl) rfl (by kernel_rfl) ?_; intro w6 hg6 ho6 hz6 hb6)
                  refine bodyPost_ret (results_cell_tmp rfl _ _ (w.heap.size + 1) 33 _ _ _ rfl hg6 Tryd.underlying33 rfl (by kernel_rfl)) rfl ?_
                  exact ip_of (by rw [HR2.out]; rfl) rfl (hB5.trans (hb6.mono (by omega)))
              | some v =>
                have hRd2 := fun W => np_of_some (hRd W) hrf
                have HR2 : Hid (R = if inR (kind op k) v = true then opsR op ([0, 1, 2, 3].drop (k + 1)) us (setF i k v) else .inl 10) := Lib.hid (by rw [HR.out, HRA.out, if_neg hf0, show (y :: us).headD [] = y from rfl, hrf]; rfl)
                clear hRd HRA HCT hf0 hmon hrf
                go_wp2_with fail
                clear hcf hcy
                go_region_held (fun W => OpS w.heap.size k f b off ys (w.heap.size + 1 + 1) i wr W) (first | assumption | ((with_reducible apply OpS.nx) <;> assumption)) (first | (go_at_call 53; (with_reducible refine (hRd2 _).mono ?_); rintro e w5 ⟨rfl, hb5⟩))
                · have hb05 := below_drew'.next hb5
                  have hB5 := hB.next hb05
                  have HD0 := Lib.hid (blk_next HB0.out hb05)
                  have HD1 := Lib.hid (blk_next HB1.out hb05)
                  have HD2 := Lib.hid (blk_next HB2.out hb05)
                  have HST5 := Lib.hid (HST.out.below (hb05.mono hB.size))
                  clear hb5 hb05 hS HB0 HB1 HB2
                  go_wp2_with fail
                  have hc5 : w5.cell? ⟨w.heap.size + 1 + 1, 1 + k, none⟩ = some (.int .i64 (fl i k)) := by rw [cell_of_row _ _ _ _ _ _ HD2.out]; exact insC_at hlt i
                  have hz5 : w5.frozen? ⟨w.heap.size + 1 + 1, 1 + k, none⟩ = false := by simp [World.frozen?, HD2.out]
                  have hT : (fun _ : World => True) w5.drew := trivial
                  have hsl := fun W => slice_tail W b off m c' hnc'
                  have HOF : Hid (Sl w5 w.heap.size 1 (.slice (some ⟨b, if c' = 1 then off else off + 1, none⟩) m (c' - 1)) (wv us)) := Lib.hid (by
                    split
                    · rename_i h1
                      have hm0 : m = 0 := by omega
                      obtain ⟨_, _, _, he, hnc2, hn2, hA2⟩ := HST5.out
                      injection he with e1 e2 e3
                      subst e1 e2 e3
                      exact ⟨_, _, _, rfl, hnc2, hn2, fun h => by omega⟩
                    · exact HST5.out)
                  obtain ⟨off', hoff⟩ := name_of (if c' = 1 then off else off + 1)
                  rw [hoff] at HOF
                  simp only [hoff] at hsl
                  clear hoff HST5
                  go_region_held (fun _ => True) (exact trivial) (fail)
                  have HBS : Below w.heap.size w5 (w5.setCell ⟨w.heap.size + 1 + 1, 1 + k, none⟩ (.int .i64 v)).drew := by
                    have h := (Below.refl w.heap.size w5).setCell (p := ⟨w.heap.size + 1 + 1, 1 + k, none⟩) (by show w.heap.size ≤ w.heap.size + 1 + 1; omega) (.int .i64 v)
                    exact ⟨h.os, h.tape, h.output, h.size, h.block⟩
                  have HE2 : Hid ((w5.setCell ⟨w.heap.size + 1 + 1, 1 + k, none⟩ (.int .i64 v)).drew.heap[w.heap.size + 1 + 1]? = some (.cells (insC (setF i k v)) 33 (0, 0))) := Lib.hid (by rw [← insC_set hlt i v]; exact blk_set HD2.out _)
                  have HE1 : Hid ((w5.setCell ⟨w.heap.size + 1 + 1, 1 + k, none⟩ (.int .i64 v)).drew.heap[w.heap.size + 1]? = some (.cells #[.int .i64 0, .int .i64 0, .int .i64 0, .int .i64 0, .int .i64 0] 33 (0, 0))) := Lib.hid (blk_set_other HD1.out (by omega) _)
                  have HE0 : Hid ((w5.setCell ⟨w.heap.size + 1 + 1, 1 + k, none⟩ (.int .i64 v)).drew.heap[w.heap.size]? = some (.cells #[.int .u8 f0, .int .u8 f1, .int .u8 f2, .int .u8 f3] 67 (0, 0))) := Lib.hid (blk_set_other HD0.out (by omega) _)
                  obtain ⟨W6, hW6⟩ := name_of (w5.setCell ⟨w.heap.size + 1 + 1, 1 + k, none⟩ (.int .i64 v)).drew
                  rw [hW6] at HE0 HE1 HE2 HBS ⊢
                  have hB6 := hB5.trans HBS
                  have HO6 := Lib.hid (HOF.out.below HBS)
                  have hCk : Calls Tryd.prog 29 #[.agg (insC (setF i k v))] W6 fun e w' => e = .returned (.int .i64 (chk (setF i k v))) ∧ Below W6.heap.size W6 w' := (check_any (setF i k v) W6).mono fun _ _ h => h
                  rw [chk_set HC.out HO.out hlt v] at hCk
                  have HCS := Lib.hid (chk_set HC.out HO.out hlt v)
                  have HOS : Hid ((setF i k v).1 = op) := Lib.hid ((setF_op i k v).trans HO.out)
                  obtain ⟨J, hJ⟩ := name_of (setF i k v)
                  rw [hJ] at HE2 hCk HCS HOS HR2
                  clear hW6 hJ hc5 hz5 HD0 HD1 HD2 HOF hsl hB5 HBS hB hRd2 hip
                  by_cases hv : inR (kind op k) v = true
                  · rw [if_pos hv] at hCk
                    have HCJ : Hid (chk J = 0) := Lib.hid (by rw [HCS.out, if_pos hv])
                    have HR3 : Hid (R = opsR op ([0, 1, 2, 3].drop (k + 1)) us J) := Lib.hid (by rw [HR2.out, if_pos hv])
                    clear hv HR2 HCS HR
                    go_wp2_with (refine wpList_load_blk rfl 33 33 (.tmp 11) rfl (w.heap.size + 1 + 1) rfl _ _ HE2.out _ Tryd.underlying33 rfl (by kernel_rfl) ?_)
                    refine hCk.mono ?_
                    clear hCk
                    rintro e w7 ⟨rfl, hb7⟩
                    have HF0 := Lib.hid (blk_next HE0.out hb7)
                    have HF1 := Lib.hid (blk_next HE1.out hb7)
                    have HF2 := Lib.hid (blk_next HE2.out hb7)
                    have hB7 := hB6.next hb7
                    have HO7 := Lib.hid (HO6.out.below (hb7.mono hB6.size))
                    clear hb7 HE0 HE1 HE2 HO6
                    go_wp2_with fail
                    refine ⟨⟨k + 1, us, J, _, m, _, hlt, by go_num, rfl, HR3, by rw [HC2.out]; omega, HCJ, HOS, HO7, HWS2, HF0, HF1, HF2, hB7⟩, by simp [intOf]; omega⟩
                  · rw [if_neg hv] at hCk
                    have HR3 : Hid (R = .inl 10) := Lib.hid (by rw [HR2.out, if_neg hv])
                    clear hv HR2 HCS HR
                    go_wp2_with (refine wpList_load_blk rfl 33 33 (.tmp 11) rfl (w.heap.size + 1 + 1) rfl _ _ HE2.out _ Tryd.underlying33 rfl (by kernel_rfl) ?_)
                    refine hCk.mono ?_
                    clear hCk
                    rintro e w7 ⟨rfl, hb7⟩
                    have HF1 := Lib.hid (blk_next HE1.out hb7)
                    have hB7 := hB6.next hb7
                    clear hb7 HE0 HE1 HE2 HO6
                    go_wp2_with (refine wpList_store_blk rfl 33 33 (.tmp 6) _ rfl (w.heap.size + 1) rfl _ rfl _ HF1.out (by kernel_rfl) rfl (by kernel_rfl) ?_; intro w8 hg8 ho8 hz8 hb8)
                    refine bodyPost_ret (results_cell_tmp rfl _ _ (w.heap.size + 1) 33 _ _ _ rfl hg8 Tryd.underlying33 rfl (by kernel_rfl)) rfl ?_
                    exact ip_of (by rw [HR3.out]; rfl) rfl (hB7.trans (hb8.mono (by omega)))
          · obtain rfl : k = 4 := by omega
            have HR2 : Hid (R = .inr i) := Lib.hid (by rw [HR.out]; rfl)
            clear HR
            go_wp2_with (first | (refine wpList_load_blk rfl 33 33 (.tmp 11) rfl (w.heap.size + 1 + 1) rfl _ _ HB2.out _ Tryd.underlying33 rfl (by kernel_rfl) ?_) | (refine wpList_store_blk rfl 33 33 (.tmp 6) _ rfl (w.heap.size + 1) rfl _ rfl _ HB1.out (by kernel_rfl) rfl (by kernel_rfl) ?_; intro w4 hg4 ho4 hz4 hb4))
            refine bodyPost_ret (results_cell_tmp rfl _ _ (w.heap.size + 1) 33 _ _ _ rfl hg4 Tryd.underlying33 rfl (by kernel_rfl)) rfl ?_
            exact ip_of (by rw [HR2.out]; rfl) rfl (hB.trans (hb4.mono (by omega)))
      · have z0 : ((n : Int) != q) = true := by simp; omega
        have HR2 : Hid (R = .inl 11) := Lib.hid (by rw [← HR.out, if_neg (fun e => hnq (HN2.out.2 e))])
        clear HN2 HR
        go_wp2_with fail
        go_returns
        exact ip_of (by rw [HR2.out]; rfl) rfl (by go_grown)
end P3
end Go.Proofs.YtggdbceommmllaaDoor
