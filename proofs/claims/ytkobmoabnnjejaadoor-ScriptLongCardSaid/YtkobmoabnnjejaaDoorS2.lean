/- Script: Print. -/
import Derived.Test.YtkobmoabnnjejaaDoorS1c
import Derived.Test.YtkobmoabnnjejaaDoorPb2
namespace Go.Proofs.YtkobmoabnnjejaaDoor
open Go.RowKit
namespace P21
open PC

def PrR (w : World) (l : List Ev) (n : Nat) (lg i : Value) (wr : World) : Prop :=
  ∃ (k : Nat) (bs : List UInt8), k ≤ n ∧ i = .int .i64 k ∧ (∀ j, j < k → okK (at_ l j).k) ∧ Lib.IsBuilder 59 5 w.heap.size w.heap.size (Lib.byteCells bs) wr ∧ Below w.heap.size w wr ∧ w.heap.size < wr.heap.size ∧ bs.length ≤ 131072 ∧ ((lg = .bool false ∧ bs = textTo l k) ∨ (lg = .bool true ∧ 131072 < (textTo l k).length))
set_option maxRecDepth 10000 in
set_option maxHeartbeats 4000000 in
theorem print_any {w : World} {v : Value} {l : List Ev} (h : Evs w v l) (hlen : l.length ≤ 100000) (hp : Lab w) :
    Calls Tryd.prog 14 #[v] w fun e w' => e = .returned (.tuple #[.string (printR l).1, .int .i64 (printR l).2]) ∧ Below w.heap.size w w' := by
  have HE := Lib.hid h
  have HP := Lib.hid hp
  obtain ⟨A, c, rfl, hnc, hA⟩ := evs_open h.sl
  have HA := Lib.hid hA
  obtain ⟨n, hn⟩ := name_of l.length
  have HN := Lib.hid hn
  rw [hn] at hnc hlen ⊢
  clear h hp hA hn
  go_enter Tryd.func14, Tryd.ntmps14
  go_wp2_with fail
  go_loopw [5, 12] (fun lg i wr => PrR w l n lg i wr) (fun _ i _ => n - (intOf i).toNat)
  case atStart => exact ⟨0, [], Nat.zero_le _, rfl, fun j hj => by omega, Lib.fresh_isBuilder 59 5 w, (Below.refl _ _).alloc (Nat.le_refl _) _, by simp, by simp, .inl ⟨rfl, rfl⟩⟩
  case round =>
    obtain ⟨k, bs, hk, rfl, hok, hbld, hB, hBs, hbl, hlg⟩ := hrel
    have HOK := Lib.hid hok
    clear hok
    by_cases hlt : k < n
    · obtain ⟨b, off, rfl, hb, c0, c1⟩ := HA.out k (by rw [HN.out]; exact hlt)
      obtain ⟨⟨ek, en⟩, he⟩ := name_of (at_ l k)
      have hwf := HE.out.wfAt (k := k) (by rw [HN.out]; exact hlt)
      rw [he] at c0 c1 hwf
      dsimp only at c0 c1
      have d0 := (hB.cell (p := ⟨b, _, none⟩) hb).trans c0
      have d1 := (hB.cell (p := ⟨b, _, none⟩) hb).trans c1
      have HEK := Lib.hid he
      clear c0 c1 he
      have hA1 : Below wr.heap.size wr (wr.alloc (.cells #[.int .i64 ek, .int .i64 en] 24)) := by go_grown
      have hbld1 := bld_next hbld hA1
      have hB1 := hB.next hA1
      by_cases hek : okK ek
      · have hL := line_ok ⟨ek, en⟩ hek hwf (wr.alloc (.cells #[.int .i64 ek, .int .i64 en] 24)) (HP.out.next hB1)
        have hll := lineL_len hwf
        have HTS := Lib.hid (textTo_succ (l := l) (k := k) (by rw [HN.out]; exact hlt))
        obtain ⟨x, hx⟩ := name_of (lineL ⟨ek, en⟩)
        unfold evV at hL
        rw [hx] at hL hll
        have HX : Hid (lineL (at_ l k) = x) := Lib.hid (by rw [HEK.out]; exact hx)
        clear hx hbld
        rcases hlg with ⟨rfl, hbt⟩ | ⟨rfl, hlong⟩
        · have HBT := Lib.hid hbt
          clear hbt
          by_cases hfit : 131072 < bs.length + (x.length + 1)
          · have f1 : decide (131072 - (bs.length : Int) < (x.length : Int) + 1) = true := by simp; omega
            go_wp2_with fail
            refine hL.mono ?_
            rintro e w1 ⟨rfl, hb1⟩
            have hbld2 := bld_next hbld1 hb1
            have hB2 := hB1.next hb1
            have hBs2 : w.heap.size < w1.heap.size := Nat.lt_of_lt_of_le hBs (Nat.le_trans hA1.size hb1.size)
            have hLen := Tryd.Builder_Len _ _ _ w1 hbld2
            rw [Lib.byteCells_length] at hLen
            clear hL hbld1 hb1
            go_wp2_with fail
            refine hLen.mono ?_
            rintro e w2 ⟨rfl, rfl⟩
            clear hLen
            go_wp2_with fail
            refine ⟨⟨k + 1, bs, by omega, by go_num, ?_, hbld2, hB2, hBs2, hbl, .inr ⟨rfl, ?_⟩⟩, by simp [intOf]; omega⟩
            · intro j hj
              by_cases e : j = k
              · subst e; rw [HEK.out]; exact hek
              · exact HOK.out j (by omega)
            · rw [HTS.out, List.length_append, List.length_append, HX.out, ← HBT.out]
              show 131072 < bs.length + (x.length + 1)
              exact hfit
          · have f1 : decide (131072 - (bs.length : Int) < (x.length : Int) + 1) = false := by simp; omega
            go_wp2_with fail
            refine hL.mono ?_
            rintro e w1 ⟨rfl, hb1⟩
            have hbld2 := bld_next hbld1 hb1
            have hB2 := hB1.next hb1
            have hBs2 : w.heap.size < w1.heap.size := Nat.lt_of_lt_of_le hBs (Nat.le_trans hA1.size hb1.size)
            have hLen := Tryd.Builder_Len _ _ _ w1 hbld2
            rw [Lib.byteCells_length] at hLen
            have hWS := writeString_any _ _ _ (⟨x.toArray⟩ : ByteArray) w1 hbld2 (by rw [Lib.byteCells_length]; show bs.length + x.length ≤ _; omega) (Nat.le_of_lt hBs2)
            clear hL hbld1 hb1 hbld2
            go_wp2_with fail
            refine hLen.mono ?_
            rintro e w2 ⟨rfl, rfl⟩
            clear hLen
            go_wp2_with fail
            refine hWS.mono ?_
            rintro e w3 ⟨rfl, hbld3, hb3⟩
            have hB3 : Below w.heap.size w w3 := hB2.trans hb3
            have hBs3 : w.heap.size < w3.heap.size := Nat.lt_of_lt_of_le hBs2 hb3.size
            have hWB := writeByte_any _ _ _ 10 w3 hbld3 (by rw [List.length_append, Lib.byteCells_length, Lib.strCells_length]; show bs.length + x.length + 1 ≤ _; omega) (Nat.le_of_lt hBs3)
            have HCELLS : Hid (Lib.byteCells bs ++ Lib.strCells (⟨x.toArray⟩ : ByteArray) ++ [.int .u8 10] = Lib.byteCells (textTo l (k + 1))) := Lib.hid (by
              rw [HTS.out, HX.out, ← HBT.out]
              simp [Lib.byteCells, Lib.strCells])
            clear hWS hbld3 hB2 hb3 hBs2
            go_wp2_with fail
            refine hWB.mono ?_
            rintro e w4 ⟨rfl, hbld4, hb4⟩
            have hbld5 := hbld4
            rw [HCELLS.out] at hbld5
            clear hWB hbld4
            go_wp2_with fail
            refine ⟨⟨k + 1, textTo l (k + 1), by omega, by go_num, ?_, hbld5, hB3.trans hb4, Nat.lt_of_lt_of_le hBs3 hb4.size, ?_, .inl ⟨rfl, rfl⟩⟩, by simp [intOf]; omega⟩
            · intro j hj
              by_cases e : j = k
              · subst e; rw [HEK.out]; exact hek
              · exact HOK.out j (by omega)
            · rw [HTS.out, List.length_append, List.length_append, HX.out, ← HBT.out]
              show bs.length + (x.length + 1) ≤ 131072
              omega
        · go_wp2_with fail
          refine hL.mono ?_
          rintro e w1 ⟨rfl, hb1⟩
          have hbld2 := bld_next hbld1 hb1
          have hB2 := hB1.next hb1
          have hBs2 : w.heap.size < w1.heap.size := Nat.lt_of_lt_of_le hBs (Nat.le_trans hA1.size hb1.size)
          have HLL := Lib.hid hlong
          clear hL hbld1 hb1 hlong
          go_wp2_with fail
          refine ⟨⟨k + 1, bs, by omega, by go_num, ?_, hbld2, hB2, hBs2, hbl, .inr ⟨rfl, ?_⟩⟩, by simp [intOf]; omega⟩
          · intro j hj
            by_cases e : j = k
            · subst e; rw [HEK.out]; exact hek
            · exact HOK.out j (by omega)
          · exact Nat.lt_of_lt_of_le HLL.out (textTo_mono (Nat.le_succ k))
      · have hL := line_bad ⟨ek, en⟩ hek (wr.alloc (.cells #[.int .i64 ek, .int .i64 en] 24))
        unfold evV at hL
        have HR : Hid (printR l = (⟨#[]⟩, 1)) := Lib.hid (printR_bad (k := k) (by rw [HN.out]; exact hlt) (by rw [HEK.out]; exact hek))
        clear hbld1 hbld hlg
        go_wp2_with fail
        refine hL.mono ?_
        rintro e w1 ⟨rfl, hb1⟩
        go_wp2_with fail
        go_ret2
        exact ⟨by rw [HR.out]; rfl, hB1.next hb1⟩
    · have hkn : k = n := by omega
      subst hkn
      have HR : Hid (printR l = if 131072 < (textL l).length then (⟨#[]⟩, 12) else (⟨(textL l).toArray⟩, 0)) := Lib.hid (printR_ok (by rw [HN.out]; exact HOK.out))
      have HT : Hid (textTo l k = textL l) := Lib.hid (by rw [← HN.out]; exact textTo_all l)
      rcases hlg with ⟨rfl, hbt⟩ | ⟨rfl, hlong⟩
      · have HBT := Lib.hid hbt
        have hS := Tryd.Builder_String_any _ _ _ wr hbld (Nat.le_of_lt hBs)
        have HS := Lib.hid hS
        clear hbt hbld hS
        go_wp2_with fail
        refine (HS.out).mono ?_
        rintro e w1 ⟨rfl, hb1⟩
        go_wp2_with fail
        go_ret2
        refine ⟨?_, hB.trans hb1⟩
        rw [HR.out, if_neg (by rw [← HT.out, ← HBT.out]; omega), ← HT.out, ← HBT.out]
        rfl
      · have HLL := Lib.hid hlong
        clear hbld hlong
        go_wp2_with fail
        go_ret2
        refine ⟨?_, hB⟩
        rw [HR.out, if_pos (by rw [← HT.out]; exact HLL.out)]
        rfl
end P21
end Go.Proofs.YtkobmoabnnjejaaDoor
