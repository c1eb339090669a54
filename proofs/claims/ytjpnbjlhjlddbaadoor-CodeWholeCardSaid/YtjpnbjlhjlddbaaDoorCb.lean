/- Walk: CodeBack. -/
import Derived.Test.YtjpnbjlhjlddbaaDoorBk
import Derived.Test.YtjpnbjlhjlddbaaDoorX02
namespace Go.Proofs.YtjpnbjlhjlddbaaDoor
open Go.RowKit
namespace P2

abbrev u8C (b0 b1 b2 b3 b4 b5 b6 b7 : Int) : Array Value := #[.int .u8 b0, .int .u8 b1, .int .u8 b2, .int .u8 b3, .int .u8 b4, .int .u8 b5, .int .u8 b6, .int .u8 b7]
theorem Sl.blk {w : World} {g : Nat} {cs : Array Value} {t : TypeId} {fr : Nat × Nat} {size n : Nat} (h : w.heap[g]? = some (.cells cs t fr)) (hs : cs.size = n * size) : Sl w w.heap.size size (.slice (some ⟨g, 0, none⟩) n n) cs.toList := by
  refine ⟨_, n, n, rfl, Nat.le_refl _, by simpa using hs, fun _ => ⟨g, 0, rfl, lt_of_block h, fun j u hj => ?_⟩⟩
  rw [cell_of_row _ _ _ cs t fr h]
  simpa using hj
theorem blk_next {w w' : World} {g : Nat} {o : Obj} (h : w.heap[g]? = some o) (hb : Below w.heap.size w w') : w'.heap[g]? = some o := (hb.block _ (lt_of_block h)).trans h

/-- The two boxes of the law, and nothing turned below. -/
structure Boxes (w : World) (i : Ins) (cs : Array Value) (W : World) : Prop where
  ins : W.heap[w.heap.size]? = some (.cells #[.int .i64 i.1, .int .i64 i.2.1, .int .i64 i.2.2.1, .int .i64 i.2.2.2.1, .int .i64 i.2.2.2.2] 23 (0, 0))
  arr : W.heap[w.heap.size + 1]? = some (.cells cs 43 (0, 0))
  below : Below w.heap.size w W
theorem Boxes.next {w : World} {i : Ins} {cs : Array Value} {W W' : World} (h : Boxes w i cs W) (hb : Below W.heap.size W W') : Boxes w i cs W' := ⟨blk_next h.ins hb, blk_next h.arr hb, h.below.next hb⟩

set_option maxHeartbeats 4000000 in
theorem codeBack_any {w : World} (i : Ins) {b0 b1 b2 b3 b4 b5 b6 b7 : Int} (hr : ∀ z ∈ [b0, b1, b2, b3, b4, b5, b6, b7], 0 ≤ z ∧ z ≤ 255) :
    Calls Tryd.prog 7 #[insV i, .agg (u8C b0 b1 b2 b3 b4 b5 b6 b7)] w fun e w' => e = .returned (.bool true) ∧ Below w.heap.size w w' := by
  have HR := Lib.hid hr
  have HE := Lib.hid (enc_dec (l := [b0, b1, b2, b3, b4, b5, b6, b7]) rfl hr)
  clear hr
  obtain ⟨op, a, b, c, n⟩ := i
  obtain ⟨⟨jo, ja, jb, jc, jn⟩, hj⟩ := name_of (decI [b0, b1, b2, b3, b4, b5, b6, b7])
  have hdE : decE [b0, b1, b2, b3, b4, b5, b6, b7] = chk (jo, ja, jb, jc, jn) := by rw [decE, if_pos (show [b0, b1, b2, b3, b4, b5, b6, b7].length = 8 from rfl), hj]
  have hdV : decV [b0, b1, b2, b3, b4, b5, b6, b7] = if chk (jo, ja, jb, jc, jn) = 0 then (jo, ja, jb, jc, jn) else (0, 0, 0, 0, 0) := by rw [decV, hdE, hj]
  rw [hj] at HE
  have HDE := Lib.hid hdE
  have HDV := Lib.hid hdV
  clear hj hdE hdV
  unfold insV
  by_cases hk : chk (op, a, b, c, n) = 0
  · have HK := Lib.hid hk
    clear hk
    go_enter Tryd.func7, Tryd.ntmps7
    go_wp2_with fail
    have bx0 : Boxes w (op, a, b, c, n) (u8C b0 b1 b2 b3 b4 b5 b6 b7) _ := ⟨heap_alloc2_old w _ _, heap_alloc2_new w _ _, by go_grown⟩
    refine (encode_new (op, a, b, c, n) HK.out _).mono ?_
    rintro e w1 ⟨g, rfl, hg, hs1, hb1⟩
    have bx1 := bx0.next hb1
    have i1 := fun j => cell_of_row _ w.heap.size j _ _ _ bx1.ins
    clear bx0 hb1
    go_wp2_with fail
    have hC := check_any (op, a, b, c, n)
    rw [HK.out] at hC
    refine (hC _).mono ?_
    rintro e w2 ⟨rfl, hb2⟩
    have bx2 := bx1.next hb2
    have hs2 := hs1.next hb2
    clear bx1 hs1 hb2 i1 hC
    go_wp2_with fail
    refine (dec_named (decode_any hs2 (encB_range HK.out)) (decV_enc HK.out) (decE_enc HK.out)).mono ?_
    rintro e w3 ⟨rfl, hb3⟩
    have bx := (bx2.next hb3).next ((Below.refl _ _).alloc (Nat.le_refl _) (.cells #[.int .i64 op, .int .i64 a, .int .i64 b, .int .i64 c, .int .i64 n] 23))
    have bx3 := bx2.next hb3
    have i3 := fun j => cell_of_row _ w.heap.size j _ _ _ bx3.ins
    have hlt3 := lt_of_block bx3.ins
    clear bx2 hs2 hb3 bx3
    go_wp2_with fail
    clear i3 hlt3
    by_cases hk : chk (jo, ja, jb, jc, jn) = 0
    · have hv := HDV.out
      rw [if_pos hk] at hv
      have hd := HDE.out
      have f1 : (chk (jo, ja, jb, jc, jn) != 0) = false := by simpa using hk
      refine (dec_named (decode_any (Sl.blk bx.arr rfl) HR.out) hv (hd.trans hk)).mono ?_
      rintro e w5 ⟨rfl, hb5⟩
      have bx5 := bx.next hb5
      have HK2 := Lib.hid hk
      clear hv hd hk bx hb5 f1
      go_wp2_with fail
      refine (encode_new (jo, ja, jb, jc, jn) HK2.out _).mono ?_
      rintro e w6 ⟨g6, rfl, hg6, hs6, hb6⟩
      rw [HE.out] at hs6
      have bx6 := (bx5.next ((Below.refl _ _).alloc (Nat.le_refl _) _)).next hb6
      clear bx5 hb6
      go_wp2_with fail
      refine (bytes_any (lb := [b0, b1, b2, b3, b4, b5, b6, b7]) hs6 (Sl.blk bx6.arr rfl) (by simp)).mono ?_
      rintro e w7 ⟨rfl, q, rfl⟩
      rw [show decide ([b0, b1, b2, b3, b4, b5, b6, b7] = [b0, b1, b2, b3, b4, b5, b6, b7]) = true from by simp]
      go_wp2_with fail
      refine (awake_any _).mono ?_
      rintro e w8 ⟨rfl, hb8⟩
      go_wp2_with fail
      go_ret
      exact ⟨rfl, (below_drewN bx6.below q).next hb8⟩
    · have hv := HDV.out
      rw [if_neg hk] at hv
      have hd := HDE.out
      refine (dec_named (decode_any (Sl.blk bx.arr rfl) HR.out) hv hd).mono ?_
      rintro e w5 ⟨rfl, hb5⟩
      have bx5 := bx.next hb5
      have hB := (bx5.next ((Below.refl _ _).alloc (Nat.le_refl _) (.cells #[.int .i64 0, .int .i64 0, .int .i64 0, .int .i64 0, .int .i64 0] 23))).below
      have f1 : (chk (jo, ja, jb, jc, jn) != 0) = true := by simpa using hk
      have hvals := chk_vals (jo, ja, jb, jc, jn)
      clear hv hd bx hb5 bx5
      rcases hvals with h0 | h0 | h0
      · exact absurd h0 hk
      · rw [h0] at f1 ⊢
        clear h0 hk
        go_wp2_with fail
        refine (awake_any _).mono ?_
        rintro e w8 ⟨rfl, hb8⟩
        go_wp2_with fail
        go_ret
        exact ⟨rfl, hB.next hb8⟩
      · rw [h0] at f1 ⊢
        clear h0 hk
        go_wp2_with fail
        refine (awake_any _).mono ?_
        rintro e w8 ⟨rfl, hb8⟩
        go_wp2_with fail
        go_ret
        exact ⟨rfl, hB.next hb8⟩
  · have hne : (chk (op, a, b, c, n) == 0) = false := by simpa using hk
    have HK := Lib.hid hk
    clear hk
    go_enter Tryd.func7, Tryd.ntmps7
    go_wp2_with fail
    have bx0 : Boxes w (op, a, b, c, n) (u8C b0 b1 b2 b3 b4 b5 b6 b7) _ := ⟨heap_alloc2_old w _ _, heap_alloc2_new w _ _, by go_grown⟩
    refine (encode_bad (op, a, b, c, n) HK.out _).mono ?_
    rintro e w1 ⟨rfl, hb1⟩
    have bx1 := bx0.next hb1
    have i1 := fun j => cell_of_row _ w.heap.size j _ _ _ bx1.ins
    clear bx0 hb1
    go_wp2_with fail
    refine (check_any (op, a, b, c, n) _).mono ?_
    rintro e w2 ⟨rfl, hb2⟩
    have bx := bx1.next hb2
    clear bx1 hb2 i1
    go_wp2_with fail
    by_cases hk : chk (jo, ja, jb, jc, jn) = 0
    · have hv := HDV.out
      rw [if_pos hk] at hv
      have hd := HDE.out
      have f1 : (chk (jo, ja, jb, jc, jn) != 0) = false := by simpa using hk
      refine (dec_named (decode_any (Sl.blk bx.arr rfl) HR.out) hv (hd.trans hk)).mono ?_
      rintro e w5 ⟨rfl, hb5⟩
      have bx5 := bx.next hb5
      have HK2 := Lib.hid hk
      clear hv hd hk bx hb5 f1
      go_wp2_with fail
      refine (encode_new (jo, ja, jb, jc, jn) HK2.out _).mono ?_
      rintro e w6 ⟨g6, rfl, hg6, hs6, hb6⟩
      rw [HE.out] at hs6
      have bx6 := (bx5.next ((Below.refl _ _).alloc (Nat.le_refl _) _)).next hb6
      clear bx5 hb6
      go_wp2_with fail
      refine (bytes_any (lb := [b0, b1, b2, b3, b4, b5, b6, b7]) hs6 (Sl.blk bx6.arr rfl) (by simp)).mono ?_
      rintro e w7 ⟨rfl, q, rfl⟩
      rw [show decide ([b0, b1, b2, b3, b4, b5, b6, b7] = [b0, b1, b2, b3, b4, b5, b6, b7]) = true from by simp]
      go_wp2_with fail
      refine (awake_any _).mono ?_
      rintro e w8 ⟨rfl, hb8⟩
      go_wp2_with fail
      go_ret
      exact ⟨rfl, (below_drewN bx6.below q).next hb8⟩
    · have hv := HDV.out
      rw [if_neg hk] at hv
      have hd := HDE.out
      refine (dec_named (decode_any (Sl.blk bx.arr rfl) HR.out) hv hd).mono ?_
      rintro e w5 ⟨rfl, hb5⟩
      have bx5 := bx.next hb5
      have hB := (bx5.next ((Below.refl _ _).alloc (Nat.le_refl _) (.cells #[.int .i64 0, .int .i64 0, .int .i64 0, .int .i64 0, .int .i64 0] 23))).below
      have f1 : (chk (jo, ja, jb, jc, jn) != 0) = true := by simpa using hk
      have hvals := chk_vals (jo, ja, jb, jc, jn)
      clear hv hd bx hb5 bx5
      rcases hvals with h0 | h0 | h0
      · exact absurd h0 hk
      · rw [h0] at f1 ⊢
        clear h0 hk
        go_wp2_with fail
        refine (awake_any _).mono ?_
        rintro e w8 ⟨rfl, hb8⟩
        go_wp2_with fail
        go_ret
        exact ⟨rfl, hB.next hb8⟩
      · rw [h0] at f1 ⊢
        clear h0 hk
        go_wp2_with fail
        refine (awake_any _).mono ?_
        rintro e w8 ⟨rfl, hb8⟩
        go_wp2_with fail
        go_ret
        exact ⟨rfl, hB.next hb8⟩
end P2
end Go.Proofs.YtjpnbjlhjlddbaaDoor
