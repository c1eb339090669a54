/- Asm: the reference's Read. -/
import Derived.Test.YtggdbceommmllaaDoorA3o
import Derived.Test.YtggdbceommmllaaDoorA3m
import Derived.Test.YtggdbceommmllaaDoorSc
import Derived.Test.YtggdbceommmllaaDoorE02
namespace Go.Proofs.YtggdbceommmllaaDoor
open Go.RowKit
namespace P3
open P2 PC NumL CutL

/-- The last name that a word is, as the reference looks for it. -/
def opZ (y : List UInt8) : Nat → Int
  | 0 => -1
  | k + 1 => if nameL k = y then (k : Int) else opZ y k
theorem opZ_none {y : List UInt8} : ∀ k, (∀ j, j < k → nameL j ≠ y) → opZ y k = -1
  | 0, _ => rfl
  | k + 1, h => by rw [opZ, if_neg (h k (by omega))]; exact opZ_none k fun j hj => h j (by omega)
theorem opZ_some {y : List UInt8} {op : Nat} (h : nameL op = y) (ho : op ≤ 16) : ∀ k, k ≤ 17 → op < k → opZ y k = op
  | 0, _, h => absurd h (by omega)
  | k + 1, hk, hlt => by
    rw [opZ]
    by_cases he : nameL k = y
    · rw [if_pos he, name_inj (show k ≤ 16 by omega) ho (he.trans h.symm)]
    · rw [if_neg he]
      have : op ≠ k := by rintro rfl; exact he h
      exact opZ_some h ho k (by omega) (by omega)
theorem opZ_of_none {y : List UInt8} (h : opOf y = none) : opZ y 17 = -1 :=
  opZ_none 17 fun j hj e => by rw [opOf_some (show j ≤ 16 by omega) e] at h; cases h
theorem opZ_of_some {y : List UInt8} {op : Nat} (h : opOf y = some op) : opZ y 17 = op ∧ op ≤ 16 :=
  ⟨opZ_some (opOf_ok h).2 (opOf_ok h).1 17 (Nat.le_refl _) (by have := (opOf_ok h).1; omega), (opOf_ok h).1⟩
abbrev fourC (a b c d : Int) : Array Value := #[.int .i64 a, .int .i64 b, .int .i64 c, .int .i64 d]
/-- One field set: the four numbers and their cells. -/
theorem set_four (o a b c d : Int) {k : Nat} (hk : k < 4) (v : Int) : ∃ a' b' c' d', setF (o, a, b, c, d) k v = (o, a', b', c', d') ∧ (fourC a b c d).setIfInBounds k (.int .i64 v) = fourC a' b' c' d' := by
  have h : k = 0 ∨ k = 1 ∨ k = 2 ∨ k = 3 := by omega
  rcases h with rfl | rfl | rfl | rfl <;> exact ⟨_, _, _, _, rfl, rfl⟩
/-- What stands while the reference reads an operand. -/
abbrev OqS (b o : Nat) (ys : ByteArray) (w0 W : World) : Prop := W.cell? ⟨b, o, none⟩ = some (.string ys) ∧ Below w0.heap.size w0 W
theorem OqS.nx {b o : Nat} {ys : ByteArray} {w0 W W' : World} (hb : Below W.heap.size W W') (h : OqS b o ys w0 W) : OqS b o ys w0 W' :=
  ⟨(hb.cell (World.block_lt_of_cell? _ _ h.1)).trans h.1, h.2.next hb⟩
set_option maxRecDepth 10000 in
set_option maxHeartbeats 8000000 in
theorem refRead_any (s : ByteArray) (hs : s.size ≤ 200000) (w : World) : Calls Tryd.prog 17 #[.string s] w (InsPost (readA s.data.toList) w) := by
  obtain ⟨R, hR⟩ := name_of (readA s.data.toList)
  have HR : Hid (readW (splitC 32 s.data.toList) = R) := Lib.hid hR
  rw [hR]
  have hcu : Calls Tryd.prog 39 #[.string s, .int .u8 32] (w.alloc (.cells zerC 33)) (WordsPost (splitC 32 s.data.toList) (w.alloc (.cells zerC 33))) := refCut_any 32 (by decide) s hs _
  have hwl := splitC_words 32 _ s.data.toList rfl
  have hnum := splitC_num 32 s.data.toList
  obtain ⟨y, us, hws⟩ : ∃ y us, splitC 32 s.data.toList = y :: us := by
    cases h : splitC 32 s.data.toList with
    | nil => exact absurd h (splitC_ne 32 _)
    | cons y us => exact ⟨y, us, rfl⟩
  rw [hws] at HR hcu hwl hnum
  rw [bs_len] at hwl hnum
  have HUL : Hid (∀ u ∈ us, u.length ≤ 200000) := Lib.hid fun u hu => Nat.le_trans (hwl u (by simp [hu])) hs
  have hul : us.length ≤ 200000 := by rw [List.length_cons] at hnum; omega
  obtain ⟨ys, hys⟩ := name_of (⟨y.toArray⟩ : ByteArray)
  have HYS := Lib.hid hys
  have HUN := Lib.hid hul
  clear hR hws hwl hnum hys hul
  go_enter Tryd.func17, Tryd.ntmps17
  go_wp2_with fail
  refine hcu.mono ?_
  rintro e w1 ⟨v, rfl, hown, hb1⟩
  have hB1 : Below w.heap.size w w1 := Below.of_alloc hb1
  have hg1 : w1.heap[w.heap.size]? = some (.cells zerC 33 (0, 0)) := (blk_next (heap_alloc_last w _) hb1)
  obtain ⟨A, n, c, rfl, hnc, hn, hA⟩ := Sl.own hown
  simp only [wv_length, List.length_cons, Nat.mul_one] at hn
  have hn0 : 0 < n := by omega
  obtain ⟨b, off, rfl, hb, hr⟩ := hA hn0
  have hn2 : n ≤ 200001 := by have := HUN.out; omega
  have HN : Hid (us.length + 1 = n) := Lib.hid hn
  have HRG := Lib.hid hr
  have hcy0 : w1.cell? ⟨b, off, none⟩ = some (.string ys) := by rw [← HYS.out]; exact hr 0 _ rfl
  clear hA hown hcu hb1 hn hr
  go_wp2_with fail
  refine (refNames_any w1).mono ?_
  rintro e w2 ⟨rfl, hw2⟩
  have HNM : Hid (∀ k, k < 17 → w2.cell? ⟨w1.heap.size, k, none⟩ = some (.string (nameS k))) := Lib.hid fun k hk => by rw [hw2, World.cell?_alloc_at _ _ _ _ rfl]; exact names_at k (by omega)
  have hb2 : Below w1.heap.size w1 w2 := by rw [hw2]; exact (Below.refl _ _).alloc (Nat.le_refl _) _
  have hB2 := hB1.next hb2
  have HG2 := Lib.hid (blk_next hg1 hb2)
  have hcy := (hb2.cell (p := ⟨b, off, none⟩) hb).trans hcy0
  have HRG2 := Lib.hid (range_keep HRG.out fun o => hb2.cell (p := ⟨b, o, none⟩) hb)
  have hb2' : b < w2.heap.size := Nat.lt_of_lt_of_le hb hb2.size
  have hG2 : w1.heap.size < w2.heap.size := by rw [hw2]; simp
  have hw01 : w.heap.size < w2.heap.size := lt_of_block HG2.out
  obtain ⟨G, hG⟩ := name_of w1.heap.size
  rw [hG] at HNM hG2 ⊢
  clear hw2 hcy0 hg1 HRG hb hb2 hB1 hG
  clear w1
  go_wp2_with fail
  go_loopw [5, 7] (fun o x wr => ∃ (k : Nat) (z : Int), k ≤ 17 ∧ x = .int .i64 k ∧ o = .int .i64 z ∧ Hid (z = opZ y k) ∧ Below w2.heap.size w2 wr) (fun _ x _ => 17 - (intOf x).toNat)
  case atStart => exact ⟨0, -1, Nat.zero_le _, rfl, rfl, Lib.hid rfl, Below.refl _ _⟩
  case round =>
    obtain ⟨k, z, hk, rfl, rfl, HZ, hBr⟩ := hrel
    have hcr := (hBr.cell (p := ⟨b, off, none⟩) hb2').trans hcy
    have hbr : b < wr.heap.size := World.block_lt_of_cell? _ _ hcr
    by_cases hlt : k < 17
    · have hnk := (hBr.cell (p := ⟨G, k, none⟩) hG2).trans (HNM.out k hlt)
      by_cases hm : nameL k = y
      · have heq : ((nameS k).toList == ys.toList) = true := by rw [← HYS.out, ← hm]; exact str_beq _
        have HZ2 : Hid ((k : Int) = opZ y (k + 1)) := Lib.hid (by rw [opZ, if_pos hm])
        clear hm HZ hcy
        go_wp2_with fail
        go_quiet (fail)
        go_wp2_with fail
        exact ⟨⟨k + 1, k, by omega, by go_num, rfl, HZ2, hBr.next (below_drewn _)⟩, by simp [intOf]; omega⟩
      · have heq : ((nameS k).toList == ys.toList) = false := str_bne (fun e => hm (by rw [← HYS.out] at e; exact bs_inj e))
        have HZ2 : Hid (z = opZ y (k + 1)) := Lib.hid (by rw [opZ, if_neg hm]; exact HZ.out)
        clear hm HZ hcy
        go_wp2_with fail
        go_quiet (fail)
        go_wp2_with fail
        exact ⟨⟨k + 1, z, by omega, by go_num, rfl, HZ2, hBr.next (below_drewn _)⟩, by simp [intOf]; omega⟩
    · obtain rfl : k = 17 := by omega
      have hg := blk_next HG2.out hBr
      have hBw := hB2.next hBr
      cases hop : opOf y with
      | none =>
        obtain rfl : z = -1 := HZ.out.trans (opZ_of_none hop)
        have HR2 : Hid (R = .inl 14) := Lib.hid (by rw [← HR.out, readW_none hop])
        clear HR hop HZ hcy
        go_wp2_with (refine wpList_store_blk rfl 33 33 (.tmp 2) _ rfl w.heap.size rfl _ rfl _ hg (by kernel_rfl) rfl (by kernel_rfl) ?_; intro w6 hg6 ho6 hz6 hb6)
        refine bodyPost_ret (results_cell_tmp rfl _ _ w.heap.size 33 _ _ _ rfl hg6 Tryd.underlying33 rfl (by kernel_rfl)) rfl ?_
        exact ip_of (by rw [HR2.out]; rfl) rfl (hBw.trans hb6)
      | some op =>
        obtain ⟨hz, ho⟩ := opZ_of_some hop
        obtain rfl : z = op := HZ.out.trans hz
        have HR2 : Hid (R = if us.length = countF op then opsR op [0, 1, 2, 3] us ((op : Int), 0, 0, 0, 0) else .inl 11) := Lib.hid (by rw [← HR.out, readW_cons hop])
        have hd0 : decide ((op : Int) < 0) = false := by simp
        have hFo := fun W => refForms_any op ho W
        have hfz := fs_size ho
        have HFA := Lib.hid (fun k hk h => fs_at (op := op) (k := k) ho hk h)
        obtain ⟨F, hF⟩ := name_of (fsS op)
        have HFS := Lib.hid hF
        rw [hF] at hFo hfz
        have HFB : Hid (∀ k (h : k < F.size), k < 4 → F[k].toNat = fc op k) := Lib.hid (by
          have := HFS.out
          subst this
          exact fun k h hk => (HFA.out k hk h).1)
        clear hF HFA HFS HR HZ hz hcy hop
        go_wp2_with fail
        refine (hFo _).mono ?_
        rintro e w3 ⟨rfl, hw3⟩
        rw [hw3]
        clear hw3 hFo
        clear w3
        rename World => W3
        go_wp2_with fail
        go_loop [9, 10] (fun m x => ∃ k q : Nat, k ≤ 4 ∧ q ≤ 5 ∧ x = .int .i64 k ∧ m = .int .i64 q ∧ Hid (q = 1 + cntTo op k)) (fun _ x => 4 - (intOf x).toNat)
        case atStart => exact ⟨0, 1, Nat.zero_le _, by omega, rfl, rfl, Lib.hid rfl⟩
        case round =>
          obtain ⟨k, q, hk4, hq5, rfl, rfl, HQ⟩ := hrel
          have hcb := cntTo_le op k
          by_cases hlt : k < 4
          · have hkF : k < F.size := by omega
            have hFk := HFB.out k hkF hlt
            have hg2 := (fc_110 ho hlt).2
            have hct := cnt_split op k
            have hcb2 := cntTo_le op (k + 1)
            by_cases hf0 : form op k = 0
            · have z0 : ((F[k].toNat : Int) != 32) = false := by have := hg2.2 hf0; simp; omega
              have HQ2 : Hid (q = 1 + cntTo op (k + 1)) := Lib.hid (by rw [hct, if_pos hf0]; exact HQ.out)
              clear hFk hg2 hct hf0 hcb hcb2 HQ
              go_wp2_with fail
              go_round
              case rel => exact ⟨k + 1, q, by omega, by omega, by go_num, rfl, HQ2⟩
              case measure => simp [intOf]; omega
            · have z0 : ((F[k].toNat : Int) != 32) = true := by
                have : fc op k ≠ 32 := fun e => hf0 (hg2.1 e)
                simp; omega
              have HQ2 : Hid (q + 1 = 1 + cntTo op (k + 1)) := Lib.hid (by rw [hct, if_neg hf0]; have := HQ.out; omega)
              have hq2 : q + 1 ≤ 5 := by have := HQ2.out; omega
              clear hFk hg2 hct hf0 hcb hcb2 HQ
              go_wp2_with fail
              go_round
              case rel => exact ⟨k + 1, q + 1, by omega, hq2, by go_num, by go_num, HQ2⟩
              case measure => simp [intOf]; omega
          · obtain rfl : k = 4 := by omega
            have HCN : Hid (countF op = cntTo op 4) := Lib.hid (cntF_to ho)
            by_cases hnq : n = q
            · have z0 : ((n : Int) != q) = false := by simp; omega
              have HLN : Hid (us.length = cntTo op 4) := Lib.hid (by have := HN.out; have := HQ.out; omega)
              have HR3 : Hid (R = opsR op [0, 1, 2, 3] us ((op : Int), 0, 0, 0, 0)) := Lib.hid (by rw [HR2.out, if_pos (HLN.out.trans HCN.out.symm)])
              clear HR2 hnq HQ
              go_wp2_with fail
              have HX0 : Hid ((W3.alloc (.cells (fourC 0 0 0 0) 73)).heap[W3.heap.size]? = some (.cells (fourC 0 0 0 0) 73 (0, 0))) := Lib.hid (heap_alloc_last W3 _)
              have hBX : Below W3.heap.size W3 (W3.alloc (.cells (fourC 0 0 0 0) 73)) := (Below.refl _ _).alloc (Nat.le_refl _) _
              have HR4 : Hid (R = opsR op ([0, 1, 2, 3].drop 0) (us.drop (cntTo op 0)) ((op : Int), 0, 0, 0, 0)) := HR3
              have HC0 := Lib.hid (chk_start ho)
              have hbX : b < W3.heap.size := Nat.lt_of_lt_of_le hb2' hBr.size
              have hwX : w.heap.size < W3.heap.size := Nat.lt_of_lt_of_le hw01 hBr.size
              have HRG3 := Lib.hid (range_keep HRG2.out fun o => hBr.cell (p := ⟨b, o, none⟩) hb2')
              have HGG := Lib.hid hg
              have HQ1 : Hid (1 = 1 + cntTo op 0) := Lib.hid rfl
              obtain ⟨W4, hW4⟩ := name_of (W3.alloc (.cells (fourC 0 0 0 0) 73))
              rw [hW4] at HX0 hBX ⊢
              obtain ⟨X, hX⟩ := name_of W3.heap.size
              rw [hX] at HX0 hBX hbX hwX ⊢
              clear hW4 hX HR3 hcr hg hlt hk hG2 HNM HG2 HRG2 hB2 hBr hbr
              go_loopw [12, 13] (fun a x wr => ∃ (k q : Nat) (i0 i1 i2 i3 : Int), k ≤ 4 ∧ q ≤ 5 ∧ x = .int .i64 k ∧ a = .int .i64 q ∧ Hid (q = 1 + cntTo op k) ∧ Hid (R = opsR op ([0, 1, 2, 3].drop k) (us.drop (cntTo op k)) ((op : Int), i0, i1, i2, i3)) ∧ Hid (chk ((op : Int), i0, i1, i2, i3) = 0) ∧ Hid (wr.heap[X]? = some (.cells (fourC i0 i1 i2 i3) 73 (0, 0))) ∧ Below X W3 wr) (fun _ x _ => 4 - (intOf x).toNat)
              case atStart => exact ⟨0, 1, 0, 0, 0, 0, Nat.zero_le _, by omega, rfl, rfl, HQ1, HR4, HC0, HX0, hBX⟩
              case round =>
                clear HX0 hBX HR4 HC0 HQ1
                obtain ⟨k, p1, i0, i1, i2, i3, hk4, hp5, rfl, rfl, HP, HR, HC, HX, hB⟩ := hrel
                have hXw : X < wr.heap.size := lt_of_block HX.out
                by_cases hlt : k < 4
                · have hkF : k < F.size := by omega
                  have hFk := HFB.out k hkF hlt
                  have hg2 := (fc_110 ho hlt).2
                  have hct := cnt_split op k
                  have HRA := Lib.hid (opsR_at (op := op) hlt (us.drop (cntTo op k)) ((op : Int), i0, i1, i2, i3))
                  by_cases hf0 : form op k = 0
                  · have z0 : ((F[k].toNat : Int) == 32) = true := by have := hg2.2 hf0; simp; omega
                    have HP2 : Hid (p1 = 1 + cntTo op (k + 1)) := Lib.hid (by rw [hct, if_pos hf0]; exact HP.out)
                    have HR5 : Hid (R = opsR op ([0, 1, 2, 3].drop (k + 1)) (us.drop (cntTo op (k + 1))) ((op : Int), i0, i1, i2, i3)) := Lib.hid (by rw [HR.out, HRA.out, if_pos hf0, hct, if_pos hf0]; rfl)
                    clear hFk hg2 hct hf0 HRA HR
                    go_wp2_with fail
                    exact ⟨⟨k + 1, p1, i0, i1, i2, i3, hlt, hp5, by go_num, rfl, HP2, HR5, HC, HX, hB⟩, by simp [intOf]; omega⟩
                  · have hcf : fc op k = form op k := by unfold fc; rw [if_neg hf0]
                    have z0 : ((F[k].toNat : Int) == 32) = false := by
                      have : fc op k ≠ 32 := fun e => hf0 (hg2.1 e)
                      rw [beq_eq_false_iff_ne]; omega
                    have hmon := cntTo_mono op (j := k + 1) 4 (by omega)
                    rw [hct, if_neg hf0] at hmon
                    have hpl : cntTo op k < us.length := by have := HLN.out; omega
                    have hdr := List.drop_eq_getElem_cons hpl
                    have HCT : Hid (cntTo op (k + 1) = cntTo op k + 1) := Lib.hid (by rw [hct, if_neg hf0])
                    have hp6 : p1 + 1 ≤ 5 := by have := HP.out; have := cntTo_le op 4; omega
                    have hcw : wr.cell? ⟨b, off + p1, none⟩ = some (.string ⟨us[cntTo op k].toArray⟩) := by
                      refine (hB.cell (p := ⟨b, off + p1, none⟩) hbX).trans ?_
                      refine HRG3.out p1 _ ?_
                      rw [HP.out, Nat.add_comm 1]
                      simp [wv, hpl]
                    have hp1n : p1 < n := by have := HP.out; have := HN.out; omega
                    have hyl := HUL.out _ (List.getElem_mem hpl)
                    obtain ⟨x, hx⟩ := name_of us[cntTo op k]
                    rw [hx] at hdr hcw hyl
                    rw [hdr] at HRA HR
                    obtain ⟨xs, hxs, hxz⟩ := let_ x 200000 hyl
                    rw [hxs] at hcw
                    have hRd : ∀ W, Calls Tryd.prog 40 #[.string xs, .int .u8 (F[k].toNat : Nat)] W (NumPost (readF (form op k) x) W) := fun W => by
                      have h := refOperand_any F[k].toNat F[k].toNat_lt xs hxz W
                      rw [hFk, hcf, ← hxs] at h
                      rw [hFk, hcf, ← hxs]
                      exact h
                    have HF := Lib.hid hf0
                    have hS : OqS b (off + p1) xs wr wr.drew := ⟨hcw, below_drew'⟩
                    clear hFk hg2 hct hf0 hcf hmon hdr hx hyl hxs hpl
                    cases hrf : readF (form op k) x with
                    | none =>
                      have hRd2 := fun W => np_of_none (hRd W) hrf
                      have HR5 : Hid (R = .inl 11) := Lib.hid (by rw [HR.out, HRA.out, if_neg HF.out, List.headD_cons, hrf])
                      clear hRd HRA hrf HR
                      go_wp2_with fail
                      clear hcw
                      go_region_held (fun W => OqS b (off + p1) xs wr W) (first | assumption | ((with_reducible apply OqS.nx) <;> assumption)) (first | (go_at_call 40; (with_reducible refine (hRd2 _).mono ?_); rintro e w5 ⟨rfl, hb5⟩))
                      · have hB5 := hB.trans ((below_drew'.next hb5).mono (Nat.le_of_lt hXw))
                        have hg5 := (hB5.block _ hwX).trans HGG.out
                        clear hb5 hS HX
                        go_wp2_with (refine wpList_store_blk rfl 33 33 (.tmp 2) _ rfl w.heap.size rfl _ rfl _ hg5 (by kernel_rfl) rfl (by kernel_rfl) ?_; intro w6 hg6 ho6 hz6 hb6)
                        refine bodyPost_ret (results_cell_tmp rfl _ _ w.heap.size 33 _ _ _ rfl hg6 Tryd.underlying33 rfl (by kernel_rfl)) rfl ?_
                        exact ip_of (by rw [HR5.out]; rfl) rfl ((hBw.trans (hB5.mono (Nat.le_of_lt hwX))).trans hb6)
                    | some v =>
                      have hRd2 := fun W => np_of_some (hRd W) hrf
                      have HR5 : Hid (R = if inR (kind op k) v = true then opsR op ([0, 1, 2, 3].drop (k + 1)) (us.drop (cntTo op (k + 1))) (setF ((op : Int), i0, i1, i2, i3) k v) else .inl 10) := Lib.hid (by rw [HR.out, HRA.out, if_neg HF.out, List.headD_cons, hrf, HCT.out]; rfl)
                      clear hRd HRA hrf HR
                      obtain ⟨a0, b0, c0, d0, hJ0, hA0⟩ := set_four (op : Int) 0 0 0 0 hlt v
                      obtain ⟨a1, b1, c1, d1, hJ1, hA1⟩ := set_four (op : Int) i0 i1 i2 i3 hlt v
                      have hck0 := chk_set (chk_start ho) rfl hlt v
                      have hck1 := chk_set HC.out rfl hlt v
                      rw [hJ0] at hck0
                      rw [hJ1] at hck1 HR5
                      have HA0 := Lib.hid hA0
                      have HA1 := Lib.hid hA1
                      have HCK1 := Lib.hid hck1
                      have hCk : ∀ W, Calls Tryd.prog 14 #[.agg #[.int .i64 op, .int .i64 a0, .int .i64 b0, .int .i64 c0, .int .i64 d0]] W fun e w' => e = .returned (.int .i64 (if inR (kind op k) v = true then 0 else 10)) ∧ Below W.heap.size W w' := fun W => by rw [← hck0]; exact refCheck_any ((op : Int), a0, b0, c0, d0) W
                      clear hA0 hA1 hck0 hck1 hJ0 hJ1
                      go_wp2_with fail
                      clear hcw
                      go_region_held (fun W => OqS b (off + p1) xs wr W) (first | assumption | ((with_reducible apply OqS.nx) <;> assumption)) (first | (go_at_call 40; (with_reducible refine (hRd2 _).mono ?_); rintro e w5 ⟨rfl, hb5⟩))
                      · have hb05 := below_drew'.next hb5
                        have hB5 := hB.trans (hb05.mono (Nat.le_of_lt hXw))
                        have HX5 := Lib.hid ((hb05.block _ hXw).trans HX.out)
                        have hX5 : X < w5.heap.size := lt_of_block HX5.out
                        have hgA := heap_alloc_last w5 (.cells (fourC 0 0 0 0) 73)
                        have hBA := (Below.refl w5.heap.size w5).alloc (Nat.le_refl _) (.cells (fourC 0 0 0 0) 73)
                        clear hb5 hb05 hS HX hB hRd2 hXw
                        go_wp2_with (refine wpList_store_cell rfl 3 (.tmp 80) (.tmp 79) rfl w5.heap.size k rfl (.int .i64 v) rfl (fourC 0 0 0 0) 73 hgA hlt (by kernel_rfl) rfl ?_; intro w7 hg7 ho7 hz7 hb7; rw [HA0.out] at hg7; have d7 := (fun j => cell_of_row w7 w5.heap.size j _ _ _ hg7); have e0 := d7 0; have e1 := d7 1; have e2 := d7 2; have e3 := d7 3; simp only [List.getElem?_toArray, List.getElem?_cons_zero, List.getElem?_cons_succ] at e0 e1 e2 e3; have hB57 := hBA.trans hb7; clear d7 ho7 hz7 hb7 hg7 hBA hgA)
                        refine (hCk w7).mono ?_
                        clear hCk
                        rintro e w8 ⟨rfl, hb8⟩
                        have hB58 := hB57.next hb8
                        have HX8 := Lib.hid ((hB58.block _ hX5).trans HX5.out)
                        have hB8 := hB5.trans (hB58.mono (Nat.le_of_lt hX5))
                        clear e0 e1 e2 e3 hB57 hb8 HX5 hB5 hB58 hX5
                        by_cases hv : inR (kind op k) v = true
                        · have HV := Lib.hid hv
                          have HR6 : Hid (R = opsR op ([0, 1, 2, 3].drop (k + 1)) (us.drop (cntTo op (k + 1))) ((op : Int), a1, b1, c1, d1)) := Lib.hid (by rw [HR5.out, if_pos hv])
                          have HC6 : Hid (chk ((op : Int), a1, b1, c1, d1) = 0) := Lib.hid (by rw [HCK1.out, if_pos hv])
                          have HP2 : Hid (p1 + 1 = 1 + cntTo op (k + 1)) := Lib.hid (by rw [HCT.out]; have := HP.out; omega)
                          rw [if_pos hv]
                          clear hv HR5 HCK1
                          go_wp2_with (refine wpList_store_cell rfl 3 (.tmp 98) (.tmp 97) rfl X k rfl (.int .i64 v) rfl (fourC i0 i1 i2 i3) 73 HX8.out hlt (by kernel_rfl) rfl ?_; intro w9 hg9 ho9 hz9 hb9; rw [HA1.out] at hg9; have HX9 := Lib.hid hg9; have hB9 := hB8.trans hb9; clear hg9 ho9 hz9 hb9)
                          exact ⟨⟨k + 1, p1 + 1, a1, b1, c1, d1, hlt, hp6, by go_num, by go_num, HP2, HR6, HC6, HX9, hB9⟩, by simp [intOf]; omega⟩
                        · have HR6 : Hid (R = .inl 10) := Lib.hid (by rw [HR5.out, if_neg hv])
                          rw [if_neg hv]
                          have hg8 := (hB8.block _ hwX).trans HGG.out
                          clear hv HR5 HCK1
                          go_wp2_with (refine wpList_store_blk rfl 33 33 (.tmp 2) _ rfl w.heap.size rfl _ rfl _ hg8 (by kernel_rfl) rfl (by kernel_rfl) ?_; intro w6 hg6 ho6 hz6 hb6)
                          refine bodyPost_ret (results_cell_tmp rfl _ _ w.heap.size 33 _ _ _ rfl hg6 Tryd.underlying33 rfl (by kernel_rfl)) rfl ?_
                          exact ip_of (by rw [HR6.out]; rfl) rfl ((hBw.trans (hB8.mono (Nat.le_of_lt hwX))).trans hb6)
                · obtain rfl : k = 4 := by omega
                  have HR5 : Hid (R = .inr ((op : Int), i0, i1, i2, i3)) := Lib.hid (by rw [HR.out]; rfl)
                  have hc := fun j => cell_of_row wr X j _ _ _ HX.out
                  have c0 := hc 0
                  have c1 := hc 1
                  have c2 := hc 2
                  have c3 := hc 3
                  simp only [List.getElem?_toArray, List.getElem?_cons_zero, List.getElem?_cons_succ] at c0 c1 c2 c3
                  have hg5 := (hB.block _ hwX).trans HGG.out
                  clear HR hc
                  go_wp2_with (refine wpList_store_blk rfl 33 33 (.tmp 2) _ rfl w.heap.size rfl _ rfl _ hg5 (by kernel_rfl) rfl (by kernel_rfl) ?_; intro w6 hg6 ho6 hz6 hb6)
                  refine bodyPost_ret (results_cell_tmp rfl _ _ w.heap.size 33 _ _ _ rfl hg6 Tryd.underlying33 rfl (by kernel_rfl)) rfl ?_
                  exact ip_of (by rw [HR5.out]; rfl) rfl ((hBw.trans (hB.mono (Nat.le_of_lt hwX))).trans hb6)
            · have z0 : ((n : Int) != q) = true := by simp; omega
              have HR3 : Hid (R = .inl 11) := Lib.hid (by rw [HR2.out, if_neg (fun e => hnq (by have := HN.out; have := HQ.out; have := HCN.out; omega))])
              clear HR2 hnq HQ
              go_wp2_with (refine wpList_store_blk rfl 33 33 (.tmp 2) _ rfl w.heap.size rfl _ rfl _ hg (by kernel_rfl) rfl (by kernel_rfl) ?_; intro w6 hg6 ho6 hz6 hb6)
              refine bodyPost_ret (results_cell_tmp rfl _ _ w.heap.size 33 _ _ _ rfl hg6 Tryd.underlying33 rfl (by kernel_rfl)) rfl ?_
              exact ip_of (by rw [HR3.out]; rfl) rfl (hBw.trans hb6)
end P3
end Go.Proofs.YtggdbceommmllaaDoor
