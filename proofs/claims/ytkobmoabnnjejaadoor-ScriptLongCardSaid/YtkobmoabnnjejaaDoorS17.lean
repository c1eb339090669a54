/- Walk: ScriptLong. -/
import Derived.Test.YtkobmoabnnjejaaDoorS15
import Derived.Deep.OwnRows
namespace Go.Proofs.YtkobmoabnnjejaaDoor
open Go.RowKit
namespace P21
open PC NumL

theorem textL_rep (e : Ev) (t : Nat) : (textL (List.replicate t e)).length = t * ((lineL e).length + 1) := by
  induction t with
  | zero => simp [textL]
  | succ t ih => rw [List.replicate_succ, textL_cons, List.length_append, List.length_cons, ih, Nat.succ_mul]; omega
theorem mem_rep {e x : Ev} {t : Nat} (h : x ∈ List.replicate t e) : x = e := List.eq_of_mem_replicate h
/-- The last one's kind turned. -/
def lastK (e : Ev) (t : Nat) (k : Int) : List Ev := (List.replicate t e).set (t - 1) ⟨k, e.n⟩
theorem lastK_len (e : Ev) (t : Nat) (k : Int) : (lastK e t k).length = t := by simp [lastK]
theorem lastK_at {e : Ev} {t : Nat} (ht : 1 ≤ t) (k : Int) : at_ (lastK e t k) (t - 1) = ⟨k, e.n⟩ := by
  unfold at_ lastK
  rw [List.getD_eq_getElem?_getD, List.getElem?_set, if_pos rfl, if_pos (by simp; omega)]
  rfl
theorem lastK_wf {e : Ev} {t : Nat} {k : Int} (h : EvWf e) (hk : EvWf ⟨k, e.n⟩) : ∀ x ∈ lastK e t k, EvWf x := by
  intro x hx
  rcases List.mem_or_eq_of_mem_set hx with h1 | h1
  · rw [mem_rep h1]; exact h
  · rw [h1]; exact hk
theorem lastK_cells {e : Ev} {t : Nat} (ht : 1 ≤ t) (k : Int) : (evsC (List.replicate t e)).set ((t - 1) * 2) (.int .i64 k) = evsC (lastK e t k) := by
  have h := flat_set evC 2 (fun _ => rfl) (.int .i64 k) (List.replicate t e) (t - 1) 0 e ⟨k, e.n⟩ (by omega) (by rw [List.getElem?_replicate, if_pos (by omega)]) rfl
  simpa [evsC, lastK] using h
theorem conv_zeros (w : World) (g m : Nat) (hc : ∀ j, j < m → w.cell? ⟨g, j, none⟩ = some (.int .u8 0)) : ∃ z : ByteArray, z.size = m ∧ (convert 43 9 (.slice (some ⟨g, 0, none⟩) m m)).run Tryd.prog w = .ok (.string z) w := by
  have h := run_convert_bytes_arg (P := Tryd.prog) w 43 5 Tryd.underlying43 Tryd.underlying5 g 0 m m (List.replicate m 0) (by simp) (fun i hi => by
    rw [Nat.zero_add, hc i (by simpa using hi), List.getD_eq_getElem?_getD, List.getElem?_replicate]
    split <;> rfl) 9 Tryd.underlying9
  exact ⟨strOfNums (List.replicate m 0), by unfold strOfNums; simp [ByteArray.size], h⟩
set_option maxRecDepth 100000 in
set_option maxHeartbeats 16000000 in
theorem scriptLong_any {w : World} (hp : Lab w) (ek en : Int) (hwf : EvWf ⟨ek, en⟩) (t kind : Int) (hkind : -9223372036854775808 ≤ kind ∧ kind ≤ 9223372036854775807) :
    Calls Tryd.prog 7 #[.agg #[.int .i64 ek, .int .i64 en], .int .i64 t, .int .i64 kind] w fun e w' => e = .returned (.bool true) ∧ Below w.heap.size w w' := by
  have HP := Lib.hid hp
  have hB0 : Below w.heap.size w (w.alloc (.cells #[.int .i64 ek, .int .i64 en] 24)) := by go_grown
  have hAw0 := awake_any _ (HP.out.next hB0)
  by_cases ht1 : t < 1
  · have f1 : decide (t < 1) = true := by simpa using ht1
    clear ht1 hp
    go_enter Tryd.func7, Tryd.ntmps7
    go_wp2_with fail
    refine hAw0.mono ?_
    rintro e w1 ⟨rfl, hb1⟩
    go_wp2_with fail
    go_ret
    exact ⟨rfl, hB0.next hb1⟩
  · have f1 : decide (t < 1) = false := by simpa using ht1
    by_cases ht2 : 19000 < t
    · have f2 : decide (19000 < t) = true := by simpa using ht2
      clear ht1 ht2 hp
      go_enter Tryd.func7, Tryd.ntmps7
      go_wp2_with fail
      refine hAw0.mono ?_
      rintro e w1 ⟨rfl, hb1⟩
      go_wp2_with fail
      go_ret
      exact ⟨rfl, hB0.next hb1⟩
    · have f2 : decide (19000 < t) = false := by simpa using ht2
      obtain ⟨T, rfl⟩ := Int.eq_ofNat_of_zero_le (show 0 ≤ t by omega)
      have hT1 : 1 ≤ T := by omega
      have hT2 : T ≤ 19000 := by omega
      clear ht1 ht2 hAw0 hp
      by_cases hok : okK ek
      · have hL := line_ok ⟨ek, en⟩ hok hwf _ (HP.out.next hB0)
        unfold evV at hL
        have hll := lineL_len hwf
        obtain ⟨x, hx, hxs⟩ := let_ (lineL ⟨ek, en⟩) 26 hll
        rw [hx] at hL
        have HX : Hid ((lineL ⟨ek, en⟩).length = x.size) := Lib.hid (by rw [← hx]; simp [ByteArray.size])
        have HWF := Lib.hid hwf
        have HOK := Lib.hid hok
        clear hx hll hwf hok
        obtain ⟨W0, hW0⟩ := name_of (w.alloc (.cells #[.int .i64 ek, .int .i64 en] 24))
        have HW0 := Lib.hid hW0
        have hsz0 : W0.heap.size = w.heap.size + 1 := by rw [← hW0]; simp
        have b0 : W0.cell? ⟨w.heap.size, 0, none⟩ = some (.int .i64 ek) := by rw [← hW0]; simp
        have b1 : W0.cell? ⟨w.heap.size, 1, none⟩ = some (.int .i64 en) := by rw [← hW0]; simp
        rw [hW0] at hL hB0
        have HB0 := Lib.hid hB0
        obtain ⟨S, hS⟩ := name_of (T * (x.size + 1))
        have hSb : S ≤ 513000 := by rw [← hS]; exact Nat.mul_le_mul hT2 (show x.size + 1 ≤ 27 by omega)
        have hS1 : 1 ≤ S := by rw [← hS]; exact Nat.mul_pos hT1 (by omega)
        have hmul : ((x.size : Int) + 1) * (T : Int) = (S : Int) := by rw [← hS, Int.natCast_mul, Int.mul_comm]; rfl
        have HTL : Hid ((textL (List.replicate T ⟨ek, en⟩)).length = S) := Lib.hid (by rw [textL_rep, HX.out]; exact hS)
        clear hS hB0
        go_enter Tryd.func7, Tryd.ntmps7
        go_wp2_with fail
        refine hL.mono ?_
        rintro e w1 ⟨rfl, hb1⟩
        have HBB := Lib.hid hb1
        have o0 := (hb1.cell (p := ⟨w.heap.size, 0, none⟩) (by show w.heap.size < _; omega)).trans b0
        have o1 := (hb1.cell (p := ⟨w.heap.size, 1, none⟩) (by show w.heap.size < _; omega)).trans b1
        have hsz1 := hb1.size
        clear hL hW0
        go_wp2_with fail
        go_loopw [9, 10] (fun out i wr => ∃ k : Nat, k ≤ T ∧ i = .int .i64 k ∧ wr.ownsRow W0.heap.size 24 2 out k (evsC (List.replicate k ⟨ek, en⟩)) ∧ Below W0.heap.size W0 wr) (fun _ i _ => T - (intOf i).toNat)
        case atStart => exact ⟨0, Nat.zero_le _, rfl, own_empty w1 _ 2 _ hsz1, hb1.alloc hsz1 _⟩
        case round =>
          obtain ⟨k, hk, rfl, hown, hB⟩ := hrel
          rename World => wr1
          have q0 := (hB.cell (p := ⟨w.heap.size, 0, none⟩) (by show w.heap.size < _; omega)).trans b0
          have q1 := (hB.cell (p := ⟨w.heap.size, 1, none⟩) (by show w.heap.size < _; omega)).trans b1
          by_cases hlt : k < T
          · have HRS : Hid (evsC (List.replicate k ⟨ek, en⟩) ++ evC ⟨ek, en⟩ = evsC (List.replicate (k + 1) ⟨ek, en⟩)) := Lib.hid (by rw [List.replicate_succ', evsC_append]; rfl)
            have hs2 : Sl (wr1.alloc (.cells #[.int .i64 ek, .int .i64 en] 24)) (wr1.alloc (.cells #[.int .i64 ek, .int .i64 en] 24)).heap.size 2 (.slice (some ⟨wr1.heap.size, 0, none⟩) 1 1) (evC ⟨ek, en⟩) := Sl.new wr1 _ _ 1 _ rfl rfl rfl
            have hown2 := hown.alloc (.cells #[.int .i64 ek, .int .i64 en] 24)
            have hB2 := hB.alloc hB.size (.cells #[.int .i64 ek, .int .i64 en] 24)
            obtain ⟨Y, hY⟩ := name_of (evsC (List.replicate k ⟨ek, en⟩))
            rw [hY] at hown2 HRS
            clear hown hB hY
            go_wp2_with (at_builtin; refine wpList_append_sl rfl (.tmp 49) (.tmp 51) 22 rfl W0.heap.size 24 (.agg #[.int .i64 0, .int .i64 0]) 2 16 Tryd.underlying22 info_ev rfl (by omega) _ _ _ rfl hown2 _ 1 _ _ rfl hs2 rfl (evC_one _) (by omega) (by omega) hB2.size ?_; intro v6 w6 hown6 hg6 hat6; have hB6 := below_append hB2 hown2 hg6 (Nat.le_refl _); obtain ⟨A6, m6, c6, rfl⟩ := own_slice hown6; clear hown2 hs2 hg6 hat6 hB2)
            refine ⟨⟨k + 1, hlt, by go_num, ?_, hB6⟩, by simp [intOf]; omega⟩
            rw [← HRS.out]
            exact hown6
          · obtain rfl : k = T := by omega
            obtain ⟨g, cap, rfl, hg, hglt, hcap, -, hfz⟩ := own_open hown hT1
            have hEv : Evs wr1 (.slice (some ⟨g, 0, none⟩) k cap) (List.replicate k ⟨ek, en⟩) := ⟨Sl.own hown, fun e he => by rw [mem_rep he]; exact HWF.out⟩
            have hBw : Below w.heap.size w wr1 := HB0.out.next hB
            have hPr := print_any hEv (by simp; omega) (HP.out.next hBw)
            have HOWN := Lib.hid hown
            have HG : Hid (w.heap.size + 1 ≤ g) := Lib.hid (by omega)
            by_cases hbig : 131072 < S
            · have HPR : Hid (printR (List.replicate k ⟨ek, en⟩) = (⟨#[]⟩, 12)) := Lib.hid (by rw [printR_ok (fun j hj => by rw [mem_rep (at_mem hj)]; exact HOK.out), if_pos (by rw [HTL.out]; exact hbig)])
              rw [HPR.out] at hPr
              dsimp only at hPr
              have z1 : decide (131072 < (S : Int)) = true := by simp; omega
              clear hown hEv hB q0 q1
              go_wp2_with fail
              refine hPr.mono ?_
              rintro e w2 ⟨rfl, hb2⟩
              have hB2 := hBw.next hb2
              have hown3 := own_below HOWN.out hb2
              clear hPr
              obtain ⟨hc3, hf3⟩ : (∀ j u, (evsC (List.replicate k ⟨ek, en⟩))[j]? = some u → w2.cell? ⟨g, j, none⟩ = some u) ∧ ∀ j, w2.frozen? ⟨g, j, none⟩ = false := by
                obtain ⟨g', cap', he, _, _, _, h1, h2⟩ := own_open hown3 hT1
                injection he with he
                injection he with he
                injection he with he
                subst he
                exact ⟨h1, h2⟩
              have hx0 : (evsC (List.replicate k ⟨ek, en⟩))[(k - 1) * 2 + 0]? = some (.int .i64 ek) := by
                unfold evsC
                rw [flat_get evC 2 (fun _ => rfl) _ (k - 1) 0 (by omega), List.getElem?_replicate, if_pos (by omega)]
                rfl
              have hx1 : (evsC (List.replicate k ⟨ek, en⟩))[(k - 1) * 2 + 1]? = some (.int .i64 en) := by
                unfold evsC
                rw [flat_get evC 2 (fun _ => rfl) _ (k - 1) 1 (by omega), List.getElem?_replicate, if_pos (by omega)]
                rfl
              have l0 : w2.cell? ⟨g, (k - 1) * 2, none⟩ = some (.int .i64 ek) := hc3 _ _ hx0
              have l1 : w2.cell? ⟨g, (k - 1) * 2 + 1, none⟩ = some (.int .i64 en) := hc3 _ _ hx1
              have lf := hf3 ((k - 1) * 2)
              have hown4 := own_set hown3 ((k - 1) * 2) (.int .i64 kind)
              rw [lastK_cells hT1] at hown4
              have hB4 : Below w.heap.size w (w2.setCell ⟨g, (k - 1) * 2, none⟩ (.int .i64 kind)) := own_below_set hB2 (by have := HG.out; omega) _ _
              have HWK : Hid (EvWf ⟨kind, en⟩) := Lib.hid ⟨hkind, HWF.out.n⟩
              have hEv4 : Evs (w2.setCell ⟨g, (k - 1) * 2, none⟩ (.int .i64 kind)) (.slice (some ⟨g, 0, none⟩) k cap) (lastK ⟨ek, en⟩ k kind) := ⟨Sl.own hown4, lastK_wf HWF.out HWK.out⟩
              have n0 : (w2.setCell ⟨g, (k - 1) * 2, none⟩ (.int .i64 kind)).cell? ⟨g, (k - 1) * 2, none⟩ = some (.int .i64 kind) := World.cell?_setCell_same' _ _ _ (by rw [l0]; rfl)
              have n1 : (w2.setCell ⟨g, (k - 1) * 2, none⟩ (.int .i64 kind)).cell? ⟨g, (k - 1) * 2 + 1, none⟩ = some (.int .i64 en) := (World.cell?_setCell_other _ _ _ _ (fun c => by injection c with _ c _; omega)).trans l1
              have HE4 := Lib.hid hEv4
              have HLAT := Lib.hid (lastK_at (e := ⟨ek, en⟩) hT1 kind)
              clear hc3 hf3 hx0 hx1 hown3 hown4 hEv4
              by_cases hok2 : okK kind
              · have hL := line_ok ⟨kind, en⟩ hok2 HWK.out _ (HP.out.next hB4)
                unfold evV at hL
                obtain ⟨y, hy, hys⟩ := let_ (lineL ⟨kind, en⟩) 26 (lineL_len HWK.out)
                rw [hy] at hL
                clear hy hok2
                go_wp2_with fail
                refine hL.mono ?_
                rintro e w4 ⟨rfl, hb4⟩
                have hB5 := hB4.next hb4
                have hPq := print_any (HE4.out.next hb4) (by rw [lastK_len]; omega) (HP.out.next hB5)
                obtain ⟨⟨ps, pc⟩, hpr⟩ := name_of (printR (lastK ⟨ek, en⟩ k kind))
                rw [hpr] at hPq
                dsimp only at hPq
                clear hL hpr
                go_wp2_with fail
                refine hPq.mono ?_
                rintro e w5 ⟨rfl, hb5⟩
                have hB6 := hB5.next hb5
                have hAw := awake_any w5 (HP.out.next hB6)
                clear hPq
                go_wp2_with fail
                refine hAw.mono ?_
                rintro e w6 ⟨rfl, hb6⟩
                go_wp2_with fail
                go_ret
                exact ⟨rfl, hB6.next hb6⟩
              · have hL := line_bad ⟨kind, en⟩ hok2 (w2.setCell ⟨g, (k - 1) * 2, none⟩ (.int .i64 kind))
                unfold evV at hL
                have HPB : Hid (printR (lastK ⟨ek, en⟩ k kind) = (⟨#[]⟩, 1)) := Lib.hid (printR_bad (k := k - 1) (by rw [lastK_len]; omega) (by rw [HLAT.out]; exact hok2))
                clear hok2
                go_wp2_with fail
                refine hL.mono ?_
                rintro e w4 ⟨rfl, hb4⟩
                have hB5 := hB4.next hb4
                have hPq := print_any (HE4.out.next hb4) (by rw [lastK_len]; omega) (HP.out.next hB5)
                rw [HPB.out] at hPq
                dsimp only at hPq
                clear hL
                go_wp2_with fail
                refine hPq.mono ?_
                rintro e w5 ⟨rfl, hb5⟩
                have hB6 := hB5.next hb5
                have hAw := awake_any w5 (HP.out.next hB6)
                clear hPq
                go_wp2_with fail
                refine hAw.mono ?_
                rintro e w6 ⟨rfl, hb6⟩
                go_wp2_with fail
                go_ret
                exact ⟨rfl, hB6.next hb6⟩
            · have HPR : Hid (printR (List.replicate k ⟨ek, en⟩) = (⟨(textL (List.replicate k ⟨ek, en⟩)).toArray⟩, 0)) := Lib.hid (by rw [printR_ok (fun j hj => by rw [mem_rep (at_mem hj)]; exact HOK.out), if_neg (by rw [HTL.out]; exact hbig)])
              rw [HPR.out] at hPr
              dsimp only at hPr
              have HPT : Hid (parseR (textL (List.replicate k ⟨ek, en⟩)) = .inr (List.replicate k ⟨ek, en⟩)) := Lib.hid (parseR_text (fun e he => by rw [mem_rep he]; exact ⟨HOK.out, HWF.out⟩) (by rw [HTL.out]; omega))
              obtain ⟨s, hs, hs1⟩ := let_ (textL (List.replicate k ⟨ek, en⟩)) 131072 (by rw [HTL.out]; omega)
              rw [hs] at hPr
              have HS : Hid (s.data.toList = textL (List.replicate k ⟨ek, en⟩)) := Lib.hid (by rw [← hs])
              obtain rfl : S = s.size := by rw [← HTL.out, ← HS.out, bs_len]
              have z1 : decide (131072 < (s.size : Int)) = false := by simp; omega
              obtain ⟨M, hM⟩ : ∃ M : Nat, (131073 : Int) - (s.size : Int) = (M : Int) := ⟨131073 - s.size, by omega⟩
              have hMs : M + s.size = 131073 := by omega
              have hmk := run_make_row' (P := Tryd.prog) 43 5 (.int .u8 0) 1 Tryd.underlying43 (by kernel_rfl) rfl .i64 .i64 M (by omega) (by omega)
              obtain ⟨MC, hMC⟩ := name_of (madeCells #[.int .u8 0] M)
              rw [hMC] at hmk
              have HMC := Lib.hid hMC
              clear hown hEv hB q0 q1 hs hbig hMC
              go_wp2_with fail
              refine hPr.mono ?_
              rintro e w2 ⟨rfl, hb2⟩
              have hBa := hBw.next hb2
              have hPa := parse_any s (by omega) w2 (HP.out.next hBa)
              rw [HS.out] at hPa
              have hPa2 : Calls Tryd.prog 16 #[.string s] w2 fun e w' => (∃ v, e = .returned (.tuple #[v, .int .i64 0, .int .i64 0]) ∧ Sl w' w'.heap.size 2 v (evsC (List.replicate k ⟨ek, en⟩))) ∧ Below w2.heap.size w2 w' := hPa.mono fun e w' h => by unfold ParsePost at h; rw [HPT.out] at h; exact h
              clear hPr hPa
              go_wp2_with fail
              refine hPa2.mono ?_
              rintro e w3 ⟨⟨vm, rfl, hvm⟩, hb3⟩
              have hBb := hBa.next hb3
              have hown3 := own_below (own_below HOWN.out hb2) hb3
              have hS := same_any hvm (Sl.own hown3) (by simp; omega)
              rw [decide_eq_true rfl] at hS
              clear hPa2 hvm hown3
              go_wp2_with fail
              refine hS.mono ?_
              rintro e w5 ⟨rfl, q, hw5⟩
              have hb5 : Below w3.heap.size w3 w5 := by rw [hw5]; exact below_drewn q
              have hBc := hBb.next hb5
              have R := World.rowIs_made w5 (.int .u8 0) M 5
              rw [HMC.out] at R
              obtain ⟨z, hz, hcv⟩ := conv_zeros (w5.alloc (.cells MC 5)) w5.heap.size M (fun j hj => R.cell hj)
              have hBd : Below w.heap.size w (w5.alloc (.cells MC 5)) := hBc.alloc hBc.size _
              obtain ⟨sz, hsz, hszs⟩ := cat_ s z 131072 131072 (by omega) (by omega)
              have HSZ : Hid (sz.size = 131073) := Lib.hid (by rw [← hsz, ByteArray.size_append]; omega)
              have n9 : ¬ (9223372036854775807 < s.size + z.size) := by omega
              have HPN : Hid (parseR sz.data.toList = .inl (0, 12)) := Lib.hid (by unfold parseR; rw [if_pos (by rw [bs_len, HSZ.out]; omega)])
              have hPb := parse_any sz (by rw [HSZ.out]; omega) _ (HP.out.next hBd)
              have hPb2 : Calls Tryd.prog 16 #[.string sz] (w5.alloc (.cells MC 5)) fun e w' => e = .returned (.tuple #[.slice none 0 0, .int .i64 0, .int .i64 12]) ∧ Below (w5.alloc (.cells MC 5)).heap.size (w5.alloc (.cells MC 5)) w' := hPb.mono fun e w' h => by unfold ParsePost at h; rw [HPN.out] at h; exact h
              have hb5k := ((hb2.next hb3).next hb5)
              have hb6k : Below wr1.heap.size wr1 (w5.alloc (.cells MC 5)) := hb5k.alloc hb5k.size _
              clear hS hw5 R hPb
              go_wp2_with fail
              refine hPb2.mono ?_
              rintro e w7 ⟨rfl, hb7⟩
              have hB2 := hBd.next hb7
              have hown3 := own_below HOWN.out (hb6k.next hb7)
              clear hPb2 hcv
              obtain ⟨hc3, hf3⟩ : (∀ j u, (evsC (List.replicate k ⟨ek, en⟩))[j]? = some u → w7.cell? ⟨g, j, none⟩ = some u) ∧ ∀ j, w7.frozen? ⟨g, j, none⟩ = false := by
                obtain ⟨g', cap', he, _, _, _, h1, h2⟩ := own_open hown3 hT1
                injection he with he
                injection he with he
                injection he with he
                subst he
                exact ⟨h1, h2⟩
              have hx0 : (evsC (List.replicate k ⟨ek, en⟩))[(k - 1) * 2 + 0]? = some (.int .i64 ek) := by
                unfold evsC
                rw [flat_get evC 2 (fun _ => rfl) _ (k - 1) 0 (by omega), List.getElem?_replicate, if_pos (by omega)]
                rfl
              have hx1 : (evsC (List.replicate k ⟨ek, en⟩))[(k - 1) * 2 + 1]? = some (.int .i64 en) := by
                unfold evsC
                rw [flat_get evC 2 (fun _ => rfl) _ (k - 1) 1 (by omega), List.getElem?_replicate, if_pos (by omega)]
                rfl
              have l0 : w7.cell? ⟨g, (k - 1) * 2, none⟩ = some (.int .i64 ek) := hc3 _ _ hx0
              have l1 : w7.cell? ⟨g, (k - 1) * 2 + 1, none⟩ = some (.int .i64 en) := hc3 _ _ hx1
              have lf := hf3 ((k - 1) * 2)
              have hown4 := own_set hown3 ((k - 1) * 2) (.int .i64 kind)
              rw [lastK_cells hT1] at hown4
              have hB4 : Below w.heap.size w (w7.setCell ⟨g, (k - 1) * 2, none⟩ (.int .i64 kind)) := own_below_set hB2 (by have := HG.out; omega) _ _
              have HWK : Hid (EvWf ⟨kind, en⟩) := Lib.hid ⟨hkind, HWF.out.n⟩
              have hEv4 : Evs (w7.setCell ⟨g, (k - 1) * 2, none⟩ (.int .i64 kind)) (.slice (some ⟨g, 0, none⟩) k cap) (lastK ⟨ek, en⟩ k kind) := ⟨Sl.own hown4, lastK_wf HWF.out HWK.out⟩
              have n0 : (w7.setCell ⟨g, (k - 1) * 2, none⟩ (.int .i64 kind)).cell? ⟨g, (k - 1) * 2, none⟩ = some (.int .i64 kind) := World.cell?_setCell_same' _ _ _ (by rw [l0]; rfl)
              have n1 : (w7.setCell ⟨g, (k - 1) * 2, none⟩ (.int .i64 kind)).cell? ⟨g, (k - 1) * 2 + 1, none⟩ = some (.int .i64 en) := (World.cell?_setCell_other _ _ _ _ (fun c => by injection c with _ c _; omega)).trans l1
              have HE4 := Lib.hid hEv4
              have HLAT := Lib.hid (lastK_at (e := ⟨ek, en⟩) hT1 kind)
              clear hc3 hf3 hx0 hx1 hown3 hown4 hEv4
              by_cases hok2 : okK kind
              · have hL := line_ok ⟨kind, en⟩ hok2 HWK.out _ (HP.out.next hB4)
                unfold evV at hL
                obtain ⟨y, hy, hys⟩ := let_ (lineL ⟨kind, en⟩) 26 (lineL_len HWK.out)
                rw [hy] at hL
                clear hy hok2
                go_wp2_with fail
                refine hL.mono ?_
                rintro e w4 ⟨rfl, hb4⟩
                have hB5 := hB4.next hb4
                have hPq := print_any (HE4.out.next hb4) (by rw [lastK_len]; omega) (HP.out.next hB5)
                obtain ⟨⟨ps, pc⟩, hpr⟩ := name_of (printR (lastK ⟨ek, en⟩ k kind))
                rw [hpr] at hPq
                dsimp only at hPq
                clear hL hpr
                go_wp2_with fail
                refine hPq.mono ?_
                rintro e w5 ⟨rfl, hb5⟩
                have hB6 := hB5.next hb5
                have hAw := awake_any w5 (HP.out.next hB6)
                clear hPq
                go_wp2_with fail
                refine hAw.mono ?_
                rintro e w6 ⟨rfl, hb6⟩
                go_wp2_with fail
                go_ret
                exact ⟨rfl, hB6.next hb6⟩
              · have hL := line_bad ⟨kind, en⟩ hok2 (w7.setCell ⟨g, (k - 1) * 2, none⟩ (.int .i64 kind))
                unfold evV at hL
                have HPB : Hid (printR (lastK ⟨ek, en⟩ k kind) = (⟨#[]⟩, 1)) := Lib.hid (printR_bad (k := k - 1) (by rw [lastK_len]; omega) (by rw [HLAT.out]; exact hok2))
                clear hok2
                go_wp2_with fail
                refine hL.mono ?_
                rintro e w4 ⟨rfl, hb4⟩
                have hB5 := hB4.next hb4
                have hPq := print_any (HE4.out.next hb4) (by rw [lastK_len]; omega) (HP.out.next hB5)
                rw [HPB.out] at hPq
                dsimp only at hPq
                clear hL
                go_wp2_with fail
                refine hPq.mono ?_
                rintro e w5 ⟨rfl, hb5⟩
                have hB6 := hB5.next hb5
                have hAw := awake_any w5 (HP.out.next hB6)
                clear hPq
                go_wp2_with fail
                refine hAw.mono ?_
                rintro e w6 ⟨rfl, hb6⟩
                go_wp2_with fail
                go_ret
                exact ⟨rfl, hB6.next hb6⟩
      · have hL := line_bad ⟨ek, en⟩ hok (w.alloc (.cells #[.int .i64 ek, .int .i64 en] 24))
        unfold evV at hL
        clear hwf hok
        go_enter Tryd.func7, Tryd.ntmps7
        go_wp2_with fail
        refine hL.mono ?_
        rintro e w1 ⟨rfl, hb1⟩
        have hB1 := hB0.next hb1
        have hAw := awake_any w1 (HP.out.next hB1)
        clear hL
        go_wp2_with fail
        refine hAw.mono ?_
        rintro e w2 ⟨rfl, hb2⟩
        go_wp2_with fail
        go_ret
        exact ⟨rfl, hB1.next hb2⟩
end P21
end Go.Proofs.YtkobmoabnnjejaaDoor
