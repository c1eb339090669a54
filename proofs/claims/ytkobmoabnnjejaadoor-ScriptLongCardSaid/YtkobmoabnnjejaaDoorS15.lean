/- Walk: ScriptBacks. -/
import Derived.Test.YtkobmoabnnjejaaDoorS14
import Derived.Test.YtkobmoabnnjejaaDoorS2r
namespace Go.Proofs.YtkobmoabnnjejaaDoor
open Go.RowKit
namespace P21
open PC NumL

theorem at_mem {l : List Ev} {k : Nat} (hk : k < l.length) : at_ l k ∈ l := by rw [at_eq hk]; exact List.getElem_mem hk
theorem mem_at {l : List Ev} {e : Ev} (h : e ∈ l) : ∃ k, k < l.length ∧ at_ l k = e := by
  obtain ⟨k, hk, rfl⟩ := List.getElem_of_mem h
  exact ⟨k, hk, at_eq hk⟩
theorem ok_split (l : List Ev) : (∀ e ∈ l, okK e.k) ∨ ∃ k, k < l.length ∧ ¬ okK (at_ l k).k := by
  by_cases h : ∀ k, k < l.length → okK (at_ l k).k
  · refine .inl fun e he => ?_
    obtain ⟨k, hk, rfl⟩ := mem_at he
    exact h k hk
  · right
    simp only [Classical.not_forall] at h
    obtain ⟨k, hk, h⟩ := h
    exact ⟨k, hk, h⟩
theorem printR_all {l : List Ev} (h : ∀ e ∈ l, okK e.k) (hl : (textL l).length ≤ 131072) : printR l = (⟨(textL l).toArray⟩, 0) := by
  rw [printR_ok (fun k hk => h _ (at_mem hk)), if_neg (by omega)]
theorem ret_tuple3 {v : Value} {a b a' b' : Int} (h : a = a') (k : b = b') : Ending.returned (.tuple #[v, .int .i64 a, .int .i64 b]) = .returned (.tuple #[v, .int .i64 a', .int .i64 b']) := by rw [h, k]

theorem bad_succ {l : List Ev} {k : Nat} (h : okK (at_ l k).k) : (∃ j, j < k + 1 ∧ ¬ okK (at_ l j).k) ↔ ∃ j, j < k ∧ ¬ okK (at_ l j).k := by
  constructor
  · rintro ⟨j, hj, hb⟩
    by_cases e : j = k
    · subst e; exact absurd h hb
    · exact ⟨j, by omega, hb⟩
  · rintro ⟨j, hj, hb⟩
    exact ⟨j, by omega, hb⟩
def BkR (l : List Ev) (n : Nat) (w : World) (wrong i : Value) (wr : World) : Prop :=
  ∃ (k : Nat) (b : Bool), k ≤ n ∧ i = .int .i64 k ∧ wrong = .bool b ∧ (b = true ↔ ∃ j, j < k ∧ ¬ okK (at_ l j).k) ∧ Below w.heap.size w wr
set_option maxRecDepth 100000 in
set_option maxHeartbeats 8000000 in
theorem scriptBacks_any {w : World} {v : Value} {l : List Ev} (hE : Evs w v l) (hp : Lab w) (s : ByteArray) :
    Calls Tryd.prog 5 #[v, .string s] w fun e w' => e = .returned (.bool true) ∧ Below w.heap.size w w' := by
  have HE := Lib.hid hE
  have HP := Lib.hid hp
  obtain ⟨A, c, rfl, hnc, hA⟩ := evs_open hE.sl
  have HA := Lib.hid hA
  obtain ⟨n, hn⟩ := name_of l.length
  rw [hn] at hnc HE ⊢
  have HN := Lib.hid hn
  clear hE hp hn hA
  by_cases hbig : 200 < n
  · have f1 : decide (200 < (n : Int)) = true := by simp; omega
    have hAw := awake_any w HP.out
    go_enter Tryd.func5, Tryd.ntmps5
    go_wp2_with fail
    refine hAw.mono ?_
    rintro e w1 ⟨rfl, hb1⟩
    go_wp2_with fail
    go_ret
    exact ⟨rfl, hb1⟩
  · have f1 : decide (200 < (n : Int)) = false := by simp; omega
    by_cases hbig2 : 2000 < s.size
    · have f2 : decide (2000 < (s.size : Int)) = true := by simp; omega
      have hAw := awake_any w HP.out
      go_enter Tryd.func5, Tryd.ntmps5
      go_wp2_with fail
      refine hAw.mono ?_
      rintro e w1 ⟨rfl, hb1⟩
      go_wp2_with fail
      go_ret
      exact ⟨rfl, hb1⟩
    · have f2 : decide (2000 < (s.size : Int)) = false := by simp; omega
      have hn2 : n ≤ 200 := by omega
      have hs2 : s.size ≤ 2000 := by omega
      have hTL : (textL l).length ≤ 5400 := by have := textL_le HE.out.wf; rw [HN.out] at this; omega
      -- what the second half asks
      have HEND : Hid (∀ W, Below w.heap.size w W → Calls Tryd.prog 16 #[.string s] W (ParsePost s.data.toList W)) := Lib.hid (fun W hW => parse_any s (by omega) W (HP.out.next hW))
      have hPr := print_any HE.out (by rw [HN.out]; omega) HP.out
      clear hbig hbig2
      rcases ok_split l with hok | ⟨kb, hkb, hbad⟩
      · rw [printR_all hok (by omega)] at hPr
        have HPT : Hid (parseR (textL l) = .inr l) := Lib.hid (parseR_text (fun e he => ⟨hok e he, HE.out.wf e he⟩) (by omega))
        obtain ⟨x, hx, hxs⟩ := let_ (textL l) 5400 hTL
        rw [hx] at hPr
        dsimp only at hPr
        have HX : Hid (x.data.toList = textL l) := Lib.hid (by rw [← hx])
        clear hx hok hTL
        go_enter Tryd.func5, Tryd.ntmps5
        go_wp2_with fail
        refine hPr.mono ?_
        rintro e w1 ⟨rfl, hb1⟩
        have hPa := parse_any x (by omega) w1 (HP.out.next hb1)
        rw [HX.out] at hPa
        have hPa2 : Calls Tryd.prog 16 #[.string x] w1 fun e w' => (∃ v, e = .returned (.tuple #[v, .int .i64 0, .int .i64 0]) ∧ Sl w' w'.heap.size 2 v (evsC l)) ∧ Below w1.heap.size w1 w' := hPa.mono fun e w' h => by unfold ParsePost at h; rw [HPT.out] at h; exact h
        clear hPr hPa
        go_wp2_with fail
        refine hPa2.mono ?_
        rintro e w2 ⟨⟨va, rfl, hva⟩, hb2⟩
        have hb := hb1.next hb2
        have hS := same_any hva (HE.out.next hb).sl (by rw [HN.out]; omega)
        rw [decide_eq_true (rfl : l = l)] at hS
        clear hPa2 hb1 hb2 hva
        go_wp2_with fail
        refine hS.mono ?_
        rintro e w3 ⟨rfl, q, hw3⟩
        have hb3 : Below w.heap.size w w3 := hb.next (by rw [hw3]; exact below_drewn q)
        clear hS hw3 hb
        have hPs := HEND.out w3 hb3
        cases hr : parseR s.data.toList with
        | inl x =>
          obtain ⟨ln, c⟩ := x
          obtain ⟨hl1, hl2, hc⟩ := parseR_inl (by rw [bs_len]; omega) hr
          rw [bs_len] at hl2
          have hPs2 : Calls Tryd.prog 16 #[.string s] w3 fun e w' => e = .returned (.tuple #[.slice none 0 0, .int .i64 ln, .int .i64 c]) ∧ Below w3.heap.size w3 w' := hPs.mono fun e w' h => by unfold ParsePost at h; rw [hr] at h; exact h
          clear hPs hr
          have g1 : decide ((ln : Int) < 1) = false := by simp; omega
          rcases hc with rfl | rfl
          all_goals
            go_wp2_with fail
            refine hPs2.mono ?_
            rintro e w4 ⟨rfl, hb4⟩
            have hb5 := hb3.next hb4
            have hAw := awake_any w4 (HP.out.next hb5)
            clear hPs2
            go_wp2_with fail
            refine hAw.mono ?_
            rintro e w5 ⟨rfl, hb6⟩
            go_wp2_with fail
            go_ret
            exact ⟨rfl, hb5.next hb6⟩
        | inr m =>
          obtain ⟨hm1, hm2, hm3⟩ := parseR_inr hr
          rw [bs_len] at hm3
          have hPs2 : Calls Tryd.prog 16 #[.string s] w3 fun e w' => (∃ v, e = .returned (.tuple #[v, .int .i64 0, .int .i64 0]) ∧ Sl w' w'.heap.size 2 v (evsC m)) ∧ Below w3.heap.size w3 w' := hPs.mono fun e w' h => by unfold ParsePost at h; rw [hr] at h; exact h
          have HPM : Hid (printR m = (s, 0)) := Lib.hid (by
            rw [printR_all (fun e he => (hm2 e he).1) (by rw [← hm1, bs_len]; omega), ← hm1])
          have HM2 := Lib.hid hm2
          clear hPs hr hm1 hm2
          go_wp2_with fail
          refine hPs2.mono ?_
          rintro e w4 ⟨⟨vm, rfl, hvm⟩, hb4⟩
          have hb5 := hb3.next hb4
          have hPm := print_any (w := w4) (l := m) ⟨hvm, fun e he => (HM2.out e he).2⟩ (by omega) (HP.out.next hb5)
          rw [HPM.out] at hPm
          dsimp only at hPm
          have hst := str_beq s
          clear hPs2 hvm
          go_wp2_with fail
          refine hPm.mono ?_
          rintro e w5 ⟨rfl, hb6⟩
          have hb7 := hb5.next hb6
          have hAw := awake_any w5 (HP.out.next hb7)
          clear hPm
          go_wp2_with fail
          refine hAw.mono ?_
          rintro e w6 ⟨rfl, hb8⟩
          go_wp2_with fail
          go_ret
          exact ⟨rfl, hb7.next hb8⟩
      · have hPB : Hid (printR l = (⟨#[]⟩, 1)) := Lib.hid (printR_bad hkb hbad)
        rw [hPB.out] at hPr
        dsimp only at hPr
        have HBAD : Hid (∃ j, j < n ∧ ¬ okK (at_ l j).k) := Lib.hid ⟨kb, by rw [HN.out] at hkb; exact hkb, hbad⟩
        clear hkb hbad hTL
        go_enter Tryd.func5, Tryd.ntmps5
        go_wp2_with fail
        refine hPr.mono ?_
        rintro e w1 ⟨rfl, hb1⟩
        have HB1 := Lib.hid hb1
        clear hPr
        go_wp2_with fail
        go_loopw [10, 11] (fun wrong i wr => BkR l n w wrong i wr) (fun _ i _ => n - (intOf i).toNat)
        case atStart => exact ⟨0, false, Nat.zero_le _, rfl, rfl, ⟨(fun h => by cases h), (fun ⟨j, h, _⟩ => by omega)⟩, HB1.out⟩
        case round =>
          obtain ⟨k, b, hk, rfl, rfl, hiff, hB⟩ := hrel
          have HIFF := Lib.hid hiff
          clear hiff
          by_cases hlt : k < n
          · obtain ⟨bl, off, rfl, hbl, c0, c1⟩ := HA.out k (by rw [HN.out]; exact hlt)
            have hwf := HE.out.wfAt (k := k) (by rw [HN.out]; exact hlt)
            obtain ⟨⟨ek, en⟩, he⟩ := name_of (at_ l k)
            rw [he] at c0 c1 hwf
            dsimp only at c0 c1
            have d0 := (hB.cell (p := ⟨bl, _, none⟩) hbl).trans c0
            have d1 := (hB.cell (p := ⟨bl, _, none⟩) hbl).trans c1
            have HEK : Hid ((at_ l k).k = ek) := Lib.hid (by rw [he])
            clear c0 c1 he
            by_cases hke : okK ek
            · have hL := line_ok ⟨ek, en⟩ hke hwf wr (HP.out.next hB)
              unfold evV at hL
              have hll := lineL_len hwf
              obtain ⟨x, hx⟩ := name_of (lineL ⟨ek, en⟩)
              rw [hx] at hL
              have HX : Hid ((∃ j, j < k + 1 ∧ ¬ okK (at_ l j).k) ↔ ∃ j, j < k ∧ ¬ okK (at_ l j).k) := Lib.hid (bad_succ (by rw [HEK.out]; exact hke))
              clear hx hke
              cases b
              all_goals
                go_wp2_with fail
                refine hL.mono ?_
                rintro e w2 ⟨rfl, hb2⟩
                go_wp2_with fail
                exact ⟨⟨k + 1, _, by omega, by go_num, rfl, (by first | exact HIFF.out.trans HX.out.symm | (have h0 := HIFF.out.trans HX.out.symm; simpa using h0)), hB.next hb2⟩, by simp [intOf]; omega⟩
            · have hL := line_bad ⟨ek, en⟩ hke wr
              unfold evV at hL
              have HX : Hid (∃ j, j < k + 1 ∧ ¬ okK (at_ l j).k) := Lib.hid ⟨k, by omega, by rw [HEK.out]; exact hke⟩
              clear hke
              cases b
              all_goals
                go_wp2_with fail
                refine hL.mono ?_
                rintro e w2 ⟨rfl, hb2⟩
                go_wp2_with fail
                exact ⟨⟨k + 1, true, by omega, by go_num, rfl, ⟨fun _ => HX.out, fun _ => rfl⟩, hB.next hb2⟩, by simp [intOf]; omega⟩
          · obtain rfl : k = n := by omega
            obtain rfl : b = true := HIFF.out.2 HBAD.out
            rename World => w3
            have hb3 := hB
            clear hB
            go_wp2_with fail
            have hPs := HEND.out w3 hb3
            cases hr : parseR s.data.toList with
            | inl x =>
              obtain ⟨ln, c⟩ := x
              obtain ⟨hl1, hl2, hc⟩ := parseR_inl (by rw [bs_len]; omega) hr
              rw [bs_len] at hl2
              have hPs2 : Calls Tryd.prog 16 #[.string s] w3 fun e w' => e = .returned (.tuple #[.slice none 0 0, .int .i64 ln, .int .i64 c]) ∧ Below w3.heap.size w3 w' := hPs.mono fun e w' h => by unfold ParsePost at h; rw [hr] at h; exact h
              clear hPs hr
              have g1 : decide ((ln : Int) < 1) = false := by simp; omega
              rcases hc with rfl | rfl
              all_goals
                go_wp2_with fail
                refine hPs2.mono ?_
                rintro e w4 ⟨rfl, hb4⟩
                have hb5 := hb3.next hb4
                have hAw := awake_any w4 (HP.out.next hb5)
                clear hPs2
                go_wp2_with fail
                refine hAw.mono ?_
                rintro e w5 ⟨rfl, hb6⟩
                go_wp2_with fail
                go_ret
                exact ⟨rfl, hb5.next hb6⟩
            | inr m =>
              obtain ⟨hm1, hm2, hm3⟩ := parseR_inr hr
              rw [bs_len] at hm3
              have hPs2 : Calls Tryd.prog 16 #[.string s] w3 fun e w' => (∃ v, e = .returned (.tuple #[v, .int .i64 0, .int .i64 0]) ∧ Sl w' w'.heap.size 2 v (evsC m)) ∧ Below w3.heap.size w3 w' := hPs.mono fun e w' h => by unfold ParsePost at h; rw [hr] at h; exact h
              have HPM : Hid (printR m = (s, 0)) := Lib.hid (by
                rw [printR_all (fun e he => (hm2 e he).1) (by rw [← hm1, bs_len]; omega), ← hm1])
              have HM2 := Lib.hid hm2
              clear hPs hr hm1 hm2
              go_wp2_with fail
              refine hPs2.mono ?_
              rintro e w4 ⟨⟨vm, rfl, hvm⟩, hb4⟩
              have hb5 := hb3.next hb4
              have hPm := print_any (w := w4) (l := m) ⟨hvm, fun e he => (HM2.out e he).2⟩ (by omega) (HP.out.next hb5)
              rw [HPM.out] at hPm
              dsimp only at hPm
              have hst := str_beq s
              clear hPs2 hvm
              go_wp2_with fail
              refine hPm.mono ?_
              rintro e w5 ⟨rfl, hb6⟩
              have hb7 := hb5.next hb6
              have hAw := awake_any w5 (HP.out.next hb7)
              clear hPm
              go_wp2_with fail
              refine hAw.mono ?_
              rintro e w6 ⟨rfl, hb8⟩
              go_wp2_with fail
              go_ret
              exact ⟨rfl, hb7.next hb8⟩
end P21
end Go.Proofs.YtkobmoabnnjejaaDoor
