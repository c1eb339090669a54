/- Walk: ScriptWindow. -/
import Derived.Test.YtkobmoabnnjejaaDoorS16
namespace Go.Proofs.YtkobmoabnnjejaaDoor
open Go.RowKit
namespace P21
open PC

theorem allT_less {P : List Int} {n : Nat} (h : P.length < n) : allT P n = false := by unfold allT; rw [decide_eq_false (by omega)]; rfl
theorem allT_miss {P : List Int} {n k : Nat} (hk : k < n) (h : (k : Int) ∉ P) : allT P n = false := by
  cases hc : allT P n with
  | false => rfl
  | true => exact absurd ((allT_iff _ _).1 hc k hk) h
theorem zv_sub {w : World} {B b off n c : Nat} {P : List Int} (h : Sl w B 1 (.slice (some ⟨b, off, none⟩) n c) (zv P)) (k m c' : Nat) (hkm : k + m ≤ n) (hm : m ≤ c') :
    Sl w B 1 (.slice (some ⟨b, off + k, none⟩) m c') (zv ((P.drop k).take m)) := by
  have := Sl_part h k m c' hkm hm
  rwa [Nat.mul_one, Nat.mul_one, zv_part] at this
/-- What Window answers where it answers 0, as the law meets it. -/
theorem window_zero {w : World} {v : Value} {l : List Ev} (hE : Evs w v l) (hm : l.length ≤ 100) (n : Nat) (hn : 1 ≤ n) (h : allT (pk l) n = false) :
    Calls Tryd.prog 19 #[v, .int .i64 n] w fun e w' => e = .returned (.int .i64 0) ∧ Below w.heap.size w w' := by
  by_cases hl : n ≤ l.length
  · have hW := window_some hE (by omega) n hn hl
    have e0 : windowT l n = 0 := by
      rw [windowT_winP _ _ hn hl, picks_all]
      rcases window_law n hn (pk l) with ⟨e, _⟩ | ⟨g, _, _, _, hall, _⟩
      · exact e
      · rw [(allT_iff _ _).2 hall] at h; cases h
    rw [e0] at hW
    exact hW
  · exact window_none hE n (.inr (by omega))
/-- What some window of one pick less lacks, among the first so many. -/
def Lack (P : List Int) (n g k : Nat) : Prop := ∃ j, j < k ∧ j + g ≤ P.length + 1 ∧ allT ((P.drop j).take (g - 1)) n = false
theorem lack_succ {P : List Int} {n g k : Nat} (h : Lack P n g k) : Lack P n g (k + 1) := by
  obtain ⟨j, h1, h2⟩ := h
  exact ⟨j, by omega, h2⟩
theorem lack_same {P : List Int} {n g k : Nat} (h : ¬ (k + g ≤ P.length + 1 ∧ allT ((P.drop k).take (g - 1)) n = false)) : Lack P n g (k + 1) ↔ Lack P n g k := by
  constructor
  · rintro ⟨j, h1, h2⟩
    by_cases e : j = k
    · subst e; exact absurd h2 h
    · exact ⟨j, by omega, h2⟩
  · exact lack_succ
def WnR (P : List Int) (N g q : Nat) (so i : Value) : Prop := ∃ (k : Nat) (bs : Bool), k ≤ q ∧ i = .int .i64 k ∧ so = .bool bs ∧ (bs = true ↔ Lack P N g k)
set_option maxRecDepth 10000 in
set_option maxHeartbeats 8000000 in
theorem scriptWindow_any {w : World} {v : Value} {l : List Ev} (hE : Evs w v l) (hp : Lab w) (n : Int) :
    Calls Tryd.prog 6 #[v, .int .i64 n] w fun e w' => e = .returned (.bool true) ∧ Below w.heap.size w w' := by
  have HE := Lib.hid hE
  have HP := Lib.hid hp
  obtain ⟨A, c, rfl, hnc, -⟩ := evs_open hE.sl
  obtain ⟨m, hm⟩ := name_of l.length
  rw [hm] at hnc HE ⊢
  have HM := Lib.hid hm
  clear hE hp hm
  by_cases hbig : 100 < m
  · have f1 : decide (100 < (m : Int)) = true := by simp; omega
    have hAw := awake_any w HP.out
    go_enter Tryd.func6, Tryd.ntmps6
    go_wp2_with fail
    refine hAw.mono ?_
    rintro e w1 ⟨rfl, hb1⟩
    go_wp2_with fail
    go_ret
    exact ⟨rfl, hb1⟩
  · have f1 : decide (100 < (m : Int)) = false := by simp; omega
    have hm100 : m ≤ 100 := by omega
    have hPk := fun W (hW : Below w.heap.size w W) => picks_any (HE.out.next hW) (by rw [HM.out]; omega)
    have hpl : (pk l).length ≤ 100 := by have := pk_len l; rw [HM.out] at this; omega
    clear hbig
    by_cases hn1 : n < 1
    · have f2 : decide (n < 1) = true := by simpa using hn1
      have hWn := window_none HE.out n (.inl hn1)
      clear hn1
      go_enter Tryd.func6, Tryd.ntmps6
      go_wp2_with fail
      refine hWn.mono ?_
      rintro e w1 ⟨rfl, hb1⟩
      have hP1 := hPk w1 hb1
      clear hWn hPk
      go_wp2_with fail
      refine hP1.mono ?_
      rintro e w2 ⟨⟨vp, rfl, -⟩, hb2⟩
      have hb := hb1.next hb2
      have hAw := awake_any w2 (HP.out.next hb)
      clear hP1
      go_wp2_with fail
      refine hAw.mono ?_
      rintro e w3 ⟨rfl, hb3⟩
      go_wp2_with fail
      go_ret
      exact ⟨rfl, hb.next hb3⟩
    · obtain ⟨N, rfl⟩ := Int.eq_ofNat_of_zero_le (show 0 ≤ n by omega)
      have hN1 : 1 ≤ N := by omega
      have f2 : decide ((N : Int) < 1) = false := by simp; omega
      clear hn1
      cases hall : allT (pk l) N with
      | false =>
        have hWn := window_zero HE.out (by rw [HM.out]; omega) N hN1 hall
        have HALL := Lib.hid hall
        clear hall
        go_enter Tryd.func6, Tryd.ntmps6
        go_wp2_with fail
        refine hWn.mono ?_
        rintro e w1 ⟨rfl, hb1⟩
        have hP1 := hPk w1 hb1
        clear hWn hPk
        go_wp2_with fail
        refine hP1.mono ?_
        rintro e w2 ⟨⟨vp, rfl, hvp⟩, hb2⟩
        have hb := hb1.next hb2
        have hAl := all_any hvp (by omega) N
        rw [HALL.out] at hAl
        clear hP1 hvp
        go_wp2_with fail
        refine hAl.mono ?_
        rintro e w3 ⟨rfl, rfl⟩
        have hAw := awake_any w3 (HP.out.next hb)
        clear hAl
        go_wp2_with fail
        refine hAw.mono ?_
        rintro e w4 ⟨rfl, hb4⟩
        go_wp2_with fail
        go_ret
        exact ⟨rfl, hb.next hb4⟩
      | true =>
        have hNm : N ≤ m := by
          have h1 := pigeon N _ ((allT_iff _ _).1 hall)
          have h2 := pk_len l
          rw [HM.out] at h2
          omega
        have hWs := window_some HE.out (by rw [HM.out]; omega) N hN1 (by rw [HM.out]; exact hNm)
        rw [windowT_winP _ _ hN1 (by rw [HM.out]; exact hNm), picks_all] at hWs
        obtain ⟨g, hg, hg1, hgm, hhits, a, ha, hag, hmiss⟩ : ∃ g : Nat, winP N (pk l) = g ∧ 1 ≤ g ∧ g ≤ (pk l).length ∧ Hits (pk l) N g ∧ ∃ a, a < (pk l).length ∧ a + g ≤ (pk l).length + 1 ∧ (g = 1 ∨ ∃ k, k < N ∧ ∀ j, a ≤ j → j + 1 < a + g → (pk l)[j]? ≠ some (k : Int)) := by
          rcases window_law N hN1 (pk l) with ⟨_, k, hk, h⟩ | ⟨g, h1, h2, h3, _, h5, h6⟩
          · exact absurd ((allT_iff _ _).1 hall k hk) h
          · exact ⟨g, h1, h2, h3, h5, h6⟩
        rw [hg] at hWs
        obtain ⟨P, hP⟩ := name_of (pk l)
        simp only [hP] at hPk hpl hgm hhits ha hag hmiss hall
        have HPP := Lib.hid hP
        have HMISS : Hid (Lack P N g P.length) := Lib.hid ⟨a, ha, hag, miss_part hN1 hmiss⟩
        have HHIT : Hid (∀ i, i + g ≤ P.length → allT ((P.drop i).take g) N = true) := Lib.hid (fun i hi => hits_part hhits hi)
        have HALL := Lib.hid hall
        clear hg hP hmiss hag ha a hhits hall
        obtain ⟨q, hq⟩ := name_of P.length
        have HQ := Lib.hid hq
        rw [hq] at hpl hgm
        clear hq
        go_enter Tryd.func6, Tryd.ntmps6
        go_wp2_with fail
        refine hWs.mono ?_
        rintro e w1 ⟨rfl, hb1⟩
        have hP1 := hPk w1 hb1
        clear hWs hPk
        go_wp2_with fail
        refine hP1.mono ?_
        rintro e w2 ⟨⟨vp, rfl, hvp⟩, hb2⟩
        have hb := hb1.next hb2
        rw [HPP.out] at hvp
        have hAl := all_any hvp (by rw [HQ.out]; omega) N
        rw [HALL.out] at hAl
        obtain ⟨A', c', rfl, hqc, hA'⟩ := zv_open hvp
        rw [HQ.out] at hAl hqc hvp
        obtain ⟨b, off, rfl, -, -⟩ := hA' 0 (by rw [HQ.out]; omega)
        have HVP := Lib.hid hvp
        clear hP1 hvp hA'
        rw [HQ.out]
        go_wp2_with fail
        refine hAl.mono ?_
        rintro e w3 ⟨rfl, rfl⟩
        have hg0 : decide ((g : Int) < 1) = false := by simp; omega
        have hqg : decide (q < g) = false := by simp; omega
        clear hAl
        go_wp2_with fail
        go_loop [4, 7, 8] (fun _ so i => WnR P N g q so i) (fun _ _ i => q - (intOf i).toNat)
        case atStart => exact ⟨0, false, Nat.zero_le _, rfl, rfl, ⟨(fun h => by cases h), (fun ⟨j, h, _⟩ => by omega)⟩⟩
        case round =>
          obtain ⟨k, bs, hk, rfl, rfl, hbs⟩ := hrel
          have HBS := Lib.hid hbs
          clear hbs
          by_cases hlt : k < q
          · by_cases hA1 : k + g ≤ q
            · have hA1v := all_any (zv_sub HVP.out k g (c' - k) hA1 (by omega)) (by rw [List.length_take]; omega) N
              rw [HHIT.out k (by rw [HQ.out]; exact hA1)] at hA1v
              have hA2v : Calls Tryd.prog 21 #[.slice (some ⟨b, off + k, none⟩) (k + g - 1 - k) (c' - k), .int .i64 N] w3 fun e w' => e = .returned (.bool (allT ((P.drop k).take (g - 1)) N)) ∧ w' = w3 := by rw [show k + g - 1 - k = g - 1 by omega]; exact all_any (zv_sub HVP.out k (g - 1) (c' - k) (by omega) (by omega)) (by rw [List.length_take]; omega) N
              have HIT : Hid (allT ((P.drop k).take (g - 1)) N = false → Lack P N g (k + 1)) := Lib.hid (fun h => ⟨k, by omega, by rw [HQ.out]; omega, h⟩)
              have HSAME : Hid (allT ((P.drop k).take (g - 1)) N = true → (Lack P N g (k + 1) ↔ Lack P N g k)) := Lib.hid (fun h => lack_same (fun e => by rw [h] at e; cases e.2))
              go_wp2_with fail
              refine hA1v.mono ?_
              rintro e w4 ⟨rfl, rfl⟩
              clear hA1v
              cases hb2 : allT ((P.drop k).take (g - 1)) N with
              | true =>
                rw [hb2] at hA2v
                have HX := Lib.hid (HSAME.out hb2)
                clear hb2
                go_wp2_with fail
                refine hA2v.mono ?_
                rintro e w5 ⟨rfl, rfl⟩
                go_wp2_with fail
                exact ⟨⟨k + 1, bs, by omega, by go_num, rfl, HBS.out.trans HX.out.symm⟩, by simp [intOf]; omega⟩
              | false =>
                rw [hb2] at hA2v
                have HX := Lib.hid (HIT.out hb2)
                clear hb2
                go_wp2_with fail
                refine hA2v.mono ?_
                rintro e w5 ⟨rfl, rfl⟩
                go_wp2_with fail
                exact ⟨⟨k + 1, true, by omega, by go_num, rfl, ⟨fun _ => HX.out, fun _ => rfl⟩⟩, by simp [intOf]; omega⟩
            · by_cases hA2 : k + g ≤ q + 1
              · have hA2v : Calls Tryd.prog 21 #[.slice (some ⟨b, off + k, none⟩) (k + g - 1 - k) (c' - k), .int .i64 N] w3 fun e w' => e = .returned (.bool (allT ((P.drop k).take (g - 1)) N)) ∧ w' = w3 := by rw [show k + g - 1 - k = g - 1 by omega]; exact all_any (zv_sub HVP.out k (g - 1) (c' - k) (by omega) (by omega)) (by rw [List.length_take]; omega) N
                have HIT : Hid (allT ((P.drop k).take (g - 1)) N = false → Lack P N g (k + 1)) := Lib.hid (fun h => ⟨k, by omega, by rw [HQ.out]; omega, h⟩)
                have HSAME : Hid (allT ((P.drop k).take (g - 1)) N = true → (Lack P N g (k + 1) ↔ Lack P N g k)) := Lib.hid (fun h => lack_same (fun e => by rw [h] at e; cases e.2))
                cases hb2 : allT ((P.drop k).take (g - 1)) N with
                | true =>
                  rw [hb2] at hA2v
                  have HX := Lib.hid (HSAME.out hb2)
                  clear hb2
                  go_wp2_with fail
                  refine hA2v.mono ?_
                  rintro e w5 ⟨rfl, rfl⟩
                  go_wp2_with fail
                  exact ⟨⟨k + 1, bs, by omega, by go_num, rfl, HBS.out.trans HX.out.symm⟩, by simp [intOf]; omega⟩
                | false =>
                  rw [hb2] at hA2v
                  have HX := Lib.hid (HIT.out hb2)
                  clear hb2
                  go_wp2_with fail
                  refine hA2v.mono ?_
                  rintro e w5 ⟨rfl, rfl⟩
                  go_wp2_with fail
                  exact ⟨⟨k + 1, true, by omega, by go_num, rfl, ⟨fun _ => HX.out, fun _ => rfl⟩⟩, by simp [intOf]; omega⟩
              · have HX : Hid (Lack P N g (k + 1) ↔ Lack P N g k) := Lib.hid (lack_same (fun e => by rw [HQ.out] at e; omega))
                go_wp2_with fail
                exact ⟨⟨k + 1, bs, by omega, by go_num, rfl, HBS.out.trans HX.out.symm⟩, by simp [intOf]; omega⟩
          · obtain rfl : k = q := by omega
            obtain rfl : bs = true := HBS.out.2 (by have := HMISS.out; rwa [HQ.out] at this)
            have hAw := awake_any w3 (HP.out.next hb)
            go_wp2_with fail
            refine hAw.mono ?_
            rintro e w4 ⟨rfl, hb4⟩
            go_wp2_with fail
            go_ret
            exact ⟨rfl, hb.next hb4⟩
end P21
end Go.Proofs.YtkobmoabnnjejaaDoor
