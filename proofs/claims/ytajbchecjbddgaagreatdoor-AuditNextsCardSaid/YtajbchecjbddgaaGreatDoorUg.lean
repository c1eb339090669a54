/- Audit: (view).numbers. -/
import Derived.Test.YtajbchecjbddgaaGreatDoorUf
import Derived.Test.YtajbchecjbddgaaGreatDoorU9
namespace Go.Proofs.YtajbchecjbddgaaGreatDoor
open Go.RowKit
namespace P20
open P7

/-- A worker's stack, and its deque. -/
def selL (x : Wk) (j : Nat) : List Int := if j = 0 then x.st else x.dq
theorem sel_num {x : Wk} {n : Nat} : (numL x.st n ∧ numL x.dq n) ↔ ∀ j, j < 2 → numL (selL x j) n := by
  constructor
  · rintro ⟨h1, h2⟩ j hj
    unfold selL
    split
    · exact h1
    · exact h2
  · intro h
    exact ⟨h 0 (by omega), h 1 (by omega)⟩
set_option maxRecDepth 100000 in
set_option maxHeartbeats 8000000 in
theorem numbers_any {w : World} {bv bm : Nat} {vr vs vw : Value} {s : Sh} (hV : Vm w bv bm vr vs vw s) (hf : FewS s) (R : Int) (h1 : numOk s → R = 0) (h2 : ¬ numOk s → R = 10) :
    Calls Tryz.prog 30 #[.pointer (some ⟨bv, 0, none⟩)] w fun e w' => e = .returned (.int .i64 R) ∧ Below w.heap.size w w' := by
  have H1 := Lib.hid h1
  have H2 := Lib.hid h2
  have HV := Lib.hid hV
  have HFW := Lib.hid hf
  obtain ⟨Ar, cr, hvr, -⟩ := rows_open hV.sh.rows.sl
  obtain ⟨Aw, cw, hvw, hncw, hAw⟩ := hV.sh.wks.open_
  have HAW := Lib.hid hAw
  have HVB := Lib.hid hV.vb
  rw [hvr, hvw] at HVB
  have hw20 := hf.ws
  obtain ⟨nr, hnr⟩ := name_of s.l.length
  obtain ⟨nw, hnw⟩ := name_of s.ws.length
  have HNR := Lib.hid hnr
  have HNW := Lib.hid hnw
  rw [hnr, hnw] at HVB
  rw [hnw] at hncw hw20
  have q0 := HVB.out.c0
  have q2 := HVB.out.c2
  clear hAw hV hf hnr hnw hvr hvw h1 h2
  by_cases h16 : 16 < nw
  · have e2 : decide (16 < nw) = true := decide_eq_true h16
    have e2' : decide (16 < (nw : Int)) = true := decide_eq_true (by omega)
    have HR : Hid (10 = R) := Lib.hid (H2.out (fun hs => by have := hs.1; rw [HNW.out] at this; omega)).symm
    clear h16
    go_enter Tryz.func30, Tryz.ntmps30
    go_wp2_with fail
    go_ret
    exact ⟨ret_i HR.out, Below.refl _ _⟩
  have e2 : decide (16 < nw) = false := decide_eq_false h16
  have e2' : decide (16 < (nw : Int)) = false := decide_eq_false (by omega)
  have hw16 : nw ≤ 16 := by omega
  clear h16
  go_enter Tryz.func30, Tryz.ntmps30
  go_wp2_with fail
  go_loopw [22] (fun x wr => ∃ j : Nat, j ≤ nw ∧ x = .int .i64 j ∧ Hid (∀ m, m < j → numL (wA s.ws m).st s.l.length ∧ numL (wA s.ws m).dq s.l.length) ∧ Below w.heap.size w wr) (fun x _ => nw - (intOf x).toNat)
  case atStart => exact ⟨0, Nat.zero_le _, rfl, Lib.hid (fun m hm => by omega), Below.refl _ _⟩
  case round =>
    clear e2 e2' q0 q2
    obtain ⟨j, hj, rfl, hno, hB⟩ := hrel
    by_cases hlt : j < nw
    · obtain ⟨gw, offw, sv, dv, rfl, hgw, d0, d1, d2, d3, hs, hd⟩ := HAW.out j (by rw [HNW.out]; exact hlt)
      have e0 := (hB.cell (p := ⟨gw, _, none⟩) hgw).trans d0
      have e1 := (hB.cell (p := ⟨gw, _, none⟩) hgw).trans d1
      have e2 := (hB.cell (p := ⟨gw, _, none⟩) hgw).trans d2
      have e3 := (hB.cell (p := ⟨gw, _, none⟩) hgw).trans d3
      have hst := HFW.out.st j (by rw [HNW.out]; exact hlt)
      have hdq := HFW.out.dq j (by rw [HNW.out]; exact hlt)
      have hsB := hs.below hB
      have hdB := hd.below hB
      obtain ⟨on, hon⟩ := name_of (wA s.ws j).on
      obtain ⟨pk, hpk⟩ := name_of (wA s.ws j).pk
      rw [hon] at e0
      rw [hpk] at e1
      obtain ⟨As, cs, rfl, -⟩ := ints_open hs
      obtain ⟨Ad, cd, rfl, -⟩ := ints_open hd
      obtain ⟨ns, hns⟩ := name_of (wA s.ws j).st.length
      obtain ⟨nd, hnd⟩ := name_of (wA s.ws j).dq.length
      rw [hns] at e2 hst hsB
      rw [hnd] at e3 hdq hdB
      have HSB := Lib.hid hsB
      have HDB := Lib.hid hdB
      have HNS := Lib.hid hns
      have HND := Lib.hid hnd
      clear d0 d1 d2 d3 hs hd hon hpk hsB hdB hns hnd
      go_wp2_with ((with_reducible (show wpList _ _ _ (Oper.mk _ (Op.store _ _ _) _ _ _ _ :: _) _ _)); refine wpList_store_new rfl 38 38 (.tmp 4) (.tmp 25) rfl _ _ wr.heap.size rfl rfl rfl (by kernel_rfl) rfl (by kernel_rfl) ?_)
      have hb2 : Below wr.heap.size wr ((wr.alloc (.cells #[.bool on, .bool pk, .slice As ns cs, .slice Ad nd cd] 38)).alloc (.cells #[.slice As ns cs, .slice Ad nd cd] 36)) := ((Below.refl _ _).alloc (Nat.le_refl _) _).alloc (by simp) _
      have hBV : Below w.heap.size w ((wr.alloc (.cells #[.bool on, .bool pk, .slice As ns cs, .slice Ad nd cd] 38)).alloc (.cells #[.slice As ns cs, .slice Ad nd cd] 36)) := hB.next hb2
      have hkeep : Below w.heap.size wr ((wr.alloc (.cells #[.bool on, .bool pk, .slice As ns cs, .slice Ad nd cd] 38)).alloc (.cells #[.slice As ns cs, .slice Ad nd cd] 36)) := hb2.mono hB.size
      have hblk := heap_alloc_last (wr.alloc (.cells #[.bool on, .bool pk, .slice As ns cs, .slice Ad nd cd] 38)) (.cells #[.slice As ns cs, .slice Ad nd cd] 36)
      rw [World.size_alloc] at hblk
      have hsel : ∀ m, m < 2 → ∃ Am nm cm, (((wr.alloc (.cells #[.bool on, .bool pk, .slice As ns cs, .slice Ad nd cd] 38)).alloc (.cells #[.slice As ns cs, .slice Ad nd cd] 36))).cell? ⟨wr.heap.size + 1, m, none⟩ = some (.slice Am nm cm) ∧ Sl (((wr.alloc (.cells #[.bool on, .bool pk, .slice As ns cs, .slice Ad nd cd] 38)).alloc (.cells #[.slice As ns cs, .slice Ad nd cd] 36))) w.heap.size 1 (.slice Am nm cm) (iv (selL (wA s.ws j) m)) ∧ (selL (wA s.ws j) m).length = nm ∧ nm ≤ 60 := fun m hm => by
        by_cases e : m = 0
        · subst e
          exact ⟨As, ns, cs, by rw [cell_of_row _ _ _ _ _ _ hblk]; rfl, HSB.out.below hkeep, HNS.out, hst⟩
        · obtain rfl : m = 1 := by omega
          exact ⟨Ad, nd, cd, by rw [cell_of_row _ _ _ _ _ _ hblk]; rfl, HDB.out.below hkeep, HND.out, hdq⟩
      have hvb := HVB.out.next (hB.next hb2)
      have q0 := hvb.c0
      have HSEL := Lib.hid hsel
      have HBV := Lib.hid hBV
      obtain ⟨V, hV⟩ := name_of ((wr.alloc (.cells #[.bool on, .bool pk, .slice As ns cs, .slice Ad nd cd] 38)).alloc (.cells #[.slice As ns cs, .slice Ad nd cd] 36))
      rw [hV] at q0 HSEL HBV ⊢
      clear hV hb2 hBV hkeep hblk hsel hvb e0 e1 e2 e3 hst hdq HSB HDB HNS HND
      go_loop [32] (fun x => ∃ q : Nat, q ≤ 2 ∧ x = .int .i64 q ∧ Hid (∀ m, m < q → numL (selL (wA s.ws j) m) s.l.length)) (fun x => 2 - (intOf x).toNat)
      case atStart => exact ⟨0, Nat.zero_le _, rfl, Lib.hid (fun m hm => by omega)⟩
      case round =>
        obtain ⟨q, hq, rfl, hnq⟩ := hrel
        by_cases hq2 : q < 2
        · obtain ⟨Am, nm, cm, hcm, hSm, hnm, hm60⟩ := HSEL.out q hq2
          obtain ⟨A', c', hAe, -, hAm⟩ := ints_open hSm
          rw [hnm] at hAe hAm
          injection hAe with ea _ ec
          subst ea ec
          have HAM := Lib.hid hAm
          have HNM := Lib.hid hnm
          have hqI : (q : Int) < 2 := by omega
          clear hSm hAm hnm
          go_wp2_with fail
          go_loop [38] (fun x => ∃ p : Nat, p ≤ nm ∧ x = .int .i64 p ∧ Hid (∀ m, m < p → 0 ≤ (selL (wA s.ws j) q).getD m 0 ∧ (selL (wA s.ws j) q).getD m 0 < s.l.length)) (fun x => nm - (intOf x).toNat)
          case atStart => exact ⟨0, Nat.zero_le _, rfl, Lib.hid (fun m hm => by omega)⟩
          case round =>
            obtain ⟨p, hp, rfl, hnp⟩ := hrel
            by_cases hpl : p < nm
            · obtain ⟨b', off, rfl, hb', c0⟩ := HAM.out p hpl
              obtain ⟨y, hy⟩ := name_of ((selL (wA s.ws j) q).getD p 0)
              rw [hy] at c0
              have HY := Lib.hid hy
              have HBAD : Hid (¬ (0 ≤ y ∧ y < s.l.length) → 10 = R) := Lib.hid (fun hno => (H2.out (fun hs => hno (by
                have h3 := sel_num.1 (numW.1 hs.2 j (by rw [HNW.out]; exact hlt)) q hq2
                have := numL_all.1 h3 p (by rw [HNM.out]; exact hpl)
                rwa [HY.out] at this))).symm)
              clear hy
              by_cases g1 : y < 0
              · have f1 : decide (y < 0) = true := decide_eq_true g1
                have HR : Hid (10 = R) := Lib.hid (HBAD.out (by omega))
                clear g1
                go_wp2_with fail
                go_ret
                exact ⟨ret_i HR.out, HBV.out⟩
              · have f1 : decide (y < 0) = false := decide_eq_false g1
                by_cases g2 : (nr : Int) ≤ y
                · have f2 : decide ((nr : Int) ≤ y) = true := decide_eq_true g2
                  have HR : Hid (10 = R) := Lib.hid (HBAD.out (by rw [HNR.out]; omega))
                  clear g1 g2
                  go_wp2_with fail
                  go_ret
                  exact ⟨ret_i HR.out, HBV.out⟩
                · have f2 : decide ((nr : Int) ≤ y) = false := decide_eq_false g2
                  have HR : Hid (∀ m, m < p + 1 → 0 ≤ (selL (wA s.ws j) q).getD m 0 ∧ (selL (wA s.ws j) q).getD m 0 < s.l.length) := Lib.hid fun m hm => by
                    by_cases e : m = p
                    · rw [e, HY.out, HNR.out]; omega
                    · exact hnp.out m (by omega)
                  clear g1 g2
                  go_wp2_with fail
                  exact ⟨⟨p + 1, by omega, by go_num, HR⟩, by simp [intOf]; omega⟩
            · obtain rfl : p = nm := by omega
              have HR : Hid (∀ m, m < q + 1 → numL (selL (wA s.ws j) m) s.l.length) := Lib.hid fun m hm => by
                by_cases e : m = q
                · rw [e]; exact numL_all.2 (by rw [HNM.out]; exact hnp.out)
                · exact hnq.out m (by omega)
              go_wp2_with fail
              exact ⟨⟨q + 1, by omega, by go_num, HR⟩, by simp [intOf]; omega⟩
        · obtain rfl : q = 2 := by omega
          have HR : Hid (∀ m, m < j + 1 → numL (wA s.ws m).st s.l.length ∧ numL (wA s.ws m).dq s.l.length) := Lib.hid fun m hm => by
            by_cases e : m = j
            · rw [e]; exact sel_num.2 hnq.out
            · exact hno.out m (by omega)
          go_wp2_with fail
          exact ⟨⟨j + 1, by omega, by go_num, HR, HBV.out⟩, by simp [intOf]; omega⟩
    · obtain rfl : j = nw := by omega
      have HR : Hid (0 = R) := Lib.hid (H1.out ⟨by rw [HNW.out]; exact hw16, numW.2 (by rw [HNW.out]; exact hno.out)⟩).symm
      go_wp2_with fail
      go_ret
      exact ⟨ret_i HR.out, hB⟩
end P20
end Go.Proofs.YtajbchecjbddgaaGreatDoor
