/- Audit: spoil. -/
import Derived.Test.YtajbchecjbddgaaDoorVl
namespace Go.Proofs.YtajbchecjbddgaaDoor
open Go.RowKit
namespace P20
open P7

theorem Spl.box {base hi b : Nat} {V W : World} {o : Obj} (h : Spl base hi V W) (hg : V.heap[b]? = some o) (hb : hi ≤ b) : W.heap[b]? = some o := (h.out b (lt_of_block hg) (.inr hb)).trans hg
theorem Spl.from {base hi : Nat} {w V W : World} (hb : Below w.heap.size w V) (h : Spl base hi V W) (hl : base ≤ w.heap.size) : Spl base hi w W where
  out k hk hc := (h.out k (Nat.lt_of_lt_of_le hk hb.size) hc).trans (hb.block k hk)
  shape k cur t hc := h.shape k cur t (blk_next hc hb)
  wk k cur fr hc := h.wk k cur fr (blk_next hc hb)
  low := (Below.mono hb hl).trans h.low
set_option maxRecDepth 100000 in
set_option maxHeartbeats 16000000 in
theorem spoil_any {v w : World} {base : Nat} {vr vs vw : Value} {s : Sh} (hA : OwnS base v vr vs vw s) (hf : FewS s) (hk : ∀ k, base ≤ k → k < v.heap.size → w.heap[k]? = v.heap[k]?) (hsz : v.heap.size ≤ w.heap.size) (hbs : base ≤ v.heap.size) :
    Calls Tryd.prog 23 #[.agg #[vr, vs, vw]] w fun e w' => e = .returned (.tuple #[]) ∧ Spl base v.heap.size w w' := by
  have hbV := (Below.refl w.heap.size w).alloc (Nat.le_refl _) (.cells #[vr, vs, vw] 31)
  have hgV := heap_alloc_last w (.cells #[vr, vs, vw] 31)
  obtain ⟨V, hV⟩ := name_of (w.alloc (.cells #[vr, vs, vw] 31))
  rw [hV] at hbV hgV
  have hkV : ∀ k, base ≤ k → k < v.heap.size → V.heap[k]? = v.heap[k]? := fun k h1 h2 => (hbV.block k (by omega)).trans (hk k h1 h2)
  obtain ⟨Ar, cr, rfl, hAr⟩ := own_there hA.rows hkV
  obtain ⟨As, cs, rfl, hAs⟩ := own_there hA.scs hkV
  obtain ⟨cv, hcl, hwk, hcv⟩ := hA.wks
  obtain ⟨Aw, cw, rfl, hAw⟩ := own_there hwk hkV
  have hl40 := hf.l
  have hs60 := hf.sc
  have hw20 := hf.ws
  have hWK : ∀ k, k < s.ws.length → ∃ g off cur sa sn sc da dn dc, Aw = some ⟨g, off, none⟩ ∧ V.heap[g]? = some (.cells cur 56 (0, 0)) ∧ sn ≤ 60 ∧ dn ≤ 60 ∧
      V.cell? ⟨g, off + k * 4 + 2, none⟩ = some (.slice sa sn sc) ∧ V.cell? ⟨g, off + k * 4 + 3, none⟩ = some (.slice da dn dc) ∧
      (0 < sn → ∃ g off cur, sa = some ⟨g, off, none⟩ ∧ off = 0 ∧ base ≤ g ∧ g < v.heap.size ∧ V.heap[g]? = some (.cells cur 3 (0, 0)) ∧ sn * 1 ≤ cur.size) ∧
      (0 < dn → ∃ g off cur, da = some ⟨g, off, none⟩ ∧ off = 0 ∧ base ≤ g ∧ g < v.heap.size ∧ V.heap[g]? = some (.cells cur 3 (0, 0)) ∧ dn * 1 ≤ cur.size) := by
    intro k hk'
    obtain ⟨g, off, cur, e1, e2, h1, h2, h3, h4, h5⟩ := hAw (by omega)
    have hkc : k < cv.length := by omega
    obtain ⟨o1, o2⟩ := hcv k hk' cv[k] (List.getElem?_eq_getElem hkc)
    obtain ⟨sa, sc, hs1, hs2⟩ := own_there o1 hkV
    obtain ⟨da, dc, hd1, hd2⟩ := own_there o2 hkV
    have hz : (s.ws.zip cv)[k]? = some (s.ws[k], cv[k]) := by rw [List.getElem?_eq_getElem (by rw [List.length_zip]; omega), List.getElem_zip]
    have hg : ∀ j, j < 4 → ((s.ws.zip cv).flatMap wkC)[k * 4 + j]? = (wkC (s.ws[k], cv[k]))[j]? := fun j hj => by
      rw [flat_get wkC 4 wkC_length _ k j hj, hz]; rfl
    have f1 := hf.st k hk'
    have f2 := hf.dq k hk'
    rw [wA_eq hk'] at f1 f2
    refine ⟨g, off, cur, sa, _, sc, da, _, dc, e1, h3, f1, f2, ?_, ?_, fun h0 => ?_, fun h0 => ?_⟩
    · rw [e2, Nat.zero_add]
      refine h5 _ _ ((hg 2 (by omega)).trans ?_)
      show some cv[k].1 = _
      rw [hs1]
    · rw [e2, Nat.zero_add]
      refine h5 _ _ ((hg 3 (by omega)).trans ?_)
      show some cv[k].2 = _
      rw [hd1]
    · obtain ⟨g, off, cur, q1, q2, q3, q4, q5, q6, -⟩ := hs2 h0
      exact ⟨g, off, cur, q1, q2, q3, q4, q5, q6⟩
    · obtain ⟨g, off, cur, q1, q2, q3, q4, q5, q6, -⟩ := hd2 h0
      exact ⟨g, off, cur, q1, q2, q3, q4, q5, q6⟩
  obtain ⟨nr, hnr⟩ := name_of s.l.length
  obtain ⟨ns, hns⟩ := name_of s.sc.length
  obtain ⟨nw, hnw⟩ := name_of s.ws.length
  rw [hnr] at hAr hgV hV hl40 ⊢
  rw [hns] at hAs hgV hV hs60 ⊢
  rw [hnw] at hWK hgV hV hw20 ⊢
  obtain ⟨hi, hhi⟩ := name_of v.heap.size
  rw [hhi] at hAr hAs hWK hsz hbs ⊢
  have HAR := Lib.hid hAr
  have HAS := Lib.hid hAs
  have HWK := Lib.hid hWK
  have HGV := Lib.hid hgV
  have HBV := Lib.hid hbV
  have hbw : base ≤ w.heap.size := Nat.le_trans hbs hsz
  have hbV2 : base ≤ V.heap.size := Nat.le_trans hbw hbV.size
  have HBX : Hid (∀ W, Spl base hi V W → W.cell? ⟨w.heap.size, 0, none⟩ = some (.slice Ar nr cr) ∧ W.cell? ⟨w.heap.size, 1, none⟩ = some (.slice As ns cs) ∧ W.cell? ⟨w.heap.size, 2, none⟩ = some (.slice Aw nw cw)) := Lib.hid fun W hW => by
    have h := hW.box hgV hsz
    exact ⟨(cell_of_row _ _ _ _ _ _ h).trans rfl, (cell_of_row _ _ _ _ _ _ h).trans rfl, (cell_of_row _ _ _ _ _ _ h).trans rfl⟩
  have hS0 : Spl base hi V V := Spl.refl
  clear hA hf hk hkV hwk hcv hAw hAr hAs hWK hcl hnr hns hnw hhi hgV hbV
  go_enter Tryd.func23, Tryd.ntmps23
  go_wp2_with fail
  clear hV
  go_loopw [2] (fun x wr => ∃ i : Nat, i ≤ nr ∧ x = .int .i64 i ∧ Spl base hi V wr) (fun x _ => nr - (intOf x).toNat)
  case atStart => exact ⟨0, Nat.zero_le _, rfl, hS0⟩
  case round =>
    clear hS0
    obtain ⟨i, hil, rfl, hS⟩ := hrel
    obtain ⟨x0, x1, x2⟩ := HBX.out _ hS
    by_cases hlt : i < nr
    · obtain ⟨g, off, cur, rfl, e0, h1, h2, h3, h4, -⟩ := HAR.out (by omega)
      obtain ⟨cur', h5, h6⟩ := hS.cell h3 h4
      obtain ⟨⟨u, c0⟩, z0⟩ := h6 (i * 7 + 3) (by omega)
      have c1 : wr.cell? ⟨g, off + i * 7 + 3, none⟩ = some u := by rw [e0, Nat.zero_add]; exact c0
      have z1 : wr.frozen? ⟨g, off + i * 7 + 3, none⟩ = false := by rw [e0, Nat.zero_add]; exact z0
      clear c0 z0 h6 h4 h3 e0
      go_wp2_with fail
      exact ⟨⟨i + 1, by omega, by go_num, hS.store h5 (by decide) h1 h2 _⟩, by simp [intOf]; omega⟩
    · obtain rfl : i = nr := by omega
      clear hlt hil
      go_wp2_with fail
      go_loopw [3] (fun x wr => ∃ j : Nat, j ≤ ns ∧ x = .int .i64 j ∧ Spl base hi V wr) (fun x _ => ns - (intOf x).toNat)
      case atStart => exact ⟨0, Nat.zero_le _, rfl, hS⟩
      case round =>
        clear x0 x1 x2 hS
        obtain ⟨j, hjl, rfl, hS⟩ := hrel
        obtain ⟨x0, x1, x2⟩ := HBX.out _ hS
        by_cases hlt : j < ns
        · obtain ⟨g, off, cur, rfl, e0, h1, h2, h3, h4, -⟩ := HAS.out (by omega)
          obtain ⟨cur', h5, h6⟩ := hS.cell h3 h4
          obtain ⟨⟨u, c0⟩, z0⟩ := h6 (j * 6 + 5) (by omega)
          have c1 : wr.cell? ⟨g, off + j * 6 + 5, none⟩ = some u := by rw [e0, Nat.zero_add]; exact c0
          have z1 : wr.frozen? ⟨g, off + j * 6 + 5, none⟩ = false := by rw [e0, Nat.zero_add]; exact z0
          clear c0 z0 h6 h4 h3 e0
          go_wp2_with fail
          exact ⟨⟨j + 1, by omega, by go_num, hS.store h5 (by decide) h1 h2 _⟩, by simp [intOf]; omega⟩
        · obtain rfl : j = ns := by omega
          clear hlt hjl
          go_wp2_with fail
          go_loopw [4] (fun x wr => ∃ k : Nat, k ≤ nw ∧ x = .int .i64 k ∧ Spl base hi V wr) (fun x _ => nw - (intOf x).toNat)
          case atStart => exact ⟨0, Nat.zero_le _, rfl, hS⟩
          case round =>
            clear x0 x1 x2 hS
            obtain ⟨k, hkl, rfl, hS⟩ := hrel
            obtain ⟨x0, x1, x2⟩ := HBX.out _ hS
            by_cases hlt : k < nw
            · obtain ⟨g, off, cur, sa, sn, sc, da, dn, dc, rfl, hw0, hsn, hdn, hw1, hw2, hst, hdq⟩ := HWK.out k hlt
              have HWC : Hid (∀ W, Spl base hi V W → W.cell? ⟨g, off + k * 4 + 2, none⟩ = some (.slice sa sn sc) ∧ W.cell? ⟨g, off + k * 4 + 3, none⟩ = some (.slice da dn dc)) := Lib.hid fun W hW => by
                have h := hW.wk g cur (0, 0) hw0
                rw [cell_of_row _ _ _ _ _ _ h, cell_of_row _ _ _ _ _ _ h, ← cell_of_row _ _ _ _ _ _ hw0, ← cell_of_row _ _ _ _ _ _ hw0]
                exact ⟨hw1, hw2⟩
              have HST := Lib.hid hst
              have HDQ := Lib.hid hdq
              clear hw0 hw1 hw2 hst hdq
              go_wp2_with fail
              go_loopw [5] (fun x wr => ∃ p : Nat, p ≤ sn ∧ x = .int .i64 p ∧ Spl base hi V wr) (fun x _ => sn - (intOf x).toNat)
              case atStart => exact ⟨0, Nat.zero_le _, rfl, hS⟩
              case round =>
                clear x0 x1 x2 hS
                try clear y0 y1
                obtain ⟨p, hql, rfl, hS⟩ := hrel
                obtain ⟨x0, x1, x2⟩ := HBX.out _ hS
                obtain ⟨y0, y1⟩ := HWC.out _ hS
                by_cases hltq : p < sn
                · obtain ⟨ga, offa, cura, rfl, e0, h1, h2, h3, h4⟩ := HST.out (by omega)
                  obtain ⟨cur', h5, h6⟩ := hS.cell h3 h4
                  obtain ⟨⟨u, c0⟩, z0⟩ := h6 p (by omega)
                  have c1 : wr.cell? ⟨ga, offa + p, none⟩ = some u := by rw [e0, Nat.zero_add]; exact c0
                  have z1 : wr.frozen? ⟨ga, offa + p, none⟩ = false := by rw [e0, Nat.zero_add]; exact z0
                  clear c0 z0 h6 h4 h3 e0
                  go_wp2_with fail
                  exact ⟨⟨p + 1, by omega, by go_num, hS.store h5 (by decide) h1 h2 _⟩, by simp [intOf]; omega⟩
                · obtain rfl : p = sn := by omega
                  clear hltq hql
                  go_wp2_with fail
                  go_loopw [6] (fun x wr => ∃ q : Nat, q ≤ dn ∧ x = .int .i64 q ∧ Spl base hi V wr) (fun x _ => dn - (intOf x).toNat)
                  case atStart => exact ⟨0, Nat.zero_le _, rfl, hS⟩
                  case round =>
                    clear x0 x1 x2 hS
                    try clear y0 y1
                    obtain ⟨q, hql, rfl, hS⟩ := hrel
                    obtain ⟨x0, x1, x2⟩ := HBX.out _ hS
                    obtain ⟨y0, y1⟩ := HWC.out _ hS
                    by_cases hltq : q < dn
                    · obtain ⟨ga, offa, cura, rfl, e0, h1, h2, h3, h4⟩ := HDQ.out (by omega)
                      obtain ⟨cur', h5, h6⟩ := hS.cell h3 h4
                      obtain ⟨⟨u, c0⟩, z0⟩ := h6 q (by omega)
                      have c1 : wr.cell? ⟨ga, offa + q, none⟩ = some u := by rw [e0, Nat.zero_add]; exact c0
                      have z1 : wr.frozen? ⟨ga, offa + q, none⟩ = false := by rw [e0, Nat.zero_add]; exact z0
                      clear c0 z0 h6 h4 h3 e0
                      go_wp2_with fail
                      exact ⟨⟨q + 1, by omega, by go_num, hS.store h5 (by decide) h1 h2 _⟩, by simp [intOf]; omega⟩
                    · obtain rfl : q = dn := by omega
                      clear hltq hql
                      go_wp2_with fail
                      exact ⟨⟨k + 1, by omega, by go_num, hS⟩, by simp [intOf]; omega⟩
            · obtain rfl : k = nw := by omega
              go_wp2_with fail
              go_end0
              exact ⟨rfl, Spl.from HBV.out hS hbw⟩
end P20
end Go.Proofs.YtajbchecjbddgaaDoor
