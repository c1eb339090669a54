/- Audit: (view).states. -/
import Derived.Test.YtajbchecjbddgaaGreatDoorUg
import Derived.Deep.OwnRows
namespace Go.Proofs.YtajbchecjbddgaaGreatDoor
open Go.RowKit
namespace P20
open P7

/-- A row of marks. -/
def Bits (W : World) (b n : Nat) (S : Nat → Bool) : Prop := ∀ k, k < n → W.cell? ⟨b, k, none⟩ = some (.bool (S k)) ∧ W.frozen? ⟨b, k, none⟩ = false
theorem Bits.next {W W' : World} {b n : Nat} {S : Nat → Bool} (h : Bits W b n S) (hb : Below W.heap.size W W') (hlt : b < W.heap.size) : Bits W' b n S := fun k hk =>
  ⟨(hb.cell (p := ⟨b, k, none⟩) hlt).trans (h k hk).1, (hb.frozen (p := ⟨b, k, none⟩) hlt).trans (h k hk).2⟩
/-- The numbers on stacks ahead of a place. -/
def seenS (s : Sh) (j p : Nat) : List Int := allS (s.ws.take j) ++ (wA s.ws j).st.take p
def seenD (s : Sh) (j p : Nat) : List Int := allD (s.ws.take j) ++ (wA s.ws j).dq.take p
theorem seenS_zero (s : Sh) (j : Nat) : seenS s j 0 = allS (s.ws.take j) := by simp [seenS]
theorem seenD_zero (s : Sh) (j : Nat) : seenD s j 0 = allD (s.ws.take j) := by simp [seenD]
theorem seenS_succ {s : Sh} {j p : Nat} (hp : p < (wA s.ws j).st.length) : seenS s j (p + 1) = seenS s j p ++ [(wA s.ws j).st.getD p 0] := by
  unfold seenS
  rw [List.take_succ_eq_append_getElem hp, List.getD_eq_getElem?_getD, List.getElem?_eq_getElem hp, List.append_assoc]
  rfl
theorem seenD_succ {s : Sh} {j p : Nat} (hp : p < (wA s.ws j).dq.length) : seenD s j (p + 1) = seenD s j p ++ [(wA s.ws j).dq.getD p 0] := by
  unfold seenD
  rw [List.take_succ_eq_append_getElem hp, List.getD_eq_getElem?_getD, List.getElem?_eq_getElem hp, List.append_assoc]
  rfl
theorem seenS_all {s : Sh} {j : Nat} (hj : j < s.ws.length) : seenS s j (wA s.ws j).st.length = allS (s.ws.take (j + 1)) := by
  unfold seenS allS
  rw [List.take_succ_eq_append_getElem hj, List.flatMap_append, List.take_length, wA_eq hj]
  simp
theorem seenD_all {s : Sh} {j : Nat} (hj : j < s.ws.length) : seenD s j (wA s.ws j).dq.length = allD (s.ws.take (j + 1)) := by
  unfold seenD allD
  rw [List.take_succ_eq_append_getElem hj, List.flatMap_append, List.take_length, wA_eq hj]
  simp
theorem allS_pre (ws : List Wk) (j : Nat) : allS (ws.take j) <+: allS ws := by
  unfold allS
  have h := List.take_append_drop j ws
  exact ⟨(ws.drop j).flatMap (·.st), by rw [← List.flatMap_append, h]⟩
theorem allD_pre (ws : List Wk) (j : Nat) : allD (ws.take j) <+: allD ws := by
  unfold allD
  have h := List.take_append_drop j ws
  exact ⟨(ws.drop j).flatMap (·.dq), by rw [← List.flatMap_append, h]⟩
theorem seenS_pre {s : Sh} {j : Nat} (hj : j < s.ws.length) (p : Nat) : seenS s j p <+: allS s.ws := by
  refine List.IsPrefix.trans ?_ (allS_pre s.ws (j + 1))
  rw [← seenS_all hj]
  unfold seenS
  refine (List.prefix_append_right_inj _).2 ?_
  rw [List.take_length]
  exact List.take_prefix _ _
theorem seenD_pre {s : Sh} {j : Nat} (hj : j < s.ws.length) (p : Nat) : seenD s j p <+: allD s.ws := by
  refine List.IsPrefix.trans ?_ (allD_pre s.ws (j + 1))
  rw [← seenD_all hj]
  unfold seenD
  refine (List.prefix_append_right_inj _).2 ?_
  rw [List.take_length]
  exact List.take_prefix _ _
/-- Marks that tell a list. -/
def Marks (S : Nat → Bool) (l : List Int) : Prop := ∀ k : Nat, S k = true ↔ (k : Int) ∈ l
theorem Marks.snoc {S : Nat → Bool} {l : List Int} (h : Marks S l) (x : Nat) : Marks (fun k => if k = x then true else S k) (l ++ [(x : Int)]) := fun k => by
  rw [List.mem_append, List.mem_singleton]
  dsimp only
  by_cases e : k = x
  · rw [if_pos e, e]; simp
  · rw [if_neg e, h k]
    constructor
    · exact .inl
    · rintro (h | h)
      · exact h
      · omega
theorem Bits.mark {W : World} {b n : Nat} {S : Nat → Bool} (h : Bits W b n S) (x : Nat) (hx : x < n) : Bits (W.setCell ⟨b, x, none⟩ (.bool true)) b n (fun k => if k = x then true else S k) := fun k hk => by
  refine ⟨?_, by rw [World.frozen?_setCell]; exact (h k hk).2⟩
  dsimp only
  by_cases e : k = x
  · rw [if_pos e, e]
    exact World.cell?_setCell_same W _ _ (h x hx).1
  · rw [if_neg e, World.cell?_setCell_other W _ _ _ (by intro e'; injection e' with _ e'; exact e e'.symm)]
    exact (h k hk).1
theorem Bits.other {W : World} {b b' n x : Nat} {S : Nat → Bool} (h : Bits W b n S) (hne : b ≠ b') (v : Value) : Bits (W.setCell ⟨b', x, none⟩ v) b n S := fun k hk => by
  refine ⟨?_, by rw [World.frozen?_setCell]; exact (h k hk).2⟩
  rw [World.cell?_setCell_other W _ _ _ (by intro e'; injection e' with e' _; exact hne e'.symm)]
  exact (h k hk).1
theorem VwB.block_of {w W : World} {bv bm : Nat} {vr vs vw : Value} (h : VwB w bv bm vr vs vw) (hb : Below w.heap.size w W) (hl : bv < w.heap.size) : VwB W bv bm vr vs vw := (hb.block bv hl).trans h
set_option maxRecDepth 100000 in
set_option maxHeartbeats 8000000 in
theorem states_any {w : World} {bv bm : Nat} {vr vs vw : Value} {s : Sh} (hV : Vm w bv bm vr vs vw s) (hf : FewS s) (hnum : numOk s) (R : Int) (h1 : stOk s → R = 0) (h2 : ¬ stOk s → R = 19) :
    Calls Tryz.prog 31 #[.pointer (some ⟨bv, 0, none⟩)] w fun e w' => e = .returned (.int .i64 R) ∧ Below w.heap.size w w' := by
  have H1 := Lib.hid h1
  have H2 := Lib.hid h2
  have HNUM := Lib.hid hnum
  have HFW := Lib.hid hf
  obtain ⟨Ar, cr, hvr, hncr, hAr⟩ := rows_open hV.sh.rows.sl
  obtain ⟨Aw, cw, hvw, hncw, hAw⟩ := hV.sh.wks.open_
  have HAW := Lib.hid hAw
  have HAR := Lib.hid hAr
  have HVB := Lib.hid hV.vb
  rw [hvr, hvw] at HVB
  have hw20 := hf.ws
  have hl40 := hf.l
  obtain ⟨nr, hnr⟩ := name_of s.l.length
  obtain ⟨nw, hnw⟩ := name_of s.ws.length
  have HNR := Lib.hid hnr
  have HNW := Lib.hid hnw
  rw [hnr, hnw] at HVB
  rw [hnw] at hncw hw20
  rw [hnr] at hncr hl40
  have q0 := HVB.out.c0
  have q2 := HVB.out.c2
  have hlv := HVB.out.lt
  clear hAw hAr hV hf hnr hnw hvr hvw h1 h2 hnum
  have hmk := run_make_row' (P := Tryz.prog) 63 4 (.bool false) 1 Tryz.underlying63 (by kernel_rfl) rfl .i64 .i64 nr (by omega) (by omega)
  obtain ⟨MC, hMC⟩ := name_of (madeCells #[.bool false] nr)
  rw [hMC] at hmk
  have HMC := Lib.hid hMC
  have hmx : Tryz.prog.follows .mixedOrders = true := by kernel_rfl
  clear hMC
  go_enter Tryz.func31, Tryz.ntmps31
  go_wp2_with fail
  rename_i K hK
  have KEY : ∀ (bS bD : Nat) (W : World), bS ≠ bD → bS < W.heap.size → bD < W.heap.size → w.heap.size ≤ bS → w.heap.size ≤ bD → Below w.heap.size w W → Bits W bS nr (fun _ => false) → Bits W bD nr (fun _ => false) →
      K { tmps := #[.pointer (some ⟨bv, 0, none⟩), undef, .int .i64 0, .slice (some ⟨bS, 0, none⟩) nr nr, .slice (some ⟨bD, 0, none⟩) nr nr, undef, undef, undef, undef, undef, undef, .pointer (some ⟨bv, 0, none⟩), .pointer (some ⟨bv, 0, none⟩), .pointer (some ⟨bv, 0, none⟩), .pointer (some ⟨bv, 0, none⟩), .slice Ar nr cr, .int .i64 nr, .slice (some ⟨bS, 0, none⟩) nr nr, .pointer (some ⟨bv, 0, none⟩), .pointer (some ⟨bv, 0, none⟩), .pointer (some ⟨bv, 0, none⟩), .pointer (some ⟨bv, 0, none⟩), .slice Ar nr cr, .int .i64 nr, .slice (some ⟨bD, 0, none⟩) nr nr, undef, undef, undef, undef, undef, undef, undef, undef, undef, undef, undef, undef, undef, undef, undef, undef, undef, undef, undef, undef, undef, undef, undef, undef, undef, undef, undef, undef, undef, undef, undef, undef, undef, undef, undef, undef, undef, undef, undef, undef, undef, undef, undef, undef, undef, undef, undef, undef, undef, undef, undef, undef, undef, undef, undef, undef, undef, undef], defers := [] } W := by
    intro bS bD W hSD hlS hlD hgS hgD hBW hS0 hD0
    refine hK _ _ ?_
    clear hK K hmk HMC MC
    have HS0 := Lib.hid hS0
    have HD0 := Lib.hid hD0
    have hvb := HVB.out.block_of hBW hlv
    have q0 := hvb.c0
    have q2 := hvb.c2
    clear hS0 hD0 hvb
    go_wp2_with fail
    go_loopw [31] (fun x wr => ∃ (j : Nat) (S D : Nat → Bool), j ≤ nw ∧ x = .int .i64 j ∧ Hid ((allS (s.ws.take j)).Nodup ∧ (allD (s.ws.take j)).Nodup ∧ (∀ m, m < j → wkSt (wA s.ws m)) ∧ ∀ y ∈ allS (s.ws.take j), (at_ s.l y.toNat).k ≠ 0) ∧ Hid (Marks S (allS (s.ws.take j))) ∧ Hid (Marks D (allD (s.ws.take j))) ∧ Hid (Bits wr bS nr S) ∧ Hid (Bits wr bD nr D) ∧ Below w.heap.size w wr ∧ W.heap.size ≤ wr.heap.size) (fun x _ => nw - (intOf x).toNat)
    case atStart => exact ⟨0, _, _, Nat.zero_le _, rfl, Lib.hid ⟨by simp [allS], by simp [allD], fun m hm => by omega, fun y hy => by simp [allS] at hy⟩, Lib.hid (fun k => by simp [allS]), Lib.hid (fun k => by simp [allD]), HS0, HD0, hBW, Nat.le_refl _⟩
    case round =>
      clear q0 q2 HS0 HD0
      obtain ⟨j, S, D, hj, rfl, HOK, HMS, HMD, HBS, HBD, hB, hsz⟩ := hrel
      by_cases hlt : j < nw
      · obtain ⟨gw, offw, sv, dv, rfl, hgw, d0, d1, d2, d3, hs, hd⟩ := HAW.out j (by rw [HNW.out]; exact hlt)
        have e0 := (hB.cell (p := ⟨gw, _, none⟩) hgw).trans d0
        have e1 := (hB.cell (p := ⟨gw, _, none⟩) hgw).trans d1
        have e2 := (hB.cell (p := ⟨gw, _, none⟩) hgw).trans d2
        have e3 := (hB.cell (p := ⟨gw, _, none⟩) hgw).trans d3
        have hst := HFW.out.st j (by rw [HNW.out]; exact hlt)
        have hdq := HFW.out.dq j (by rw [HNW.out]; exact hlt)
        have hnumj := numW.1 HNUM.out.2 j (by rw [HNW.out]; exact hlt)
        obtain ⟨on, hon⟩ := name_of (wA s.ws j).on
        obtain ⟨pk, hpk⟩ := name_of (wA s.ws j).pk
        rw [hon] at e0
        rw [hpk] at e1
        obtain ⟨As, cs, rfl, -, hAs⟩ := ints_open hs
        obtain ⟨Ad, cd, rfl, -, hAd⟩ := ints_open hd
        obtain ⟨ns, hns⟩ := name_of (wA s.ws j).st.length
        obtain ⟨nd, hnd⟩ := name_of (wA s.ws j).dq.length
        rw [hns] at e2 hst hAs
        rw [hnd] at e3 hdq hAd
        have HNS := Lib.hid hns
        have HND := Lib.hid hnd
        have HON := Lib.hid hon
        have HAS := Lib.hid hAs
        have HAD := Lib.hid hAd
        have HNJ := Lib.hid hnumj
        clear d0 d1 d2 d3 hs hd hon hpk hns hnd hAs hAd hnumj
        go_wp2_with ((with_reducible (show wpList _ _ _ (Oper.mk _ (Op.store _ _ _) _ _ _ _ :: _) _ _)); refine wpList_store_new rfl 38 38 (.tmp 6) (.tmp 34) rfl _ _ wr.heap.size rfl rfl rfl (by kernel_rfl) rfl (by kernel_rfl) ?_)
        have hb1 : Below wr.heap.size wr (wr.alloc (.cells #[.bool on, .bool pk, .slice As ns cs, .slice Ad nd cd] 38)) := (Below.refl _ _).alloc (Nat.le_refl _) _
        have HBV := Lib.hid (hB.next hb1)
        have HBSV := Lib.hid (HBS.out.next hb1 (by omega))
        have HBDV := Lib.hid (HBD.out.next hb1 (by omega))
        have HWV : Hid (((wr.alloc (.cells #[.bool on, .bool pk, .slice As ns cs, .slice Ad nd cd] 38))).heap[wr.heap.size]? = some (.cells #[.bool on, .bool pk, .slice As ns cs, .slice Ad nd cd] 38 (0, 0))) := Lib.hid (heap_alloc_last _ _)
        have hzV : W.heap.size ≤ ((wr.alloc (.cells #[.bool on, .bool pk, .slice As ns cs, .slice Ad nd cd] 38))).heap.size := Nat.le_trans hsz hb1.size
        have hgb : W.heap.size ≤ wr.heap.size := hsz
        clear e0 e1 e2 e3 hb1 hB HBS HBD
        obtain ⟨b6, hb6⟩ := name_of wr.heap.size
        obtain ⟨V, hV⟩ := name_of (wr.alloc (.cells #[.bool on, .bool pk, .slice As ns cs, .slice Ad nd cd] 38))
        rw [hV] at HBV HBSV HBDV HWV hzV ⊢
        rw [hb6] at HWV hgb ⊢
        clear hV hb6 hsz
        go_loopw [38] (fun x wr => ∃ (p : Nat) (S : Nat → Bool), p ≤ ns ∧ x = .int .i64 p ∧ Hid ((seenS s j p).Nodup ∧ (0 < p → on = true) ∧ ∀ y ∈ seenS s j p, (at_ s.l y.toNat).k ≠ 0) ∧ Hid (Marks S (seenS s j p)) ∧ Hid (Bits wr bS nr S) ∧ Hid (Bits wr bD nr D) ∧ Hid (wr.heap[b6]? = some (.cells #[.bool on, .bool pk, .slice As ns cs, .slice Ad nd cd] 38 (0, 0))) ∧ Below w.heap.size w wr ∧ W.heap.size ≤ wr.heap.size) (fun x _ => ns - (intOf x).toNat)
        case atStart => exact ⟨0, S, Nat.zero_le _, rfl, Lib.hid ⟨by rw [seenS_zero]; exact HOK.out.1, fun h => by omega, by rw [seenS_zero]; exact HOK.out.2.2.2⟩, by rw [seenS_zero]; exact HMS, HBSV, HBDV, HWV, HBV.out, hzV⟩
        case round =>
          clear HBSV HBDV HWV HBV hzV HMS
          obtain ⟨p, S, hp, rfl, HOP, HMS, HBS, HBD, HWV, hB, hsz⟩ := hrel
          have y0 : wr.cell? ⟨b6, 0, none⟩ = some (.bool on) := by rw [cell_of_row _ _ _ _ _ _ HWV.out]; rfl
          have y3 : wr.cell? ⟨b6, 3, none⟩ = some (.slice Ad nd cd) := by rw [cell_of_row _ _ _ _ _ _ HWV.out]; rfl
          have hvb := HVB.out.block_of hB hlv
          have q0 := hvb.c0
          clear hvb
          by_cases hpl : p < ns
          · obtain ⟨ga, oa, rfl, hga, c0⟩ := HAS.out p hpl
            have c0w := (hB.cell (p := ⟨ga, _, none⟩) hga).trans c0
            have hyr := numL_all.1 HNJ.out.1 p (by rw [HNS.out]; exact hpl)
            have HSU := Lib.hid (seenS_succ (s := s) (j := j) (p := p) (by rw [HNS.out]; exact hpl))
            have HPRE := Lib.hid (seenS_pre (s := s) (j := j) (by rw [HNW.out]; exact hlt) (p + 1))
            obtain ⟨yy, hyy⟩ := name_of ((wA s.ws j).st.getD p 0)
            rw [hyy] at c0w hyr HSU
            rw [HNR.out] at hyr
            obtain ⟨y, rfl⟩ : ∃ y : Nat, yy = y := ⟨yy.toNat, by omega⟩
            have hyn : y < nr := by omega
            rw [HSU.out] at HPRE
            obtain ⟨bS1, bS2⟩ := HBS.out y hyn
            obtain ⟨gr, offr, rfl, hgr, -, -, -, k3, -⟩ := HAR.out y (by rw [HNR.out]; exact hyn)
            have k3w := (hB.cell (p := ⟨gr, _, none⟩) hgr).trans k3
            obtain ⟨rk, hrk⟩ := name_of (at_ s.l y).k
            rw [hrk] at k3w
            have HRK := Lib.hid hrk
            obtain ⟨t, ht⟩ := name_of (S y)
            rw [ht] at bS1
            have HTT := Lib.hid ht
            have HYY := Lib.hid hyy
            have hyI : (y : Int) < nr := by omega
            clear c0 hyr hyy k3 hrk ht
            cases on with
            | false =>
              have HR : Hid (19 = R) := Lib.hid (H2.out (fun hs => by
                have := hs.2.2.1 (wA s.ws j) (by rw [wA_eq (by rw [HNW.out]; exact hlt)]; exact List.getElem_mem _) HON.out
                have h2 := HNS.out
                rw [this] at h2
                simp at h2
                omega)).symm
              go_wp2_with fail
              go_ret
              exact ⟨ret_i HR.out, hB⟩
            | true =>
              cases t with
              | true =>
                have HR : Hid (19 = R) := Lib.hid (H2.out (fun hs => by
                  have h3 := (HMS.out y).1 HTT.out
                  have h4 := hs.1.sublist HPRE.out.sublist
                  rw [List.nodup_append] at h4
                  exact h4.2.2 _ h3 _ (by simp) rfl)).symm
                go_wp2_with fail
                go_ret
                exact ⟨ret_i HR.out, hB⟩
              | false =>
                by_cases g1 : rk = 0
                · have f1 : (rk == 0) = true := by simpa using g1
                  have HR : Hid (19 = R) := Lib.hid (H2.out (fun hs => by
                    have h3 := hs.2.2.2 (y : Int) (HPRE.out.subset (by simp))
                    rw [Int.toNat_natCast, HRK.out] at h3
                    exact h3 g1)).symm
                  clear g1
                  go_wp2_with fail
                  go_ret
                  exact ⟨ret_i HR.out, hB⟩
                · have f1 : (rk == 0) = false := by simpa using g1
                  have HOP2 : Hid ((seenS s j (p + 1)).Nodup ∧ (0 < p + 1 → True) ∧ ∀ y ∈ seenS s j (p + 1), (at_ s.l y.toNat).k ≠ 0) := Lib.hid (by
                    obtain ⟨k1, k2, k3⟩ := HOP.out
                    rw [HSU.out]
                    refine ⟨?_, fun _ => trivial, fun z hz => ?_⟩
                    · rw [List.nodup_append]
                      refine ⟨k1, by simp, fun a ha b hb => ?_⟩
                      rw [List.mem_singleton] at hb
                      rw [hb]
                      intro e
                      rw [e] at ha
                      have := (HMS.out y).2 ha
                      rw [HTT.out] at this
                      cases this
                    · rcases List.mem_append.1 hz with hz | hz
                      · exact k3 z hz
                      · rw [List.mem_singleton] at hz
                        rw [hz, Int.toNat_natCast, HRK.out]
                        exact g1)
                  have HM2 : Hid (Marks (fun k => if k = y then true else S k) (seenS s j (p + 1))) := Lib.hid (by rw [HSU.out]; exact HMS.out.snoc y)
                  have HB2 := Lib.hid (HBS.out.mark y hyn)
                  have HD2 : Hid (Bits (wr.setCell ⟨bS, y, none⟩ (.bool true)) bD nr D) := Lib.hid (HBD.out.other (fun e => hSD e.symm) _)
                  have HW2 := Lib.hid ((Below.heap_setCell wr (⟨bS, y, none⟩ : Addr) (.bool true) b6 (by show b6 ≠ bS; omega)).trans HWV.out)
                  clear g1
                  go_wp2_with fail
                  exact ⟨⟨p + 1, _, by omega, by go_num, HOP2, HM2, HB2, HD2, HW2, hB.setCell (p := ⟨bS, y, none⟩) hgS _, by simpa using hsz⟩, by simp [intOf]; omega⟩
          · obtain rfl : p = ns := by omega
            have HS1 := Lib.hid (seenS_all (s := s) (j := j) (by rw [HNW.out]; exact hlt))
            rw [HNS.out] at HS1
            rw [HS1.out] at HOP HMS
            go_wp2_with fail
            go_loopw [70] (fun x wr => ∃ (p : Nat) (D : Nat → Bool), p ≤ nd ∧ x = .int .i64 p ∧ Hid ((seenD s j p).Nodup) ∧ Hid (Marks D (seenD s j p)) ∧ Hid (Bits wr bS nr S) ∧ Hid (Bits wr bD nr D) ∧ Below w.heap.size w wr ∧ W.heap.size ≤ wr.heap.size) (fun x _ => nd - (intOf x).toNat)
            case atStart => exact ⟨0, D, Nat.zero_le _, rfl, Lib.hid (by rw [seenD_zero]; exact HOK.out.2.1), by rw [seenD_zero]; exact HMD, HBS, HBD, hB, hsz⟩
            case round =>
              clear HBS HBD HWV hB hsz HMD y0 y3 q0
              obtain ⟨q, D, hq, rfl, HND2, HMD, HBS, HBD, hB, hsz⟩ := hrel
              by_cases hql : q < nd
              · obtain ⟨ga, oa, rfl, hga, c0⟩ := HAD.out q hql
                have c0w := (hB.cell (p := ⟨ga, _, none⟩) hga).trans c0
                have hyr := numL_all.1 HNJ.out.2 q (by rw [HND.out]; exact hql)
                have HSU := Lib.hid (seenD_succ (s := s) (j := j) (p := q) (by rw [HND.out]; exact hql))
                have HPRE := Lib.hid (seenD_pre (s := s) (j := j) (by rw [HNW.out]; exact hlt) (q + 1))
                obtain ⟨yy, hyy⟩ := name_of ((wA s.ws j).dq.getD q 0)
                rw [hyy] at c0w hyr HSU
                rw [HNR.out] at hyr
                obtain ⟨y, rfl⟩ : ∃ y : Nat, yy = y := ⟨yy.toNat, by omega⟩
                have hyn : y < nr := by omega
                rw [HSU.out] at HPRE
                obtain ⟨bD1, bD2⟩ := HBD.out y hyn
                obtain ⟨t, ht⟩ := name_of (D y)
                rw [ht] at bD1
                have HTT := Lib.hid ht
                have hyI : (y : Int) < nr := by omega
                clear c0 hyr hyy ht
                cases t with
                | true =>
                  have HR : Hid (19 = R) := Lib.hid (H2.out (fun hs => by
                    have h3 := (HMD.out y).1 HTT.out
                    have h4 := hs.2.1.sublist HPRE.out.sublist
                    rw [List.nodup_append] at h4
                    exact h4.2.2 _ h3 _ (by simp) rfl)).symm
                  go_wp2_with fail
                  go_ret
                  exact ⟨ret_i HR.out, hB⟩
                | false =>
                  have HOP2 : Hid ((seenD s j (q + 1)).Nodup) := Lib.hid (by
                    rw [HSU.out, List.nodup_append]
                    refine ⟨HND2.out, by simp, fun a ha b hb => ?_⟩
                    rw [List.mem_singleton] at hb
                    rw [hb]
                    intro e
                    rw [e] at ha
                    have := (HMD.out y).2 ha
                    rw [HTT.out] at this
                    cases this)
                  have HM2 : Hid (Marks (fun k => if k = y then true else D k) (seenD s j (q + 1))) := Lib.hid (by rw [HSU.out]; exact HMD.out.snoc y)
                  have HB2 := Lib.hid (HBD.out.mark y hyn)
                  have HS2 : Hid (Bits (wr.setCell ⟨bD, y, none⟩ (.bool true)) bS nr S) := Lib.hid (HBS.out.other hSD _)
                  go_wp2_with fail
                  exact ⟨⟨q + 1, _, by omega, by go_num, HOP2, HM2, HS2, HB2, hB.setCell (p := ⟨bD, y, none⟩) hgD _, by simpa using hsz⟩, by simp [intOf]; omega⟩
              · obtain rfl : q = nd := by omega
                have HD1 := Lib.hid (seenD_all (s := s) (j := j) (by rw [HNW.out]; exact hlt))
                rw [HND.out] at HD1
                rw [HD1.out] at HND2 HMD
                have HOK2 : Hid ((allS (s.ws.take (j + 1))).Nodup ∧ (allD (s.ws.take (j + 1))).Nodup ∧ (∀ m, m < j + 1 → wkSt (wA s.ws m)) ∧ ∀ y ∈ allS (s.ws.take (j + 1)), (at_ s.l y.toNat).k ≠ 0) := Lib.hid (by
                  refine ⟨HOP.out.1, HND2.out, fun m hm => ?_, HOP.out.2.2⟩
                  by_cases e : m = j
                  · rw [e]
                    intro hoff
                    refine List.eq_nil_of_length_eq_zero ?_
                    rw [HNS.out]
                    rcases Nat.eq_zero_or_pos p with h | h
                    · exact h
                    · have := HOP.out.2.1 h
                      rw [← HON.out, hoff] at this
                      cases this
                  · exact HOK.out.2.2.1 m (by omega))
                go_wp2_with fail
                exact ⟨⟨j + 1, S, D, by omega, by go_num, HOK2, HMS, HMD, HBS, HBD, hB, hsz⟩, by simp [intOf]; omega⟩
      · obtain rfl : j = nw := by omega
        have HR : Hid (0 = R) := Lib.hid (H1.out (by
          obtain ⟨k1, k2, k3, k4⟩ := HOK.out
          rw [List.take_of_length_le (by rw [HNW.out]; exact Nat.le_refl _)] at k1 k2 k4
          refine ⟨k1, k2, fun x hx => ?_, k4⟩
          obtain ⟨m, hm, e⟩ := List.getElem_of_mem hx
          have := k3 m (by rw [← HNW.out]; exact hm)
          rw [wA_eq hm, e] at this
          exact this)).symm
        go_wp2_with fail
        go_ret
        exact ⟨ret_i HR.out, hB⟩
  have R1 := World.rowIs_made w (.bool false) nr 4
  have R2 := World.rowIs_made (w.alloc (.cells (madeCells #[.bool false] nr) 4)) (.bool false) nr 4
  have HKEY := Lib.hid KEY
  clear KEY hK
  go_region
  all_goals
    have hMC := HMC.out
    subst hMC
  · exact HKEY.out w.heap.size (w.heap.size + 1) _ (by omega) (by simp; omega) (by simp) (Nat.le_refl _) (by omega) (by go_grown) (fun k hk => ⟨(R1.alloc _).cell hk, (R1.alloc _).frozen k⟩) (fun k hk => ⟨by simpa using R2.cell hk, by simp⟩)
  · exact HKEY.out (w.heap.size + 1) w.heap.size _ (by omega) (by simp) (by simp; omega) (by omega) (Nat.le_refl _) (by go_grown) (fun k hk => ⟨by simpa using R2.cell hk, by simp⟩) (fun k hk => ⟨(R1.alloc _).cell hk, (R1.alloc _).frozen k⟩)
end P20
end Go.Proofs.YtajbchecjbddgaaGreatDoor
