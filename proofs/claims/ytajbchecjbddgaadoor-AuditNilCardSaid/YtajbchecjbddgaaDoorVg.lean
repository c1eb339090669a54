/- Audit: the law's became. -/
import Derived.Test.YtajbchecjbddgaaDoorH5
import Derived.Test.YtajbchecjbddgaaDoorU8
namespace Go.Proofs.YtajbchecjbddgaaDoor
open Go.RowKit
namespace P20
open P7

theorem kids_prefix (m : List Row) (P : Int) {k n : Nat} (h : k ≤ n) : kidsTo m P k <+: kidsTo m P n := by
  obtain ⟨d, rfl⟩ : ∃ d, n = k + d := ⟨n - k, by omega⟩
  induction d with
  | zero => exact List.prefix_refl _
  | succ d ih =>
    rw [show k + (d + 1) = k + d + 1 by omega, kidsTo_succ]
    exact (ih (by omega)).trans (List.prefix_append _ _)
theorem kids_here {m : List Row} {P : Int} {k r x : Nat} (hk : k < m.length) (hp : (at_ m k).p = P) (hr : (kidsTo m P k).length = r) (hx : (kids m P)[r]? = some x) : x = k := by
  have h1 : kidsTo m P (k + 1) = kidsTo m P k ++ [k] := by rw [kidsTo_succ, if_pos hp]
  have h2 := kids_prefix m P (show k + 1 ≤ m.length by omega)
  have h3 : (kidsTo m P (k + 1))[r]? = some k := by rw [h1, ← hr]; simp
  obtain ⟨t, ht⟩ := h2
  unfold kids at hx
  rw [← ht, List.getElem?_append_left (List.getElem?_eq_some_iff.1 h3).1, h3] at hx
  exact (Option.some.inj hx).symm
set_option maxRecDepth 100000 in
set_option maxHeartbeats 8000000 in
theorem lawBec_any {w0 : World} {vl vm : Value} {l m : List Row} (hL : Sl w0 w0.heap.size 7 vl (rowsC l)) (hM : Sl w0 w0.heap.size 7 vm (rowsC m)) (hG : GrownT l m = true) (hl : l.length ≤ 40) (hm : m.length ≤ 40) :
    ∀ (i : Nat), i < l.length → ∀ w, Below w0.heap.size w0 w → Calls Tryd.prog 17 #[vl, vm, .int .i64 i] w fun e w' => e = .returned (.int .i64 (tN l m i : Nat)) ∧ Below w.heap.size w w' := by
  intro i
  induction i using Nat.strongRecOn with
  | ind i ih =>
  intro hi w hw
  obtain ⟨hTl, hTm, -⟩ := GrownT_iff.1 hG
  have HIH := Lib.hid ih
  have hup := hTl.up i hi hi
  have HHD : Hid (∀ p : Nat, (at_ l i).p = (p : Int) → (kids m (tN l m p : Nat))[(kidsTo l (p : Int) i).length]? = some (tN l m i) ∧ p < i) := Lib.hid (fun p hp => by
    have h := tN_head hG hi hp
    rw [List.getElem?_drop, Nat.add_zero] at h
    exact h)
  have HR0 : Hid (i = 0 → tN l m i = 0) := Lib.hid (fun e => by
    have h := tN_ff hG hi
    rw [e, FF_root hG] at h
    rw [e]
    exact (Option.some.inj h).symm)
  have HLT := Lib.hid (fun p (hp : p < l.length) => tN_lt hG hp)
  obtain ⟨Al, cl, hvl, hncl, hAl⟩ := rows_open hL
  obtain ⟨Am, cm, hvm, hncm, hAm⟩ := rows_open hM
  have HAL := Lib.hid hAl
  have HAM := Lib.hid hAm
  have HW := Lib.hid hw
  obtain ⟨nl, hnl⟩ := name_of l.length
  obtain ⟨nm, hnm⟩ := name_of m.length
  have HNL := Lib.hid hnl
  have HNM := Lib.hid hnm
  rw [hnl] at hvl hncl hl hi
  rw [hnm] at hvm hncm hm
  subst hvl hvm
  obtain ⟨X, hX⟩ := name_of (tN l m i)
  have HXX := Lib.hid hX
  rw [hX] at HHD HR0 ⊢
  clear hAl hAm hL hM hnl hnm hX hw ih hTl hTm hG
  by_cases h0 : i = 0
  · have hx0 := HR0.out h0
    subst h0 hx0
    go_enter Tryd.func17, Tryd.ntmps17
    go_wp2_with fail
    go_ret
    exact ⟨rfl, Below.refl _ _⟩
  · have hp0 := hup.2 h0
    have hpi := hup.1
    obtain ⟨p, hp⟩ := Int.eq_ofNat_of_zero_le hp0
    obtain ⟨hhd, hpi2⟩ := HHD.out p hp
    have HHH := Lib.hid hhd
    have HPP := Lib.hid hp
    obtain ⟨g, off, eA, hg, c0, -⟩ := HAL.out i (by rw [HNL.out]; exact hi)
    subst eA
    rw [hp] at c0
    have d0 := (HW.out.cell (p := ⟨g, _, none⟩) hg).trans c0
    have f1 : decide ((i : Int) ≤ 0) = false := decide_eq_false (by omega)
    have f2 : decide ((nl : Int) ≤ i) = false := decide_eq_false (by omega)
    have f3 : decide ((p : Int) < 0) = false := decide_eq_false (by omega)
    have f4 : decide ((i : Int) ≤ p) = false := decide_eq_false (by omega)
    have f2n : decide (nl ≤ i) = false := decide_eq_false (by omega)
    have f4n : decide (i ≤ p) = false := decide_eq_false (by omega)
    have hRec := fun W (hW : Below w.heap.size w W) => HIH.out p hpi2 (by rw [HNL.out]; omega) W (HW.out.trans (hW.mono HW.out.size))
    obtain ⟨Y, hY⟩ := name_of (tN l m p)
    rw [hY] at hRec HHH
    have HRC := Lib.hid hRec
    clear hp0 hpi hp hhd hup c0 hY hRec HIH HHD HR0
    go_enter Tryd.func17, Tryd.ntmps17
    go_wp2_with fail
    go_loopw [8, 7] (fun x y wr => ∃ k : Nat, k ≤ i ∧ x = .int .i64 k ∧ y = .int .i64 ((kidsTo l (p : Int) k).length : Nat) ∧ Below w.heap.size w wr) (fun x _ _ => i - (intOf x).toNat)
    case atStart => exact ⟨0, Nat.zero_le _, rfl, rfl, Below.refl _ _⟩
    case round =>
      clear d0
      obtain ⟨k, hk, rfl, rfl, hB⟩ := hrel
      have hBw : Below w0.heap.size w0 wr := HW.out.trans (hB.mono HW.out.size)
      by_cases hki : k < i
      · obtain ⟨g1, off1, e1, hg1, r0, -⟩ := HAL.out i (by rw [HNL.out]; exact hi)
        obtain ⟨g2, off2, e2, hg2, s0, -⟩ := HAL.out k (by rw [HNL.out]; omega)
        injection e1 with e1
        injection e1 with e1a e1b _
        subst e1a e1b
        injection e2 with e2
        injection e2 with e2a e2b _
        subst e2a e2b
        have d0 := (hBw.cell (p := ⟨g, _, none⟩) hg1).trans r0
        have z0 := (hBw.cell (p := ⟨g, _, none⟩) hg2).trans s0
        have HPI := HPP.out
        rw [HPI] at d0
        have HSU : Hid (kidsTo l (p : Int) (k + 1) = kidsTo l (p : Int) k ++ if (at_ l k).p = (p : Int) then [k] else []) := Lib.hid (kidsTo_succ l p k)
        have hkn : k < nl := by omega
        have hkl := kidsTo_len l (p : Int) k
        obtain ⟨Z, hZ⟩ := name_of (at_ l k).p
        rw [hZ] at z0 HSU
        obtain ⟨N, hN⟩ := name_of (kidsTo l (p : Int) k).length
        rw [hN] at hkl ⊢
        have HN := Lib.hid hN
        clear r0 s0 hZ hN HPI
        by_cases hz : Z = (p : Int)
        · have f5 : (Z == (p : Int)) = true := by simpa using hz
          have HL : Hid (((kidsTo l (p : Int) (k + 1)).length : Int) = (N : Int) + 1) := Lib.hid (by rw [HSU.out, if_pos hz, List.length_append, HN.out]; simp)
          clear hz
          go_wp2_with fail
          go_quiet (fail)
          go_wp2_with fail
          exact ⟨⟨k + 1, by omega, by go_num, by rw [HL.out], hB.next (below_drewN _)⟩, by simp [intOf]; omega⟩
        · have f5 : (Z == (p : Int)) = false := by simpa using hz
          have HL : Hid (((kidsTo l (p : Int) (k + 1)).length : Int) = (N : Int)) := Lib.hid (by rw [HSU.out, if_neg hz, List.append_nil, HN.out])
          clear hz
          go_wp2_with fail
          go_quiet (fail)
          go_wp2_with fail
          exact ⟨⟨k + 1, by omega, by go_num, by rw [HL.out], hB.next (below_drewN _)⟩, by simp [intOf]; omega⟩
      · obtain rfl : k = i := by omega
        obtain ⟨g1, off1, e1, hg1, r0, -⟩ := HAL.out k (by rw [HNL.out]; exact hi)
        injection e1 with e1
        injection e1 with e1a e1b _
        subst e1a e1b
        have d0 := (hBw.cell (p := ⟨g, _, none⟩) hg1).trans r0
        have HPI := HPP.out
        rw [HPI] at d0
        have hR := HRC.out wr hB
        obtain ⟨N, hN⟩ := name_of (kidsTo l (p : Int) k).length
        have hNk := kidsTo_len l (p : Int) k
        rw [hN] at HHH hNk ⊢
        have HLN : Hid (N < (kids m (Y : Int)).length) := Lib.hid (List.getElem?_eq_some_iff.1 HHH.out).1
        clear r0 HPI hN
        go_wp2_with fail
        refine hR.mono ?_
        clear hR d0
        rintro e w3 ⟨rfl, hb3⟩
        have hB3 := hB.next hb3
        clear hb3
        go_wp2_with fail
        go_loopw [10, 7] (fun x y wr => ∃ q c : Nat, q ≤ nm ∧ x = .int .i64 q ∧ y = .int .i64 c ∧ Hid (c + (kidsTo m (Y : Int) q).length = N) ∧ Below w.heap.size w wr) (fun x _ _ => nm - (intOf x).toNat)
        case atStart => exact ⟨0, N, Nat.zero_le _, rfl, rfl, Lib.hid (by simp [kidsTo]), hB3⟩
        case round =>
          clear hB hB3
          obtain ⟨q, c, hq, rfl, rfl, HC, hB⟩ := hrel
          have hBw : Below w0.heap.size w0 wr := HW.out.trans (hB.mono HW.out.size)
          by_cases hqn : q < nm
          · obtain ⟨gm, offm, rfl, hgm, m0, -⟩ := HAM.out q (by rw [HNM.out]; exact hqn)
            have n0 := (hBw.cell (p := ⟨gm, _, none⟩) hgm).trans m0
            have HSU : Hid ((kidsTo m (Y : Int) (q + 1)).length = (kidsTo m (Y : Int) q).length + if (at_ m q).p = (Y : Int) then 1 else 0) := Lib.hid (by rw [kidsTo_succ, List.length_append]; split <;> simp)
            have HHR : Hid ((at_ m q).p = (Y : Int) → c = 0 → X = q) := Lib.hid (fun h1 h2 => kids_here (by rw [HNM.out]; exact hqn) h1 (by have := HC.out; omega) HHH.out)
            obtain ⟨Z, hZ⟩ := name_of (at_ m q).p
            rw [hZ] at n0 HSU HHR
            clear m0 hZ
            have hcN : c ≤ 40 := by have := HC.out; omega
            by_cases hz : Z = (Y : Int)
            · have f5 : (Z == (Y : Int)) = true := by simpa using hz
              by_cases hc0 : c = 0
              · have hx := HHR.out hz hc0
                subst hx hc0
                clear hz
                go_wp2_with fail
                go_ret
                exact ⟨rfl, hB⟩
              · have f6 : ((c : Int) == 0) = false := by simp; omega
                have HC2 : Hid (c - 1 + (kidsTo m (Y : Int) (q + 1)).length = N) := Lib.hid (by rw [HSU.out, if_pos hz]; have := HC.out; omega)
                obtain ⟨c', rfl⟩ : ∃ c', c = c' + 1 := ⟨c - 1, by omega⟩
                clear hz hc0
                go_wp2_with fail
                exact ⟨⟨q + 1, c', by omega, by go_num, by go_num, HC2, hB⟩, by simp [intOf]; omega⟩
            · have f5 : (Z == (Y : Int)) = false := by simpa using hz
              have HC2 : Hid (c + (kidsTo m (Y : Int) (q + 1)).length = N) := Lib.hid (by rw [HSU.out, if_neg hz]; have := HC.out; omega)
              clear hz
              go_wp2_with fail
              exact ⟨⟨q + 1, c, by omega, by go_num, rfl, HC2, hB⟩, by simp [intOf]; omega⟩
          · obtain rfl : q = nm := by omega
            have h1 := HC.out
            have h2 := HLN.out
            unfold kids at h2
            rw [HNM.out] at h2
            omega
end P20
end Go.Proofs.YtajbchecjbddgaaDoor
