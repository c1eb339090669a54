/- Walks: the reference's way and find. -/
import Derived.Test.YtajbchecjbddgaaGreatDoorH3
import Derived.Test.YtajbchecjbddgaaGreatDoorRk
namespace Go.Proofs.YtajbchecjbddgaaGreatDoor
open Go.RowKit
namespace P7

def WayR (w : World) (l : List Row) (i : Nat) (v1 v5 : Value) (wr : World) : Prop :=
  ∃ (j : Nat) (out : List Nat), j ≤ i ∧ out.length + j ≤ i ∧ v1 = .int .i64 j ∧ wr.ownsRow w.heap.size 3 1 v5 out.length (iv out) ∧ wayL l (i + 1) i = out ++ wayL l (j + 1) j ∧ Below w.heap.size w wr
def CntR (w0 : World) (l : List Row) (p : Int) (j : Nat) (v6 v7 : Value) (wr : World) : Prop :=
  ∃ k n : Nat, k ≤ j ∧ n ≤ k ∧ v7 = .int .i64 k ∧ v6 = .int .i64 n ∧ n = (kidsTo l p k).length ∧ ∃ z, wr = w0.drewN z
def WayPost (w : World) (ws : List Nat) (e : Ending) (w' : World) : Prop := (∃ A c, e = .returned (.slice A ws.length c) ∧ Sl w' w'.heap.size 1 (.slice A ws.length c) (iv ws)) ∧ Below w.heap.size w w'
theorem way_post {w wr : World} {ws : List Nat} {n : Nat} {v : Value} (hown : wr.ownsRow w.heap.size 3 1 v n (iv ws)) (hn : n = ws.length) (hB : Below w.heap.size w wr) : WayPost w ws (.returned v) wr := by
  subst hn
  have hs : Sl wr wr.heap.size 1 v (iv ws) := Sl.own hown
  obtain ⟨A, m, c, e, h2, h3, h4⟩ := hs
  have hm : m = ws.length := by simpa using h3.symm
  subst hm
  exact ⟨⟨A, c, by rw [e], by rw [← e]; exact ⟨A, _, c, e, h2, h3, h4⟩⟩, hB⟩

set_option maxHeartbeats 2000000 in
theorem way_any {w : World} {v : Value} {l : List Row} (hT : Tab l) (h : Sl w w.heap.size 7 v (rowsC l)) (hlen : l.length ≤ 60) (i : Nat) (hi : i < l.length) :
    Calls Tryz.prog 45 #[v, .int .i64 i] w (WayPost w (wayL l (i + 1) i)) := by
  obtain ⟨A, c, rfl, hc, hr⟩ := rows_open h
  have HT := Lib.hid hT
  have HR := Lib.hid hr
  obtain ⟨n, hn⟩ := name_of l.length
  have HN := Lib.hid hn
  rw [hn] at hc hlen hi ⊢
  clear hn hr h hT
  go_enter Tryz.func45, Tryz.ntmps45
  go_wp2_with fail
  go_loopw [1, 5] (fun v1 v5 wr => WayR w l i v1 v5 wr) (fun v1 _ _ => (intOf v1).toNat)
  case atStart => exact ⟨i, [], Nat.le_refl _, by simp, rfl, World.ownsRow_nil _ _ _ _, rfl, Below.refl _ _⟩
  case round =>
    obtain ⟨j, out, hj, hol, rfl, hown, hway, hB⟩ := hrel
    have HW := Lib.hid hway
    have hjn : j < n := by omega
    clear hway
    obtain ⟨b, off, rfl, hb, h0, -⟩ := HR.out j (by have := HN.out; omega)
    have hup := HT.out.up j (by have := HN.out; omega) (by have := HN.out; omega)
    obtain ⟨rp, hr⟩ := name_of (at_ l j).p
    rw [hr] at h0 hup
    have HP := Lib.hid hr
    have c0 := (hB.cell (p := ⟨b, _, none⟩) hb).trans h0
    have h00 := h0
    clear h0 hr
    by_cases hp : 0 ≤ rp
    · have HPP := Lib.hid hp
      have hp1 := hup.1
      have e1 : decide (0 ≤ rp) = true := by simpa using hp
      have HUP := Lib.hid hp1
      clear hup hp1
      go_wp2_with fail
      go_loopw [6, 7] (fun v6 v7 w2 => CntR wr l rp j v6 v7 w2) (fun _ v7 _ => j - (intOf v7).toNat)
      case atStart => exact ⟨0, 0, Nat.zero_le _, Nat.le_refl _, rfl, rfl, rfl, 0, rfl⟩
      case round =>
        obtain ⟨k, m, hk, hmk, rfl, rfl, hmc, z, rfl⟩ := hrel
        have HMC := Lib.hid hmc
        have hbz : Below wr.heap.size wr (wr.drewN z) := below_drewN (Below.refl _ _) z
        clear hmc
        by_cases hlt : k < j
        · obtain ⟨b', off', he, hb', k0, -⟩ := HR.out k (by have := HN.out; omega)
          injection he with he
          injection he with e2 e3
          subst e2 e3
          obtain ⟨rq, hrq⟩ := name_of (at_ l k).p
          rw [hrq] at k0
          have ck := (hB.cell (p := ⟨b, _, none⟩) hb).trans k0
          have HQ := Lib.hid hrq
          clear k0 hrq hbz hown
          by_cases hpq : rq = rp
          · have e4 : (rq == rp) = true := by simpa using hpq
            have HPQ := Lib.hid hpq
            clear hpq
            go_wp2_with fail
            go_quiet (fail)
            go_wp2_with fail
            refine ⟨⟨k + 1, m + 1, hlt, by omega, by go_num, by go_num, ?_, _, rfl⟩, by simp [intOf]; omega⟩
            rw [kidsTo_succ, HQ.out, if_pos HPQ.out, HMC.out]; simp
          · have e4 : (rq == rp) = false := by simpa using hpq
            have HPQ := Lib.hid hpq
            clear hpq
            go_wp2_with fail
            go_quiet (fail)
            go_wp2_with fail
            refine ⟨⟨k + 1, m, hlt, by omega, by go_num, rfl, ?_, _, rfl⟩, by simp [intOf]; omega⟩
            rw [kidsTo_succ, HQ.out, if_neg HPQ.out, HMC.out]; simp
        · obtain rfl : k = j := by omega
          have HM : Hid (m = rank l k) := Lib.hid (by rw [HMC.out, rank, HP.out])
          have hB1 := hB.next hbz
          have hown1 := own_below hown hbz
          obtain ⟨W, hW⟩ := name_of (wr.drewN z)
          rw [hW] at hB1 hown1 ⊢
          clear hB hbz hown hW
          have hs2 : Sl (W.alloc (.cells #[.int .i64 m] 3)) (W.alloc (.cells #[.int .i64 m] 3)).heap.size 1 (.slice (some ⟨W.heap.size, 0, none⟩) 1 1) (iv [m]) := Sl.new W _ _ 1 _ rfl rfl rfl
          have hB2 := hB1.alloc hB1.size (.cells #[.int .i64 m] 3)
          have hown2 := hown1.alloc (.cells #[.int .i64 m] 3)
          have hq : ∃ q : Nat, rp = q ∧ q < k := ⟨rp.toNat, by have := HPP.out; omega, by have := HPP.out; have := HUP.out; omega⟩
          clear hown1 hB1
          go_wp2_with (at_builtin; refine wpList_append_sl rfl (.tmp 32) (.tmp 34) 36 rfl w.heap.size 3 (.int .i64 0) 1 8 Tryz.underlying36 info_int rfl (by omega) _ _ _ rfl hown2 _ 1 _ _ rfl hs2 rfl (iv_one _) (by omega) (by omega) hB2.size ?_; intro v6 w6 hown6 hg6 hat6; have hB6 := below_append hB2 hown2 hg6 (Nat.le_refl _); obtain ⟨A6, m6, c6, rfl⟩ := own_slice hown6; have c6 := (hB6.cell (p := ⟨b, _, none⟩) hb).trans h00; clear hown2 hs2 hg6 hat6 hB2)
          obtain ⟨q, rfl, hqk⟩ := hq
          refine ⟨⟨q, out ++ [m], by omega, by simp; omega, rfl, by rw [iv_append]; exact own_len hown6 (by simp) rfl, ?_, hB6⟩, by simp [intOf]; omega⟩
          rw [HW.out, wayL, HP.out, if_pos (by omega), ← HM.out, List.append_assoc]
          rw [show ((q : Nat) : Int).toNat = q from rfl, wayL_fuel HT.out.up (Nat.le_refl _) q k (q + 1) (by have := HN.out; omega) hqk (by omega)]
          rfl
    · have hp' : rp < 0 := by omega
      have e1 : decide (0 ≤ rp) = false := by simpa using hp'
      have HPP := Lib.hid hp
      obtain ⟨A6, m6, c6, rfl⟩ := own_slice hown
      clear hp hp' hup
      go_wp2_with fail
      go_ret
      refine way_post (n := out.length) ?_ ?_ hB
      · rw [HW.out, wayL, HP.out, if_neg (by have := HPP.out; omega), List.append_nil]; exact hown
      · rw [HW.out, wayL, HP.out, if_neg (by have := HPP.out; omega), List.append_nil]
def optI : Option Nat → Int
  | none => -1
  | some k => k
theorem findL_none (m : List Row) (ws : List Nat) : ws.foldr (fun x (o : Option Nat) => o.bind fun i => (kids m (i : Int))[x]?) none = none := by
  induction ws with
  | nil => rfl
  | cons x ws ih => rw [List.foldr_cons, ih]; rfl
theorem findL_drop {m : List Row} {ws : List Nat} {q : Nat} (hq : q < ws.length) : findL m (ws.drop q) = (findL m (ws.drop (q + 1))).bind fun i => (kids m (i : Int))[ws.getD q 0]? := by
  rw [List.drop_eq_getElem_cons hq, List.getD_eq_getElem?_getD, List.getElem?_eq_getElem hq]
  rfl
theorem findL_cut {m : List Row} {ws : List Nat} {q : Nat} (h : findL m (ws.drop q) = none) : findL m ws = none := by
  have e : ws = ws.take q ++ ws.drop q := (List.take_append_drop q ws).symm
  rw [e, findL, List.foldr_append]
  unfold findL at h
  rw [h]
  exact findL_none m _
def FindR (w : World) (m : List Row) (ws : List Nat) (v5 v6 : Value) (wr : World) : Prop :=
  ∃ (q i : Nat), q ≤ ws.length ∧ v5 = .int .i64 i ∧ v6 = .int .i64 ((q : Int) - 1) ∧ findL m (ws.drop q) = some i ∧ Below w.heap.size w wr

set_option maxHeartbeats 2000000 in
theorem find_any {w : World} {v vw : Value} {m : List Row} (h : Sl w w.heap.size 7 v (rowsC m)) (hlen : m.length ≤ 60) {ws : List Nat} (hw : Sl w w.heap.size 1 vw (iv ws)) (hws : ws.length ≤ 60) :
    Calls Tryz.prog 44 #[v, vw] w fun e w' => e = .returned (.int .i64 (optI (findL m ws))) ∧ Below w.heap.size w w' := by
  have HM := Lib.hid h
  obtain ⟨A, c, rfl, -, -⟩ := rows_open h
  obtain ⟨B, n, c', rfl, hnc, hn, hr⟩ := hw
  simp only [iv_length, Nat.mul_one] at hn
  have HR := Lib.hid hr
  have HN := Lib.hid hn
  rw [hn] at hws
  clear hn hr h
  go_enter Tryz.func44, Tryz.ntmps44
  go_wp2_with fail
  go_loopw [5, 6] (fun v5 v6 wr => FindR w m ws v5 v6 wr) (fun _ v6 _ => (intOf v6 + 1).toNat)
  case atStart => exact ⟨n, 0, by have := HN.out; omega, rfl, by go_num, by rw [List.drop_of_length_le (by have := HN.out; omega)]; rfl, Below.refl _ _⟩
  case round =>
    obtain ⟨q1, i, hq1, rfl, rfl, hF, hB⟩ := hrel
    have HF := Lib.hid hF
    clear hF
    rcases Nat.eq_zero_or_pos q1 with h0 | h0
    · subst h0
      have e1 : decide ((0 : Int) ≤ ((0 : Nat) : Int) - 1) = false := by decide
      have e0 : ((0 : Nat) : Int) - 1 = -1 := by decide
      rw [e0]
      clear e1 e0
      go_wp2_with fail
      go_ret
      refine ⟨ret_int ?_, hB⟩
      have := HF.out
      rw [List.drop_zero] at this
      rw [this]; rfl
    · obtain ⟨q, rfl⟩ : ∃ q, q1 = q + 1 := ⟨q1 - 1, by omega⟩
      have e0 : ((q + 1 : Nat) : Int) - 1 = q := by omega
      rw [e0]
      have hqn : q < n := by have := HN.out; omega
      have hK := refKids_any (HM.out.next hB) (Nat.le_trans hlen (by omega)) (i : Int)
      obtain ⟨b, off, rfl, hb, hx⟩ := HR.out (by omega)
      have c0 := range_iv hx q (by omega)
      have hFD := findL_drop (m := m) (ws := ws) (q := q) (by omega)
      rw [HF.out] at hFD
      obtain ⟨x, hxx⟩ := name_of (ws.getD q 0)
      rw [hxx] at c0 hFD
      obtain ⟨a, ha⟩ := name_of (kids m (i : Int)).length
      have HA := Lib.hid ha
      have HFD := Lib.hid hFD
      clear hxx hx h0 e0 hq1 hFD ha
      go_wp2_with fail
      refine hK.mono ?_
      rintro e w1 ⟨⟨A1, c1, rfl, hs1⟩, hb1⟩
      rw [HA.out] at hs1 ⊢
      have hB1 := hB.next hb1
      have g0 := (hB1.cell (p := ⟨b, _, none⟩) hb).trans c0
      have hKL := kidsTo_len m (i : Int) m.length
      have ha60 : a ≤ 60 := by have h1 := HA.out; unfold kids at h1; omega
      obtain ⟨A2, n2, c2, he, hnc2, hn2, hr2⟩ := hs1
      injection he with e1 e2 e3
      subst e1 e2 e3
      have HR2 := Lib.hid hr2
      clear hK hb1 hKL hr2 hB
      by_cases hxa : x < a
      · obtain ⟨b2, off2, rfl, hb2, hy⟩ := HR2.out (by omega)
        have g1 := range_iv hy x (by have := HA.out; omega)
        obtain ⟨y, hy1⟩ := name_of ((kids m (i : Int)).getD x 0)
        rw [hy1] at g1
        have HY := Lib.hid hy1
        clear hy hy1
        go_wp2_with fail
        refine ⟨⟨q, y, by have := HN.out; omega, rfl, by go_num, ?_, hB1⟩, by simp [intOf]⟩
        rw [HFD.out]
        show (kids m (i : Int))[x]? = some y
        have := HY.out
        rw [List.getD_eq_getElem?_getD, List.getElem?_eq_getElem (by have := HA.out; omega), Option.getD_some] at this
        rw [List.getElem?_eq_getElem (by have := HA.out; omega), this]
      · go_wp2_with fail
        go_ret
        refine ⟨ret_int ?_, hB1⟩
        rw [findL_cut (q := q) (by rw [HFD.out]; exact List.getElem?_eq_none (by have := HA.out; omega))]
        rfl
end P7
end Go.Proofs.YtajbchecjbddgaaGreatDoor
