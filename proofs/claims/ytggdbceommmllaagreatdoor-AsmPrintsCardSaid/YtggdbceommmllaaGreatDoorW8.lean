/- Merged: A4p Jr A4h. -/
import Derived.Test.YtggdbceommmllaaGreatDoorA3x
import Derived.Test.YtggdbceommmllaaGreatDoorJ3
import Derived.Test.YtggdbceommmllaaGreatDoorA3aw
/- Asm: plain laws of parses, in the form that the laws' walks take. -/
namespace Go.Proofs.YtggdbceommmllaaGreatDoor
open Go.RowKit
namespace P3
open P2 PC NumL CutL

theorem parseL_idx : ∀ (ls : List (List UInt8)) (n : Nat) (p q : List Fn) (k : Nat) (e : Int), parseL ls n p = (q, k, e) → k ≤ n + ls.length
  | [], n, p, q, k, e, h => by injection h with _ h; injection h with h _; simp; omega
  | [x], n, p, q, k, e, h => by
    rw [parseL] at h
    split at h
    · injection h with _ h; injection h with h _; simp; omega
    · split at h
      · injection h with _ h; injection h with h _; simp; omega
      · injection h with _ h; injection h with h _; simp; omega
  | x :: y :: r, n, p, q, k, e, h => by
    rw [parseL] at h
    cases ht : lineT x p with
    | inl e' => rw [ht] at h; injection h with _ h; injection h with h _; simp; omega
    | inr p' => rw [ht] at h; have := parseL_idx (y :: r) (n + 1) p' q k e h; simp at this ⊢; omega
theorem parse_bd (s : List UInt8) : (parseA s).1.length ≤ 9223372036854775807 ∧ ∀ f ∈ (parseA s).1, f.2.length ≤ 9223372036854775807 := by
  unfold parseA
  split
  · exact ⟨by simp, fun f hf => by cases hf⟩
  · obtain ⟨⟨q, k, e⟩, h⟩ := name_of (parseL (splitC 10 s) 0 [])
    rw [h]
    by_cases he : e = 0
    · subst he
      obtain ⟨-, hE, -⟩ := print_parse h
      obtain ⟨h1, h2, h3⟩ := progE_ok hE
      exact ⟨by simp only; omega, fun f hf => by have := (packE_ok (h3 f hf)).2.2.2.1; omega⟩
    · have := parse_err _ _ _ _ _ _ h he
      subst this
      exact ⟨by simp, fun f hf => by cases hf⟩
/-- A text that is parsed as p. -/
theorem parse_ok {s : ByteArray} {p : List Fn} (hs : s.size ≤ 200000) (h : parseA s.data.toList = (p, 0, 0)) (w : World) (hl : Lb w) :
    Calls Tryz.prog 10 #[.string s] w fun e w' => ∃ A c, e = .returned (.tuple #[.agg #[.slice A p.length c], .int .i64 0, .int .i64 0]) ∧ Fns w' w'.heap.size (.slice A p.length c) p ∧ Below w.heap.size w w' :=
  (parse_any s hs w hl).mono fun e w' hP => by
    rw [h] at hP
    obtain ⟨v, he, hf, hb⟩ := hP
    obtain ⟨A, c, rfl, -, -⟩ := hf.open_
    exact ⟨A, c, he, hf, hb⟩
/-- A text that is none. -/
theorem parse_no {s : ByteArray} {k : Nat} {E : Int} (hs : s.size ≤ 200000) (h : parseA s.data.toList = ([], k, E)) (w : World) (hl : Lb w) :
    Calls Tryz.prog 10 #[.string s] w fun e w' => ∃ A c, e = .returned (.tuple #[.agg #[.slice A 0 c], .int .i64 k, .int .i64 E]) ∧ Below w.heap.size w w' :=
  (parse_any s hs w hl).mono fun e w' hP => by
    rw [h] at hP
    obtain ⟨v, he, hf, hb⟩ := hP
    obtain ⟨A, c, rfl, -, -⟩ := hf.open_
    exact ⟨A, c, he, hb⟩
theorem parseA_small {s : List UInt8} (h : s.length ≤ 131072) : parseA s = parseL (splitC 10 s) 0 [] := by
  unfold parseA
  rw [if_neg (by omega)]
theorem parseA_print {p : List Fn} (h : progE p = 0) : parseA (printL 0 p) = (p, 0, 0) := by
  rw [parseA_small (print_size h), parse_print h]
theorem below_size {w w' : World} {o : Obj} (hb : Below (w.alloc o).heap.size (w.alloc o) w') : w.heap.size < w'.heap.size := by
  have := hb.size
  simp at this
  omega
theorem Fns.box {w : World} {A : Option Addr} {n c : Nat} {p : List Fn} (hp : Fns w w.heap.size (.slice A n c) p) : n = p.length := by
  obtain ⟨A', c', e, -, -⟩ := hp.open_
  injection e
end P3
end Go.Proofs.YtggdbceommmllaaGreatDoor

/- Walks: the reference's Encode and Pack. -/
namespace Go.Proofs.YtggdbceommmllaaGreatDoor
open Go.RowKit
namespace P2

theorem u32_neg {n : Int} (h9 : -2147483648 ≤ n) (h : n < 0) : u32 n = n + 4294967296 := by unfold u32; omega
theorem u32_pos {n : Int} (h10 : n ≤ 2147483647) (h : 0 ≤ n) : u32 n = n := by unfold u32; omega

theorem refEncode_ok (i : Ins) (h : chk i = 0) (w : World) : Calls Tryz.prog 34 #[insV i] w fun e w' => ∃ v, e = .returned v ∧ Sl w' w'.heap.size 1 v (bv (encB i)) ∧ Below w.heap.size w w' := by
  obtain ⟨op, a, b, c, n⟩ := i
  obtain ⟨⟨h1, h2⟩, ⟨h3, h4⟩, ⟨h5, h6⟩, ⟨h7, h8⟩, ⟨h9, h10⟩⟩ := ok_bounds h
  clear h
  unfold insV
  by_cases hn : n < 0
  · have hu := Lib.hid (u32_neg h9 hn)
    go_enter Tryz.func34, Tryz.ntmps34
    go_wp2
    go_ret
    refine ⟨_, rfl, Sl.new (w.alloc _) _ _ 8 _ (by simp) rfl ?_, by go_grown⟩
    simp [bv, encB, hu.out]
  · have hu := Lib.hid (u32_pos h10 (by omega))
    go_enter Tryz.func34, Tryz.ntmps34
    go_wp2
    go_ret
    refine ⟨_, rfl, Sl.new (w.alloc _) _ _ 8 _ (by simp) rfl ?_, by go_grown⟩
    simp [bv, encB, hu.out]
theorem refPack_long {w : World} {B : Nat} {pv : Value} {p : List Fn} (hp : Fns w B pv p) (h : p.length < 1 ∨ 32 < p.length) (hmax : p.length ≤ 9223372036854775807) :
    Calls Tryz.prog 16 #[.agg #[pv]] w fun e w' => e = .returned (.tuple #[.slice none 0 0, .int .i64 12]) ∧ Below w.heap.size w w' := by
  obtain ⟨A, c, rfl, hc, -⟩ := hp.open_
  have hmax' : ((p.length : Nat) : Int) ≤ 9223372036854775807 := by omega
  clear hp
  generalize p.length = n at *
  rcases h with h | h
  · go_enter Tryz.func16, Tryz.ntmps16
    go_wp2_with fail
    go_ret2
    exact ⟨rfl, by go_grown⟩
  · go_enter Tryz.func16, Tryz.ntmps16
    go_wp2_with fail
    go_ret2
    exact ⟨rfl, by go_grown⟩

def OutR (w : World) (A : Option Addr) (c : Nat) (p : List Fn) (n : Nat) (v i : Value) (wr : World) : Prop :=
  ∃ k : Nat, k ≤ n ∧ i = .int .i64 k ∧ (∀ f ∈ p.take k, packE f = 0) ∧ wr.ownsRow w.heap.size 5 1 v (outB p k).length (bv (outB p k)) ∧ Below w.heap.size w wr ∧
    wr.heap[w.heap.size]? = some (.cells #[.slice A n c] 24 (0, 0))
def InR (w : World) (A : Option Addr) (c : Nat) (p : List Fn) (n k : Nat) (f : Fn) (cv : Value) (bf : Nat) (v i : Value) (wr : World) : Prop :=
  ∃ j : Nat, j ≤ f.2.length ∧ i = .int .i64 j ∧ (∀ x ∈ f.2.take j, chk x = 0) ∧ wr.ownsRow w.heap.size 5 1 v (inB p k f j).length (bv (inB p k f j)) ∧ Below w.heap.size w wr ∧
    wr.heap[w.heap.size]? = some (.cells #[.slice A n c] 24 (0, 0)) ∧ wr.heap[bf]? = some (.cells #[.int .i64 f.1, cv] 32 (0, 0)) ∧ w.heap.size < bf

set_option maxHeartbeats 4000000 in
theorem refPack_any {w : World} {pv : Value} {p : List Fn} (hp : Fns w w.heap.size pv p) (h1 : 1 ≤ p.length) (h2 : p.length ≤ 32) :
    Calls Tryz.prog 16 #[.agg #[pv]] w (RefPost p w) := by
  obtain ⟨A, c, rfl, hc, hf⟩ := hp.open_
  have hF := Lib.hid hf
  clear hf hp
  obtain ⟨n, hn⟩ : ∃ n, p.length = n := ⟨_, rfl⟩
  rw [hn] at h1 h2 hc ⊢
  have HN := Lib.hid hn
  clear hn
  have hs0 : Sl ((w.alloc (.cells #[.slice A n c] 24)).alloc (.cells #[.int .u8 n] 5)) ((w.alloc (.cells #[.slice A n c] 24)).alloc (.cells #[.int .u8 n] 5)).heap.size 1
      (.slice (some ⟨w.heap.size + 1, 0, none⟩) 1 1) (bv [(n : Int)]) := Sl.new (w.alloc _) _ _ 1 _ (by simp) rfl rfl
  have hB0 : Below w.heap.size w ((w.alloc (.cells #[.slice A n c] 24)).alloc (.cells #[.int .u8 n] 5)) := by go_grown
  have hb0 : ((w.alloc (.cells #[.slice A n c] 24)).alloc (.cells #[.int .u8 n] 5)).heap[w.heap.size]? = some (.cells #[.slice A n c] 24 (0, 0)) := heap_alloc2_old _ _ _
  have HB0 := Lib.hid hb0
  clear hb0
  go_enter Tryz.func16, Tryz.ntmps16
  go_wp2_with (at_builtin; refine wpList_append_sl rfl (.tmp 19) (.tmp 24) 40 rfl w.heap.size 5 (.int .u8 0) 1 1 Tryz.underlying40 info_u8 rfl (by omega) (.slice none 0 0) _ _ rfl (World.ownsRow_nil _ _ _ _) _ 1 _ _ rfl hs0 rfl (bv_one _) (by omega) (by omega) hB0.size ?_; intro v1 w1 hown1 hg1 hat1)
  have hB1 := below_append hB0 (World.ownsRow_nil _ _ 5 1) hg1 (Nat.le_refl _)
  have hb1 := Lib.hid (grown_block hg1 HB0.out (by simp [Value.ownBlock]))
  have hown1' := own_len (m := (outB p 0).length) (ys := bv (outB p 0)) hown1 rfl (by simp [outB, HN.out])
  clear hown1 hg1 hat1 hs0 hB0 HB0
  go_loopw [4, 5] (fun v i wr => OutR w A c p n v i wr) (fun _ i _ => n - (intOf i).toNat)
  case atStart => exact ⟨0, Nat.zero_le _, rfl, by simp, hown1', hB1, hb1.out⟩
  case round =>
    obtain ⟨k, hk, rfl, hok, hown, hB, hbox⟩ := hrel
    clear hB1 hb1 hown1'
    obtain ⟨wo, rfl⟩ : ∃ wo : World, wo = wr := ⟨_, rfl⟩
    have hboxc : wo.cell? ⟨w.heap.size, 0, none⟩ = some (.slice A n c) := by rw [cell_of_row _ _ _ _ _ _ hbox]; rfl
    have HBX := Lib.hid hbox
    have HOK := Lib.hid hok
    clear hbox hok
    by_cases hlt : k < n
    · have hkp : k < p.length := by have := HN.out; omega
      obtain ⟨b, off, cv, rfl, hb, hc0, hc1, hcode⟩ := hF.out k hkp
      obtain ⟨f, hfk⟩ : ∃ f, p[k] = f := ⟨_, rfl⟩
      rw [hfk] at hc0 hcode
      have HFK := Lib.hid hfk
      clear hfk
      obtain ⟨x, l⟩ := f
      obtain ⟨A2, c2, rfl, hmc, hl⟩ := code_open hcode
      have HL := Lib.hid hl
      clear hl hcode
      obtain ⟨m, hm⟩ : ∃ m, l.length = m := ⟨_, rfl⟩
      rw [hm] at hmc hc1
      have HM := Lib.hid hm
      clear hm
      have hw0 : wo.cell? ⟨b, off + k * 2, none⟩ = some (.int .i64 x) := (hB.cell (p := ⟨b, _, none⟩) hb).trans hc0
      have hw1 : wo.cell? ⟨b, off + k * 2 + 1, none⟩ = some (.slice A2 m c2) := (hB.cell (p := ⟨b, _, none⟩) hb).trans hc1
      have hbw : b < wo.heap.size := World.block_lt_of_cell? wo _ hw0
      have hbs : w.heap.size < wo.heap.size := World.block_lt_of_cell? wo _ hboxc
      clear hc0 hc1
      by_cases hx0 : x < 0
      · go_wp2_with fail
        go_ret2
        have hE : firstE p = 10 := by
          rw [firstE_take p k hkp HOK.out (by rw [HFK.out]; rw [packE, if_pos (.inl hx0)]; decide), HFK.out]
          rw [packE, if_pos (.inl hx0)]
        exact ⟨⟨_, by rw [hE]; rfl, fun h0 => absurd (hE.symm.trans h0) (by decide), fun _ => rfl⟩, hB.alloc (Nat.le_of_lt hbs) _⟩
      by_cases hx1 : 255 < x
      · go_wp2_with fail
        go_ret2
        have hE : firstE p = 10 := by
          rw [firstE_take p k hkp HOK.out (by rw [HFK.out]; rw [packE, if_pos (.inr hx1)]; decide), HFK.out]
          rw [packE, if_pos (.inr hx1)]
        exact ⟨⟨_, by rw [hE]; rfl, fun h0 => absurd (hE.symm.trans h0) (by decide), fun _ => rfl⟩, hB.alloc (Nat.le_of_lt hbs) _⟩
      by_cases hm0 : m < 1
      · go_wp2_with fail
        go_ret2
        have hE : firstE p = 12 := by
          rw [firstE_take p k hkp HOK.out (by rw [HFK.out]; rw [packE, if_neg (by simp only; omega), if_pos (by simp only; have := HM.out; omega)]; decide), HFK.out]
          rw [packE, if_neg (by simp only; omega), if_pos (by simp only; have := HM.out; omega)]
        exact ⟨⟨_, by rw [hE]; rfl, fun h0 => absurd (hE.symm.trans h0) (by decide), fun _ => rfl⟩, hB.alloc (Nat.le_of_lt hbs) _⟩
      by_cases hm1 : 128 < m
      · go_wp2_with fail
        go_ret2
        have hE : firstE p = 12 := by
          rw [firstE_take p k hkp HOK.out (by rw [HFK.out]; rw [packE, if_neg (by simp only; omega), if_pos (by simp only; have := HM.out; omega)]; decide), HFK.out]
          rw [packE, if_neg (by simp only; omega), if_pos (by simp only; have := HM.out; omega)]
        exact ⟨⟨_, by rw [hE]; rfl, fun h0 => absurd (hE.symm.trans h0) (by decide), fun _ => rfl⟩, hB.alloc (Nat.le_of_lt hbs) _⟩
      have hx0' : 0 ≤ x := by omega
      have hx1' : x ≤ 255 := by omega
      have hm0' : 1 ≤ m := by omega
      have hm1' : m ≤ 128 := by omega
      clear hx0 hx1 hm0 hm1
      have hs1 : Sl ((wo.alloc (.cells #[.int .i64 x, .slice A2 m c2] 32)).alloc (.cells #[.int .u8 x, .int .u8 m] 5)) ((wo.alloc (.cells #[.int .i64 x, .slice A2 m c2] 32)).alloc (.cells #[.int .u8 x, .int .u8 m] 5)).heap.size 1
          (.slice (some ⟨wo.heap.size + 1, 0, none⟩) 2 2) (bv [x, (m : Int)]) := Sl.new (wo.alloc _) _ _ 2 _ (by simp) rfl rfl
      have hB2 : Below w.heap.size w ((wo.alloc (.cells #[.int .i64 x, .slice A2 m c2] 32)).alloc (.cells #[.int .u8 x, .int .u8 m] 5)) := (hB.alloc (Nat.le_of_lt hbs) _).alloc (by simp; omega) _
      have hb2 := Lib.hid ((Below.heap_alloc (wo.alloc (.cells #[.int .i64 x, .slice A2 m c2] 32)) (.cells #[.int .u8 x, .int .u8 m] 5) w.heap.size (by simp; omega)).trans ((Below.heap_alloc wo (.cells #[.int .i64 x, .slice A2 m c2] 32) w.heap.size hbs).trans HBX.out))
      have hf2 := Lib.hid (heap_alloc2_old wo (.cells #[.int .i64 x, .slice A2 m c2] 32) (.cells #[.int .u8 x, .int .u8 m] 5))
      have hlen := outB_length HOK.out (by have := HN.out; omega)
      go_wp2_with (at_builtin; refine wpList_append_sl rfl (.tmp 56) (.tmp 64) 40 rfl w.heap.size 5 (.int .u8 0) 1 1 Tryz.underlying40 info_u8 rfl (by omega) _ _ _ rfl ((hown.alloc _).alloc _) _ 2 _ _ rfl hs1 rfl (bv_one _) (by omega) (by omega) hB2.size ?_; intro v2 w2 hown2 hg2 hat2)
      have hB3 := below_append hB2 ((hown.alloc _).alloc _) hg2 (Nat.le_refl _)
      have hb3 := Lib.hid (grown_block hg2 hb2.out (own_ne ((hown.alloc _).alloc _) hb2.out (by decide)))
      have hf3 := Lib.hid (grown_block hg2 hf2.out (own_ne ((hown.alloc _).alloc _) hf2.out (by decide)))
      have hown3 := own_len (m := (inB p k (x, l) 0).length) (ys := bv (inB p k (x, l) 0)) hown2 (by rw [inB_zero]; simp) (by rw [inB_zero, HM.out, bv_append])
      clear hown2 hg2 hat2 hs1 hB2 hb2 hf2 hown hB hboxc HBX hw0 hw1
      have HCODE := Lib.hid True.intro
      go_loopw [4, 7] (fun v i wq => InR w (some ⟨b, off, none⟩) c p n k (x, l) (.slice A2 m c2) wo.heap.size v i wq) (fun _ i _ => m - (intOf i).toNat)
      case atStart => exact ⟨0, Nat.zero_le _, rfl, by simp, hown3, hB3, hb3.out, hf3.out, hbs⟩
      case round =>
        obtain ⟨j, hj, rfl, hjok, hown, hB, hbox, hfb, -⟩ := hrel
        clear hB3 hb3 hf3 hown3
        simp only [HM.out] at hj
        have hfc0 : wr.cell? ⟨wo.heap.size, 0, none⟩ = some (.int .i64 x) := by rw [cell_of_row _ _ _ _ _ _ hfb]; rfl
        have hfc1 : wr.cell? ⟨wo.heap.size, 1, none⟩ = some (.slice A2 m c2) := by rw [cell_of_row _ _ _ _ _ _ hfb]; rfl
        have hpc : wr.cell? ⟨w.heap.size, 0, none⟩ = some (.slice (some ⟨b, off, none⟩) n c) := by rw [cell_of_row _ _ _ _ _ _ hbox]; rfl
        have HBX := Lib.hid hbox
        have HFB := Lib.hid hfb
        have HJ := Lib.hid hjok
        clear hbox hfb hjok
        by_cases hjl : j < m
        · have hjp : j < l.length := by have := HM.out; omega
          obtain ⟨b2, off2, rfl, hb2, g0, g1, g2, g3, g4⟩ := HL.out j hjp
          obtain ⟨i, hi⟩ : ∃ i, l[j] = i := ⟨_, rfl⟩
          rw [hi] at g0 g1 g2 g3 g4
          have HI := Lib.hid hi
          clear hi
          obtain ⟨iop, ia, ib, ic, iN⟩ := i
          have q0 : wr.cell? ⟨b2, off2 + j * 5, none⟩ = some (.int .i64 iop) := (hB.cell (p := ⟨b2, _, none⟩) hb2).trans g0
          have q1 : wr.cell? ⟨b2, off2 + j * 5 + 1, none⟩ = some (.int .i64 ia) := (hB.cell (p := ⟨b2, _, none⟩) hb2).trans g1
          have q2 : wr.cell? ⟨b2, off2 + j * 5 + 2, none⟩ = some (.int .i64 ib) := (hB.cell (p := ⟨b2, _, none⟩) hb2).trans g2
          have q3 : wr.cell? ⟨b2, off2 + j * 5 + 3, none⟩ = some (.int .i64 ic) := (hB.cell (p := ⟨b2, _, none⟩) hb2).trans g3
          have q4 : wr.cell? ⟨b2, off2 + j * 5 + 4, none⟩ = some (.int .i64 iN) := (hB.cell (p := ⟨b2, _, none⟩) hb2).trans g4
          clear g0 g1 g2 g3 g4
          go_wp2_with fail
          refine (refCheck_any (iop, ia, ib, ic, iN) _).mono ?_
          rintro e w3 ⟨rfl, hb3⟩
          have hbr : wo.heap.size < wr.heap.size := World.block_lt_of_cell? wr _ hfc0
          have hbr2 : b2 < wr.heap.size := World.block_lt_of_cell? wr _ q0
          have hown3 := own_below hown hb3
          have hB3 := hB.trans (hb3.mono hB.size)
          have hP : packE (x, l) = firstBad l := by
            rw [packE, if_neg (by simp only; omega), if_neg (by simp only; have := HM.out; omega)]
          by_cases hk0 : chk (iop, ia, ib, ic, iN) = 0
          · have hkne : (chk (iop, ia, ib, ic, iN) != 0) = false := by simpa using hk0
            have HK0 := Lib.hid hk0
            clear hk0
            have f0 : w3.cell? ⟨wo.heap.size, 0, none⟩ = some (.int .i64 x) := (hb3.cell (p := ⟨_, _, none⟩) hbr).trans hfc0
            have f1 : w3.cell? ⟨wo.heap.size, 1, none⟩ = some (.slice (some ⟨b2, off2, none⟩) m c2) := (hb3.cell (p := ⟨_, _, none⟩) hbr).trans hfc1
            have r0 := (hb3.cell (p := ⟨b2, _, none⟩) hbr2).trans q0
            have r1 := (hb3.cell (p := ⟨b2, _, none⟩) hbr2).trans q1
            have r2 := (hb3.cell (p := ⟨b2, _, none⟩) hbr2).trans q2
            have r3 := (hb3.cell (p := ⟨b2, _, none⟩) hbr2).trans q3
            have r4 := (hb3.cell (p := ⟨b2, _, none⟩) hbr2).trans q4
            have hbx3 := Lib.hid ((hb3.block _ (lt_of_block HBX.out)).trans HBX.out)
            have hfx3 := Lib.hid ((hb3.block _ hbr).trans HFB.out)
            have hin := inB_length (f := (x, l)) (j := j) HOK.out (by have := HN.out; omega) (by have := HM.out; simp only; omega)
            clear q0 q1 q2 q3 q4 hfc0 hfc1 hpc HBX HFB hown hB hb3
            go_wp2_with fail
            refine (refEncode_ok (iop, ia, ib, ic, iN) HK0.out _).mono ?_
            rintro e w4 ⟨v4, rfl, hs4, hb4⟩
            have hown4 := own_below hown3 hb4
            have hB4 := hB3.trans (hb4.mono hB3.size)
            have hbx4 := Lib.hid ((hb4.block _ (lt_of_block hbx3.out)).trans hbx3.out)
            have hfx4 := Lib.hid ((hb4.block _ (lt_of_block hfx3.out)).trans hfx3.out)
            clear hbx3 hfx3 hown3 hb4 r0 r1 r2 r3 r4 f0 f1
            go_wp2_with (at_builtin; refine wpList_append_sl rfl (.tmp 82) (.tmp 88) 40 rfl w.heap.size 5 (.int .u8 0) 1 1 Tryz.underlying40 info_u8 rfl (by omega) _ _ _ rfl hown4 _ 8 _ _ rfl hs4 rfl (bv_one _) (by omega) (by omega) hB4.size ?_; intro v5 w5 hown5 hg5 hat5)
            have hB5 := below_append hB4 hown4 hg5 (Nat.le_refl _)
            have hb5 := grown_block hg5 hbx4.out (own_ne hown4 hbx4.out (by decide))
            have hf5 := grown_block hg5 hfx4.out (own_ne hown4 hfx4.out (by decide))
            have he : inB p k (x, l) (j + 1) = inB p k (x, l) j ++ encB (iop, ia, ib, ic, iN) := by rw [inB_succ hjp, HI.out]
            have hown5' := own_len (m := (inB p k (x, l) (j + 1)).length) (ys := bv (inB p k (x, l) (j + 1))) hown5 (by rw [he, List.length_append]; rfl) (by rw [he, bv_append])
            exact ⟨⟨j + 1, by simp only [HM.out]; omega, by go_num, all_take_succ hjp HJ.out (by rw [HI.out]; exact HK0.out), hown5', hB5, hb5, hf5, hbs⟩, by simp [intOf]; omega⟩
          · have hkne : (chk (iop, ia, ib, ic, iN) != 0) = true := by simpa using hk0
            go_wp2_with fail
            go_ret2
            have hE : firstE p = chk (iop, ia, ib, ic, iN) := by
              have hfb := firstBad_take l j hjp HJ.out (by rw [HI.out]; exact hk0)
              rw [HI.out] at hfb
              rw [firstE_take p k hkp HOK.out (by rw [HFK.out, hP, hfb]; exact hk0), HFK.out, hP, hfb]
            exact ⟨⟨_, by rw [hE]; rfl, fun h0 => absurd (hE.symm.trans h0) hk0, fun _ => rfl⟩, hB3⟩
        · have hjm : j = m := by omega
          subst hjm
          go_wp2_with fail
          have hP : packE (x, l) = 0 := by
            rw [packE, if_neg (by simp only; omega), if_neg (by simp only; have := HM.out; omega)]
            exact firstBad_ok (by have := HJ.out; rwa [List.take_of_length_le (by have := HM.out; simp only; omega)] at this)
          have he : inB p k (x, l) j = outB p (k + 1) := by rw [outB_succ hkp, HFK.out, HM.out]
          rw [he] at hown
          exact ⟨⟨k + 1, by omega, by go_num, all_take_succ hkp HOK.out (by rw [HFK.out]; exact hP), hown, hB, HBX.out⟩, by simp [intOf]; omega⟩
    · go_wp2_with fail
      go_ret2
      have hkn : k = n := by omega
      subst hkn
      have hE : firstE p = 0 := firstE_ok (by have := HOK.out; rwa [List.take_of_length_le (by have := HN.out; omega)] at this)
      refine ⟨⟨_, by rw [hE]; rfl, fun _ => ?_, fun h0 => absurd hE h0⟩, hB⟩
      have := hown
      rw [show outB p k = progB p by rw [← outB_all p, HN.out]] at this
      exact Sl.own this

theorem refPackAll {w : World} {pv : Value} {p : List Fn} (hp : Prog w pv p) : Calls Tryz.prog 16 #[.agg #[pv]] w (PackAll p w) := by
  by_cases h : p.length < 1 ∨ 32 < p.length
  · have hE : progE p = 12 := by rw [progE, if_pos h]
    refine (refPack_long hp.1 h hp.2.1).mono ?_
    rintro e w' ⟨rfl, hb⟩
    exact ⟨_, by rw [hE], fun h0 => absurd (hE.symm.trans h0) (by decide), fun _ => rfl, hb⟩
  · have hE : progE p = firstE p := by rw [progE, if_neg h]
    refine (refPack_any hp.1 (by omega) (by omega)).mono ?_
    rintro e w' ⟨⟨v, rfl, h1, h2⟩, hb⟩
    exact ⟨v, by rw [hE], by rw [hE]; exact h1, by rw [hE]; exact h2, hb⟩

end P2
end Go.Proofs.YtggdbceommmllaaGreatDoor

/- Walks: the reference's Print, AsmPrints. -/
namespace Go.Proofs.YtggdbceommmllaaGreatDoor
open Go.RowKit
namespace P3
open P2 PC NumL CutL

/-- What the reference's Line is handed. -/
theorem chk_ref {i : Ins} (h : chk i = 0) (w : World) : Calls Tryz.prog 18 #[insV i] w fun e w' => e = .returned (.string ⟨(lineA i).toArray⟩) ∧ Below w.heap.size w w' := by
  obtain ⟨h1, h2⟩ := chk_zero h
  obtain ⟨op, ho, hop⟩ := op_nat h1
  have hwf := chk_wf h
  obtain ⟨o, a, b, c, n⟩ := i
  simp only at ho
  subst ho
  refine refLine_any op hop a b c n hwf (fun k hk => ?_) (fun k hk hf => ?_) w
  · have h3 := h2 k hk
    have h4 := inR_iff.1 h3
    have h5 := (kind_hi hop hk).2
    simp only at h4
    omega
  · have h3 := h2 k hk
    have h4 := inR_iff.1 h3
    have h5 := kind_five hop hk hf
    simp only at h4
    omega
theorem refPrint_bad {w : World} {v : Value} {p : List Fn} (hp : Prog w v p) (h : progE p ≠ 0) : Calls Tryz.prog 7 #[.agg #[v]] w fun e w' => e = .returned (.tuple #[.string ⟨#[]⟩, .int .i64 (progE p)]) ∧ Below w.heap.size w w' := by
  have hv := hp.1
  obtain ⟨A, c, rfl, -, -⟩ := hv.open_
  have hb0 : Below w.heap.size w (w.alloc (.cells #[.slice A p.length c] 24)) := by go_grown
  have hP := refPackAll (hp.next hb0)
  have hne : (progE p != 0) = true := bne_iff_ne.2 h
  have HPE := Lib.hid h
  obtain ⟨E, hE⟩ := name_of (progE p)
  obtain ⟨n, hn⟩ := name_of p.length
  have hP2 : Calls Tryz.prog 16 #[.agg #[.slice A n c]] (w.alloc (.cells #[.slice A n c] 24)) fun e w' => e = .returned (.tuple #[.slice none 0 0, .int .i64 E]) ∧ Below w.heap.size w w' := by
    rw [← hn, ← hE]
    refine hP.mono ?_
    rintro e w' ⟨v, rfl, -, h2, hb⟩
    rw [h2 HPE.out]
    exact ⟨rfl, hb0.next hb⟩
  rw [hE] at hne ⊢
  rw [hn]
  clear hP hp hv hb0 hE hn h HPE
  go_enter Tryz.func7, Tryz.ntmps7
  go_wp2_with fail
  refine hP2.mono ?_
  rintro e w1 ⟨rfl, hb1⟩
  clear hP2
  go_wp2_with fail
  go_ret2
  exact ⟨rfl, hb1⟩
theorem refNumeral_b (a : Nat) (h : a ≤ 9223372036854775807) (w : World) : Calls Tryz.prog 17 #[.int .i64 a] w fun e w' => e = .returned (.string ⟨(Lib.decDigits a).toArray⟩) ∧ Below w.heap.size w w' :=
  (refNumeral_any a h w).mono fun e w' ⟨he, q, hw⟩ => ⟨he, by rw [hw]; exact below_drewN (Below.refl _ _) _⟩
theorem itoa_nat (a : Nat) : Lib.itoa (a : Int) = Lib.decDigits a := by
  rcases itoa_parts (a : Int) with ⟨b, hb, h⟩ | ⟨b, h0, hb, h⟩
  · have : a = b := by omega
    subst this
    exact h
  · omega
def OutZ (W0 : World) (p : List Fn) (n : Nat) (o i : Value) (wr : World) : Prop :=
  ∃ k : Nat, k ≤ n ∧ o = .string ⟨(outT p k).toArray⟩ ∧ i = .int .i64 k ∧ Below W0.heap.size W0 wr
def InZ (W8 : World) (p : List Fn) (k : Nat) (m : Int) (l : List Ins) (n : Nat) (o i : Value) (wr : World) : Prop :=
  ∃ j : Nat, j ≤ n ∧ o = .string ⟨(inT p k m l j).toArray⟩ ∧ i = .int .i64 j ∧ Below W8.heap.size W8 wr
abbrev HeadZ (g : Nat) (m : Int) (W8 W : World) : Prop := W.cell? ⟨g, 0, none⟩ = some (.int .i64 m) ∧ Below W8.heap.size W8 W
theorem HeadZ.nx {g : Nat} {m : Int} {W8 W W' : World} (hb : Below W.heap.size W W') (h : HeadZ g m W8 W) : HeadZ g m W8 W' :=
  ⟨(hb.cell (p := ⟨g, 0, none⟩) (World.block_lt_of_cell? _ _ h.1)).trans h.1, h.2.next hb⟩
set_option maxRecDepth 10000 in
set_option maxHeartbeats 8000000 in
theorem refPrint_ok {w : World} {v : Value} {p : List Fn} (hp : Prog w v p) (h : progE p = 0) : Calls Tryz.prog 7 #[.agg #[v]] w fun e w' => e = .returned (.tuple #[.string ⟨(printL 0 p).toArray⟩, .int .i64 0]) ∧ Below w.heap.size w w' := by
  obtain ⟨h1, h2, h3⟩ := progE_ok h
  obtain ⟨A, c, rfl, hc, hf⟩ := hp.1.open_
  have HF := Lib.hid hf
  have HE := Lib.hid h3
  have hb0 : Below w.heap.size w (w.alloc (.cells #[.slice A p.length c] 24)) := by go_grown
  have hP := refPackAll (hp.next hb0)
  obtain ⟨n, hn⟩ := name_of p.length
  have HN := Lib.hid hn
  rw [hn] at hb0
  have hbx : (w.alloc (.cells #[.slice A n c] 24)).cell? ⟨w.heap.size, 0, none⟩ = some (.slice A n c) := by simp
  have hP2 : Calls Tryz.prog 16 #[.agg #[.slice A n c]] (w.alloc (.cells #[.slice A n c] 24)) fun e w' => (∃ v, e = .returned (.tuple #[v, .int .i64 0])) ∧ Below (w.alloc (.cells #[.slice A n c] 24)).heap.size (w.alloc (.cells #[.slice A n c] 24)) w' := by
    rw [← hn]
    refine hP.mono ?_
    rintro e w' ⟨v, rfl, -, -, hb⟩
    exact ⟨⟨v, by rw [h]⟩, hb⟩
  have hw0 : w.heap.size < (w.alloc (.cells #[.slice A n c] 24)).heap.size := by simp
  rw [hn] at h1 h2 hc
  clear hP hp hf h3 h
  rw [hn]
  clear hn
  go_enter Tryz.func7, Tryz.ntmps7
  go_wp2_with fail
  refine hP2.mono ?_
  rintro e w1 ⟨⟨v1, rfl⟩, hb1⟩
  obtain ⟨W0, hW0⟩ := name_of (w.alloc (.cells #[.slice A n c] 24))
  rw [hW0] at hb0 hbx hb1 hw0
  clear hP2 hW0
  go_wp2_with fail
  go_loopw [6, 7] (fun o i wr => OutZ W0 p n o i wr) (fun _ i _ => n - (intOf i).toNat)
  case atStart => exact ⟨0, Nat.zero_le _, by rw [outT_zero], rfl, hb1⟩
  case round =>
    clear hb1
    obtain ⟨k, hk, rfl, rfl, hX⟩ := hrel
    have hBw : Below w.heap.size w wr := hb0.next hX
    have hc0 := (hX.cell (p := ⟨w.heap.size, 0, none⟩) hw0).trans hbx
    have hwr : w.heap.size < wr.heap.size := World.block_lt_of_cell? _ _ hc0
    by_cases hlt : k < n
    · have hkp : k < p.length := by have := HN.out; omega
      obtain ⟨b, off, cv, rfl, hb, hf0, hf1, hcode⟩ := HF.out k hkp
      have hpe := packE_ok (HE.out p[k] (List.getElem_mem hkp))
      have HOS := Lib.hid (outT_succ hkp)
      have hol := outT_len (k := k) (by have := HN.out; omega) HE.out
      obtain ⟨f, hfk⟩ := name_of p[k]
      rw [hfk] at hf0 hcode hpe HOS
      clear hfk
      obtain ⟨m, l⟩ := f
      simp only at hf0 hcode hpe HOS
      obtain ⟨hm0, hm1, hl1, hl2, hlc⟩ := hpe
      obtain ⟨A2, c3, rfl, hcc, hcd⟩ := code_open hcode
      obtain ⟨b3, o3, rfl, hb3, -⟩ := hcd 0 (by omega)
      have HCD : Hid (∀ (j : Nat) (hj : j < l.length), w.cell? ⟨b3, o3 + j * 5, none⟩ = some (.int .i64 l[j].1) ∧ w.cell? ⟨b3, o3 + j * 5 + 1, none⟩ = some (.int .i64 l[j].2.1) ∧ w.cell? ⟨b3, o3 + j * 5 + 2, none⟩ = some (.int .i64 l[j].2.2.1) ∧ w.cell? ⟨b3, o3 + j * 5 + 3, none⟩ = some (.int .i64 l[j].2.2.2.1) ∧ w.cell? ⟨b3, o3 + j * 5 + 4, none⟩ = some (.int .i64 l[j].2.2.2.2)) := Lib.hid fun j hj => by
        obtain ⟨b', o', e, _, r⟩ := hcd j hj
        injection e with e
        injection e with e1 e2
        subst e1 e2
        exact r
      obtain ⟨nc, hnc⟩ := name_of l.length
      have HNC := Lib.hid hnc
      have HLC := Lib.hid hlc
      rw [hnc] at hf1 hcc hl1 hl2
      have r0 : wr.cell? ⟨b, off + k * 2, none⟩ = some (.int .i64 m) := (hBw.cell (p := ⟨b, _, none⟩) hb).trans hf0
      have r1 : wr.cell? ⟨b, off + k * 2 + 1, none⟩ = some (.slice (some ⟨b3, o3, none⟩) nc c3) := (hBw.cell (p := ⟨b, _, none⟩) hb).trans hf1
      obtain ⟨mn, rfl⟩ : ∃ mn : Nat, m = (mn : Int) := ⟨m.toNat, by omega⟩
      have HH := Lib.hid (inT_zero p k (mn : Int) l)
      clear hf0 hf1 hcode hcd hlc hnc
      have hNk := fun W => refNumeral_b k (by omega) W
      have hNm := fun W => refNumeral_b mn (by omega) W
      have hdk := dec_short 3 k (by decide) (by omega)
      have hdm := dec_short 3 mn (by decide) (by omega)
      have hik : Lib.itoa (k : Int) = Lib.decDigits k := itoa_nat k
      have him : Lib.itoa (mn : Int) = Lib.decDigits mn := itoa_nat mn
      have HHD : Hid (headL k (mn : Int) = fnL ++ 32 :: (Lib.decDigits k ++ 32 :: (needsL ++ 32 :: Lib.decDigits mn))) := Lib.hid (by rw [← hik, ← him]; simp [headL, joinC])
      obtain ⟨K, hK, hKs⟩ := let_ (Lib.decDigits k) 3 hdk
      obtain ⟨M, hM, hMs⟩ := let_ (Lib.decDigits mn) 3 hdm
      obtain ⟨s0, hs0, hs0s⟩ := let_ (outT p k) 127552 hol
      rw [hK] at hNk
      rw [hM] at hNm
      rw [hs0]
      obtain ⟨s1, hs1, hs1s⟩ := cat_ s0 ⟨#[102, 117, 110, 99, 32]⟩ 127552 5 hs0s (by decide)
      obtain ⟨s2, hs2, hs2s⟩ := cat_ s1 K 127557 3 hs1s hKs
      obtain ⟨s3, hs3, hs3s⟩ := cat_ s2 ⟨#[32, 110, 101, 101, 100, 115, 32]⟩ 127560 7 hs2s (by decide)
      obtain ⟨s4, hs4, hs4s⟩ := cat_ s3 M 127567 3 hs3s hMs
      obtain ⟨s5, hs5, hs5s⟩ := cat_ s4 ⟨#[10]⟩ 127570 1 hs4s (by decide)
      have HS5 : Hid (s5 = ⟨(inT p k (mn : Int) l 0).toArray⟩) := Lib.hid (by
        refine (bs_of_list ?_).symm
        rw [HH.out, HHD.out, ← hs5, ← hs4, ← hs3, ← hs2, ← hs1, ← hs0, ← hK, ← hM]
        simp [ByteArray.data_append, fnL, needsL])
      have n1 : ¬ (9223372036854775807 < s0.size + 5) := by omega
      have n2 : ¬ (9223372036854775807 < s1.size + K.size) := by omega
      have n3 : ¬ (9223372036854775807 < s2.size + 7) := by omega
      have n4 : ¬ (9223372036854775807 < s3.size + M.size) := by omega
      have n5 : ¬ (9223372036854775807 < s4.size + 1) := by omega
      clear hik him hK hM hs0 hdk hdm hol HHD HH
      have hbA : Below wr.heap.size wr (wr.alloc (.cells #[.int .i64 mn, .slice (some ⟨b3, o3, none⟩) nc c3] 32)) := by go_grown
      have g0 : (wr.alloc (.cells #[.int .i64 mn, .slice (some ⟨b3, o3, none⟩) nc c3] 32)).cell? ⟨wr.heap.size, 0, none⟩ = some (.int .i64 mn) := by simp
      have g1 : (wr.alloc (.cells #[.int .i64 mn, .slice (some ⟨b3, o3, none⟩) nc c3] 32)).cell? ⟨wr.heap.size, 1, none⟩ = some (.slice (some ⟨b3, o3, none⟩) nc c3) := by simp
      have hg8 : wr.heap.size < (wr.alloc (.cells #[.int .i64 mn, .slice (some ⟨b3, o3, none⟩) nc c3] 32)).heap.size := by simp
      go_wp2_with fail
      obtain ⟨W8, hW8⟩ := name_of (wr.alloc (.cells #[.int .i64 mn, .slice (some ⟨b3, o3, none⟩) nc c3] 32))
      rw [hW8] at hbA g0 g1 hg8 ⊢
      have hX8 := hX.next hbA
      obtain ⟨g, hg⟩ := name_of wr.heap.size
      rw [hg] at g0 g1 hg8 ⊢
      have hS : HeadZ g (mn : Int) W8 W8.drew := HeadZ.nx below_drew' ⟨g0, Below.refl _ _⟩
      clear hW8 hg hbA hc0 hX r0 r1 hb hwr
      refine wp_region_held_drew (S := (fun V => HeadZ g (mn : Int) W8 V)) (by kernel_rfl) hS (fun hH => ?_)
      refine Rg.take (i := 0) (d := 30) (v := .string s0) rfl rfl (by kernel_rfl) (by kernel_rfl) (by kernel_rfl) (fun _ _ _ h => h) (by kernel_rfl) (fun W hSW => ?_) hH ?_
      · clear hSW
        go_simp
      simp only [List.setIfInBounds_toArray, List.set_cons_zero, List.set_cons_succ]
      refine Rg.take (i := 1) (d := 31) (v := .string s1) rfl rfl (by kernel_rfl) (by kernel_rfl) (by kernel_rfl) (fun _ _ _ h => h) (by kernel_rfl) (fun W hSW => ?_) hH ?_
      · clear hSW
        go_simp
      simp only [List.setIfInBounds_toArray, List.set_cons_zero, List.set_cons_succ]
      refine Rg.take (i := 2) (d := 32) (v := .int .i64 k) rfl rfl (by kernel_rfl) (by kernel_rfl) (by kernel_rfl) (fun _ _ _ h => h) (by kernel_rfl) (fun W hSW => ?_) hH ?_
      · clear hSW
        go_simp
      simp only [List.setIfInBounds_toArray, List.set_cons_zero, List.set_cons_succ]
      refine Rg.take (i := 6) (d := 36) (v := .pointer (some ⟨g, 0, none⟩)) rfl rfl (by kernel_rfl) (by kernel_rfl) (by kernel_rfl) (fun _ _ _ h => h) (by kernel_rfl) (fun W hSW => ?_) hH ?_
      · clear hSW
        go_simp
      simp only [List.setIfInBounds_toArray, List.set_cons_zero, List.set_cons_succ]
      refine Rg.take (i := 7) (d := 37) (v := .int .i64 mn) rfl rfl (by kernel_rfl) (by kernel_rfl) (by kernel_rfl) (fun _ _ _ h => h) (by kernel_rfl) (fun W hSW => ?_) hH ?_
      · obtain ⟨h1, -⟩ := hSW
        go_simp
      simp only [List.setIfInBounds_toArray, List.set_cons_zero, List.set_cons_succ]
      refine wpAnyH_ready (rs := [3]) (by kernel_rfl) (by simp) (AllReadyH.cons rfl (fun K hK => ?_) AllReadyH.nil)
      go_simp
      refine (hNk _).mono ?_
      rintro e X1 ⟨rfl, hbX1⟩
      go_simp
      refine hK.out _ _ (HeadZ.nx hbX1 hH) (fun hH => ?_)
      clear hK K
      refine Rg.take (i := 4) (d := 34) (v := .string s2) rfl rfl (by kernel_rfl) (by kernel_rfl) (by kernel_rfl) (fun _ _ _ h => h) (by kernel_rfl) (fun W hSW => ?_) hH ?_
      · clear hSW
        go_simp
      simp only [List.setIfInBounds_toArray, List.set_cons_zero, List.set_cons_succ]
      refine Rg.take (i := 5) (d := 35) (v := .string s3) rfl rfl (by kernel_rfl) (by kernel_rfl) (by kernel_rfl) (fun _ _ _ h => h) (by kernel_rfl) (fun W hSW => ?_) hH ?_
      · clear hSW
        go_simp
      simp only [List.setIfInBounds_toArray, List.set_cons_zero, List.set_cons_succ]
      refine wpAnyH_ready (rs := [8]) (by kernel_rfl) (by simp) (AllReadyH.cons rfl (fun K hK => ?_) AllReadyH.nil)
      go_simp
      refine (hNm _).mono ?_
      rintro e X2 ⟨rfl, hbX2⟩
      go_simp
      refine hK.out _ _ (HeadZ.nx hbX2 hH) (fun hH => ?_)
      clear hK K
      refine Rg.take (i := 9) (d := 39) (v := .string s4) rfl rfl (by kernel_rfl) (by kernel_rfl) (by kernel_rfl) (fun _ _ _ h => h) (by kernel_rfl) (fun W hSW => ?_) hH ?_
      · clear hSW
        go_simp
      simp only [List.setIfInBounds_toArray, List.set_cons_zero, List.set_cons_succ]
      refine Rg.take (i := 10) (d := 40) (v := .string s5) rfl rfl (by kernel_rfl) (by kernel_rfl) (by kernel_rfl) (fun _ _ _ h => h) (by kernel_rfl) (fun W hSW => ?_) hH ?_
      · clear hSW
        go_simp
      simp only [List.setIfInBounds_toArray, List.set_cons_zero, List.set_cons_succ]
      refine Rg.take (i := 11) (d := 6) (v := .string s5) rfl rfl (by kernel_rfl) (by kernel_rfl) (by kernel_rfl) (fun _ _ _ h => h) (by kernel_rfl) (fun W hSW => ?_) hH ?_
      · clear hSW
        go_simp
      simp only [List.setIfInBounds_toArray, List.set_cons_zero, List.set_cons_succ]
      refine wpAnyH_done (by kernel_rfl) ?_ _
      -- region done
      clear hs1 hs2 hs3 hs4 hs5 hs0s hs1s hs2s hs3s hs4s hs5s hKs hMs n1 n2 n3 n4 n5 hNk hNm hS g0 hbX1 hbX2
      go_wp2_with fail
      go_loopw [6, 9] (fun o i wr => InZ W8 p k (mn : Int) l nc o i wr) (fun _ i _ => nc - (intOf i).toNat)
      case atStart => exact ⟨0, Nat.zero_le _, by rw [HS5.out], rfl, hH.2⟩
      case round =>
        clear hH
        obtain ⟨j, hj, rfl, rfl, hY⟩ := hrel
        have hBj : Below w.heap.size w wr := hb0.next (hX8.next hY)
        have hgc := (hY.cell (p := ⟨g, 1, none⟩) hg8).trans g1
        by_cases hjl : j < nc
        · have hjp : j < l.length := by have := HNC.out; omega
          obtain ⟨t0, t1, t2, t3, t4⟩ := HCD.out j hjp
          have hck := HLC.out l[j] (List.getElem_mem hjp)
          have HIS := Lib.hid (inT_succ (p := p) (k := k) (m := (mn : Int)) hjp)
          have hlen := inT_len (p := p) (k := k) (m := (mn : Int)) (j := j) (by have := HN.out; omega) HE.out (by omega) hm0 hm1 HLC.out (by omega)
          have hsh := line_short hck
          obtain ⟨x, hx⟩ := name_of l[j]
          rw [hx] at t0 t1 t2 t3 t4 hck HIS hsh
          clear hx
          have hL := chk_ref hck wr
          obtain ⟨Y, hYY, hYs⟩ := let_ (lineA x) 30 hsh
          obtain ⟨z0, hz0, hz0s⟩ := let_ (inT p k (mn : Int) l j) 140000 hlen
          obtain ⟨z1, hz1, hz1s⟩ := cat_ z0 Y 140000 30 hz0s hYs
          obtain ⟨z2, hz2, hz2s⟩ := cat_ z1 ⟨#[10]⟩ 140030 1 hz1s (by decide)
          have HZ : Hid (z2 = ⟨(inT p k (mn : Int) l (j + 1)).toArray⟩) := Lib.hid (by
            refine (bs_of_list ?_).symm
            rw [HIS.out, ← hz2, ← hz1, ← hz0, ← hYY]
            simp [ByteArray.data_append])
          rw [hYY] at hL
          rw [hz0]
          have n1 : ¬ (9223372036854775807 < z0.size + Y.size) := by omega
          have n2 : ¬ (9223372036854775807 < z1.size + 1) := by omega
          obtain ⟨io, ia, ib, ic, id⟩ := x
          unfold insV at hL
          simp only at t0 t1 t2 t3 t4 hL
          have u0 := (hBj.cell (p := ⟨b3, _, none⟩) hb3).trans t0
          have u1 := (hBj.cell (p := ⟨b3, _, none⟩) hb3).trans t1
          have u2 := (hBj.cell (p := ⟨b3, _, none⟩) hb3).trans t2
          have u3 := (hBj.cell (p := ⟨b3, _, none⟩) hb3).trans t3
          have u4 := (hBj.cell (p := ⟨b3, _, none⟩) hb3).trans t4
          clear t0 t1 t2 t3 t4 hck hsh hYY hz0 HIS hlen
          go_wp2_with fail
          refine hL.mono ?_
          rintro e w5 ⟨rfl, hb5⟩
          clear hL u0 u1 u2 u3 u4
          go_wp2_with fail
          exact ⟨⟨j + 1, by omega, by rw [HZ.out], by go_num, hY.next hb5⟩, by simp [intOf]; omega⟩
        · obtain rfl : j = nc := by omega
          have ho : inT p k (mn : Int) l j = outT p (k + 1) := by rw [HOS.out, HNC.out]
          rw [ho]
          clear ho
          go_wp2_with fail
          exact ⟨⟨k + 1, by omega, rfl, by go_num, hX8.next hY⟩, by simp [intOf]; omega⟩
    · obtain rfl : k = n := by omega
      have hall : outT p k = printL 0 p := by rw [← HN.out]; exact outT_all p
      rw [hall]
      clear hall
      go_wp2_with fail
      go_ret2
      exact ⟨rfl, hBw⟩
theorem refPrint_any {w : World} {v : Value} {p : List Fn} (hp : Prog w v p) : Calls Tryz.prog 7 #[.agg #[v]] w fun e w' => e = .returned (.tuple #[.string ⟨(if progE p = 0 then printL 0 p else []).toArray⟩, .int .i64 (progE p)]) ∧ Below w.heap.size w w' := by
  by_cases h : progE p = 0
  · rw [h, if_pos rfl]
    exact refPrint_ok hp h
  · rw [if_neg h]
    exact refPrint_bad hp h
set_option maxRecDepth 10000 in
set_option maxHeartbeats 8000000 in
theorem asmPrints_any {w : World} {pv : Value} {p : List Fn} (hp : Prog w pv p) (hl : Lb w) : Calls Tryz.prog 3 #[.agg #[pv]] w fun e w' => e = .returned (.bool true) ∧ Below w.heap.size w w' := by
  have HP := Lib.hid hp
  have HL := Lib.hid hl
  obtain ⟨A, c, rfl, -, -⟩ := hp.1.open_
  obtain ⟨n, hn⟩ := name_of p.length
  have hb0 : Below w.heap.size w (w.alloc (.cells #[.slice A n c] 24)) := by go_grown
  have hF := few_any (hp.next hb0)
  have hA := fun W (hW : Below w.heap.size w W) => awake_any W (HL.out.next hW)
  have hPr := fun W (hW : Below w.heap.size w W) => print_any (HP.out.next hW) (HL.out.next hW)
  have hQr := fun W (hW : Below w.heap.size w W) => refPrint_any (HP.out.next hW)
  rw [hn] at hF hPr hQr ⊢
  obtain ⟨E, hE⟩ := name_of (progE p)
  obtain ⟨S, hS⟩ := name_of (⟨(if progE p = 0 then printL 0 p else []).toArray⟩ : ByteArray)
  rw [hS, hE] at hPr hQr
  have hbe := str_beq S
  have hee : (E == E) = true := beq_iff_eq.2 rfl
  clear hp hl hE hS hn HP
  go_enter Tryz.func3, Tryz.ntmps3
  go_wp2_with fail
  refine hF.mono ?_
  rintro e w1 ⟨⟨bb, rfl, -⟩, hb1⟩
  have hI := newest_cells hb1 (by simp)
  have hlt := below_size hb1
  have hB1 := hb0.next hb1
  clear hb1 hb0 hF
  cases bb
  · have hAw := hA _ hB1
    clear hA
    go_wp2_with fail
    refine hAw.mono ?_
    rintro e w5 ⟨rfl, hb5⟩
    go_wp2_with fail
    go_ret
    exact ⟨rfl, hB1.next hb5⟩
  · have hP1 := hPr _ hB1
    clear hPr
    go_wp2_with fail
    refine hP1.mono ?_
    rintro e w2 ⟨rfl, hb2⟩
    have hI2 : ∀ j, w2.cell? ⟨w.heap.size, j, none⟩ = _ := fun j => (hb2.cell (p := ⟨_, j, none⟩) hlt).trans (hI j)
    have hB2 := hB1.next hb2
    have hQ1 := hQr _ hB2
    clear hI hlt hB1 hb2 hP1 hQr
    go_wp2_with fail
    refine hQ1.mono ?_
    rintro e w3 ⟨rfl, hb3⟩
    have hB3 := hB2.next hb3
    have hAw := hA _ hB3
    clear hA hQ1 hb3 hI2 hB2
    go_wp2_with fail
    refine hAw.mono ?_
    rintro e w5 ⟨rfl, hb5⟩
    go_wp2_with fail
    go_ret
    exact ⟨rfl, hB3.next hb5⟩
end P3
end Go.Proofs.YtggdbceommmllaaGreatDoor
