/- Walk: the reference's Pack. -/
import Derived.Test.YtjpnbjlhjlddbaaDoorP02
import Derived.Test.YtjpnbjlhjlddbaaDoorE02
namespace Go.Proofs.YtjpnbjlhjlddbaaDoor
open Go.RowKit
namespace P2

theorem info_u8 : (Tryd.prog.info? 5).map (fun i => (i.zero, i.size, i.bytes)) = some (some (.int .u8 0), 1, 1) := by kernel_rfl

theorem refPack_long {w : World} {B : Nat} {pv : Value} {p : List Fn} (hp : Fns w B pv p) (h : p.length < 1 ∨ 32 < p.length) (hmax : p.length ≤ 9223372036854775807) :
    Calls Tryd.prog 18 #[.agg #[pv]] w fun e w' => e = .returned (.tuple #[.slice none 0 0, .int .i64 12]) ∧ Below w.heap.size w w' := by
  obtain ⟨A, c, rfl, hc, -⟩ := hp.open_
  have hmax' : ((p.length : Nat) : Int) ≤ 9223372036854775807 := by omega
  clear hp
  generalize p.length = n at *
  rcases h with h | h
  · go_enter Tryd.func18, Tryd.ntmps18
    go_wp2_with fail
    go_ret2
    exact ⟨rfl, by go_grown⟩
  · go_enter Tryd.func18, Tryd.ntmps18
    go_wp2_with fail
    go_ret2
    exact ⟨rfl, by go_grown⟩

/-- What was gathered when k functions are done; when j instructions of the next one are, too. -/
def outB (p : List Fn) (k : Nat) : List Int := (p.length : Int) :: (p.take k).flatMap packB
def inB (p : List Fn) (k : Nat) (f : Fn) (j : Nat) : List Int := outB p k ++ (f.1 :: (f.2.length : Int) :: (f.2.take j).flatMap encB)
theorem packB_length {f : Fn} (h : packE f = 0) : (packB f).length ≤ 1026 ∧ 1 ≤ f.2.length ∧ f.2.length ≤ 128 ∧ 0 ≤ f.1 ∧ f.1 ≤ 255 := by
  unfold packE at h
  split at h
  · omega
  · split at h
    · omega
    · rename_i h1 h2
      simp only [packB, List.length_cons, encs_length]
      omega
theorem outs_length : ∀ {l : List Fn}, (∀ f ∈ l, packE f = 0) → (l.flatMap packB).length ≤ l.length * 1026
  | [], _ => by simp
  | f :: l, h => by
    have h1 := (packB_length (h f (by simp))).1
    have h2 := outs_length fun g hg => h g (List.mem_cons_of_mem f hg)
    rw [List.flatMap_cons, List.length_append, List.length_cons]
    omega
theorem outB_length {p : List Fn} {k : Nat} (h : ∀ f ∈ p.take k, packE f = 0) (hp : p.length ≤ 32) : (outB p k).length ≤ 33000 := by
  have := outs_length h
  have hk : (p.take k).length ≤ 32 := by rw [List.length_take]; omega
  simp only [outB, List.length_cons]
  omega
theorem inB_length {p : List Fn} {k : Nat} {f : Fn} {j : Nat} (h : ∀ f ∈ p.take k, packE f = 0) (hp : p.length ≤ 32) (hf : f.2.length ≤ 128) : (inB p k f j).length ≤ 35000 := by
  have := outB_length h hp
  have hj : (f.2.take j).length ≤ 128 := by rw [List.length_take]; omega
  simp only [inB, List.length_append, List.length_cons, encs_length]
  omega
theorem outB_succ {p : List Fn} {k : Nat} (hk : k < p.length) : outB p (k + 1) = inB p k p[k] p[k].2.length := by
  simp only [outB, inB, flatMap_take_succ packB hk, List.take_length, packB, List.cons_append]
theorem inB_succ {p : List Fn} {k : Nat} {f : Fn} {j : Nat} (hj : j < f.2.length) : inB p k f (j + 1) = inB p k f j ++ encB f.2[j] := by
  simp only [inB, flatMap_take_succ encB hj, List.append_assoc, List.cons_append]
theorem inB_zero (p : List Fn) (k : Nat) (f : Fn) : inB p k f 0 = outB p k ++ [f.1, (f.2.length : Int)] := by simp [inB]
theorem outB_all (p : List Fn) : outB p p.length = progB p := by simp [outB, progB]

theorem own_below {w w' : World} {base e size n : Nat} {v : Value} {xs : List Value} (h : w.ownsRow base e size v n xs) (hb : Below w.heap.size w w') : w'.ownsRow base e size v n xs :=
  h.kept (row := none) ⟨hb.os, hb.tape, hb.output, hb.size, fun k hk _ => hb.block k hk⟩ (by
    rcases h.2 with ⟨rfl, _⟩ | ⟨g, cap, cur, rfl, _⟩
    · exact .inl rfl
    · right; simp [Value.ownBlock])
theorem own_len {w : World} {base e size n m : Nat} {v : Value} {xs ys : List Value} (h : w.ownsRow base e size v n xs) (hn : n = m) (hx : xs = ys) : w.ownsRow base e size v m ys := by subst hn; subst hx; exact h

def OutR (w : World) (A : Option Addr) (c : Nat) (p : List Fn) (n : Nat) (v i : Value) (wr : World) : Prop :=
  ∃ k : Nat, k ≤ n ∧ i = .int .i64 k ∧ (∀ f ∈ p.take k, packE f = 0) ∧ wr.ownsRow w.heap.size 5 1 v (outB p k).length (bv (outB p k)) ∧ Below w.heap.size w wr ∧
    wr.heap[w.heap.size]? = some (.cells #[.slice A n c] 35 (0, 0))
def InR (w : World) (A : Option Addr) (c : Nat) (p : List Fn) (n k : Nat) (f : Fn) (cv : Value) (bf : Nat) (v i : Value) (wr : World) : Prop :=
  ∃ j : Nat, j ≤ f.2.length ∧ i = .int .i64 j ∧ (∀ x ∈ f.2.take j, chk x = 0) ∧ wr.ownsRow w.heap.size 5 1 v (inB p k f j).length (bv (inB p k f j)) ∧ Below w.heap.size w wr ∧
    wr.heap[w.heap.size]? = some (.cells #[.slice A n c] 35 (0, 0)) ∧ wr.heap[bf]? = some (.cells #[.int .i64 f.1, cv] 52 (0, 0)) ∧ w.heap.size < bf

def RefPost (p : List Fn) (w : World) (e : Ending) (w' : World) : Prop :=
  (∃ v, e = .returned (.tuple #[v, .int .i64 (firstE p)]) ∧ (firstE p = 0 → Sl w' w'.heap.size 1 v (bv (progB p))) ∧ (firstE p ≠ 0 → v = .slice none 0 0)) ∧ Below w.heap.size w w'

set_option maxHeartbeats 4000000 in
theorem refPack_any {w : World} {pv : Value} {p : List Fn} (hp : Fns w w.heap.size pv p) (h1 : 1 ≤ p.length) (h2 : p.length ≤ 32) :
    Calls Tryd.prog 18 #[.agg #[pv]] w (RefPost p w) := by
  obtain ⟨A, c, rfl, hc, hf⟩ := hp.open_
  have hF := Lib.hid hf
  clear hf hp
  obtain ⟨n, hn⟩ : ∃ n, p.length = n := ⟨_, rfl⟩
  rw [hn] at h1 h2 hc ⊢
  have HN := Lib.hid hn
  clear hn
  have hs0 : Sl ((w.alloc (.cells #[.slice A n c] 35)).alloc (.cells #[.int .u8 n] 5)) ((w.alloc (.cells #[.slice A n c] 35)).alloc (.cells #[.int .u8 n] 5)).heap.size 1
      (.slice (some ⟨w.heap.size + 1, 0, none⟩) 1 1) (bv [(n : Int)]) := Sl.new (w.alloc _) _ _ 1 _ (by simp) rfl rfl
  have hB0 : Below w.heap.size w ((w.alloc (.cells #[.slice A n c] 35)).alloc (.cells #[.int .u8 n] 5)) := by go_grown
  have hb0 : ((w.alloc (.cells #[.slice A n c] 35)).alloc (.cells #[.int .u8 n] 5)).heap[w.heap.size]? = some (.cells #[.slice A n c] 35 (0, 0)) := heap_alloc2_old _ _ _
  have HB0 := Lib.hid hb0
  clear hb0
  go_enter Tryd.func18, Tryd.ntmps18
  go_wp2_with (at_builtin; refine wpList_append_sl rfl (.tmp 19) (.tmp 24) 24 rfl w.heap.size 5 (.int .u8 0) 1 1 Tryd.underlying24 info_u8 rfl (by omega) (.slice none 0 0) _ _ rfl (World.ownsRow_nil _ _ _ _) _ 1 _ _ rfl hs0 rfl (bv_one _) (by omega) (by omega) hB0.size ?_; intro v1 w1 hown1 hg1 hat1)
  have hB1 := below_append hB0 (World.ownsRow_nil _ _ 5 1) hg1 (Nat.le_refl _)
  have hb1 := Lib.hid (grown_block hg1 HB0.out (by simp [Value.ownBlock]))
  have hown1' := own_len (m := (outB p 0).length) (ys := bv (outB p 0)) hown1 rfl (by simp [outB, HN.out])
  clear hown1 hg1 hat1 hs0 hB0 HB0
  go_loopw [4, 5] (fun v i wr => OutR w A c p n v i wr) (fun _ i _ => n - (intOf i).toNat)
  case atStart => exact ⟨0, Nat.zero_le _, rfl, by simp, hown1', hB1, hb1.out⟩
  case round =>
    obtain ⟨k, hk, rfl, hok, hown, hB, hbox⟩ := hrel
    clear hB1 hb1 hown1'
    obtain ⟨wo, rfl⟩ : ∃ wo : World, wo = wr := ⟨_, rfl⟩
    have hboxc : wo.cell? ⟨w.heap.size, 0, none⟩ = some (.slice A n c) := by rw [cell_of_row _ _ _ _ _ _ hbox]; rfl
    have HBX := Lib.hid hbox
    have HOK := Lib.hid hok
    clear hbox hok
    by_cases hlt : k < n
    · have hkp : k < p.length := by have := HN.out; omega
      obtain ⟨b, off, cv, rfl, hb, hc0, hc1, hcode⟩ := hF.out k hkp
      obtain ⟨f, hfk⟩ : ∃ f, p[k] = f := ⟨_, rfl⟩
      rw [hfk] at hc0 hcode
      have HFK := Lib.hid hfk
      clear hfk
      obtain ⟨x, l⟩ := f
      obtain ⟨A2, c2, rfl, hmc, hl⟩ := code_open hcode
      have HL := Lib.hid hl
      clear hl hcode
      obtain ⟨m, hm⟩ : ∃ m, l.length = m := ⟨_, rfl⟩
      rw [hm] at hmc hc1
      have HM := Lib.hid hm
      clear hm
      have hw0 : wo.cell? ⟨b, off + k * 2, none⟩ = some (.int .i64 x) := (hB.cell (p := ⟨b, _, none⟩) hb).trans hc0
      have hw1 : wo.cell? ⟨b, off + k * 2 + 1, none⟩ = some (.slice A2 m c2) := (hB.cell (p := ⟨b, _, none⟩) hb).trans hc1
      have hbw : b < wo.heap.size := World.block_lt_of_cell? wo _ hw0
      have hbs : w.heap.size < wo.heap.size := World.block_lt_of_cell? wo _ hboxc
      clear hc0 hc1
      by_cases hx0 : x < 0
      · go_wp2_with fail
        go_ret2
        have hE : firstE p = 10 := by
          rw [firstE_take p k hkp HOK.out (by rw [HFK.out]; rw [packE, if_pos (.inl hx0)]; decide), HFK.out]
          rw [packE, if_pos (.inl hx0)]
        exact ⟨⟨_, by rw [hE]; rfl, fun h0 => absurd (hE.symm.trans h0) (by decide), fun _ => rfl⟩, hB.alloc (Nat.le_of_lt hbs) _⟩
      by_cases hx1 : 255 < x
      · go_wp2_with fail
        go_ret2
        have hE : firstE p = 10 := by
          rw [firstE_take p k hkp HOK.out (by rw [HFK.out]; rw [packE, if_pos (.inr hx1)]; decide), HFK.out]
          rw [packE, if_pos (.inr hx1)]
        exact ⟨⟨_, by rw [hE]; rfl, fun h0 => absurd (hE.symm.trans h0) (by decide), fun _ => rfl⟩, hB.alloc (Nat.le_of_lt hbs) _⟩
      by_cases hm0 : m < 1
      · go_wp2_with fail
        go_ret2
        have hE : firstE p = 12 := by
          rw [firstE_take p k hkp HOK.out (by rw [HFK.out]; rw [packE, if_neg (by simp only; omega), if_pos (by simp only; have := HM.out; omega)]; decide), HFK.out]
          rw [packE, if_neg (by simp only; omega), if_pos (by simp only; have := HM.out; omega)]
        exact ⟨⟨_, by rw [hE]; rfl, fun h0 => absurd (hE.symm.trans h0) (by decide), fun _ => rfl⟩, hB.alloc (Nat.le_of_lt hbs) _⟩
      by_cases hm1 : 128 < m
      · go_wp2_with fail
        go_ret2
        have hE : firstE p = 12 := by
          rw [firstE_take p k hkp HOK.out (by rw [HFK.out]; rw [packE, if_neg (by simp only; omega), if_pos (by simp only; have := HM.out; omega)]; decide), HFK.out]
          rw [packE, if_neg (by simp only; omega), if_pos (by simp only; have := HM.out; omega)]
        exact ⟨⟨_, by rw [hE]; rfl, fun h0 => absurd (hE.symm.trans h0) (by decide), fun _ => rfl⟩, hB.alloc (Nat.le_of_lt hbs) _⟩
      have hx0' : 0 ≤ x := by omega
      have hx1' : x ≤ 255 := by omega
      have hm0' : 1 ≤ m := by omega
      have hm1' : m ≤ 128 := by omega
      clear hx0 hx1 hm0 hm1
      have hs1 : Sl ((wo.alloc (.cells #[.int .i64 x, .slice A2 m c2] 52)).alloc (.cells #[.int .u8 x, .int .u8 m] 5)) ((wo.alloc (.cells #[.int .i64 x, .slice A2 m c2] 52)).alloc (.cells #[.int .u8 x, .int .u8 m] 5)).heap.size 1
          (.slice (some ⟨wo.heap.size + 1, 0, none⟩) 2 2) (bv [x, (m : Int)]) := Sl.new (wo.alloc _) _ _ 2 _ (by simp) rfl rfl
      have hB2 : Below w.heap.size w ((wo.alloc (.cells #[.int .i64 x, .slice A2 m c2] 52)).alloc (.cells #[.int .u8 x, .int .u8 m] 5)) := (hB.alloc (Nat.le_of_lt hbs) _).alloc (by simp; omega) _
      have hb2 := Lib.hid ((Below.heap_alloc (wo.alloc (.cells #[.int .i64 x, .slice A2 m c2] 52)) (.cells #[.int .u8 x, .int .u8 m] 5) w.heap.size (by simp; omega)).trans ((Below.heap_alloc wo (.cells #[.int .i64 x, .slice A2 m c2] 52) w.heap.size hbs).trans HBX.out))
      have hf2 := Lib.hid (heap_alloc2_old wo (.cells #[.int .i64 x, .slice A2 m c2] 52) (.cells #[.int .u8 x, .int .u8 m] 5))
      have hlen := outB_length HOK.out (by have := HN.out; omega)
      go_wp2_with (at_builtin; refine wpList_append_sl rfl (.tmp 56) (.tmp 64) 24 rfl w.heap.size 5 (.int .u8 0) 1 1 Tryd.underlying24 info_u8 rfl (by omega) _ _ _ rfl ((hown.alloc _).alloc _) _ 2 _ _ rfl hs1 rfl (bv_one _) (by omega) (by omega) hB2.size ?_; intro v2 w2 hown2 hg2 hat2)
      have hB3 := below_append hB2 ((hown.alloc _).alloc _) hg2 (Nat.le_refl _)
      have hb3 := Lib.hid (grown_block hg2 hb2.out (own_ne ((hown.alloc _).alloc _) hb2.out (by decide)))
      have hf3 := Lib.hid (grown_block hg2 hf2.out (own_ne ((hown.alloc _).alloc _) hf2.out (by decide)))
      have hown3 := own_len (m := (inB p k (x, l) 0).length) (ys := bv (inB p k (x, l) 0)) hown2 (by rw [inB_zero]; simp) (by rw [inB_zero, HM.out, bv_append])
      clear hown2 hg2 hat2 hs1 hB2 hb2 hf2 hown hB hboxc HBX hw0 hw1
      have HCODE := Lib.hid True.intro
      go_loopw [4, 7] (fun v i wq => InR w (some ⟨b, off, none⟩) c p n k (x, l) (.slice A2 m c2) wo.heap.size v i wq) (fun _ i _ => m - (intOf i).toNat)
      case atStart => exact ⟨0, Nat.zero_le _, rfl, by simp, hown3, hB3, hb3.out, hf3.out, hbs⟩
      case round =>
        obtain ⟨j, hj, rfl, hjok, hown, hB, hbox, hfb, -⟩ := hrel
        clear hB3 hb3 hf3 hown3
        simp only [HM.out] at hj
        have hfc0 : wr.cell? ⟨wo.heap.size, 0, none⟩ = some (.int .i64 x) := by rw [cell_of_row _ _ _ _ _ _ hfb]; rfl
        have hfc1 : wr.cell? ⟨wo.heap.size, 1, none⟩ = some (.slice A2 m c2) := by rw [cell_of_row _ _ _ _ _ _ hfb]; rfl
        have hpc : wr.cell? ⟨w.heap.size, 0, none⟩ = some (.slice (some ⟨b, off, none⟩) n c) := by rw [cell_of_row _ _ _ _ _ _ hbox]; rfl
        have HBX := Lib.hid hbox
        have HFB := Lib.hid hfb
        have HJ := Lib.hid hjok
        clear hbox hfb hjok
        by_cases hjl : j < m
        · have hjp : j < l.length := by have := HM.out; omega
          obtain ⟨b2, off2, rfl, hb2, g0, g1, g2, g3, g4⟩ := HL.out j hjp
          obtain ⟨i, hi⟩ : ∃ i, l[j] = i := ⟨_, rfl⟩
          rw [hi] at g0 g1 g2 g3 g4
          have HI := Lib.hid hi
          clear hi
          obtain ⟨iop, ia, ib, ic, iN⟩ := i
          have q0 : wr.cell? ⟨b2, off2 + j * 5, none⟩ = some (.int .i64 iop) := (hB.cell (p := ⟨b2, _, none⟩) hb2).trans g0
          have q1 : wr.cell? ⟨b2, off2 + j * 5 + 1, none⟩ = some (.int .i64 ia) := (hB.cell (p := ⟨b2, _, none⟩) hb2).trans g1
          have q2 : wr.cell? ⟨b2, off2 + j * 5 + 2, none⟩ = some (.int .i64 ib) := (hB.cell (p := ⟨b2, _, none⟩) hb2).trans g2
          have q3 : wr.cell? ⟨b2, off2 + j * 5 + 3, none⟩ = some (.int .i64 ic) := (hB.cell (p := ⟨b2, _, none⟩) hb2).trans g3
          have q4 : wr.cell? ⟨b2, off2 + j * 5 + 4, none⟩ = some (.int .i64 iN) := (hB.cell (p := ⟨b2, _, none⟩) hb2).trans g4
          clear g0 g1 g2 g3 g4
          go_wp2_with fail
          refine (refCheck_any (iop, ia, ib, ic, iN) _).mono ?_
          rintro e w3 ⟨rfl, hb3⟩
          have hbr : wo.heap.size < wr.heap.size := World.block_lt_of_cell? wr _ hfc0
          have hbr2 : b2 < wr.heap.size := World.block_lt_of_cell? wr _ q0
          have hown3 := own_below hown hb3
          have hB3 := hB.trans (hb3.mono hB.size)
          have hP : packE (x, l) = firstBad l := by
            rw [packE, if_neg (by simp only; omega), if_neg (by simp only; have := HM.out; omega)]
          by_cases hk0 : chk (iop, ia, ib, ic, iN) = 0
          · have hkne : (chk (iop, ia, ib, ic, iN) != 0) = false := by simpa using hk0
            have HK0 := Lib.hid hk0
            clear hk0
            have f0 : w3.cell? ⟨wo.heap.size, 0, none⟩ = some (.int .i64 x) := (hb3.cell (p := ⟨_, _, none⟩) hbr).trans hfc0
            have f1 : w3.cell? ⟨wo.heap.size, 1, none⟩ = some (.slice (some ⟨b2, off2, none⟩) m c2) := (hb3.cell (p := ⟨_, _, none⟩) hbr).trans hfc1
            have r0 := (hb3.cell (p := ⟨b2, _, none⟩) hbr2).trans q0
            have r1 := (hb3.cell (p := ⟨b2, _, none⟩) hbr2).trans q1
            have r2 := (hb3.cell (p := ⟨b2, _, none⟩) hbr2).trans q2
            have r3 := (hb3.cell (p := ⟨b2, _, none⟩) hbr2).trans q3
            have r4 := (hb3.cell (p := ⟨b2, _, none⟩) hbr2).trans q4
            have hbx3 := Lib.hid ((hb3.block _ (lt_of_block HBX.out)).trans HBX.out)
            have hfx3 := Lib.hid ((hb3.block _ hbr).trans HFB.out)
            have hin := inB_length (f := (x, l)) (j := j) HOK.out (by have := HN.out; omega) (by have := HM.out; simp only; omega)
            clear q0 q1 q2 q3 q4 hfc0 hfc1 hpc HBX HFB hown hB hb3
            go_wp2_with fail
            refine (refEncode_ok (iop, ia, ib, ic, iN) HK0.out _).mono ?_
            rintro e w4 ⟨v4, rfl, hs4, hb4⟩
            have hown4 := own_below hown3 hb4
            have hB4 := hB3.trans (hb4.mono hB3.size)
            have hbx4 := Lib.hid ((hb4.block _ (lt_of_block hbx3.out)).trans hbx3.out)
            have hfx4 := Lib.hid ((hb4.block _ (lt_of_block hfx3.out)).trans hfx3.out)
            clear hbx3 hfx3 hown3 hb4 r0 r1 r2 r3 r4 f0 f1
            go_wp2_with (at_builtin; refine wpList_append_sl rfl (.tmp 82) (.tmp 88) 24 rfl w.heap.size 5 (.int .u8 0) 1 1 Tryd.underlying24 info_u8 rfl (by omega) _ _ _ rfl hown4 _ 8 _ _ rfl hs4 rfl (bv_one _) (by omega) (by omega) hB4.size ?_; intro v5 w5 hown5 hg5 hat5)
            have hB5 := below_append hB4 hown4 hg5 (Nat.le_refl _)
            have hb5 := grown_block hg5 hbx4.out (own_ne hown4 hbx4.out (by decide))
            have hf5 := grown_block hg5 hfx4.out (own_ne hown4 hfx4.out (by decide))
            have he : inB p k (x, l) (j + 1) = inB p k (x, l) j ++ encB (iop, ia, ib, ic, iN) := by rw [inB_succ hjp, HI.out]
            have hown5' := own_len (m := (inB p k (x, l) (j + 1)).length) (ys := bv (inB p k (x, l) (j + 1))) hown5 (by rw [he, List.length_append]; rfl) (by rw [he, bv_append])
            exact ⟨⟨j + 1, by simp only [HM.out]; omega, by go_num, all_take_succ hjp HJ.out (by rw [HI.out]; exact HK0.out), hown5', hB5, hb5, hf5, hbs⟩, by simp [intOf]; omega⟩
          · have hkne : (chk (iop, ia, ib, ic, iN) != 0) = true := by simpa using hk0
            go_wp2_with fail
            go_ret2
            have hE : firstE p = chk (iop, ia, ib, ic, iN) := by
              have hfb := firstBad_take l j hjp HJ.out (by rw [HI.out]; exact hk0)
              rw [HI.out] at hfb
              rw [firstE_take p k hkp HOK.out (by rw [HFK.out, hP, hfb]; exact hk0), HFK.out, hP, hfb]
            exact ⟨⟨_, by rw [hE]; rfl, fun h0 => absurd (hE.symm.trans h0) hk0, fun _ => rfl⟩, hB3⟩
        · have hjm : j = m := by omega
          subst hjm
          go_wp2_with fail
          have hP : packE (x, l) = 0 := by
            rw [packE, if_neg (by simp only; omega), if_neg (by simp only; have := HM.out; omega)]
            exact firstBad_ok (by have := HJ.out; rwa [List.take_of_length_le (by have := HM.out; simp only; omega)] at this)
          have he : inB p k (x, l) j = outB p (k + 1) := by rw [outB_succ hkp, HFK.out, HM.out]
          rw [he] at hown
          exact ⟨⟨k + 1, by omega, by go_num, all_take_succ hkp HOK.out (by rw [HFK.out]; exact hP), hown, hB, HBX.out⟩, by simp [intOf]; omega⟩
    · go_wp2_with fail
      go_ret2
      have hkn : k = n := by omega
      subst hkn
      have hE : firstE p = 0 := firstE_ok (by have := HOK.out; rwa [List.take_of_length_le (by have := HN.out; omega)] at this)
      refine ⟨⟨_, by rw [hE]; rfl, fun _ => ?_, fun h0 => absurd hE h0⟩, hB⟩
      have := hown
      rw [show outB p k = progB p by rw [← outB_all p, HN.out]] at this
      exact Sl.own this
end P2
end Go.Proofs.YtjpnbjlhjlddbaaDoor
