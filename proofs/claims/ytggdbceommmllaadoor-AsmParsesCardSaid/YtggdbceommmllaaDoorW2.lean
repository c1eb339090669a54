/- Merged: Q3 R3 S3p J3 Sm3 Sn3. -/
import Derived.Test.YtggdbceommmllaaDoorP3
import Derived.Test.YtggdbceommmllaaDoorE02
import Derived.Test.YtggdbceommmllaaDoorShelf
import Derived.Test.YtggdbceommmllaaDoorPc
/- Walk: the reference's Pack. -/
namespace Go.Proofs.YtggdbceommmllaaDoor
open Go.RowKit
namespace P2

theorem info_u8 : (Tryd.prog.info? 5).map (fun i => (i.zero, i.size, i.bytes)) = some (some (.int .u8 0), 1, 1) := by kernel_rfl

/-- What was gathered when k functions are done; when j instructions of the next one are, too. -/
def outB (p : List Fn) (k : Nat) : List Int := (p.length : Int) :: (p.take k).flatMap packB
def inB (p : List Fn) (k : Nat) (f : Fn) (j : Nat) : List Int := outB p k ++ (f.1 :: (f.2.length : Int) :: (f.2.take j).flatMap encB)
theorem packB_length {f : Fn} (h : packE f = 0) : (packB f).length ≤ 1026 ∧ 1 ≤ f.2.length ∧ f.2.length ≤ 128 ∧ 0 ≤ f.1 ∧ f.1 ≤ 255 := by
  unfold packE at h
  split at h
  · omega
  · split at h
    · omega
    · rename_i h1 h2
      simp only [packB, List.length_cons, encs_length]
      omega
theorem outs_length : ∀ {l : List Fn}, (∀ f ∈ l, packE f = 0) → (l.flatMap packB).length ≤ l.length * 1026
  | [], _ => by simp
  | f :: l, h => by
    have h1 := (packB_length (h f (by simp))).1
    have h2 := outs_length fun g hg => h g (List.mem_cons_of_mem f hg)
    rw [List.flatMap_cons, List.length_append, List.length_cons]
    omega
theorem outB_length {p : List Fn} {k : Nat} (h : ∀ f ∈ p.take k, packE f = 0) (hp : p.length ≤ 32) : (outB p k).length ≤ 33000 := by
  have := outs_length h
  have hk : (p.take k).length ≤ 32 := by rw [List.length_take]; omega
  simp only [outB, List.length_cons]
  omega
theorem inB_length {p : List Fn} {k : Nat} {f : Fn} {j : Nat} (h : ∀ f ∈ p.take k, packE f = 0) (hp : p.length ≤ 32) (hf : f.2.length ≤ 128) : (inB p k f j).length ≤ 35000 := by
  have := outB_length h hp
  have hj : (f.2.take j).length ≤ 128 := by rw [List.length_take]; omega
  simp only [inB, List.length_append, List.length_cons, encs_length]
  omega
theorem outB_succ {p : List Fn} {k : Nat} (hk : k < p.length) : outB p (k + 1) = inB p k p[k] p[k].2.length := by
  simp only [outB, inB, flatMap_take_succ packB hk, List.take_length, packB, List.cons_append]
theorem inB_succ {p : List Fn} {k : Nat} {f : Fn} {j : Nat} (hj : j < f.2.length) : inB p k f (j + 1) = inB p k f j ++ encB f.2[j] := by
  simp only [inB, flatMap_take_succ encB hj, List.append_assoc, List.cons_append]
theorem inB_zero (p : List Fn) (k : Nat) (f : Fn) : inB p k f 0 = outB p k ++ [f.1, (f.2.length : Int)] := by simp [inB]
theorem outB_all (p : List Fn) : outB p p.length = progB p := by simp [outB, progB]

theorem own_below {w w' : World} {base e size n : Nat} {v : Value} {xs : List Value} (h : w.ownsRow base e size v n xs) (hb : Below w.heap.size w w') : w'.ownsRow base e size v n xs :=
  h.kept (row := none) ⟨hb.os, hb.tape, hb.output, hb.size, fun k hk _ => hb.block k hk⟩ (by
    rcases h.2 with ⟨rfl, _⟩ | ⟨g, cap, cur, rfl, _⟩
    · exact .inl rfl
    · right; simp [Value.ownBlock])
theorem own_len {w : World} {base e size n m : Nat} {v : Value} {xs ys : List Value} (h : w.ownsRow base e size v n xs) (hn : n = m) (hx : xs = ys) : w.ownsRow base e size v m ys := by subst hn; subst hx; exact h

def RefPost (p : List Fn) (w : World) (e : Ending) (w' : World) : Prop :=
  (∃ v, e = .returned (.tuple #[v, .int .i64 (firstE p)]) ∧ (firstE p = 0 → Sl w' w'.heap.size 1 v (bv (progB p))) ∧ (firstE p ≠ 0 → v = .slice none 0 0)) ∧ Below w.heap.size w w'

end P2
end Go.Proofs.YtggdbceommmllaaDoor

/- Walks: code.pack and code.Pack, over the contracts of bytes.Buffer. -/
namespace Go.Proofs.YtggdbceommmllaaDoor
open Go.RowKit
namespace P2

def fnBytes (f : Fn) (j : Nat) : List Int := f.1 :: (f.2.length : Int) :: (f.2.take j).flatMap encB
theorem fnBytes_zero (f : Fn) : fnBytes f 0 = [f.1, (f.2.length : Int)] := by simp [fnBytes]
theorem fnBytes_all (f : Fn) : fnBytes f f.2.length = packB f := by simp [fnBytes, packB]
theorem fnBytes_succ {f : Fn} {j : Nat} (hj : j < f.2.length) : fnBytes f (j + 1) = fnBytes f j ++ encB f.2[j] := by
  simp only [fnBytes, flatMap_take_succ encB hj, List.cons_append]
theorem fnBytes_length {f : Fn} {j : Nat} (hf : f.2.length ≤ 128) : (fnBytes f j).length ≤ 1026 := by
  have hj : (f.2.take j).length ≤ 128 := by rw [List.length_take]; omega
  simp only [fnBytes, List.length_cons, encs_length]
  omega

abbrev IsB (B b : Nat) (l : List Int) (w : World) : Prop := Lib.IsBuffer 90 5 B b (bv l) w

def PackPost (f : Fn) (B b : Nat) (bs : List Int) (w : World) (e : Ending) (w' : World) : Prop :=
  e = .returned (.int .i64 (packE f)) ∧ (packE f = 0 → IsB B b (bs ++ packB f) w') ∧ Below B w w'
def PR (f : Fn) (B b : Nat) (bs : List Int) (w : World) (i : Value) (wr : World) : Prop :=
  ∃ j : Nat, j ≤ f.2.length ∧ i = .int .i64 j ∧ (∀ x ∈ f.2.take j, chk x = 0) ∧ IsB B b (bs ++ fnBytes f j) wr ∧ Below B w wr

/-- A row that was written behind a buffer's bytes, as the buffer's contract asks for it. -/
theorem write_any {B b : Nat} {bs cs : List Int} {g n c : Nat} {w : World} (h : IsB B b bs w) (hB : B ≤ w.heap.size) (hn : cs.length = n) (hg : g ≠ b) (hs : Sl w w.heap.size 1 (.slice (some ⟨g, 0, none⟩) n c) (bv cs)) (hlim : bs.length + n ≤ 200000) :
    Calls Tryd.prog 59 #[.pointer (some ⟨b, 0, none⟩), .slice (some ⟨g, 0, none⟩) n c] w fun e w' => e = .returned (.tuple #[.int .i64 n, .nilIface]) ∧ IsB B b (bs ++ cs) w' ∧ Below B w w' ∧ Lib.OthersKept 5 (some b) w w' := by
  refine (Tryd.Buffer_Write_any B b (bv bs) (bv cs) ⟨g, 0, none⟩ n c w h hB (bv_one _) (by simpa using hn) hg ?_ (bv_one _) (by simp only [bv_length]; omega)).mono ?_
  · obtain ⟨A, k, c', he, _, hk, hA⟩ := hs
    injection he with h1 h2 h3
    subst h1; subst h2; subst h3
    intro j u hj
    have hpos : 0 < n := by
      have : j < (bv cs).length := (List.getElem?_eq_some_iff.1 hj).1
      simp only [bv_length] at this
      omega
    obtain ⟨b', off, he, _, hr⟩ := hA hpos
    injection he with he
    injection he with e1 e2
    subst e1; subst e2
    rw [Addr.add_mid]
    exact hr j u hj
  · rintro e w' ⟨rfl, h1, h2, h3⟩
    exact ⟨rfl, by rw [IsB, bv_append]; exact h1, h2, h3⟩

set_option maxHeartbeats 4000000 in
theorem pack_any {w : World} {B b : Nat} {bs : List Int} {cv : Value} {f : Fn} (hI : IsB B b bs w) (hlim : bs.length ≤ 100000) (hcode : Sl w B 5 cv (codeC f.2)) (hmax : f.2.length ≤ 9223372036854775807) :
    Calls Tryd.prog 45 #[.pointer (some ⟨b, 0, none⟩), .agg #[.int .i64 f.1, cv]] w (PackPost f B b bs w) := by
  obtain ⟨x, l⟩ := f
  obtain ⟨A, c, rfl, hmc, hl⟩ := code_open hcode
  have HL := Lib.hid hl
  clear hl hcode
  obtain ⟨m, hm⟩ : ∃ m, l.length = m := ⟨_, rfl⟩
  simp only [hm] at hmc hmax ⊢
  have HM := Lib.hid hm
  clear hm
  have hbw := hI.lt
  have hBb : B ≤ b := hI.1
  by_cases hx0 : x < 0
  · go_enter Tryd.func45, Tryd.ntmps45
    go_wp2_with fail
    go_ret
    have hE : packE (x, l) = 10 := by rw [packE, if_pos (.inl hx0)]
    exact ⟨by rw [hE]; rfl, fun h0 => absurd (hE.symm.trans h0) (by decide), (Below.refl _ _).alloc (by omega) _⟩
  by_cases hx1 : 255 < x
  · go_enter Tryd.func45, Tryd.ntmps45
    go_wp2_with fail
    go_ret
    have hE : packE (x, l) = 10 := by rw [packE, if_pos (.inr hx1)]
    exact ⟨by rw [hE]; rfl, fun h0 => absurd (hE.symm.trans h0) (by decide), (Below.refl _ _).alloc (by omega) _⟩
  have hx0' : 0 ≤ x := by omega
  have hx1' : x ≤ 255 := by omega
  by_cases hm0 : m < 1
  · go_enter Tryd.func45, Tryd.ntmps45
    go_wp2_with fail
    go_ret
    have hE : packE (x, l) = 12 := by rw [packE, if_neg (by simp only; omega), if_pos (by simp only; have := HM.out; omega)]
    exact ⟨by rw [hE]; rfl, fun h0 => absurd (hE.symm.trans h0) (by decide), (Below.refl _ _).alloc (by omega) _⟩
  by_cases hm1 : 128 < m
  · go_enter Tryd.func45, Tryd.ntmps45
    go_wp2_with fail
    go_ret
    have hE : packE (x, l) = 12 := by rw [packE, if_neg (by simp only; omega), if_pos (by simp only; have := HM.out; omega)]
    exact ⟨by rw [hE]; rfl, fun h0 => absurd (hE.symm.trans h0) (by decide), (Below.refl _ _).alloc (by omega) _⟩
  have hm0' : 1 ≤ m := by omega
  have hm1' : m ≤ 128 := by omega
  clear hx0 hx1 hm0 hm1
  have hP : packE (x, l) = firstBad l := by
    rw [packE, if_neg (by simp only; omega), if_neg (by simp only; have := HM.out; omega)]
  have HP := Lib.hid hP
  clear hP
  go_enter Tryd.func45, Tryd.ntmps45
  go_wp2_with fail
  refine (write_any (cs := [x, (m : Int)]) ((hI.alloc _).alloc _) (by simp; omega) rfl (by simp; omega) (Sl.new (w.alloc _) _ _ 2 _ (by simp) rfl rfl) (by simp; omega)).mono ?_
  rintro e w1 ⟨rfl, hI1, hb1, hk1⟩
  have hB1 : Below B w w1 := (((Below.refl B w).alloc (by omega) _).alloc (by simp; omega) _).trans hb1
  have hfb := hk1 w.heap.size _ (heap_alloc2_old w _ _) (by simp; omega) (by intro c fz h; injection h with _ h2; exact absurd h2 (by decide))
  have hf0 : w1.cell? ⟨w.heap.size, 0, none⟩ = some (.int .i64 x) := by rw [cell_of_row _ _ _ _ _ _ hfb]; rfl
  have hf1 : w1.cell? ⟨w.heap.size, 1, none⟩ = some (.slice A m c) := by rw [cell_of_row _ _ _ _ _ _ hfb]; rfl
  clear hb1 hk1 hfb hI
  go_wp2_with fail
  have HX := Lib.hid (And.intro hx0' hx1')
  go_loopw [40] (fun i wr => PR (x, l) B b bs w i wr) (fun i _ => m - (intOf i).toNat)
  case atStart => exact ⟨0, Nat.zero_le _, rfl, by simp, by rw [fnBytes_zero, HM.out]; exact hI1, hB1⟩
  case round =>
    obtain ⟨j, hj, rfl, hjok, hI, hB⟩ := hrel
    simp only [HM.out] at hj
    have HJ := Lib.hid hjok
    have hIlt := hI.lt
    have hlen := fnBytes_length (f := (x, l)) (j := j) (by have := HM.out; simp only; omega)
    clear hjok hI1 hB1 hf0 hf1
    by_cases hjl : j < m
    · have hjp : j < l.length := by have := HM.out; omega
      obtain ⟨b2, off2, rfl, hb2, g0, g1, g2, g3, g4⟩ := HL.out j hjp
      obtain ⟨i, hi⟩ : ∃ i, l[j] = i := ⟨_, rfl⟩
      rw [hi] at g0 g1 g2 g3 g4
      have HI := Lib.hid hi
      clear hi
      obtain ⟨iop, ia, ib, ic, iN⟩ := i
      have q0 : wr.cell? ⟨b2, off2 + j * 5, none⟩ = some (.int .i64 iop) := (hB.cell (p := ⟨b2, _, none⟩) hb2).trans g0
      have q1 : wr.cell? ⟨b2, off2 + j * 5 + 1, none⟩ = some (.int .i64 ia) := (hB.cell (p := ⟨b2, _, none⟩) hb2).trans g1
      have q2 : wr.cell? ⟨b2, off2 + j * 5 + 2, none⟩ = some (.int .i64 ib) := (hB.cell (p := ⟨b2, _, none⟩) hb2).trans g2
      have q3 : wr.cell? ⟨b2, off2 + j * 5 + 3, none⟩ = some (.int .i64 ic) := (hB.cell (p := ⟨b2, _, none⟩) hb2).trans g3
      have q4 : wr.cell? ⟨b2, off2 + j * 5 + 4, none⟩ = some (.int .i64 iN) := (hB.cell (p := ⟨b2, _, none⟩) hb2).trans g4
      clear g0 g1 g2 g3 g4
      by_cases hk0 : chk (iop, ia, ib, ic, iN) = 0
      · have HK0 := Lib.hid hk0
        clear hk0
        go_wp2_with fail
        refine (encode_new (iop, ia, ib, ic, iN) HK0.out _).mono ?_
        rintro e w3 ⟨g, rfl, hg, hs3, hb3⟩
        have hbel : Below wr.heap.size wr w3 := hb3.of_alloc
        have hI3 : IsB B b (bs ++ fnBytes (x, l) j) w3 := hI.old hbel
        have hB3 := hB.trans (hbel.mono (by omega))
        clear hI hB hb3
        go_wp2_with fail
        refine (write_any (n := 8) (cs := encB (iop, ia, ib, ic, iN)) hI3 (by have := hI3.lt; omega) rfl (by simp at hg; omega) hs3 (by simp only [List.length_append]; omega)).mono ?_
        rintro e w4 ⟨rfl, hI4, hb4, -⟩
        have hB4 := hB3.trans hb4
        go_wp2_with fail
        exact ⟨⟨j + 1, by simp only [HM.out]; omega, by go_num, all_take_succ hjp HJ.out (by rw [HI.out]; exact HK0.out), by rw [fnBytes_succ hjp, HI.out, ← List.append_assoc]; exact hI4, hB4⟩, by simp [intOf]; omega⟩
      · have hkne : (chk (iop, ia, ib, ic, iN) != 0) = true := by simpa using hk0
        have HK0 := Lib.hid hk0
        clear hk0
        go_wp2_with fail
        refine (encode_bad (iop, ia, ib, ic, iN) HK0.out _).mono ?_
        rintro e w3 ⟨rfl, hb3⟩
        have hbel : Below wr.heap.size wr w3 := hb3.of_alloc
        have hB3 := hB.trans (hbel.mono (by omega))
        go_wp2_with fail
        go_ret
        have hE : packE (x, l) = chk (iop, ia, ib, ic, iN) := by
          rw [HP.out, firstBad_take l j hjp HJ.out (by rw [HI.out]; exact HK0.out), HI.out]
        exact ⟨by rw [hE]; rfl, fun h0 => absurd (hE.symm.trans h0) HK0.out, hB3⟩
    · have hjm : j = m := by omega
      subst hjm
      go_wp2_with fail
      go_ret
      have hE : packE (x, l) = 0 := by
        rw [HP.out]
        exact firstBad_ok (by have := HJ.out; rwa [List.take_of_length_le (by have := HM.out; first | omega | (simp only; omega))] at this)
      refine ⟨by rw [hE]; rfl, fun _ => ?_, hB⟩
      rw [← fnBytes_all, HM.out]
      exact hI

end P2
end Go.Proofs.YtggdbceommmllaaDoor

/- Walk: code.Pack. -/
namespace Go.Proofs.YtggdbceommmllaaDoor
open Go.RowKit
namespace P2

theorem pack_long {w : World} {B : Nat} {pv : Value} {p : List Fn} (hp : Fns w B pv p) (h : p.length < 1 ∨ 32 < p.length) (hmax : p.length ≤ 9223372036854775807) :
    Calls Tryd.prog 24 #[.agg #[pv]] w fun e w' => e = .returned (.tuple #[.slice none 0 0, .int .i64 12]) ∧ Below w.heap.size w w' := by
  obtain ⟨A, c, rfl, hc, -⟩ := hp.open_
  have hmax' : ((p.length : Nat) : Int) ≤ 9223372036854775807 := by omega
  clear hp
  generalize p.length = n at *
  rcases h with h | h
  · go_enter Tryd.func24, Tryd.ntmps24
    go_wp2_with fail
    go_ret2
    exact ⟨rfl, by go_grown⟩
  · go_enter Tryd.func24, Tryd.ntmps24
    go_wp2_with fail
    go_ret2
    exact ⟨rfl, by go_grown⟩

def KR (w : World) (p : List Fn) (n B : Nat) (i : Value) (wr : World) : Prop :=
  ∃ k : Nat, k ≤ n ∧ i = .int .i64 k ∧ (∀ f ∈ p.take k, packE f = 0) ∧ IsB B B (outB p k) wr ∧ Below w.heap.size w wr

set_option maxHeartbeats 4000000 in
theorem packs_any {w : World} {pv : Value} {p : List Fn} (hp : Fns w w.heap.size pv p) (h1 : 1 ≤ p.length) (h2 : p.length ≤ 32) (hmax : ∀ f ∈ p, f.2.length ≤ 9223372036854775807) :
    Calls Tryd.prog 24 #[.agg #[pv]] w (RefPost p w) := by
  obtain ⟨A, c, rfl, hc, hf⟩ := hp.open_
  have hF := Lib.hid hf
  have HMAX := Lib.hid hmax
  clear hf hp hmax
  obtain ⟨n, hn⟩ : ∃ n, p.length = n := ⟨_, rfl⟩
  rw [hn] at h1 h2 hc ⊢
  have HN := Lib.hid hn
  clear hn
  go_enter Tryd.func24, Tryd.ntmps24
  go_wp2_with fail
  have hI0 := Lib.fresh_isBuffer 90 5 (w.alloc (.cells #[.slice A n c] 25))
  have hsz : (w.alloc (.cells #[.slice A n c] 25)).heap.size = w.heap.size + 1 := by simp
  rw [hsz] at hI0
  refine (Tryd.Buffer_WriteByte_k (w.heap.size + 1) (w.heap.size + 1) [] n _ hI0 (by simp) (by simp) (by simp)).mono ?_
  rintro e w1 ⟨rfl, hI1, hb1, hk1⟩
  have hB1 : Below w.heap.size w w1 := (by go_grown : Below w.heap.size w _).trans (hb1.mono (by omega))
  have hbox := hk1 w.heap.size _ (heap_alloc2_old w _ _) (by simp) (by intro c fz h; injection h with _ h2; exact absurd h2 (by decide))
  have hpc : w1.cell? ⟨w.heap.size, 0, none⟩ = some (.slice A n c) := by rw [cell_of_row _ _ _ _ _ _ hbox]; rfl
  clear hb1 hk1 hbox hI0 hsz
  have hI1' : IsB (w.heap.size + 1) (w.heap.size + 1) (outB p 0) w1 := by
    have e1 : outB p 0 = [(n : Int)] := by simp [outB, HN.out]
    rw [e1]
    exact hI1
  clear hI1
  go_wp2_with fail
  go_loopw [26] (fun i wr => KR w p n (w.heap.size + 1) i wr) (fun i _ => n - (intOf i).toNat)
  case atStart => exact ⟨0, Nat.zero_le _, rfl, by simp, hI1', hB1⟩
  case round =>
    obtain ⟨k, hk, rfl, hok, hI, hB⟩ := hrel
    clear hI1' hB1 hpc
    have HOK := Lib.hid hok
    have hIlt := hI.lt
    clear hok
    have hlen := outB_length HOK.out (by have := HN.out; omega)
    by_cases hlt : k < n
    · have hkp : k < p.length := by have := HN.out; omega
      obtain ⟨b, off, cv, rfl, hb, hc0, hc1, hcode⟩ := hF.out k hkp
      have hmx := HMAX.out p[k] (List.getElem_mem hkp)
      obtain ⟨f, hfk⟩ : ∃ f, p[k] = f := ⟨_, rfl⟩
      rw [hfk] at hc0 hcode hmx
      have HFK := Lib.hid hfk
      clear hfk
      obtain ⟨x, l⟩ := f
      have hcode2 := hcode.below hB
      obtain ⟨A2, m, c2, rfl, -⟩ := hcode
      have hw0 : wr.cell? ⟨b, off + k * 2, none⟩ = some (.int .i64 x) := (hB.cell (p := ⟨b, _, none⟩) hb).trans hc0
      have hw1 : wr.cell? ⟨b, off + k * 2 + 1, none⟩ = some (.slice A2 m c2) := (hB.cell (p := ⟨b, _, none⟩) hb).trans hc1
      clear hc0 hc1
      go_wp2_with fail
      refine (pack_any (f := (x, l)) (hI.alloc _) (by omega) ((hcode2.below ((Below.refl _ _).alloc (by omega) _)).more (by omega)) hmx).mono ?_
      rintro e w3 ⟨rfl, hok3, hb3⟩
      have hB3 : Below w.heap.size w w3 := hB.trans (((Below.refl _ wr).alloc (by omega) _).trans (hb3.mono (by omega)))
      clear hb3 hcode2 hw0 hw1
      have HOK3 := Lib.hid hok3
      clear hok3
      by_cases hk0 : packE (x, l) = 0
      · have hkne : (packE (x, l) != 0) = false := by simpa using hk0
        have HK0 := Lib.hid hk0
        clear hk0
        go_wp2_with fail
        have hI3 := HOK3.out HK0.out
        exact ⟨⟨k + 1, by omega, by go_num, all_take_succ hkp HOK.out (by rw [HFK.out]; exact HK0.out), by
          have e2 : outB p (k + 1) = outB p k ++ packB (x, l) := by simp only [outB, flatMap_take_succ packB hkp, HFK.out, List.cons_append]
          rw [e2]; exact hI3, hB3⟩, by simp [intOf]; omega⟩
      · have hkne : (packE (x, l) != 0) = true := by simpa using hk0
        have HK0 := Lib.hid hk0
        clear hk0
        go_wp2_with fail
        go_ret2
        have hE : firstE p = packE (x, l) := by rw [firstE_take p k hkp HOK.out (by rw [HFK.out]; exact HK0.out), HFK.out]
        exact ⟨⟨_, by rw [hE]; rfl, fun h0 => absurd (hE.symm.trans h0) HK0.out, fun _ => rfl⟩, hB3⟩
    · have hkn : k = n := by omega
      subst hkn
      go_wp2_with fail
      refine (Tryd.Buffer_Bytes (w.heap.size + 1) (w.heap.size + 1) _ _ hI).mono ?_
      rintro e w3 ⟨v, rfl, hown, q, rfl⟩
      go_wp2_with fail
      go_ret2
      have hE : firstE p = 0 := firstE_ok (by have := HOK.out; rwa [List.take_of_length_le (by have := HN.out; omega)] at this)
      refine ⟨⟨_, by rw [hE]; rfl, fun _ => ?_, fun h0 => absurd hE h0⟩, below_drewN hB _⟩
      rw [show outB p k = progB p by rw [← outB_all p, HN.out]] at hown
      exact Sl.own hown

end P2
end Go.Proofs.YtggdbceommmllaaDoor

/- Walks: Few, both Packs at every program, CodePacks. -/
namespace Go.Proofs.YtggdbceommmllaaDoor
open Go.RowKit
namespace P2

/-- A program in memory whose rows are as long as Go lets them be. -/
def Prog (w : World) (v : Value) (p : List Fn) : Prop := Fns w w.heap.size v p ∧ p.length ≤ 9223372036854775807 ∧ ∀ f ∈ p, f.2.length ≤ 9223372036854775807
theorem Prog.next {w w' : World} {v : Value} {p : List Fn} (h : Prog w v p) (hb : Below w.heap.size w w') : Prog w' v p := ⟨h.1.next hb, h.2⟩

def PackAll (p : List Fn) (w : World) (e : Ending) (w' : World) : Prop :=
  ∃ v, e = .returned (.tuple #[v, .int .i64 (progE p)]) ∧ (progE p = 0 → Sl w' w'.heap.size 1 v (bv (progB p))) ∧ (progE p ≠ 0 → v = .slice none 0 0) ∧ Below w.heap.size w w'

theorem packAll {w : World} {pv : Value} {p : List Fn} (hp : Prog w pv p) : Calls Tryd.prog 24 #[.agg #[pv]] w (PackAll p w) := by
  by_cases h : p.length < 1 ∨ 32 < p.length
  · have hE : progE p = 12 := by rw [progE, if_pos h]
    refine (pack_long hp.1 h hp.2.1).mono ?_
    rintro e w' ⟨rfl, hb⟩
    exact ⟨_, by rw [hE], fun h0 => absurd (hE.symm.trans h0) (by decide), fun _ => rfl, hb⟩
  · have hE : progE p = firstE p := by rw [progE, if_neg h]
    refine (packs_any hp.1 (by omega) (by omega) hp.2.2).mono ?_
    rintro e w' ⟨⟨v, rfl, h1, h2⟩, hb⟩
    exact ⟨v, by rw [hE], by rw [hE]; exact h1, by rw [hE]; exact h2, hb⟩
def FewPost (p : List Fn) (w : World) (e : Ending) (w' : World) : Prop := (∃ b : Bool, e = .returned (.bool b) ∧ (b = true → p.length ≤ 40)) ∧ Below w.heap.size w w'

theorem few_any {w : World} {pv : Value} {p : List Fn} (hp : Prog w pv p) : Calls Tryd.prog 20 #[.agg #[pv]] w (FewPost p w) := by
  obtain ⟨hF, hmax, hm⟩ := hp
  obtain ⟨A, c, rfl, hc, hf⟩ := hF.open_
  have HF := Lib.hid hf
  have HMAX := Lib.hid hm
  clear hf hm hF
  obtain ⟨n, hn⟩ : ∃ n, p.length = n := ⟨_, rfl⟩
  have HN := Lib.hid hn
  rw [hn] at hc hmax ⊢
  clear hn
  have hB : Below w.heap.size w (w.alloc (.cells #[.slice A n c] 25)) := by go_grown
  go_enter Tryd.func20, Tryd.ntmps20
  go_wp2_with fail
  go_loop [3] (fun i => ∃ k : Nat, k ≤ n ∧ i = .int .i64 k) (fun i => n - (intOf i).toNat)
  case atStart => exact ⟨0, Nat.zero_le _, rfl⟩
  case round =>
    obtain ⟨k, hk, rfl⟩ := hrel
    by_cases hlt : k < n
    · by_cases h41 : k < 41
      · have hkp : k < p.length := by have := HN.out; omega
        obtain ⟨b, off, cv, rfl, hb, hc0, hc1, hcode⟩ := HF.out k hkp
        have hmx := HMAX.out p[k] (List.getElem_mem hkp)
        obtain ⟨A2, c2, rfl, _, _⟩ := code_open hcode
        obtain ⟨m, hm⟩ : ∃ m, p[k].2.length = m := ⟨_, rfl⟩
        rw [hm] at hmx hc1
        clear hm hc0 hcode
        by_cases h140 : 140 < m
        · go_wp2_with fail
          go_ret
          exact ⟨⟨false, rfl, fun h => by cases h⟩, hB⟩
        · go_wp2_with fail
          exact ⟨⟨k + 1, by omega, by go_num⟩, by simp [intOf]; omega⟩
      · have h40 : ¬ n ≤ 40 := by omega
        have hd : decide ((n : Int) ≤ 40) = false := by simp; omega
        go_wp2_with fail
        go_ret
        exact ⟨⟨false, rfl, fun h => by cases h⟩, hB⟩
    · by_cases h40 : n ≤ 40
      · have hd : decide ((n : Int) ≤ 40) = true := by simp; omega
        go_wp2_with fail
        go_ret
        exact ⟨⟨true, rfl, fun _ => by have := HN.out; omega⟩, hB⟩
      · have hd : decide ((n : Int) ≤ 40) = false := by simp; omega
        go_wp2_with fail
        go_ret
        exact ⟨⟨false, rfl, fun h => by cases h⟩, hB⟩

end P2
end Go.Proofs.YtggdbceommmllaaDoor

/- Walks: slices.Equal over instructions, slices.EqualFunc over functions, both Sames. (Under way) -/
namespace Go.Proofs.YtggdbceommmllaaDoor
open Go.RowKit
namespace P2
open PC

instance decIns : DecidableEq Ins := inferInstance
instance decCode : DecidableEq (List Ins) := inferInstance
instance decFn : DecidableEq Fn := instDecidableEqProd
instance decFns : DecidableEq (List Fn) := inferInstance
theorem eq_ins (i j : Ins) (w : World) : (Op.equalIn 10000 33 (insV i) (insV j)).run Tryd.prog w = .ok (decide (i = j)) w := by
  obtain ⟨a, b, c, d, e⟩ := i
  obtain ⟨a', b', c', d', e'⟩ := j
  unfold insV
  rw [run_equalIn_agg w 9999 33 _ _ (by kernel_rfl) (by kernel_rfl)]
  rw [show (Tryd.prog.fieldsOf 33).toList = [⟨"Op", 3, 0, false, "", "", 0⟩, ⟨"A", 3, 1, false, "", "", 8⟩, ⟨"B", 3, 2, false, "", "", 16⟩, ⟨"C", 3, 3, false, "", "", 24⟩, ⟨"N", 3, 4, false, "", "", 32⟩] from by kernel_rfl]
  have hi : ∀ (x y : Int) w, (Op.equalIn 9999 3 (.int .i64 x) (.int .i64 y)).run Tryd.prog w = .ok (x == y) w := fun x y w => run_equalIn_int w 9998 _ .i64 .i64 x y Tryd.underlying3
  have p0 : ∀ (cs : Array Value) (k : Nat) (v : Value) w, cs[k]? = some v → (part 3 cs k).run Tryd.prog w = .ok v w := by
    intro cs k v w h
    simp [part, h]
  simp [Op.eqFields, hi, p0]
  by_cases h1 : a = a' <;> by_cases h2 : b = b' <;> by_cases h3 : c = c' <;> by_cases h4 : d = d' <;> by_cases h5 : e = e' <;> simp [h1, h2, h3, h4, h5]
theorem neq_ins (i j : Ins) (w : World) : (binOp .neq 33 (insV i) (insV j)).run Tryd.prog w = .ok (.bool (!decide (i = j))) w := by
  have h := eq_ins i j w
  unfold insV at h ⊢
  rw [run_neq_struct, h]
  rfl
theorem take_ext_any {α : Type} {l m : List α} {k : Nat} (hl : k < l.length) (hm : k < m.length) (h : l.take k = m.take k) (he : l[k] = m[k]) : l.take (k + 1) = m.take (k + 1) := by
  rw [List.take_succ_eq_append_getElem hl, List.take_succ_eq_append_getElem hm, h, he]

end P2
end Go.Proofs.YtggdbceommmllaaDoor

/- Walk: the reference's Same. -/
namespace Go.Proofs.YtggdbceommmllaaDoor
open Go.RowKit
namespace P2
open PC

def SameR (w : World) (p q : List Fn) (n : Nat) (va vb : Value) (i : Value) (wr : World) : Prop :=
  ∃ k : Nat, k ≤ n ∧ i = .int .i64 k ∧ p.take k = q.take k ∧ Below w.heap.size w wr ∧ wr.heap[w.heap.size]? = some (.cells #[va] 25 (0, 0)) ∧ wr.heap[w.heap.size + 1]? = some (.cells #[vb] 25 (0, 0))

set_option maxHeartbeats 4000000 in
theorem refSame_any {w : World} {va vb : Value} {p q : List Fn} (ha : Fns w w.heap.size va p) (hb : Fns w w.heap.size vb q) (hla : p.length ≤ 9223372036854775807) (hlf : ∀ f ∈ p, f.2.length ≤ 9223372036854775807) :
    Calls Tryd.prog 19 #[.agg #[va], .agg #[vb]] w fun e w' => e = .returned (.bool (decide (p = q))) ∧ Below w.heap.size w w' := by
  obtain ⟨A, c, rfl, hnc, hA⟩ := ha.open_
  obtain ⟨A', c', rfl, hmc, hA'⟩ := hb.open_
  obtain ⟨n, hn⟩ := name_of p.length
  obtain ⟨m, hm⟩ := name_of q.length
  have HA := Lib.hid hA
  have HA' := Lib.hid hA'
  have HN := Lib.hid hn
  have HM := Lib.hid hm
  have HLF := Lib.hid hlf
  rw [hn] at hnc hla ⊢
  rw [hm] at hmc ⊢
  clear hA hA' ha hb hn hm hlf
  have hB0 : Below w.heap.size w ((w.alloc (.cells #[.slice A n c] 25)).alloc (.cells #[.slice A' m c'] 25)) := by go_grown
  by_cases hnm : n = m
  · subst hnm
    have hne : ((n : Int) != n) = false := by simp
    go_enter Tryd.func19, Tryd.ntmps19
    go_wp2_with fail
    go_loopw [5] (fun i wr => SameR w p q n (.slice A n c) (.slice A' n c') i wr) (fun i _ => n - (intOf i).toNat)
    case atStart => exact ⟨0, Nat.zero_le _, rfl, rfl, hB0, heap_alloc2_old w _ _, heap_alloc2_new w _ _⟩
    case round =>
      obtain ⟨k, hk, rfl, ht, hB, hx0, hx1⟩ := hrel
      have c0 : wr.cell? ⟨w.heap.size, 0, none⟩ = some (.slice A n c) := by rw [cell_of_row _ _ _ _ _ _ hx0]; rfl
      have c1 : wr.cell? ⟨w.heap.size + 1, 0, none⟩ = some (.slice A' n c') := by rw [cell_of_row _ _ _ _ _ _ hx1]; rfl
      have hz := lt_of_block hx1
      by_cases hlt : k < n
      · have hkl : k < p.length := by have := HN.out; omega
        have hkm : k < q.length := by have := HM.out; omega
        obtain ⟨b, off, cv, rfl, hb, a0, a1, hcv⟩ := HA.out k hkl
        obtain ⟨b', off', cv', rfl, hb', a0', a1', hcv'⟩ := HA'.out k hkm
        have hlf := HLF.out _ (List.getElem_mem hkl)
        obtain ⟨f, hf⟩ := name_of p[k]
        obtain ⟨g, hg⟩ := name_of q[k]
        rw [hf] at a0 hcv hlf
        rw [hg] at a0' hcv'
        have d0 := (hB.cell (p := ⟨b, _, none⟩) hb).trans a0
        have d1 := (hB.cell (p := ⟨b, _, none⟩) hb).trans a1
        have d0' := (hB.cell (p := ⟨b', _, none⟩) hb').trans a0'
        have d1' := (hB.cell (p := ⟨b', _, none⟩) hb').trans a1'
        have HF := Lib.hid hf
        have HG := Lib.hid hg
        have HT := Lib.hid ht
        have hbw := World.block_lt_of_cell? _ _ d0
        have hbw' := World.block_lt_of_cell? _ _ d0'
        obtain ⟨fx, fl⟩ := f
        obtain ⟨gx, gl⟩ := g
        dsimp only at d0 d0' hcv hcv' hlf
        have hcvB := hcv.next hB
        have hcvB' := hcv'.next hB
        obtain ⟨A1, c1', rfl, hm1, hA1⟩ := code_open hcvB
        obtain ⟨A2, c2', rfl, hm2, hA2⟩ := code_open hcvB'
        clear a0 a1 a0' a1' hf hg ht
        by_cases hx : fx = gx
        · subst hx
          have e0 : (fx != fx) = false := by simp
          by_cases hl : fl.length = gl.length
          · have e1 : ((fl.length : Int) != gl.length) = false := by simp [hl]
            obtain ⟨L, hL⟩ := name_of gl.length
            have HL := Lib.hid hL
            rw [hl, hL] at hlf e1
            have hBW : Below wr.heap.size wr ((wr.alloc (.cells #[.int .i64 fx, .slice A1 fl.length c1'] 46)).alloc (.cells #[.int .i64 fx, .slice A2 gl.length c2'] 46)) := by go_grown
            obtain ⟨W, hW⟩ := name_of ((wr.alloc (.cells #[.int .i64 fx, .slice A1 fl.length c1'] 46)).alloc (.cells #[.int .i64 fx, .slice A2 gl.length c2'] 46))
            have w0 : W.heap[wr.heap.size]? = some (.cells #[.int .i64 fx, .slice A1 fl.length c1'] 46 (0, 0)) := by rw [← hW]; exact heap_alloc2_old wr _ _
            have w1 : W.heap[wr.heap.size + 1]? = some (.cells #[.int .i64 fx, .slice A2 gl.length c2'] 46 (0, 0)) := by rw [← hW]; exact heap_alloc2_new wr _ _
            rw [hW] at hBW
            have q0 := fun j => cell_of_row W wr.heap.size j _ _ _ w0
            have q1 := fun j => cell_of_row W (wr.heap.size + 1) j _ _ _ w1
            have hWz := lt_of_block w1
            have r0 := blk_next hx0 hBW
            have r1 := blk_next hx1 hBW
            have s1 := hcvB.next hBW
            have s2 := hcvB'.next hBW
            obtain ⟨A1', c1'', e1', hm1', hA1'⟩ := code_open s1
            obtain ⟨A2', c2'', e2', hm2', hA2'⟩ := code_open s2
            injection e1' with e11 _ e12
            injection e2' with e21 _ e22
            subst e11 e12 e21 e22
            have HA1 := Lib.hid hA1'
            have HA2 := Lib.hid hA2'
            have hB2 := hB.next hBW
            rw [hl] at q0
            rw [hL] at q0 q1
            go_wp2_with fail
            rw [hl, hL] at hW
            rw [hW]
            clear hA1 hA2 hA1' hA2' s1 s2 hcvB hcvB' c0 c1 hx0 hx1 hL d0 d1 d0' d1' w0 w1 hW
            go_loopw [8] (fun i wr' => ∃ j : Nat, j ≤ L ∧ i = .int .i64 j ∧ fl.take j = gl.take j ∧ ∃ z, wr' = W.drewN z) (fun i _ => L - (intOf i).toNat)
            case atStart => exact ⟨0, Nat.zero_le _, rfl, rfl, 0, rfl⟩
            case round =>
              obtain ⟨j, hj, rfl, htj, z, rfl⟩ := hrel
              by_cases hjl : j < L
              · have hj1 : j < fl.length := by have := HL.out; omega
                have hj2 : j < gl.length := by have := HL.out; omega
                obtain ⟨b5, o5, rfl, -, x0, x1, x2, x3, x4⟩ := HA1.out j hj1
                obtain ⟨b6, o6, rfl, -, y0, y1, y2, y3, y4⟩ := HA2.out j hj2
                obtain ⟨⟨g0, g1, g2, g3, g4⟩, hgx⟩ := name_of fl[j]
                obtain ⟨⟨k0, k1, k2, k3, k4⟩, hkx⟩ := name_of gl[j]
                rw [hgx] at x0 x1 x2 x3 x4
                rw [hkx] at y0 y1 y2 y3 y4
                have HGX := Lib.hid hgx
                have HKX := Lib.hid hkx
                have hd := fun w => neq_ins (g0, g1, g2, g3, g4) (k0, k1, k2, k3, k4) w
                clear hgx hkx
                by_cases he : ((g0, g1, g2, g3, g4) : Ins) = (k0, k1, k2, k3, k4)
                · have HE := Lib.hid he
                  have HTJ := Lib.hid htj
                  rw [decide_eq_true he] at hd
                  unfold insV at hd
                  simp only [Bool.not_true] at hd
                  clear he htj
                  go_wp2_with fail
                  go_quiet (fail)
                  go_wp2_with fail
                  exact ⟨⟨j + 1, by omega, by go_num, take_ext_any hj1 hj2 HTJ.out (by rw [HGX.out, HKX.out, HE.out]), _, rfl⟩, by simp [intOf]; omega⟩
                · have HE := Lib.hid he
                  rw [decide_eq_false he] at hd
                  unfold insV at hd
                  simp only [Bool.not_false] at hd
                  clear he htj
                  go_wp2_with fail
                  go_quiet (fail)
                  go_wp2_with fail
                  go_ret
                  refine ⟨ret_bool ?_, below_drewN (below_drewN hB2 _) _⟩
                  symm
                  rw [decide_eq_false_iff_not]
                  rintro rfl
                  have h2 : fl = gl := by have := HF.out.symm.trans HG.out; injection this
                  subst h2
                  exact HE.out (HGX.out.symm.trans HKX.out)
              · have hjL : j = L := by omega
                subst hjL
                have hfl : fl = gl := by
                  have h := htj
                  rw [List.take_of_length_le (by have := HL.out; omega), List.take_of_length_le (by have := HL.out; omega)] at h
                  exact h
                have HFL := Lib.hid hfl
                clear htj hfl
                go_wp2_with fail
                exact ⟨⟨k + 1, by omega, by go_num, take_ext_any hkl hkm HT.out (by rw [HF.out, HG.out, HFL.out]), below_drewN hB2 _, r0, r1⟩, by simp [intOf]; omega⟩
          · have e1 : ((fl.length : Int) != gl.length) = true := by simp; omega
            have hB2 : Below w.heap.size w ((wr.alloc (.cells #[.int .i64 fx, .slice A1 fl.length c1'] 46)).alloc (.cells #[.int .i64 fx, .slice A2 gl.length c2'] 46)) := hB.next (by go_grown)
            go_wp2_with fail
            go_ret
            exact ⟨ret_bool (by symm; rw [decide_eq_false_iff_not]; rintro rfl; exact hl (by have := HF.out.symm.trans HG.out; injection this with _ h; rw [h])), hB2⟩
        · have e0 : (fx != gx) = true := by simpa using hx
          have hB2 : Below w.heap.size w ((wr.alloc (.cells #[.int .i64 fx, .slice A1 fl.length c1'] 46)).alloc (.cells #[.int .i64 gx, .slice A2 gl.length c2'] 46)) := hB.next (by go_grown)
          go_wp2_with fail
          go_ret
          exact ⟨ret_bool (by symm; rw [decide_eq_false_iff_not]; rintro rfl; exact hx (by have := HF.out.symm.trans HG.out; injection this)), hB2⟩
      · have hkn : k = n := by omega
        subst hkn
        have HT := Lib.hid ht
        clear ht hx0 hx1
        go_wp2_with fail
        go_ret
        refine ⟨ret_bool ?_, hB⟩
        have := HT.out
        rw [List.take_of_length_le (by have := HN.out; omega), List.take_of_length_le (by have := HM.out; omega)] at this
        symm
        simpa using this
  · have hne : ((n : Int) != m) = true := by simp; omega
    go_enter Tryd.func19, Tryd.ntmps19
    go_wp2_with fail
    go_ret
    exact ⟨ret_bool (by symm; rw [decide_eq_false_iff_not]; rintro rfl; exact hnm (HN.out.symm.trans HM.out)), hB0⟩
end P2
end Go.Proofs.YtggdbceommmllaaDoor
