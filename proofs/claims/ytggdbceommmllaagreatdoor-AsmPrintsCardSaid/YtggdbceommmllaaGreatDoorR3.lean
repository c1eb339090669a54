/- Walks: code.pack and code.Pack, over the contracts of bytes.Buffer. -/
import Derived.Test.YtggdbceommmllaaGreatDoorQ3
import Derived.Test.YtggdbceommmllaaGreatDoorShelf
namespace Go.Proofs.YtggdbceommmllaaGreatDoor
open Go.RowKit
namespace P2

def fnBytes (f : Fn) (j : Nat) : List Int := f.1 :: (f.2.length : Int) :: (f.2.take j).flatMap encB
theorem fnBytes_zero (f : Fn) : fnBytes f 0 = [f.1, (f.2.length : Int)] := by simp [fnBytes]
theorem fnBytes_all (f : Fn) : fnBytes f f.2.length = packB f := by simp [fnBytes, packB]
theorem fnBytes_succ {f : Fn} {j : Nat} (hj : j < f.2.length) : fnBytes f (j + 1) = fnBytes f j ++ encB f.2[j] := by
  simp only [fnBytes, flatMap_take_succ encB hj, List.cons_append]
theorem fnBytes_length {f : Fn} {j : Nat} (hf : f.2.length ≤ 128) : (fnBytes f j).length ≤ 1026 := by
  have hj : (f.2.take j).length ≤ 128 := by rw [List.length_take]; omega
  simp only [fnBytes, List.length_cons, encs_length]
  omega

abbrev IsB (B b : Nat) (l : List Int) (w : World) : Prop := Lib.IsBuffer 74 5 B b (bv l) w

def PackPost (f : Fn) (B b : Nat) (bs : List Int) (w : World) (e : Ending) (w' : World) : Prop :=
  e = .returned (.int .i64 (packE f)) ∧ (packE f = 0 → IsB B b (bs ++ packB f) w') ∧ Below B w w'
def PR (f : Fn) (B b : Nat) (bs : List Int) (w : World) (i : Value) (wr : World) : Prop :=
  ∃ j : Nat, j ≤ f.2.length ∧ i = .int .i64 j ∧ (∀ x ∈ f.2.take j, chk x = 0) ∧ IsB B b (bs ++ fnBytes f j) wr ∧ Below B w wr

/-- A row that was written behind a buffer's bytes, as the buffer's contract asks for it. -/
theorem write_any {B b : Nat} {bs cs : List Int} {g n c : Nat} {w : World} (h : IsB B b bs w) (hB : B ≤ w.heap.size) (hn : cs.length = n) (hg : g ≠ b) (hs : Sl w w.heap.size 1 (.slice (some ⟨g, 0, none⟩) n c) (bv cs)) (hlim : bs.length + n ≤ 200000) :
    Calls Tryz.prog 46 #[.pointer (some ⟨b, 0, none⟩), .slice (some ⟨g, 0, none⟩) n c] w fun e w' => e = .returned (.tuple #[.int .i64 n, .nilIface]) ∧ IsB B b (bs ++ cs) w' ∧ Below B w w' ∧ Lib.OthersKept 5 (some b) w w' := by
  refine (Tryz.Buffer_Write_any B b (bv bs) (bv cs) ⟨g, 0, none⟩ n c w h hB (bv_one _) (by simpa using hn) hg ?_ (bv_one _) (by simp only [bv_length]; omega)).mono ?_
  · obtain ⟨A, k, c', he, _, hk, hA⟩ := hs
    injection he with h1 h2 h3
    subst h1; subst h2; subst h3
    intro j u hj
    have hpos : 0 < n := by
      have : j < (bv cs).length := (List.getElem?_eq_some_iff.1 hj).1
      simp only [bv_length] at this
      omega
    obtain ⟨b', off, he, _, hr⟩ := hA hpos
    injection he with he
    injection he with e1 e2
    subst e1; subst e2
    rw [Addr.add_mid]
    exact hr j u hj
  · rintro e w' ⟨rfl, h1, h2, h3⟩
    exact ⟨rfl, by rw [IsB, bv_append]; exact h1, h2, h3⟩

set_option maxHeartbeats 4000000 in
theorem pack_any {w : World} {B b : Nat} {bs : List Int} {cv : Value} {f : Fn} (hI : IsB B b bs w) (hlim : bs.length ≤ 100000) (hcode : Sl w B 5 cv (codeC f.2)) (hmax : f.2.length ≤ 9223372036854775807) :
    Calls Tryz.prog 28 #[.pointer (some ⟨b, 0, none⟩), .agg #[.int .i64 f.1, cv]] w (PackPost f B b bs w) := by
  obtain ⟨x, l⟩ := f
  obtain ⟨A, c, rfl, hmc, hl⟩ := code_open hcode
  have HL := Lib.hid hl
  clear hl hcode
  obtain ⟨m, hm⟩ : ∃ m, l.length = m := ⟨_, rfl⟩
  simp only [hm] at hmc hmax ⊢
  have HM := Lib.hid hm
  clear hm
  have hbw := hI.lt
  have hBb : B ≤ b := hI.1
  by_cases hx0 : x < 0
  · go_enter Tryz.func28, Tryz.ntmps28
    go_wp2_with fail
    go_ret
    have hE : packE (x, l) = 10 := by rw [packE, if_pos (.inl hx0)]
    exact ⟨by rw [hE]; rfl, fun h0 => absurd (hE.symm.trans h0) (by decide), (Below.refl _ _).alloc (by omega) _⟩
  by_cases hx1 : 255 < x
  · go_enter Tryz.func28, Tryz.ntmps28
    go_wp2_with fail
    go_ret
    have hE : packE (x, l) = 10 := by rw [packE, if_pos (.inr hx1)]
    exact ⟨by rw [hE]; rfl, fun h0 => absurd (hE.symm.trans h0) (by decide), (Below.refl _ _).alloc (by omega) _⟩
  have hx0' : 0 ≤ x := by omega
  have hx1' : x ≤ 255 := by omega
  by_cases hm0 : m < 1
  · go_enter Tryz.func28, Tryz.ntmps28
    go_wp2_with fail
    go_ret
    have hE : packE (x, l) = 12 := by rw [packE, if_neg (by simp only; omega), if_pos (by simp only; have := HM.out; omega)]
    exact ⟨by rw [hE]; rfl, fun h0 => absurd (hE.symm.trans h0) (by decide), (Below.refl _ _).alloc (by omega) _⟩
  by_cases hm1 : 128 < m
  · go_enter Tryz.func28, Tryz.ntmps28
    go_wp2_with fail
    go_ret
    have hE : packE (x, l) = 12 := by rw [packE, if_neg (by simp only; omega), if_pos (by simp only; have := HM.out; omega)]
    exact ⟨by rw [hE]; rfl, fun h0 => absurd (hE.symm.trans h0) (by decide), (Below.refl _ _).alloc (by omega) _⟩
  have hm0' : 1 ≤ m := by omega
  have hm1' : m ≤ 128 := by omega
  clear hx0 hx1 hm0 hm1
  have hP : packE (x, l) = firstBad l := by
    rw [packE, if_neg (by simp only; omega), if_neg (by simp only; have := HM.out; omega)]
  have HP := Lib.hid hP
  clear hP
  go_enter Tryz.func28, Tryz.ntmps28
  go_wp2_with fail
  refine (write_any (cs := [x, (m : Int)]) ((hI.alloc _).alloc _) (by simp; omega) rfl (by simp; omega) (Sl.new (w.alloc _) _ _ 2 _ (by simp) rfl rfl) (by simp; omega)).mono ?_
  rintro e w1 ⟨rfl, hI1, hb1, hk1⟩
  have hB1 : Below B w w1 := (((Below.refl B w).alloc (by omega) _).alloc (by simp; omega) _).trans hb1
  have hfb := hk1 w.heap.size _ (heap_alloc2_old w _ _) (by simp; omega) (by intro c fz h; injection h with _ h2; exact absurd h2 (by decide))
  have hf0 : w1.cell? ⟨w.heap.size, 0, none⟩ = some (.int .i64 x) := by rw [cell_of_row _ _ _ _ _ _ hfb]; rfl
  have hf1 : w1.cell? ⟨w.heap.size, 1, none⟩ = some (.slice A m c) := by rw [cell_of_row _ _ _ _ _ _ hfb]; rfl
  clear hb1 hk1 hfb hI
  go_wp2_with fail
  have HX := Lib.hid (And.intro hx0' hx1')
  go_loopw [40] (fun i wr => PR (x, l) B b bs w i wr) (fun i _ => m - (intOf i).toNat)
  case atStart => exact ⟨0, Nat.zero_le _, rfl, by simp, by rw [fnBytes_zero, HM.out]; exact hI1, hB1⟩
  case round =>
    obtain ⟨j, hj, rfl, hjok, hI, hB⟩ := hrel
    simp only [HM.out] at hj
    have HJ := Lib.hid hjok
    have hIlt := hI.lt
    have hlen := fnBytes_length (f := (x, l)) (j := j) (by have := HM.out; simp only; omega)
    clear hjok hI1 hB1 hf0 hf1
    by_cases hjl : j < m
    · have hjp : j < l.length := by have := HM.out; omega
      obtain ⟨b2, off2, rfl, hb2, g0, g1, g2, g3, g4⟩ := HL.out j hjp
      obtain ⟨i, hi⟩ : ∃ i, l[j] = i := ⟨_, rfl⟩
      rw [hi] at g0 g1 g2 g3 g4
      have HI := Lib.hid hi
      clear hi
      obtain ⟨iop, ia, ib, ic, iN⟩ := i
      have q0 : wr.cell? ⟨b2, off2 + j * 5, none⟩ = some (.int .i64 iop) := (hB.cell (p := ⟨b2, _, none⟩) hb2).trans g0
      have q1 : wr.cell? ⟨b2, off2 + j * 5 + 1, none⟩ = some (.int .i64 ia) := (hB.cell (p := ⟨b2, _, none⟩) hb2).trans g1
      have q2 : wr.cell? ⟨b2, off2 + j * 5 + 2, none⟩ = some (.int .i64 ib) := (hB.cell (p := ⟨b2, _, none⟩) hb2).trans g2
      have q3 : wr.cell? ⟨b2, off2 + j * 5 + 3, none⟩ = some (.int .i64 ic) := (hB.cell (p := ⟨b2, _, none⟩) hb2).trans g3
      have q4 : wr.cell? ⟨b2, off2 + j * 5 + 4, none⟩ = some (.int .i64 iN) := (hB.cell (p := ⟨b2, _, none⟩) hb2).trans g4
      clear g0 g1 g2 g3 g4
      by_cases hk0 : chk (iop, ia, ib, ic, iN) = 0
      · have HK0 := Lib.hid hk0
        clear hk0
        go_wp2_with fail
        refine (encode_new (iop, ia, ib, ic, iN) HK0.out _).mono ?_
        rintro e w3 ⟨g, rfl, hg, hs3, hb3⟩
        have hbel : Below wr.heap.size wr w3 := hb3.of_alloc
        have hI3 : IsB B b (bs ++ fnBytes (x, l) j) w3 := hI.old hbel
        have hB3 := hB.trans (hbel.mono (by omega))
        clear hI hB hb3
        go_wp2_with fail
        refine (write_any (n := 8) (cs := encB (iop, ia, ib, ic, iN)) hI3 (by have := hI3.lt; omega) rfl (by simp at hg; omega) hs3 (by simp only [List.length_append]; omega)).mono ?_
        rintro e w4 ⟨rfl, hI4, hb4, -⟩
        have hB4 := hB3.trans hb4
        go_wp2_with fail
        exact ⟨⟨j + 1, by simp only [HM.out]; omega, by go_num, all_take_succ hjp HJ.out (by rw [HI.out]; exact HK0.out), by rw [fnBytes_succ hjp, HI.out, ← List.append_assoc]; exact hI4, hB4⟩, by simp [intOf]; omega⟩
      · have hkne : (chk (iop, ia, ib, ic, iN) != 0) = true := by simpa using hk0
        have HK0 := Lib.hid hk0
        clear hk0
        go_wp2_with fail
        refine (encode_bad (iop, ia, ib, ic, iN) HK0.out _).mono ?_
        rintro e w3 ⟨rfl, hb3⟩
        have hbel : Below wr.heap.size wr w3 := hb3.of_alloc
        have hB3 := hB.trans (hbel.mono (by omega))
        go_wp2_with fail
        go_ret
        have hE : packE (x, l) = chk (iop, ia, ib, ic, iN) := by
          rw [HP.out, firstBad_take l j hjp HJ.out (by rw [HI.out]; exact HK0.out), HI.out]
        exact ⟨by rw [hE]; rfl, fun h0 => absurd (hE.symm.trans h0) HK0.out, hB3⟩
    · have hjm : j = m := by omega
      subst hjm
      go_wp2_with fail
      go_ret
      have hE : packE (x, l) = 0 := by
        rw [HP.out]
        exact firstBad_ok (by have := HJ.out; rwa [List.take_of_length_le (by have := HM.out; first | omega | (simp only; omega))] at this)
      refine ⟨by rw [hE]; rfl, fun _ => ?_, hB⟩
      rw [← fnBytes_all, HM.out]
      exact hI

end P2
end Go.Proofs.YtggdbceommmllaaGreatDoor
