/- Script: the reference's Print. -/
import Derived.Test.YtkobmoabnnjejaaDoorS2
namespace Go.Proofs.YtkobmoabnnjejaaDoor
open Go.RowKit
namespace P21
open PC

abbrev EvS (W0 : World) (b o : Nat) (k n : Int) (W : World) : Prop := Below W0.heap.size W0 W ∧ W.cell? ⟨b, o, none⟩ = some (.int .i64 k) ∧ W.cell? ⟨b, o + 1, none⟩ = some (.int .i64 n)
theorem EvS.next {W0 W W' : World} {b o : Nat} {k n : Int} (h : EvS W0 b o k n W) (hb : Below W.heap.size W W') (hlt : b < W0.heap.size) : EvS W0 b o k n W' :=
  ⟨h.1.next hb, (hb.cell (p := ⟨b, o, none⟩) (Nat.lt_of_lt_of_le hlt h.1.size)).trans h.2.1, (hb.cell (p := ⟨b, o + 1, none⟩) (Nat.lt_of_lt_of_le hlt h.1.size)).trans h.2.2⟩
theorem cat_ (a b : ByteArray) (m n : Nat) (ha : a.size ≤ m) (hb : b.size ≤ n) : ∃ s, a ++ b = s ∧ s.size ≤ m + n := ⟨_, rfl, by rw [ByteArray.size_append]; omega⟩
theorem let_ (l : List UInt8) (m : Nat) (h : l.length ≤ m) : ∃ s : ByteArray, (⟨l.toArray⟩ : ByteArray) = s ∧ s.size ≤ m := ⟨_, rfl, by simpa [ByteArray.size] using h⟩
def RpR (w : World) (l : List Ev) (n : Nat) (o i : Value) (wr : World) : Prop :=
  ∃ k : Nat, k ≤ n ∧ i = .int .i64 k ∧ o = .string ⟨(textTo l k).toArray⟩ ∧ (textTo l k).length ≤ 131072 ∧ Below w.heap.size w wr
set_option maxRecDepth 10000 in
set_option maxHeartbeats 4000000 in
theorem refPrint_any {w : World} {v : Value} {l : List Ev} (h : Evs w v l) (hlen : l.length ≤ 100000) :
    Calls Tryd.prog 15 #[v] w fun e w' => e = .returned (.tuple #[.string (printR l).1, .int .i64 (printR l).2]) ∧ Below w.heap.size w w' := by
  have HE := Lib.hid h
  obtain ⟨A, c, rfl, hnc, hA⟩ := evs_open h.sl
  have HA := Lib.hid hA
  obtain ⟨n, hn⟩ := name_of l.length
  have HN := Lib.hid hn
  rw [hn] at hnc hlen ⊢
  clear h hA hn
  go_enter Tryd.func15, Tryd.ntmps15
  go_wp2_with fail
  go_loop [5] (fun i => ∃ k : Nat, k ≤ n ∧ i = .int .i64 k ∧ ∀ j, j < k → okK (at_ l j).k) (fun i => n - (intOf i).toNat)
  case atStart => exact ⟨0, Nat.zero_le _, rfl, fun j hj => by omega⟩
  case round =>
    obtain ⟨k, hk, rfl, hok⟩ := hrel
    have HOK := Lib.hid hok
    clear hok
    by_cases hlt : k < n
    · obtain ⟨b, off, rfl, hb, c0, c1⟩ := HA.out k (by rw [HN.out]; exact hlt)
      obtain ⟨ek, hek⟩ := name_of (at_ l k).k
      rw [hek] at c0
      have HEK := Lib.hid hek
      have hW := refWord_any ek w
      clear c1 hek
      by_cases hke : okK ek
      · have hne : ((wordS ek).toList == (⟨#[]⟩ : ByteArray).toList) = false := str_bne (fun h => wordL_some hke (bs_inj (m := []) h))
        have h1 : (wordS ek).toList.isEmpty = false := by
          refine str_full' ?_
          intro h0
          exact wordL_some hke (List.eq_nil_of_length_eq_zero (by simpa [wordS, ByteArray.size] using h0))
        obtain ⟨x, hx⟩ := name_of (wordS ek)
        rw [hx] at hW hne h1
        clear hx
        go_wp2_with fail
        refine hW.mono ?_
        rintro e w1 ⟨rfl, rfl⟩
        go_wp2_with fail
        refine ⟨⟨k + 1, by omega, by go_num, fun j hj => ?_⟩, by simp [intOf]; omega⟩
        by_cases e : j = k
        · subst e; rw [HEK.out]; exact hke
        · exact HOK.out j (by omega)
      · rw [show wordS ek = ⟨#[]⟩ from by unfold wordS; rw [wordL_none hke]] at hW
        have HR : Hid (printR l = (⟨#[]⟩, 1)) := Lib.hid (printR_bad (k := k) (by rw [HN.out]; exact hlt) (by rw [HEK.out]; exact hke))
        go_wp2_with fail
        refine hW.mono ?_
        rintro e w1 ⟨rfl, rfl⟩
        go_wp2_with fail
        go_ret2
        exact ⟨by rw [HR.out]; rfl, Below.refl _ _⟩
    · have hkn : k = n := by omega
      subst hkn
      have HR : Hid (printR l = if 131072 < (textL l).length then (⟨#[]⟩, 12) else (⟨(textL l).toArray⟩, 0)) := Lib.hid (printR_ok (by rw [HN.out]; exact HOK.out))
      have HT : Hid (textTo l k = textL l) := Lib.hid (by rw [← HN.out]; exact textTo_all l)
      go_wp2_with fail
      go_loopw [4, 6] (fun o i wr => RpR w l k o i wr) (fun _ i _ => k - (intOf i).toNat)
      case atStart => exact ⟨0, Nat.zero_le _, rfl, rfl, by simp [textTo], Below.refl _ _⟩
      case round =>
        obtain ⟨j, hj, rfl, rfl, hsz, hB⟩ := hrel
        by_cases hjlt : j < k
        · obtain ⟨b, off, rfl, hb, c0, c1⟩ := HA.out j (by rw [HN.out]; exact hjlt)
          have hwf := HE.out.wfAt (k := j) (by rw [HN.out]; exact hjlt)
          have HTS := Lib.hid (textTo_succ (l := l) (k := j) (by rw [HN.out]; exact hjlt))
          obtain ⟨⟨ek, en⟩, he⟩ := name_of (at_ l j)
          rw [he] at c0 c1 hwf HTS
          dsimp only at c0 c1
          have hS : EvS wr b (off + j * 2) ek en wr := ⟨Below.refl _ _, (hB.cell (p := ⟨b, _, none⟩) hb).trans c0, (hB.cell (p := ⟨b, _, none⟩) hb).trans c1⟩
          have hb2 : b < wr.heap.size := Nat.lt_of_lt_of_le hb hB.size
          have hSd := hS.next below_drew' hb2
          have hW := fun W => refWord_any ek W
          have hNn := fun W => refNumber_any en hwf.n.1 hwf.n.2 W
          have hl1 := wordL_len ek
          have hl2 := Lib.itoa_length_le en hwf.n.1 hwf.n.2
          obtain ⟨t, ht⟩ := name_of (textTo l j)
          have HT0 := Lib.hid ht
          unfold wordS at hW
          unfold lineL at HTS
          dsimp only at HTS
          obtain ⟨x, hx⟩ := name_of (wordL ek)
          obtain ⟨y, hy⟩ := name_of (Lib.itoa en)
          rw [hx] at hW HTS hl1
          rw [hy] at hNn HTS hl2
          rw [ht] at hsz HTS ⊢
          have HBR := Lib.hid hB
          obtain ⟨x0, hx0, z0⟩ := let_ t 131072 hsz
          obtain ⟨x1, hx1, z1⟩ := let_ x 4 hl1
          obtain ⟨x2, hx2, z2⟩ := let_ y 21 hl2
          obtain ⟨s1, a1, y1⟩ := cat_ x0 x1 131072 4 z0 z1
          obtain ⟨s2, a2, y2⟩ := cat_ s1 ⟨#[32]⟩ 131076 1 y1 (by decide)
          obtain ⟨s3, a3, y3⟩ := cat_ s2 x2 131077 21 y2 z2
          obtain ⟨s4, a4, y4⟩ := cat_ s3 ⟨#[10]⟩ 131098 1 y3 (by decide)
          have n1 : ¬ (9223372036854775807 < x0.size + x1.size) := by omega
          have n2 : ¬ (9223372036854775807 < s1.size + 1) := by omega
          have n3 : ¬ (9223372036854775807 < s2.size + x2.size) := by omega
          have n4 : ¬ (9223372036854775807 < s3.size + 1) := by omega
          have HS : Hid (s4 = ⟨(textTo l (j + 1)).toArray⟩) := Lib.hid (by
            rw [← a4, ← a3, ← a2, ← a1, ← hx0, ← hx1, ← hx2, HTS.out]
            rw [show (⟨#[32]⟩ : ByteArray) = ⟨[(32 : UInt8)].toArray⟩ from rfl, show (⟨#[10]⟩ : ByteArray) = ⟨[(10 : UInt8)].toArray⟩ from rfl, bs_append, bs_append, bs_append, bs_append]
            simp)
          have HSZ : Hid ((textTo l (j + 1)).length = s4.size) := Lib.hid (by rw [HS.out]; simp [ByteArray.size])
          rw [hx1] at hW
          rw [hx2] at hNn
          rw [hx0]
          clear c0 c1 he hS hB hx hy ht hwf hsz hx0 hx1 hx2
          by_cases hbig : 131072 < s4.size
          · have f1 : decide (131072 < (s4.size : Int)) = true := by simp; omega
            go_wp2_with fail
            go_region_held3 (fun W => EvS wr b (off + j * 2) ek en W) (first | assumption | exact EvS.next (by assumption) (by assumption) (by assumption)) (first | (go_at_call 11; (with_reducible refine (hW _).mono ?_); rintro e w3 ⟨rfl, rfl⟩) | (go_at_call 12; (with_reducible refine (hNn _).mono ?_); rintro e w4 ⟨rfl, hb4⟩; have hB4 := (below_drew' (w := wr)).next hb4))
            go_wp2_with fail
            go_ret2
            refine ⟨?_, HBR.out.next hB4⟩
            rw [HR.out, if_pos (by rw [← HT.out]; exact Nat.lt_of_lt_of_le (by rw [← HSZ.out] at hbig; exact hbig) (textTo_mono hjlt))]
            rfl
          · have f1 : decide (131072 < (s4.size : Int)) = false := by simp; omega
            go_wp2_with fail
            go_region_held3 (fun W => EvS wr b (off + j * 2) ek en W) (first | assumption | exact EvS.next (by assumption) (by assumption) (by assumption)) (first | (go_at_call 11; (with_reducible refine (hW _).mono ?_); rintro e w3 ⟨rfl, rfl⟩) | (go_at_call 12; (with_reducible refine (hNn _).mono ?_); rintro e w4 ⟨rfl, hb4⟩; have hB4 := (below_drew' (w := wr)).next hb4))
            go_wp2_with fail
            exact ⟨⟨j + 1, by omega, by go_num, by rw [HS.out], by rw [HSZ.out]; omega, HBR.out.next hB4⟩, by simp [intOf]; omega⟩
        · have hjk : j = k := by omega
          subst hjk
          go_wp2_with fail
          go_ret2
          refine ⟨?_, hB⟩
          rw [HR.out, if_neg (by rw [← HT.out]; omega), HT.out]
          rfl
end P21
end Go.Proofs.YtkobmoabnnjejaaDoor
