/- Table: the iterator over lines. -/
import Derived.Test.YthpfoegmoldkgaaGreatDoorTba
import Derived.Test.YthpfoegmoldkgaaGreatDoorTb4
import Derived.RangeFuncBox
import Derived.RangeFuncLeaves
import Derived.RangeFuncWrites
import Derived.Shelf.Abstract
import Derived.WalkKit
import Derived.OwnWalkIn
import Derived.TacticsInMore
import Derived.LoopNIn
import Derived.LoopIn
namespace Go.Proofs.YthpfoegmoldkgaaGreatDoor
open Go.RowKit Go.Shelf
namespace P7
open CutL NumL PC

attribute [local go_sem] Oper.semAt_some

abbrev lineV (x : Nat × List UInt8) : Array Value := #[.int .i64 (x.1 : Int), .string ⟨x.2.toArray⟩]
set_option maxRecDepth 100000 in
set_option maxHeartbeats 2000000 in
theorem lines1_in (n : Nat) (hn : 1 ≤ n) (l Bs : Nat) (s0 : ByteArray) (hs0 : s0.size ≤ 131072) (xs : List (Nat × List UInt8)) (hxs : xs = seqL (s0.size + 1) 1 s0.data.toList) (J Jx : List (Nat × List UInt8) → World → Prop) (W : World)
    (hJ : ∀ pre W v, J pre W → Boxed W Bs 9 v → ∀ v', J pre (W.setCell ⟨Bs, 0, none⟩ v'))
    (hY : ∀ pre x W, J pre W → (∃ v, Boxed W Bs 9 v) → pre ++ [x] <+: xs → YieldAt Fence.wide (n - 1) Tryz.prog l (lineV x) W fun e W' =>
      (e = .returned (.bool true) ∧ J (pre ++ [x]) W' ∧ W'.heap[Bs]? = W.heap[Bs]?) ∨ (e = .returned (.bool false) ∧ Jx (pre ++ [x]) W'))
    (hBs : Boxed W Bs 9 (.string s0)) (h0 : J [] W) :
    CallsIn Fence.wide n Tryz.prog 28 #[.func (.yield l) #[] #[], .pointer (some ⟨Bs, 0, none⟩)] W fun e W' => (∃ v, e = .returned v) ∧ ((∃ ys, ys = xs ∧ J ys W') ∨ (∃ pre, pre <+: xs ∧ Jx pre W')) := by
  refine callsIn_of_wp Tryz.func28 rfl trivial ?_ rfl
  simp only [Tryz.ntmps28, List.size_toArray, List.length_cons, List.length_nil, Nat.reduceAdd, Nat.reduceSub, Array.replicate_succ, Array.replicate_zero, List.push_toArray, List.append_toArray, List.nil_append, List.cons_append]
  gi_wp2
  gi_loopw [3] (fun i wr => ∃ (k f : Nat) (pre : List (Nat × List UInt8)) (s : ByteArray), i = .int .i64 k ∧ Boxed wr Bs 9 (.string s) ∧ J pre wr ∧ s.size < f ∧ k + s.size ≤ s0.size + 1 ∧ Hid (pre ++ seqL f k s.data.toList = xs))
    (fun i wr => s0.size + 2 - (intOf i).toNat)
  case atStart => exact ⟨1, s0.size + 1, [], s0, rfl, hBs, h0, by omega, by omega, Lib.hid hxs.symm⟩
  case round =>
    obtain ⟨k, f, pre, s, rfl, hB, hj, hf, hks, HX⟩ := hrel
    have hc := hB.cell
    have hfz := hB.frozen
    rcases Nat.eq_zero_or_pos s.size with h1 | h1
    · have e0 := str_empty' h1
      have hbe : (s.toList == (⟨#[]⟩ : ByteArray).toList) = true := by rw [e0, str_empty' (c := ⟨#[]⟩) rfl]; rfl
      have hie : s.toList.isEmpty = true := by rw [e0]; rfl
      have hsd : s.data.toList = [] := List.eq_nil_of_length_eq_zero h1
      have HPre : Hid (pre = xs) := Lib.hid (by rw [← HX.out, hsd, seqL_nil, List.append_nil])
      clear e0 h1 hsd HX
      gi_wp2
      go_end0
      exact ⟨⟨_, rfl⟩, .inl ⟨_, HPre.out, hj⟩⟩
    · have hne : (s.toList == (⟨#[]⟩ : ByteArray).toList) = false := str_bne (fun h => by rw [h] at h1; exact absurd h1 (by decide))
      have hne2 := str_full' (c := s) (by omega)
      have hsn : s.data.toList ≠ [] := fun e => by have := bsl_len s; rw [e] at this; simp at this; omega
      obtain ⟨f', rfl⟩ : ∃ f', f = f' + 1 := ⟨f - 1, by omega⟩
      have HRo := Lib.hid (seqL_round (f := f') (k := k) hsn)
      have hIx := fun W => (callsIn_wide (n := n - 1)).2 (Tryz.strings_Index_one s 10 W)
      have hcp := cutAt_pos hsn
      have hcl := cutAt_le s.data.toList
      rw [bsl_len] at hcl
      have hia := index_cutAt s.data.toList
      obtain ⟨ix, hix⟩ := name_of (Lib.indexByte s.data.toList 10)
      rw [hix] at hIx hia
      obtain ⟨at_, hat⟩ := name_of (cutAt s.data.toList)
      have HAT := Lib.hid hat
      rw [hat] at hia hcp hcl HRo
      clear hix hat
      have hpf : pre ++ [(k, s.data.toList.take at_)] <+: xs := by
        rw [← HX.out, HRo.out]
        exact ⟨_, by rw [List.append_assoc]; rfl⟩
      have hHX2 : Hid (pre ++ [(k, s.data.toList.take at_)] ++ seqL f' (k + 1) (s.data.toList.drop at_) = xs) := Lib.hid (by rw [← HX.out, HRo.out, List.append_assoc]; rfl)
      have hpref : Hid (pre ++ [(k, s.data.toList.take at_)] <+: xs) := Lib.hid hpf
      have hYw := fun W (hj : J pre W) (hb : ∃ v, Boxed W Bs 9 v) => hY pre (k, s.data.toList.take at_) W hj hb hpref.out
      have htk : (⟨(s.data.toList.take at_).toArray⟩ : ByteArray) = s.extract 0 at_ := by
        apply ByteArray.ext
        apply Array.ext'
        simp
      have hdr : (s.extract at_ s.size).data.toList = s.data.toList.drop at_ := by
        simp only [ByteArray.data_extract, Array.toList_extract, List.extract_eq_take_drop]
        rw [List.take_of_length_le (by rw [List.length_drop, bsl_len]; omega)]
      have hsz : (s.extract at_ s.size).size = s.size - at_ := by simp
      have HDR := Lib.hid hdr
      have HSZ := Lib.hid hsz
      simp only [lineV, htk] at hYw
      clear hpf htk hdr hsz HX HRo hY
      have HPx := hpref
      clear hpref
      by_cases hcb : (cutB 10 s.data.toList).2.2 = true
      · rw [if_pos hcb] at hia
        have hix2 : ix = (at_ : Int) - 1 := by omega
        subst hix2
        have g0 : ((at_ : Int) == 0) = false := beq_eq_false_iff_ne.2 (by omega)
        obtain ⟨fn, tmps, assign, body, hy, hR⟩ := hYw wr hj ⟨_, hB⟩
        clear hia hcb HAT
        gi_wp2
        refine ⟨trivial, (hIx _).mono ?_⟩
        rintro e w2 ⟨rfl, rfl⟩
        gi_wp2
        refine hR.mono ?_
        rintro e W3 (⟨rfl, hJ3, hk3⟩ | ⟨rfl, hJx3⟩)
        · have hB3 : Boxed W3 Bs 9 (.string s) := hk3.trans hB
          have hc3 := hB3.cell
          have hf3 := hB3.frozen
          clear hc hfz
          gi_wp2
          go_roundw
          case rel => exact ⟨k + 1, f', _, _, by go_num, hB3.set _, hJ _ _ _ hJ3 hB3 _, by rw [HSZ.out]; omega, by rw [HSZ.out]; omega, by rw [HDR.out]; exact hHX2⟩
          case measure => simp [intOf]; omega
        · gi_wp2
          refine bodyPost_ret (results_none rfl _ _ _) rfl ?_
          exact ⟨⟨_, rfl⟩, .inr ⟨_, HPx.out, hJx3⟩⟩
      · have hae : at_ = s.size := by rw [← HAT.out]; unfold cutAt; rw [if_neg hcb, bsl_len]
        subst hae
        have e0 : s.extract 0 s.size = s := by simp
        rw [e0] at hYw
        clear e0
        rw [if_neg hcb] at hia
        have hix2 : ix = -1 := by omega
        subst hix2
        obtain ⟨fn, tmps, assign, body, hy, hR⟩ := hYw wr hj ⟨_, hB⟩
        clear hia hcb HAT
        gi_wp2
        refine ⟨trivial, (hIx _).mono ?_⟩
        rintro e w2 ⟨rfl, rfl⟩
        gi_wp2
        refine hR.mono ?_
        rintro e W3 (⟨rfl, hJ3, hk3⟩ | ⟨rfl, hJx3⟩)
        · have hB3 : Boxed W3 Bs 9 (.string s) := hk3.trans hB
          have hc3 := hB3.cell
          have hf3 := hB3.frozen
          clear hc hfz
          gi_wp2
          go_roundw
          case rel => exact ⟨k + 1, f', _, _, by go_num, hB3.set _, hJ _ _ _ hJ3 hB3 _, by show 0 < f'; omega, by show k + 1 + 0 ≤ _; omega, Lib.hid (by have h := hHX2.out; rw [List.drop_of_length_le (Nat.le_of_eq (bsl_len s))] at h; exact h)⟩
          case measure => simp [intOf]; omega
        · gi_wp2
          refine bodyPost_ret (results_none rfl _ _ _) rfl ?_
          exact ⟨⟨_, rfl⟩, .inr ⟨_, HPx.out, hJx3⟩⟩
end P7
end Go.Proofs.YthpfoegmoldkgaaGreatDoor
