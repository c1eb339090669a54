/- Walk: CodeReads. -/
import Derived.Test.YtjpnbjlhjlddbaaDoorW02
import Derived.Test.YtjpnbjlhjlddbaaDoorT02
namespace Go.Proofs.YtjpnbjlhjlddbaaDoor
open Go.RowKit
namespace P2

theorem refDec_eq {l : List Int} (h : l.length = 8) : (if chk (decI ((l.drop 0).take 8)) = 0 then decI ((l.drop 0).take 8) else (0, 0, 0, 0, 0)) = decV l ∧ chk (decI ((l.drop 0).take 8)) = decE l := by
  have e : (l.drop 0).take 8 = l := by rw [List.drop_zero, List.take_of_length_le (by omega)]
  rw [e]
  have hE : decE l = chk (decI l) := by rw [decE, if_pos h]
  exact ⟨by rw [decV, hE], hE.symm⟩

theorem refDecode_whole {w : World} {B : Nat} {v : Value} {l : List Int} (hs : Sl w B 1 v (bv l)) (hl : l.length = 8) (hr : ∀ z ∈ l, 0 ≤ z ∧ z ≤ 255) :
    Calls Tryd.prog 23 #[v, .int .i64 0] w (DecPost l w) := by
  refine (refDecode_any (at_ := 0) hs (by omega) (by omega) hr).mono fun e w' h => ?_
  obtain ⟨h1, h2⟩ := h
  rw [(refDec_eq hl).1, (refDec_eq hl).2] at h1
  exact ⟨h1, h2⟩
/-- A decoding, its instruction under five names. -/
def DecNamed (i : Ins) (er : Int) (w : World) (e : Ending) (w' : World) : Prop := e = .returned (.tuple #[.agg #[.int .i64 i.1, .int .i64 i.2.1, .int .i64 i.2.2.1, .int .i64 i.2.2.2.1, .int .i64 i.2.2.2.2], .int .i64 er]) ∧ Below w.heap.size w w'
theorem dec_named {f : FuncId} {args : Array Value} {w : World} {l : List Int} {i : Ins} {er : Int} (h : Calls Tryd.prog f args w (DecPost l w)) (hi : decV l = i) (he : decE l = er) : Calls Tryd.prog f args w (DecNamed i er w) := by
  subst hi; subst he
  exact h

set_option maxHeartbeats 1000000 in
theorem codeReads_any {w : World} {v : Value} {l : List Int} (hs : Sl w w.heap.size 1 v (bv l)) (hmax : l.length ≤ 9223372036854775807) (hr : ∀ z ∈ l, 0 ≤ z ∧ z ≤ 255) :
    Calls Tryd.prog 6 #[v] w fun e w' => e = .returned (.bool true) ∧ Below w.heap.size w w' := by
  obtain ⟨A, n, c, rfl, hnc, hn, hA⟩ := id hs
  clear hA
  simp only [bv_length, Nat.mul_one] at hn
  by_cases h20 : 20 < n
  · have hmax' : n ≤ 9223372036854775807 := by omega
    clear hs hmax hr hn
    go_enter Tryd.func6, Tryd.ntmps6
    go_wp2_with fail
    refine (awake_any _).mono ?_
    rintro e w5 ⟨rfl, hb5⟩
    go_wp2_with fail
    go_ret
    exact ⟨rfl, hb5⟩
  · have HN := Lib.hid hn
    have HR := Lib.hid hr
    clear hr hmax hn
    by_cases h8 : n = 8
    · have HL := Lib.hid (HN.out.trans h8)
      subst h8
      obtain ⟨⟨op, a, b, cc, nn⟩, hi⟩ := name_of (decV l)
      obtain ⟨er, her⟩ := name_of (decE l)
      have HI := Lib.hid hi
      have HE := Lib.hid her
      clear hi her
      have ee : (er == er) = true := by simp
      go_enter Tryd.func6, Tryd.ntmps6
      go_wp2_with fail
      refine (dec_named (decode_any hs HR.out) HI.out HE.out).mono ?_
      rintro e w1 ⟨rfl, hb1⟩
      have hs1 := (hs.next hb1).next (Below.alloc (Below.refl _ _) (Nat.le_refl _) (.cells #[.int .i64 op, .int .i64 a, .int .i64 b, .int .i64 cc, .int .i64 nn] 23))
      go_wp2_with fail
      refine (dec_named (refDecode_whole hs1 HL.out HR.out) HI.out HE.out).mono ?_
      rintro e w2 ⟨rfl, hb2⟩
      have hI := newest_cells hb2 (by simp)
      have hlt := below_size hb2
      have hB2 := hb1.next hb2.of_alloc
      clear hs hs1 hb1 hb2
      go_wp2_with fail
      refine (awake_any _).mono ?_
      rintro e w5 ⟨rfl, hb5⟩
      go_wp2_with fail
      go_ret
      refine ⟨rfl, Below.next ?_ hb5⟩
      exact hB2.alloc hB2.size _
    · have hl : l.length ≠ 8 := by have := HN.out; omega
      have hE : decE l = 11 := by rw [decE, if_neg hl]
      have hi : decV l = (0, 0, 0, 0, 0) := by rw [decV, hE]; rfl
      have hne : ((n : Int) != 8) = true := by simp; omega
      have HI := Lib.hid hi
      have HE := Lib.hid hE
      clear hi hE hl h8
      go_enter Tryd.func6, Tryd.ntmps6
      go_wp2_with fail
      refine (dec_named (decode_any hs HR.out) HI.out HE.out).mono ?_
      rintro e w1 ⟨rfl, hb1⟩
      clear hs
      go_wp2_with fail
      refine (awake_any _).mono ?_
      rintro e w5 ⟨rfl, hb5⟩
      go_wp2_with fail
      go_ret
      refine ⟨rfl, Below.next ?_ hb5⟩
      exact hb1.alloc hb1.size _
end P2
end Go.Proofs.YtjpnbjlhjlddbaaDoor
