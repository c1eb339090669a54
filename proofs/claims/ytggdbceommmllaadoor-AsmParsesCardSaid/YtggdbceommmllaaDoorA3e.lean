/- Asm: operands read (both). -/
import Derived.Test.YtggdbceommmllaaDoorA3d
namespace Go.Proofs.YtggdbceommmllaaDoor
open Go.RowKit
namespace P3
open P2 PC NumL CutL

section
variable {P : Program} {f : FuncId} {args : Array Value} {r : Option Int} {w : World}
theorem np_of_none (h : Calls P f args w (NumPost r w)) (hr : r = none) : Calls P f args w fun e w' => e = .returned (.tuple #[.int .i64 0, .bool false]) ∧ Below w.heap.size w w' :=
  h.mono fun e w' hh => by unfold NumPost at hh; rw [hr] at hh; exact hh
theorem np_of_some {v : Int} (h : Calls P f args w (NumPost r w)) (hr : r = some v) : Calls P f args w fun e w' => e = .returned (.tuple #[.int .i64 v, .bool true]) ∧ Below w.heap.size w w' :=
  h.mono fun e w' hh => by unfold NumPost at hh; rw [hr] at hh; exact hh
end
theorem numA_range {l : List UInt8} {v : Int} (h : numA l = some v) : 0 ≤ v ∧ v ≤ 1099511627776 := by
  unfold numA at h
  split at h
  · cases h
  · rename_i hn
    split at h
    · injection h with h; omega
    · injection h with h
      have ha : l.all isDig = true := by
        cases ha : l.all isDig with
        | false => exact absurd (.inr (.inr ha)) hn
        | true => rfl
      have := valF_12 ha (by omega)
      omega
/-- What the tests on an empty string find. -/
structure NoEmp (s : ByteArray) : Prop where
  b : (s.toList == (⟨#[]⟩ : ByteArray).toList) = false
  e : s.toList.isEmpty = false
theorem noEmp {s : ByteArray} (h : 0 < s.size) : NoEmp s := ⟨str_bne (fun e => by rw [e] at h; exact absurd h (by decide)), str_full' (by omega)⟩
structure Emp (s : ByteArray) : Prop where
  b : (s.toList == (⟨#[]⟩ : ByteArray).toList) = true
  e : s.toList.isEmpty = true
theorem emp {s : ByteArray} (h : s.size = 0) : Emp s := by
  have e0 := str_empty' h
  exact ⟨by rw [e0, str_empty' (c := ⟨#[]⟩) rfl]; rfl, by rw [e0]; rfl⟩
theorem u8_of {c : UInt8} {f : Nat} (h : c.toNat = f) : c = UInt8.ofNat f := by rw [← h]; simp
theorem u8_ne {c : UInt8} {f : Nat} (hf : f < 256) (h : c.toNat ≠ f) : c ≠ UInt8.ofNat f := fun e => h (by rw [e, UInt8.toNat_ofNat']; omega)
theorem readF_let {f : Nat} (hf : f ≠ 110) (l : List UInt8) : readF f l = if l.head? = some (UInt8.ofNat f) then numA l.tail else none := by unfold readF; rw [if_neg hf]
theorem readF_num (l : List UInt8) : readF 110 l = if l.head? = some 45 then (match numA l.tail with
    | some v => if v = 0 then none else some (-v)
    | none => none) else numA l := by unfold readF; rw [if_pos rfl]; rfl
theorem head_nil {s : ByteArray} (h : s.size = 0) : s.data.toList.head? = none := by rw [str_nil h]; rfl
theorem size_tail {s : ByteArray} (h : s.size ≤ 200000) : (s.extract 1 s.size).size ≤ 200000 := by simp; omega

set_option maxHeartbeats 2000000 in
theorem lettered_any (f : Nat) (hf : f < 256) (hn : f ≠ 110) (s : ByteArray) (hs : s.size ≤ 200000) (w : World) : Calls Tryd.prog 67 #[.int .u8 f, .string s] w (NumPost (readF f s.data.toList) w) := by
  have HRF := Lib.hid (readF_let hn s.data.toList)
  rcases Nat.eq_zero_or_pos s.size with h0 | h0
  · obtain ⟨b1, b2⟩ := emp h0
    have HR : Hid (readF f s.data.toList = none) := Lib.hid (by rw [HRF.out, head_nil h0, if_neg (by simp)])
    clear h0 hn
    go_enter Tryd.func67, Tryd.ntmps67
    go_wp2_with fail
    go_ret2
    exact np_none HR.out rfl (Below.refl _ _)
  · obtain ⟨b1, b2⟩ := noEmp h0
    by_cases hc : s[0].toNat = f
    · have e0 : ((s[0].toNat : Int) == (f : Int)) = true := by rw [beq_iff_eq]; omega
      have HR : Hid (readF f s.data.toList = numA s.data.toList.tail) := Lib.hid (by rw [HRF.out, bs_head h0, if_pos (by rw [u8_of hc])])
      have hN := numeral_any (s.extract 1 s.size) (size_tail hs) w
      rw [bs_tail] at hN
      obtain ⟨d, hd⟩ := name_of (s.extract 1 s.size)
      rw [hd] at hN
      clear hc hn
      cases hr : numA s.data.toList.tail with
      | none =>
        have hN2 := np_of_none hN hr
        have HR2 : Hid (readF f s.data.toList = none) := Lib.hid (HR.out.trans hr)
        clear hN hr
        go_enter Tryd.func67, Tryd.ntmps67
        go_wp2_with fail
        refine hN2.mono ?_
        rintro e w1 ⟨rfl, hb1⟩
        go_wp2_with fail
        go_ret2
        exact np_none HR2.out rfl hb1
      | some v =>
        have hN2 := np_of_some hN hr
        have HR2 : Hid (readF f s.data.toList = some v) := Lib.hid (HR.out.trans hr)
        clear hN hr
        go_enter Tryd.func67, Tryd.ntmps67
        go_wp2_with fail
        refine hN2.mono ?_
        rintro e w1 ⟨rfl, hb1⟩
        go_wp2_with fail
        go_ret2
        exact np_some HR2.out rfl hb1
    · have e0 : ((s[0].toNat : Int) == (f : Int)) = false := by rw [beq_eq_false_iff_ne]; omega
      have HR : Hid (readF f s.data.toList = none) := Lib.hid (by rw [HRF.out, bs_head h0, if_neg (fun e => u8_ne hf hc (Option.some.inj e))])
      clear hc hn
      go_enter Tryd.func67, Tryd.ntmps67
      go_wp2_with fail
      go_ret2
      exact np_none HR.out rfl (Below.refl _ _)
theorem pre45 {l : List UInt8} : Lib.hasPrefix l [45] = decide (l.head? = some 45) := by
  cases l with
  | nil => rfl
  | cons c r =>
    by_cases h : c = 45
    · subst h; simp [Lib.hasPrefix, List.isPrefixOf]
    · have h2 : ¬ (45 = c) := fun e => h e.symm
      simp [Lib.hasPrefix, List.isPrefixOf, h, h2]
set_option maxHeartbeats 2000000 in
theorem signed_any (s : ByteArray) (hs : s.size ≤ 200000) (w : World) : Calls Tryd.prog 68 #[.int .u8 110, .string s] w (NumPost (readF 110 s.data.toList) w) := by
  have HRF := Lib.hid (readF_num s.data.toList)
  have hCP := Tryd.strings_CutPrefix s ⟨#[45]⟩ w
  rw [show (⟨#[45]⟩ : ByteArray).data.toList = [45] from rfl, pre45] at hCP
  by_cases h45 : s.data.toList.head? = some 45
  · rw [decide_eq_true h45, show Lib.trimPrefix s.data.toList [45] = s.data.toList.tail from by unfold Lib.trimPrefix; rw [pre45, decide_eq_true h45, if_pos rfl]; exact List.drop_one] at hCP
    obtain ⟨d, hd⟩ := name_of (⟨s.data.toList.tail.toArray⟩ : ByteArray)
    have HD : Hid (d.data.toList = s.data.toList.tail) := Lib.hid (by rw [← hd])
    have hds : d.size ≤ 200000 := by
      have := congrArg List.length HD.out
      rw [bs_len, List.length_tail, bs_len] at this
      omega
    rw [hd] at hCP
    have hN := fun W => numeral_any d hds W
    rw [HD.out] at hN
    clear hd
    cases hr : numA s.data.toList.tail with
    | none =>
      have hN2 := fun W => np_of_none (hN W) hr
      have HR2 : Hid (readF 110 s.data.toList = none) := Lib.hid (by rw [HRF.out, if_pos h45, hr])
      clear hN hr h45
      go_enter Tryd.func68, Tryd.ntmps68
      go_wp2_with fail
      refine hCP.mono ?_
      rintro e w1 ⟨rfl, rfl⟩
      go_wp2_with fail
      refine (hN2 _).mono ?_
      rintro e w2 ⟨rfl, hb2⟩
      go_wp2_with fail
      go_ret2
      exact np_none HR2.out rfl hb2
    | some v =>
      have hN2 := fun W => np_of_some (hN W) hr
      obtain ⟨v0, v1⟩ := numA_range hr
      by_cases hv : v = 0
      · subst hv
        have HR2 : Hid (readF 110 s.data.toList = none) := Lib.hid (by rw [HRF.out, if_pos h45, hr]; rfl)
        clear hN hr h45
        go_enter Tryd.func68, Tryd.ntmps68
        go_wp2_with fail
        refine hCP.mono ?_
        rintro e w1 ⟨rfl, rfl⟩
        go_wp2_with fail
        refine (hN2 _).mono ?_
        rintro e w2 ⟨rfl, hb2⟩
        go_wp2_with fail
        go_ret2
        exact np_none HR2.out rfl hb2
      · have HR2 : Hid (readF 110 s.data.toList = some (-v)) := Lib.hid (by rw [HRF.out, if_pos h45, hr]; show (if v = 0 then none else some (-v)) = _; rw [if_neg hv])
        have z0 : (v == 0) = false := by simpa using hv
        have z1 : (v != 0) = true := by simpa using hv
        clear hN hr h45 hv
        go_enter Tryd.func68, Tryd.ntmps68
        go_wp2_with fail
        refine hCP.mono ?_
        rintro e w1 ⟨rfl, rfl⟩
        go_wp2_with fail
        refine (hN2 _).mono ?_
        rintro e w2 ⟨rfl, hb2⟩
        go_wp2_with fail
        go_ret2
        exact np_some HR2.out rfl hb2
  · rw [decide_eq_false h45] at hCP
    obtain ⟨d, hd⟩ := name_of (⟨(Lib.trimPrefix s.data.toList [45]).toArray⟩ : ByteArray)
    rw [hd] at hCP
    have hN := fun W => numeral_any s hs W
    clear hd
    cases hr : numA s.data.toList with
    | none =>
      have hN2 := fun W => np_of_none (hN W) hr
      have HR2 : Hid (readF 110 s.data.toList = none) := Lib.hid (by rw [HRF.out, if_neg h45, hr])
      clear hN hr h45
      go_enter Tryd.func68, Tryd.ntmps68
      go_wp2_with fail
      refine hCP.mono ?_
      rintro e w1 ⟨rfl, rfl⟩
      go_wp2_with fail
      refine (hN2 _).mono ?_
      rintro e w2 ⟨rfl, hb2⟩
      go_wp2_with fail
      go_ret2
      exact np_none HR2.out rfl hb2
    | some v =>
      have hN2 := fun W => np_of_some (hN W) hr
      have HR2 : Hid (readF 110 s.data.toList = some v) := Lib.hid (by rw [HRF.out, if_neg h45, hr])
      clear hN hr h45
      go_enter Tryd.func68, Tryd.ntmps68
      go_wp2_with fail
      refine hCP.mono ?_
      rintro e w1 ⟨rfl, rfl⟩
      go_wp2_with fail
      refine (hN2 _).mono ?_
      rintro e w2 ⟨rfl, hb2⟩
      go_wp2_with fail
      go_ret2
      exact np_some HR2.out rfl hb2
set_option maxHeartbeats 2000000 in
theorem readForm_any (f : Nat) (hf : f < 256) (s : ByteArray) (hs : s.size ≤ 200000) (w : World) : Calls Tryd.prog 53 #[.int .u8 f, .string s] w (NumPost (readF f s.data.toList) w) := by
  by_cases hn : f = 110
  · subst hn
    have hS := fun W => signed_any s hs W
    have hB : Below w.heap.size w (w.alloc (.cells #[.func (.func 67) #[] #[], .func (.func 68) #[] #[]] 115)) := by go_grown
    go_enter Tryd.func53, Tryd.ntmps53
    go_wp2_with fail
    cases hr : readF 110 s.data.toList with
    | none =>
      refine (np_of_none (hS _) hr).mono ?_
      rintro e w1 ⟨rfl, hb1⟩
      have HR := Lib.hid hr
      clear hr hS
      go_wp2_with fail
      go_ret2
      exact np_none HR.out rfl (hB.next hb1)
    | some v =>
      refine (np_of_some (hS _) hr).mono ?_
      rintro e w1 ⟨rfl, hb1⟩
      have HR := Lib.hid hr
      clear hr hS
      go_wp2_with fail
      go_ret2
      exact np_some HR.out rfl (hB.next hb1)
  · have e0 : ((f : Int) == 110) = false := by rw [beq_eq_false_iff_ne]; omega
    have hS := fun W => lettered_any f hf hn s hs W
    have hB : Below w.heap.size w (w.alloc (.cells #[.func (.func 67) #[] #[], .func (.func 68) #[] #[]] 115)) := by go_grown
    clear hn
    go_enter Tryd.func53, Tryd.ntmps53
    go_wp2_with fail
    cases hr : readF f s.data.toList with
    | none =>
      refine (np_of_none (hS _) hr).mono ?_
      rintro e w1 ⟨rfl, hb1⟩
      have HR := Lib.hid hr
      clear hr hS
      go_wp2_with fail
      go_ret2
      exact np_none HR.out rfl (hB.next hb1)
    | some v =>
      refine (np_of_some (hS _) hr).mono ?_
      rintro e w1 ⟨rfl, hb1⟩
      have HR := Lib.hid hr
      clear hr hS
      go_wp2_with fail
      go_ret2
      exact np_some HR.out rfl (hB.next hb1)
end P3
end Go.Proofs.YtggdbceommmllaaDoor
