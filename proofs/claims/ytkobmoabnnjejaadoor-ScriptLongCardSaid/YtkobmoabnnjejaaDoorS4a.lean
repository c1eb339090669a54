/- Script: what a text is parsed to, plain. -/
import Derived.Test.YtkobmoabnnjejaaDoorS3
import Derived.Lib.IndexMore
import Derived.Lib.IndexLaws
namespace Go.Proofs.YtkobmoabnnjejaaDoor
open Go.RowKit
namespace P21
open PC NumL

/-- What stands ahead of a byte, and behind it; whether it is there. -/
def cutB (c : UInt8) : List UInt8 → List UInt8 × List UInt8 × Bool
  | [] => ([], [], false)
  | b :: l => if b = c then ([], l, true) else (b :: (cutB c l).1, (cutB c l).2.1, (cutB c l).2.2)
theorem cutB_len (c : UInt8) : ∀ l : List UInt8, (cutB c l).1.length ≤ l.length ∧ (cutB c l).2.1.length ≤ l.length ∧ (l ≠ [] → (cutB c l).2.1.length < l.length)
  | [] => ⟨Nat.le_refl _, Nat.le_refl _, fun h => absurd rfl h⟩
  | b :: l => by
    obtain ⟨h1, h2, h3⟩ := cutB_len c l
    rw [cutB]
    by_cases hb : b = c
    · rw [if_pos hb]
      simp
    · rw [if_neg hb]
      simp only [List.length_cons]
      exact ⟨by omega, by omega, fun _ => by omega⟩
theorem ib_hit (b : UInt8) (l : List UInt8) : Lib.indexByte (b :: l) b = 0 := by simp [Lib.indexByte]
theorem ib_none {b c : UInt8} {l : List UInt8} (hb : b ≠ c) (h : Lib.indexByte l c = -1) : Lib.indexByte (b :: l) c = -1 := by simp [Lib.indexByte, hb, h]
theorem ib_some {b c : UInt8} {l : List UInt8} (hb : b ≠ c) (h : Lib.indexByte l c ≠ -1) : Lib.indexByte (b :: l) c = Lib.indexByte l c + 1 := by simp [Lib.indexByte, hb, h]
theorem cut_cutB (c : UInt8) : ∀ l : List UInt8, Lib.cut l [c] = cutB c l := by
  intro l
  induction l with
  | nil => unfold Lib.cut; rw [Lib.index_one]; rfl
  | cons b l ih =>
    rw [cutB, ← ih]
    unfold Lib.cut
    rw [Lib.index_one, Lib.index_one]
    by_cases hb : b = c
    · subst hb
      rw [if_pos rfl, ib_hit]
      rfl
    · rw [if_neg hb]
      have hge := Lib.indexByte_ge l c
      by_cases h1 : Lib.indexByte l c = -1
      · rw [ib_none hb h1, h1]
        rfl
      · rw [ib_some hb h1]
        obtain ⟨m, hm⟩ := Int.eq_ofNat_of_zero_le (show 0 ≤ Lib.indexByte l c by omega)
        rw [hm, if_pos (by omega), if_pos (by omega), show ((m : Int) + 1).toNat = m + 1 by omega, Int.toNat_natCast, show m + 1 + [c].length = (m + [c].length) + 1 by simp, List.drop_succ_cons, List.take_succ_cons]
def kindT (l : List UInt8) : Option Int := if l = wordL 0 then some 0 else if l = wordL 1 then some 1 else if l = wordL 2 then some 2 else if l = wordL 3 then some 3 else none
theorem wordL_inj {j k : Int} (hj : okK j) (hk : okK k) (h : wordL j = wordL k) : j = k := by
  unfold okK at hj hk
  have h1 : j = 0 ∨ j = 1 ∨ j = 2 ∨ j = 3 := by omega
  have h2 : k = 0 ∨ k = 1 ∨ k = 2 ∨ k = 3 := by omega
  rcases h1 with rfl | rfl | rfl | rfl <;> rcases h2 with rfl | rfl | rfl | rfl <;> first | rfl | (exact absurd h (by decide))
theorem kindT_some {l : List UInt8} {k : Int} (hk : okK k) (h : wordL k = l) : kindT l = some k := by
  unfold okK at hk
  have h2 : k = 0 ∨ k = 1 ∨ k = 2 ∨ k = 3 := by omega
  subst h
  rcases h2 with rfl | rfl | rfl | rfl <;> decide
theorem kindT_none {l : List UInt8} (h : ∀ k : Nat, k < 4 → wordL k ≠ l) : kindT l = none := by
  unfold kindT
  rw [if_neg (fun e => h 0 (by omega) e.symm), if_neg (fun e => h 1 (by omega) e.symm), if_neg (fun e => h 2 (by omega) e.symm), if_neg (fun e => h 3 (by omega) e.symm)]
theorem kindT_ok {l : List UInt8} {k : Int} (h : kindT l = some k) : okK k ∧ wordL k = l := by
  unfold kindT at h
  split at h
  · rename_i e; cases h; exact ⟨by decide, e.symm⟩
  · split at h
    · rename_i e; cases h; exact ⟨by decide, e.symm⟩
    · split at h
      · rename_i e; cases h; exact ⟨by decide, e.symm⟩
      · split at h
        · rename_i e; cases h; exact ⟨by decide, e.symm⟩
        · cases h
/-- The event of a line, or how it is wrong. -/
def evT (t : List UInt8) (whole : Bool) : Int ⊕ Ev := match kindT (cutB 32 t).1 with
  | none => .inl 14
  | some k => match numT (cutB 32 t).2.1 with
    | none => .inl 11
    | some n => if (cutB 32 t).2.2 = true ∧ whole = true then .inr ⟨k, n⟩ else .inl 11
/-- The events of a text; or the line that is wrong, and how. -/
def parseT : Nat → Nat → List UInt8 → List Ev → (Nat × Int) ⊕ List Ev
  | 0, _, _, acc => .inr acc
  | f + 1, line, s, acc => if s = [] then .inr acc else match evT (cutB 10 s).1 (cutB 10 s).2.2 with
    | .inl c => .inl (line, c)
    | .inr e => parseT f (line + 1) (cutB 10 s).2.1 (acc ++ [e])
end P21
end Go.Proofs.YtkobmoabnnjejaaDoor
