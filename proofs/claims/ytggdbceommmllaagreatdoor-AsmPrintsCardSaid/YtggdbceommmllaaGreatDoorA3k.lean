/- Asm: words cut out, plain (for the seat whose program has no reference for Cut). -/
import Derived.Test.YtggdbceommmllaaGreatDoorA3h
namespace Go.Proofs.YtggdbceommmllaaGreatDoor
open Go.RowKit
namespace P3
open P2 PC NumL CutL

theorem valF_take12 {l : List UInt8} (h : l.all isDig = true) : valF 0 (l.take 12) < 1000000000000 :=
  valF_12 (by rw [List.all_eq_true] at h ⊢; exact fun x hx => h x (List.mem_of_mem_take hx)) (by rw [List.length_take]; omega)
theorem valF_take_succ {s : ByteArray} {k : Nat} (h : k < s.size) : valF 0 ((s.data.toList.take (k + 1)).take 12) = if k < 12 then valF 0 ((s.data.toList.take k).take 12) * 10 + (s[k].toNat - 48) else valF 0 ((s.data.toList.take k).take 12) := by
  by_cases hk : k < 12
  · rw [if_pos hk, List.take_take, List.take_take, show min 12 (k + 1) = k + 1 by omega, show min 12 k = k by omega, bs_take h, valF_snoc]
  · rw [if_neg hk, List.take_take, List.take_take, show min 12 (k + 1) = 12 by omega, show min 12 k = 12 by omega]
/-- What was cut, and what is left, at a place of a text. -/
structure CutS (c : UInt8) (l : List UInt8) (k from_ : Nat) (out : List (List UInt8)) : Prop where
  le : from_ ≤ k
  eq : splitC c l = out ++ splitC c (l.drop from_)
  no : c ∉ (l.drop from_).take (k - from_)
theorem CutS.zero (c : UInt8) (l : List UInt8) : CutS c l 0 0 [] := ⟨Nat.le_refl _, rfl, by simp⟩
theorem CutS.miss {c : UInt8} {l : List UInt8} {k f : Nat} {out : List (List UInt8)} (h : CutS c l k f out) (hk : k < l.length) (hc : l[k] ≠ c) : CutS c l (k + 1) f out := by
  have hle := h.le
  refine ⟨by omega, h.eq, ?_⟩
  rw [show k + 1 - f = (k - f) + 1 by omega, List.take_succ_eq_append_getElem (by rw [List.length_drop]; omega), List.mem_append]
  rintro (h1 | h1)
  · exact h.no h1
  · rw [List.mem_singleton, List.getElem_drop] at h1
    exact hc (by rw [h1]; simp [show f + (k - f) = k by omega])
theorem CutS.hit {c : UInt8} {l : List UInt8} {k f : Nat} {out : List (List UInt8)} (h : CutS c l k f out) (hk : k < l.length) (hc : l[k] = c) : CutS c l (k + 1) (k + 1) (out ++ [(l.drop f).take (k - f)]) := by
  have hle := h.le
  refine ⟨Nat.le_refl _, ?_, by simp⟩
  have e : l.drop f = (l.drop f).take (k - f) ++ c :: l.drop (k + 1) := by
    conv => lhs; rw [← List.take_append_drop (k - f) (l.drop f)]
    rw [List.drop_drop, show f + (k - f) = k by omega, List.drop_eq_getElem_cons hk, hc]
  rw [h.eq]
  conv => lhs; rw [e]
  rw [splitC_hit c _ _ h.no, List.append_assoc]
  rfl
theorem CutS.last {c : UInt8} {l : List UInt8} {f : Nat} {out : List (List UInt8)} (h : CutS c l l.length f out) : splitC c l = out ++ [l.drop f] := by
  have hn := h.no
  rw [List.take_of_length_le (by rw [List.length_drop]; exact Nat.le_refl _)] at hn
  rw [h.eq, splitC_miss c _ hn]
theorem ext_list (s : ByteArray) (a b : Nat) : (s.extract a b).data.toList = (s.data.toList.drop a).take (b - a) := by
  rw [ByteArray.data_extract, Array.toList_extract, List.extract_eq_take_drop]
theorem bs_of_list {s : ByteArray} {l : List UInt8} (h : s.data.toList = l) : (⟨l.toArray⟩ : ByteArray) = s := by subst h; rfl
/-- Slices of words, as calls return them. -/
def WordsPost (ws : List (List UInt8)) (w : World) (e : Ending) (w' : World) : Prop := ∃ v, e = .returned v ∧ w'.ownsRow w.heap.size 9 1 v ws.length (wv ws) ∧ Below w.heap.size w w'
end P3
end Go.Proofs.YtggdbceommmllaaGreatDoor
