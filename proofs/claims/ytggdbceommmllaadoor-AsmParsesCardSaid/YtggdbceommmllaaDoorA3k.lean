/- Asm: the reference's Cut. -/
import Derived.Test.YtggdbceommmllaaDoorA3j
namespace Go.Proofs.YtggdbceommmllaaDoor
open Go.RowKit
namespace P3
open P2 PC NumL CutL

/-- What was cut, and what is left, at a place of a text. -/
structure CutS (c : UInt8) (l : List UInt8) (k from_ : Nat) (out : List (List UInt8)) : Prop where
  le : from_ ≤ k
  eq : splitC c l = out ++ splitC c (l.drop from_)
  no : c ∉ (l.drop from_).take (k - from_)
theorem CutS.zero (c : UInt8) (l : List UInt8) : CutS c l 0 0 [] := ⟨Nat.le_refl _, rfl, by simp⟩
theorem CutS.miss {c : UInt8} {l : List UInt8} {k f : Nat} {out : List (List UInt8)} (h : CutS c l k f out) (hk : k < l.length) (hc : l[k] ≠ c) : CutS c l (k + 1) f out := by
  have hle := h.le
  refine ⟨by omega, h.eq, ?_⟩
  rw [show k + 1 - f = (k - f) + 1 by omega, List.take_succ_eq_append_getElem (by rw [List.length_drop]; omega), List.mem_append]
  rintro (h1 | h1)
  · exact h.no h1
  · rw [List.mem_singleton, List.getElem_drop] at h1
    exact hc (by rw [h1]; simp [show f + (k - f) = k by omega])
theorem CutS.hit {c : UInt8} {l : List UInt8} {k f : Nat} {out : List (List UInt8)} (h : CutS c l k f out) (hk : k < l.length) (hc : l[k] = c) : CutS c l (k + 1) (k + 1) (out ++ [(l.drop f).take (k - f)]) := by
  have hle := h.le
  refine ⟨Nat.le_refl _, ?_, by simp⟩
  have e : l.drop f = (l.drop f).take (k - f) ++ c :: l.drop (k + 1) := by
    conv => lhs; rw [← List.take_append_drop (k - f) (l.drop f)]
    rw [List.drop_drop, show f + (k - f) = k by omega, List.drop_eq_getElem_cons hk, hc]
  rw [h.eq]
  conv => lhs; rw [e]
  rw [splitC_hit c _ _ h.no, List.append_assoc]
  rfl
theorem CutS.last {c : UInt8} {l : List UInt8} {f : Nat} {out : List (List UInt8)} (h : CutS c l l.length f out) : splitC c l = out ++ [l.drop f] := by
  have hn := h.no
  rw [List.take_of_length_le (by rw [List.length_drop]; exact Nat.le_refl _)] at hn
  rw [h.eq, splitC_miss c _ hn]
theorem ext_list (s : ByteArray) (a b : Nat) : (s.extract a b).data.toList = (s.data.toList.drop a).take (b - a) := by
  rw [ByteArray.data_extract, Array.toList_extract, List.extract_eq_take_drop]
theorem bs_of_list {s : ByteArray} {l : List UInt8} (h : s.data.toList = l) : (⟨l.toArray⟩ : ByteArray) = s := by subst h; rfl
/-- Slices of words, as calls return them. -/
def WordsPost (ws : List (List UInt8)) (w : World) (e : Ending) (w' : World) : Prop := ∃ v, e = .returned v ∧ w'.ownsRow w.heap.size 9 1 v ws.length (wv ws) ∧ Below w.heap.size w w'
set_option maxRecDepth 10000 in
set_option maxHeartbeats 4000000 in
theorem refCut_any (c : Nat) (hc : c < 256) (s : ByteArray) (hs : s.size ≤ 200000) (w : World) : Calls Tryd.prog 39 #[.string s, .int .u8 c] w (WordsPost (splitC (UInt8.ofNat c) s.data.toList) w) := by
  have HCV := Lib.hid (UInt8.toNat_ofNat' (n := c))
  obtain ⟨C, hC⟩ := name_of (UInt8.ofNat c)
  rw [hC] at HCV ⊢
  have HCN : Hid (C.toNat = c) := Lib.hid (by rw [HCV.out]; omega)
  clear HCV hC
  go_enter Tryd.func39, Tryd.ntmps39
  go_wp2_with fail
  go_loopw [5, 6, 7] (fun o fr x wr => ∃ (k f : Nat) (out : List (List UInt8)), k ≤ s.size ∧ x = .int .i64 k ∧ fr = .int .i64 f ∧ f ≤ k ∧ out.length ≤ k ∧ wr.ownsRow w.heap.size 9 1 o out.length (wv out) ∧ Below w.heap.size w wr ∧ Hid (CutS C s.data.toList k f out)) (fun _ _ x _ => s.size - (intOf x).toNat)
  case atStart => exact ⟨0, 0, [], Nat.zero_le _, rfl, rfl, Nat.le_refl _, Nat.le_refl _, ⟨rfl, .inl ⟨rfl, rfl⟩⟩, Below.refl _ _, Lib.hid (CutS.zero _ _)⟩
  case round =>
    obtain ⟨k, f, out, hk, rfl, rfl, hf, ho, hown, hB, HS⟩ := hrel
    have hone := own_one hown
    by_cases hlt : k < s.size
    · have HL : Hid (k < s.data.toList.length) := Lib.hid (by rw [bs_len]; exact hlt)
      have HK : Hid (s.data.toList[k]'HL.out = s[k]) := Lib.hid rfl
      by_cases hh : s[k].toNat = c
      · have HN : Hid (CutS C s.data.toList (k + 1) (k + 1) (out ++ [(s.extract f k).data.toList])) := Lib.hid (by
          rw [ext_list]
          exact HS.out.hit HL.out (by rw [HK.out]; exact UInt8.toNat_inj.1 (by rw [HCN.out]; exact hh)))
        have z0 : ((s[k].toNat : Int) == (c : Int)) = true := by rw [beq_iff_eq]; omega
        obtain ⟨d, hd⟩ := name_of (s.extract f k)
        rw [hd] at HN
        have HY : Hid (wv [d.data.toList] = [.string d]) := Lib.hid rfl
        clear hh
        have hs2 : Sl (wr.alloc (.cells #[.string d] 9)) (wr.alloc (.cells #[.string d] 9)).heap.size 1 (.slice (some ⟨wr.heap.size, 0, none⟩) 1 1) (wv [d.data.toList]) := Sl.new wr _ _ 1 _ rfl rfl HY.out
        have hown2 := hown.alloc (.cells #[.string d] 9)
        have hB2 := hB.alloc hB.size (.cells #[.string d] 9)
        obtain ⟨L, hL⟩ := name_of out.length
        rw [hL] at hown2 ho
        have HLL := Lib.hid hL
        clear hown hB hL HS
        go_wp2_with (at_builtin; refine wpList_append_sl rfl (.tmp 19) (.tmp 24) 72 rfl w.heap.size 9 (.string ⟨#[]⟩) 1 16 Tryd.underlying72 info_str rfl (by omega) _ _ _ rfl hown2 _ 1 _ _ rfl hs2 rfl (wv_one _) (by omega) (by omega) hB2.size ?_; intro v6 w6 hown6 hg6 hat6; have hB6 := below_append hB2 hown2 hg6 (Nat.le_refl _); obtain ⟨A6, m6, c6, rfl⟩ := own_slice hown6; clear hown2 hs2 hg6 hat6 hB2)
        refine ⟨⟨k + 1, k + 1, _, hlt, by go_num, by go_num, Nat.le_refl _, by rw [List.length_append, HLL.out]; exact Nat.succ_le_succ ho, ?_, hB6, HN⟩, by simp [intOf]; omega⟩
        rw [wv_append]
        exact own_len hown6 (by rw [List.length_append, HLL.out]; rfl) rfl
      · have HN : Hid (CutS C s.data.toList (k + 1) f out) := Lib.hid (HS.out.miss HL.out (by rw [HK.out]; intro e; exact hh (by rw [e, HCN.out])))
        have z0 : ((s[k].toNat : Int) == (c : Int)) = false := by rw [beq_eq_false_iff_ne]; omega
        clear hh HS
        go_wp2_with fail
        exact ⟨⟨k + 1, f, out, hlt, by go_num, rfl, by omega, by omega, hown, hB, HN⟩, by simp [intOf]; omega⟩
    · obtain rfl : k = s.size := by omega
      have HE : Hid (splitC C s.data.toList = out ++ [(s.extract f s.size).data.toList]) := Lib.hid (by
        have h1 := HS.out
        rw [← bs_len] at h1
        rw [h1.last, ext_list, List.take_of_length_le (by rw [List.length_drop, bs_len]; exact Nat.le_refl _)])
      obtain ⟨d, hd⟩ := name_of (s.extract f s.size)
      rw [hd] at HE
      have HY : Hid (wv [d.data.toList] = [.string d]) := Lib.hid rfl
      have hs2 : Sl (wr.alloc (.cells #[.string d] 9)) (wr.alloc (.cells #[.string d] 9)).heap.size 1 (.slice (some ⟨wr.heap.size, 0, none⟩) 1 1) (wv [d.data.toList]) := Sl.new wr _ _ 1 _ rfl rfl HY.out
      have hown2 := hown.alloc (.cells #[.string d] 9)
      have hB2 := hB.alloc hB.size (.cells #[.string d] 9)
      obtain ⟨L, hL⟩ := name_of out.length
      rw [hL] at hown2 ho
      have HLL := Lib.hid hL
      clear hown hB hL HS
      go_wp2_with (at_builtin; refine wpList_append_sl rfl (.tmp 28) (.tmp 32) 72 rfl w.heap.size 9 (.string ⟨#[]⟩) 1 16 Tryd.underlying72 info_str rfl (by omega) _ _ _ rfl hown2 _ 1 _ _ rfl hs2 rfl (wv_one _) (by omega) (by omega) hB2.size ?_; intro v6 w6 hown6 hg6 hat6; have hB6 := below_append hB2 hown2 hg6 (Nat.le_refl _); obtain ⟨A6, m6, c6, rfl⟩ := own_slice hown6; clear hown2 hs2 hg6 hat6 hB2)
      go_ret
      refine ⟨_, rfl, ?_, hB6⟩
      rw [HE.out, wv_append]
      exact own_len hown6 (by rw [List.length_append, HLL.out]; rfl) rfl
end P3
end Go.Proofs.YtggdbceommmllaaDoor
