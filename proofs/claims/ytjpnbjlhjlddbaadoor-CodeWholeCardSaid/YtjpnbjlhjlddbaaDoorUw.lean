/- Plain: a program's bytes are unpacked to it, and two programs of the same bytes are one. -/
import Derived.Test.YtjpnbjlhjlddbaaDoorUl
namespace Go.Proofs.YtjpnbjlhjlddbaaDoor
open Go.RowKit
namespace P2

theorem drop_le {l s : List Int} {a n : Nat} (h : l.drop a = s) (hn : n ≤ s.length) (h0 : 0 < n) : a + n ≤ l.length := by
  have : (l.drop a).length = s.length := by rw [h]
  rw [List.length_drop] at this
  omega
theorem chunk_of {l s t : List Int} {a n : Nat} (h : l.drop a = s ++ t) (hs : s.length = n) : chunk l a n = s := by
  rw [chunk, h, ← hs, List.take_left]
theorem drop_of {l s t : List Int} {a n : Nat} (h : l.drop a = s ++ t) (hs : s.length = n) : l.drop (a + n) = t := by
  rw [← List.drop_drop, h, ← hs, List.drop_left]
theorem insGo_fwd {l t : List Int} : ∀ (s : List Ins) (acc : List Ins) (a : Nat), l.drop a = s.flatMap encB ++ t → (∀ i ∈ s, chk i = 0) → insGo l s.length acc a = (acc ++ s, 0, a + s.length * 8)
  | [], acc, a, _, _ => by simp [insGo]
  | i :: s, acc, a, h, hc => by
    rw [List.flatMap_cons, List.append_assoc] at h
    have hl := drop_le (n := 8) h (by rw [List.length_append, encB_length]; omega) (by omega)
    have hi := hc i (by simp)
    rw [List.length_cons, insGo, if_neg (by omega), chunk_of h (encB_length i), if_pos (decE_enc hi), dec_enc hi, insGo_fwd s _ (a + 8) (drop_of h (encB_length i)) fun j hj => hc j (by simp [hj])]
    simp
    omega
theorem firstBad_all : ∀ {l : List Ins}, firstBad l = 0 → ∀ i ∈ l, chk i = 0
  | [], _, i, hi => by cases hi
  | j :: l, h, i, hi => by
    rw [firstBad] at h
    by_cases h0 : chk j = 0
    · rw [if_pos h0] at h
      rcases List.mem_cons.1 hi with rfl | hi
      · exact h0
      · exact firstBad_all h i hi
    · rw [if_neg h0] at h; exact absurd h h0
theorem firstE_all : ∀ {l : List Fn}, firstE l = 0 → ∀ f ∈ l, packE f = 0
  | [], _, i, hi => by cases hi
  | j :: l, h, i, hi => by
    rw [firstE] at h
    by_cases h0 : packE j = 0
    · rw [if_pos h0] at h
      rcases List.mem_cons.1 hi with rfl | hi
      · exact h0
      · exact firstE_all h i hi
    · rw [if_neg h0] at h; exact absurd h h0
theorem packE_all {f : Fn} (h : packE f = 0) : (∀ i ∈ f.2, chk i = 0) ∧ 1 ≤ f.2.length ∧ f.2.length ≤ 128 := by
  rw [packE] at h
  split at h
  · cases h
  · split at h
    · cases h
    · exact ⟨firstBad_all h, by omega, by omega⟩
theorem fnGo_fwd {l t : List Int} {a : Nat} {f : Fn} (h : l.drop a = packB f ++ t) (he : packE f = 0) : fnGo l a = (f, 0, a + (packB f).length) := by
  obtain ⟨x, s⟩ := f
  obtain ⟨h1, h2, h3⟩ := packE_all he
  dsimp only at h1 h2 h3
  have hp : packB (x, s) = [x, (s.length : Int)] ++ s.flatMap encB := rfl
  rw [hp, List.append_assoc] at h
  have hl := drop_le (n := 2) h (by simp) (by omega)
  have hk := chunk_of h (n := 2) rfl
  rw [chunk_two' hl] at hk
  injection hk with k0 k1
  injection k1 with k1 _
  rw [fnGo, if_neg (by omega), k0, k1, if_neg (by omega), Int.toNat_natCast, insGo_fwd s [] (a + 2) (drop_of h rfl) h1]
  rw [hp, List.length_append, encs_length]
  simp
  omega
theorem unGo_fwd {l : List Int} : ∀ (p : List Fn) (acc : List Fn) (a : Nat), l.drop a = p.flatMap packB → (∀ f ∈ p, packE f = 0) → unGo l p.length acc a = (acc ++ p, 0, 0)
  | [], acc, a, h, _ => by
    have : l.length ≤ a := List.drop_eq_nil_iff.1 h
    rw [List.length_nil, unGo, if_neg (by omega), List.append_nil]
  | f :: p, acc, a, h, hc => by
    rw [List.flatMap_cons] at h
    have hf := fnGo_fwd h (hc f (by simp))
    rw [List.length_cons, unGo, hf, if_pos rfl, unGo_fwd p _ _ (drop_of h rfl) fun g hg => hc g (by simp [hg])]
    simp
theorem un_prog {p : List Fn} (h : progE p = 0) : un (progB p) = (p, 0, 0) := by
  rw [progE] at h
  split at h
  · cases h
  · rename_i hp
    have e0 : (progB p).getD 0 0 = (p.length : Int) := rfl
    rw [un, if_neg (by simp [progB]), e0, if_neg (by omega), Int.toNat_natCast, unGo_fwd p [] 1 rfl (firstE_all h)]
    rfl
theorem progB_inj {p q : List Fn} (hp : progE p = 0) (hq : progE q = 0) (h : progB p = progB q) : p = q := by
  have a := un_prog hp
  rw [h, un_prog hq] at a
  injection a with a _
  exact a.symm
theorem chk_byte {i : Ins} (h : chk i = 0) : ∀ z ∈ encB i, 0 ≤ z ∧ z ≤ 255 := encB_range h
theorem progB_range {p : List Fn} (h : progE p = 0) : ∀ z ∈ progB p, 0 ≤ z ∧ z ≤ 255 := by
  rw [progE] at h
  split at h
  · cases h
  · rename_i hp
    intro z hz
    rcases List.mem_cons.1 hz with rfl | hz
    · omega
    · obtain ⟨f, hf, hz⟩ := List.mem_flatMap.1 hz
      have he := firstE_all h f hf
      have hl := packB_length he
      rcases List.mem_cons.1 hz with rfl | hz
      · omega
      · rcases List.mem_cons.1 hz with rfl | hz
        · omega
        · obtain ⟨i, hi, hz⟩ := List.mem_flatMap.1 hz
          exact encB_range ((packE_all he).1 i hi) z hz
/-- One instruction of a function has its field A turned, of each function whose row this is. -/
def turnI (a : Int) (i : Ins) : Ins := (i.1, a, i.2.2)
def turnF (j : Nat) (a : Int) (s : List Ins) : List Ins := match s[j]? with | some i => s.set j (turnI a i) | none => s
end P2
end Go.Proofs.YtjpnbjlhjlddbaaDoor
