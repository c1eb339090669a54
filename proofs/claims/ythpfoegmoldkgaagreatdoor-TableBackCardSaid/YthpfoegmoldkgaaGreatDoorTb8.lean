/- Table: what is parsed may be printed (sizes, ranges), plain. -/
import Derived.Test.YthpfoegmoldkgaaGreatDoorTb7
import Derived.Test.YthpfoegmoldkgaaGreatDoorT7b
import Derived.Test.YthpfoegmoldkgaaGreatDoorT7c
namespace Go.Proofs.YthpfoegmoldkgaaGreatDoor
open Go.RowKit
namespace P7
open CutL NumL

def parseM (s : List UInt8) : Option (List Row) := if s = [] then none else parseR (s.length + 1) s []
theorem words_len (c : UInt8) (l x : List UInt8) (h : x ∈ splitC c l) : x.length ≤ l.length := by
  have hj := join_split c l
  have hm : ∀ (ws : List (List UInt8)), x ∈ ws → x.length ≤ (joinC c ws).length := by
    intro ws
    induction ws with
    | nil => intro h; cases h
    | cons y r ih =>
      intro h
      cases r with
      | nil => simp only [List.mem_singleton] at h; subst h; simp [joinC]
      | cons z r =>
        rw [List.mem_cons] at h
        rcases h with rfl | h
        · simp [joinC]
        · have := ih h
          simp only [joinC, List.length_append, List.length_cons] at this ⊢
          omega
  have := hm _ h
  rwa [hj] at this
theorem rowT_wf {t : List UInt8} {r : Row} (h : rowT t = some r) (ht : t.length ≤ 1000000) : RowWf r ∧ r.c.size ≤ t.length + 1 := by
  unfold rowT at h
  split at h
  · rename_i a b c d e f g hs
    split at h
    · rename_i p i fn k v s h1 h2 h3 h4 h5 h6
      injection h with h
      subst h
      obtain ⟨k1, k2, -⟩ := kindIx_ok h4
      have e2 := (numT_iff.1 h2).2
      have e3 := (numT_iff.1 h3).2
      have e5 := (numT_iff.1 h5).2
      have e6 := (numT_iff.1 h6).2
      have hp : -9223372036854775808 ≤ p ∧ p ≤ 9223372036854775807 := by
        unfold firstN at h1
        split at h1
        · injection h1 with h1; omega
        · cases hn : numT a with
          | none => rw [hn] at h1; cases h1
          | some n =>
            rw [hn] at h1
            simp only at h1
            split at h1
            · cases h1
            · injection h1 with h1
              have := (numT_iff.1 hn).2
              omega
      have hg : g.length ≤ t.length := words_len 32 t g (by rw [hs]; simp)
      have hc : (closesT g).length ≤ t.length + 1 := by
        unfold closesT
        split
        · simp
        · split
          · simp
          · omega
      have hc2 : (⟨(closesT g).toArray⟩ : ByteArray).size ≤ t.length + 1 := hc
      exact ⟨⟨hp, e2, e3, by simp only; omega, e5, e6, by simp only; omega⟩, hc2⟩
    · cases h
  · cases h
theorem parse_wf (N : Nat) : ∀ (f : Nat) (s : List UInt8) (l m : List Row), s.length < f → s.length + 1 ≤ N → N ≤ 1000000 → parseR f s l = some m → (∀ r ∈ l, RowWf r ∧ r.c.size ≤ N) → (∀ r ∈ m, RowWf r ∧ r.c.size ≤ N) ∧ m.length ≤ l.length + s.length
  | f + 1, s, l, m, hs, hN, hN2, h, hl => by
    rw [parseR] at h
    by_cases h0 : s = []
    · rw [if_pos h0] at h
      injection h with h
      subst h
      exact ⟨hl, by omega⟩
    · rw [if_neg h0] at h
      cases hc : (cutB 10 s).2.2 with
      | false => rw [hc] at h; simp at h
      | true =>
        rw [hc] at h
        simp only [Bool.true_eq_false, if_false] at h
        have hlen := cutB_len 10 s
        have hlt := hlen.2.2 h0
        cases hr : rowT (cutB 10 s).1 with
        | none => rw [hr] at h; cases h
        | some r =>
          rw [hr] at h
          simp only at h
          split at h
          · have hw := rowT_wf hr (by omega)
            obtain ⟨g1, g2⟩ := parse_wf N f _ (l ++ [r]) m (by omega) (by omega) hN2 h (fun x hx => by
              rcases List.mem_append.1 hx with hx | hx
              · exact hl x hx
              · rw [List.mem_singleton] at hx
                subst hx
                exact ⟨hw.1, by omega⟩)
            rw [List.length_append, List.length_singleton] at g2
            exact ⟨g1, by omega⟩
          · cases h
theorem textTo_ge (l : List Row) : ∀ n, n ≤ (textTo l n).length
  | 0 => Nat.zero_le _
  | n + 1 => by
    have := textTo_ge l n
    rw [textTo_succ, List.length_append, line_words, List.length_append, List.length_singleton]
    omega
/-- The text of a table is parsed as it. -/
theorem parseM_text {l : List Row} (h : chk (l.length + 1) l = 0) (hw : ∀ r ∈ l, RowWf r) (hn : l.length < 9223372036854775807) : parseM (textTo l l.length) = some l := by
  have hne := (chk_good h).2
  have h1 := textTo_ge l l.length
  have h2 := List.length_pos_iff.2 hne
  unfold parseM
  rw [if_neg (fun e => by rw [e] at h1; simp at h1; exact hne h1)]
  exact print_parse h (fun r hr => ⟨(hw r hr).v, (hw r hr).i.2⟩) hn (by omega)
/-- What is parsed: a table, of whose rows this is the text. -/
theorem parseM_some {s : List UInt8} {m : List Row} (h : parseM s = some m) (hs : s.length ≤ 3000) : chk (m.length + 1) m = 0 ∧ textTo m m.length = s ∧ (∀ r ∈ m, RowWf r) ∧ SmallB m := by
  unfold parseM at h
  split at h
  · cases h
  · rename_i h0
    obtain ⟨h1, h2, h3⟩ := parse_print (s.length + 1) s [] m (by omega) good_nil h
    obtain ⟨h4, h5⟩ := parse_wf 3001 (s.length + 1) s [] m (by omega) (by omega) (by omega) h (fun r hr => by cases hr)
    refine ⟨good_chk h1 (h3 h0), by rw [h2]; rfl, fun r hr => (h4 r hr).1, by simp at h5; omega, fun k hk => ?_⟩
    rw [at_eq hk]
    have := (h4 _ (List.getElem_mem hk)).2
    omega
end P7
end Go.Proofs.YthpfoegmoldkgaaGreatDoor
