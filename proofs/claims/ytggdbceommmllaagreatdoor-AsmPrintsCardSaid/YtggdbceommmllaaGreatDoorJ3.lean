/- Walks: Few, both Packs at every program, CodePacks. -/
import Derived.Test.YtggdbceommmllaaGreatDoorS3p
namespace Go.Proofs.YtggdbceommmllaaGreatDoor
open Go.RowKit
namespace P2

/-- A program in memory whose rows are as long as Go lets them be. -/
def Prog (w : World) (v : Value) (p : List Fn) : Prop := Fns w w.heap.size v p ∧ p.length ≤ 9223372036854775807 ∧ ∀ f ∈ p, f.2.length ≤ 9223372036854775807
theorem Prog.next {w w' : World} {v : Value} {p : List Fn} (h : Prog w v p) (hb : Below w.heap.size w w') : Prog w' v p := ⟨h.1.next hb, h.2⟩

def PackAll (p : List Fn) (w : World) (e : Ending) (w' : World) : Prop :=
  ∃ v, e = .returned (.tuple #[v, .int .i64 (progE p)]) ∧ (progE p = 0 → Sl w' w'.heap.size 1 v (bv (progB p))) ∧ (progE p ≠ 0 → v = .slice none 0 0) ∧ Below w.heap.size w w'

theorem packAll {w : World} {pv : Value} {p : List Fn} (hp : Prog w pv p) : Calls Tryz.prog 11 #[.agg #[pv]] w (PackAll p w) := by
  by_cases h : p.length < 1 ∨ 32 < p.length
  · have hE : progE p = 12 := by rw [progE, if_pos h]
    refine (pack_long hp.1 h hp.2.1).mono ?_
    rintro e w' ⟨rfl, hb⟩
    exact ⟨_, by rw [hE], fun h0 => absurd (hE.symm.trans h0) (by decide), fun _ => rfl, hb⟩
  · have hE : progE p = firstE p := by rw [progE, if_neg h]
    refine (packs_any hp.1 (by omega) (by omega) hp.2.2).mono ?_
    rintro e w' ⟨⟨v, rfl, h1, h2⟩, hb⟩
    exact ⟨v, by rw [hE], by rw [hE]; exact h1, by rw [hE]; exact h2, hb⟩
def FewPost (p : List Fn) (w : World) (e : Ending) (w' : World) : Prop := (∃ b : Bool, e = .returned (.bool b) ∧ (b = true → p.length ≤ 40)) ∧ Below w.heap.size w w'

theorem few_any {w : World} {pv : Value} {p : List Fn} (hp : Prog w pv p) : Calls Tryz.prog 4 #[.agg #[pv]] w (FewPost p w) := by
  obtain ⟨hF, hmax, hm⟩ := hp
  obtain ⟨A, c, rfl, hc, hf⟩ := hF.open_
  have HF := Lib.hid hf
  have HMAX := Lib.hid hm
  clear hf hm hF
  obtain ⟨n, hn⟩ : ∃ n, p.length = n := ⟨_, rfl⟩
  have HN := Lib.hid hn
  rw [hn] at hc hmax ⊢
  clear hn
  have hB : Below w.heap.size w (w.alloc (.cells #[.slice A n c] 24)) := by go_grown
  go_enter Tryz.func4, Tryz.ntmps4
  go_wp2_with fail
  go_loop [3] (fun i => ∃ k : Nat, k ≤ n ∧ i = .int .i64 k) (fun i => n - (intOf i).toNat)
  case atStart => exact ⟨0, Nat.zero_le _, rfl⟩
  case round =>
    obtain ⟨k, hk, rfl⟩ := hrel
    by_cases hlt : k < n
    · by_cases h41 : k < 41
      · have hkp : k < p.length := by have := HN.out; omega
        obtain ⟨b, off, cv, rfl, hb, hc0, hc1, hcode⟩ := HF.out k hkp
        have hmx := HMAX.out p[k] (List.getElem_mem hkp)
        obtain ⟨A2, c2, rfl, _, _⟩ := code_open hcode
        obtain ⟨m, hm⟩ : ∃ m, p[k].2.length = m := ⟨_, rfl⟩
        rw [hm] at hmx hc1
        clear hm hc0 hcode
        by_cases h140 : 140 < m
        · go_wp2_with fail
          go_ret
          exact ⟨⟨false, rfl, fun h => by cases h⟩, hB⟩
        · go_wp2_with fail
          exact ⟨⟨k + 1, by omega, by go_num⟩, by simp [intOf]; omega⟩
      · have h40 : ¬ n ≤ 40 := by omega
        have hd : decide ((n : Int) ≤ 40) = false := by simp; omega
        go_wp2_with fail
        go_ret
        exact ⟨⟨false, rfl, fun h => by cases h⟩, hB⟩
    · by_cases h40 : n ≤ 40
      · have hd : decide ((n : Int) ≤ 40) = true := by simp; omega
        go_wp2_with fail
        go_ret
        exact ⟨⟨true, rfl, fun _ => by have := HN.out; omega⟩, hB⟩
      · have hd : decide ((n : Int) ≤ 40) = false := by simp; omega
        go_wp2_with fail
        go_ret
        exact ⟨⟨false, rfl, fun h => by cases h⟩, hB⟩

end P2
end Go.Proofs.YtggdbceommmllaaGreatDoor
