/- Walks: Few, both Packs at every program, CodePacks. -/
import Derived.Test.YtjpnbjlhjlddbaaDoorT02
namespace Go.Proofs.YtjpnbjlhjlddbaaDoor
open Go.RowKit
namespace P2

/-- A program in memory whose rows are as long as Go lets them be. -/
def Prog (w : World) (v : Value) (p : List Fn) : Prop := Fns w w.heap.size v p ∧ p.length ≤ 9223372036854775807 ∧ ∀ f ∈ p, f.2.length ≤ 9223372036854775807
theorem Prog.next {w w' : World} {v : Value} {p : List Fn} (h : Prog w v p) (hb : Below w.heap.size w w') : Prog w' v p := ⟨h.1.next hb, h.2⟩

def PackAll (p : List Fn) (w : World) (e : Ending) (w' : World) : Prop :=
  ∃ v, e = .returned (.tuple #[v, .int .i64 (progE p)]) ∧ (progE p = 0 → Sl w' w'.heap.size 1 v (bv (progB p))) ∧ (progE p ≠ 0 → v = .slice none 0 0) ∧ Below w.heap.size w w'

theorem packAll {w : World} {pv : Value} {p : List Fn} (hp : Prog w pv p) : Calls Tryd.prog 17 #[.agg #[pv]] w (PackAll p w) := by
  by_cases h : p.length < 1 ∨ 32 < p.length
  · have hE : progE p = 12 := by rw [progE, if_pos h]
    refine (pack_long hp.1 h hp.2.1).mono ?_
    rintro e w' ⟨rfl, hb⟩
    exact ⟨_, by rw [hE], fun h0 => absurd (hE.symm.trans h0) (by decide), fun _ => rfl, hb⟩
  · have hE : progE p = firstE p := by rw [progE, if_neg h]
    refine (packs_any hp.1 (by omega) (by omega) hp.2.2).mono ?_
    rintro e w' ⟨⟨v, rfl, h1, h2⟩, hb⟩
    exact ⟨v, by rw [hE], by rw [hE]; exact h1, by rw [hE]; exact h2, hb⟩
theorem refPackAll {w : World} {pv : Value} {p : List Fn} (hp : Prog w pv p) : Calls Tryd.prog 18 #[.agg #[pv]] w (PackAll p w) := by
  by_cases h : p.length < 1 ∨ 32 < p.length
  · have hE : progE p = 12 := by rw [progE, if_pos h]
    refine (refPack_long hp.1 h hp.2.1).mono ?_
    rintro e w' ⟨rfl, hb⟩
    exact ⟨_, by rw [hE], fun h0 => absurd (hE.symm.trans h0) (by decide), fun _ => rfl, hb⟩
  · have hE : progE p = firstE p := by rw [progE, if_neg h]
    refine (refPack_any hp.1 (by omega) (by omega)).mono ?_
    rintro e w' ⟨⟨v, rfl, h1, h2⟩, hb⟩
    exact ⟨v, by rw [hE], by rw [hE]; exact h1, by rw [hE]; exact h2, hb⟩

def FewPost (p : List Fn) (w : World) (e : Ending) (w' : World) : Prop := (∃ b : Bool, e = .returned (.bool b) ∧ (b = true → p.length ≤ 40)) ∧ Below w.heap.size w w'

theorem few_any {w : World} {pv : Value} {p : List Fn} (hp : Prog w pv p) : Calls Tryd.prog 16 #[.agg #[pv]] w (FewPost p w) := by
  obtain ⟨hF, hmax, hm⟩ := hp
  obtain ⟨A, c, rfl, hc, hf⟩ := hF.open_
  have HF := Lib.hid hf
  have HMAX := Lib.hid hm
  clear hf hm hF
  obtain ⟨n, hn⟩ : ∃ n, p.length = n := ⟨_, rfl⟩
  have HN := Lib.hid hn
  rw [hn] at hc hmax ⊢
  clear hn
  have hB : Below w.heap.size w (w.alloc (.cells #[.slice A n c] 35)) := by go_grown
  go_enter Tryd.func16, Tryd.ntmps16
  go_wp2_with fail
  go_loop [3] (fun i => ∃ k : Nat, k ≤ n ∧ i = .int .i64 k) (fun i => n - (intOf i).toNat)
  case atStart => exact ⟨0, Nat.zero_le _, rfl⟩
  case round =>
    obtain ⟨k, hk, rfl⟩ := hrel
    by_cases hlt : k < n
    · by_cases h41 : k < 41
      · have hkp : k < p.length := by have := HN.out; omega
        obtain ⟨b, off, cv, rfl, hb, hc0, hc1, hcode⟩ := HF.out k hkp
        have hmx := HMAX.out p[k] (List.getElem_mem hkp)
        obtain ⟨A2, c2, rfl, _, _⟩ := code_open hcode
        obtain ⟨m, hm⟩ : ∃ m, p[k].2.length = m := ⟨_, rfl⟩
        rw [hm] at hmx hc1
        clear hm hc0 hcode
        by_cases h140 : 140 < m
        · go_wp2_with fail
          go_ret
          exact ⟨⟨false, rfl, fun h => by cases h⟩, hB⟩
        · go_wp2_with fail
          exact ⟨⟨k + 1, by omega, by go_num⟩, by simp [intOf]; omega⟩
      · have h40 : ¬ n ≤ 40 := by omega
        have hd : decide ((n : Int) ≤ 40) = false := by simp; omega
        go_wp2_with fail
        go_ret
        exact ⟨⟨false, rfl, fun h => by cases h⟩, hB⟩
    · by_cases h40 : n ≤ 40
      · have hd : decide ((n : Int) ≤ 40) = true := by simp; omega
        go_wp2_with fail
        go_ret
        exact ⟨⟨true, rfl, fun _ => by have := HN.out; omega⟩, hB⟩
      · have hd : decide ((n : Int) ≤ 40) = false := by simp; omega
        go_wp2_with fail
        go_ret
        exact ⟨⟨false, rfl, fun h => by cases h⟩, hB⟩

/-- Two rows that are told alike read alike. -/
theorem pack_bytes {p : List Fn} {w : World} {v : Value} (h1 : progE p = 0 → Sl w w.heap.size 1 v (bv (progB p))) (h2 : progE p ≠ 0 → v = .slice none 0 0) :
    Sl w w.heap.size 1 v (bv (if progE p = 0 then progB p else [])) := by
  by_cases h : progE p = 0
  · rw [if_pos h]; exact h1 h
  · rw [if_neg h, h2 h]; exact Sl.none_
theorem progB_length {p : List Fn} (h : progE p = 0) : (progB p).length ≤ 33000 := by
  unfold progE at h
  split at h
  · omega
  · rw [← outB_all]
    refine outB_length ?_ (by omega)
    rw [List.take_length]
    have : ∀ {l : List Fn}, firstE l = 0 → ∀ f ∈ l, packE f = 0 := by
      intro l
      induction l with
      | nil => intro _ f hf; cases hf
      | cons g l ih =>
        intro hl f hf
        rw [firstE] at hl
        split at hl
        · rename_i hg
          rcases List.mem_cons.1 hf with rfl | hf
          · exact hg
          · exact ih hl f hf
        · rename_i hg; exact absurd hl hg
    exact this h
theorem ifB_length (p : List Fn) : (if progE p = 0 then progB p else []).length ≤ 33000 := by
  by_cases h : progE p = 0
  · rw [if_pos h]; exact progB_length h
  · rw [if_neg h]; simp

set_option maxHeartbeats 1000000 in
theorem codePacks_any {w : World} {pv : Value} {p : List Fn} (hp : Prog w pv p) : Calls Tryd.prog 4 #[.agg #[pv]] w fun e w' => e = .returned (.bool true) ∧ Below w.heap.size w w' := by
  have hB0 : Below w.heap.size w (w.alloc (.cells #[pv] 35)) := by go_grown
  have hp0 := hp.next hB0
  have hpv : ∃ A n c, pv = .slice A n c := by obtain ⟨A, c, h, _⟩ := hp.1.open_; exact ⟨A, _, c, h⟩
  obtain ⟨A, n, c, rfl⟩ := hpv
  have e0 : (progE p == progE p) = true := by simp
  go_enter Tryd.func4, Tryd.ntmps4
  go_wp2_with fail
  refine (few_any hp0).mono ?_
  rintro e w1 ⟨⟨bb, rfl, -⟩, hb1⟩
  have hI := newest_cells hb1 (by simp)
  have hlt := below_size hb1
  have hp1 := hp0.next hb1
  have hB1 := hB0.next hb1
  clear hb1 hp0 hB0
  cases bb
  · go_wp2_with fail
    refine (awake_any _).mono ?_
    rintro e w5 ⟨rfl, hb5⟩
    go_wp2_with fail
    go_ret
    exact ⟨rfl, hB1.next hb5⟩
  · go_wp2_with fail
    refine (packAll hp1).mono ?_
    rintro e w2 ⟨v2, rfl, k1, k2, hb2⟩
    have hs2 := pack_bytes k1 k2
    have hI2 : ∀ j, w2.cell? ⟨w.heap.size, j, none⟩ = _ := fun j => (hb2.cell (p := ⟨_, j, none⟩) hlt).trans (hI j)
    have hp2 := hp1.next hb2
    have hB2 := hB1.next hb2
    clear hI hlt hp1 hB1 k1 k2 hb2
    go_wp2_with fail
    refine (refPackAll hp2).mono ?_
    rintro e w3 ⟨v3, rfl, k1, k2, hb3⟩
    have hs3 := pack_bytes k1 k2
    have hs2' := hs2.next hb3
    have hB3 := hB2.next hb3
    clear hI2 hp2 hB2 k1 k2 hb3 hs2
    go_wp2_with fail
    refine (bytes_any hs2' hs3 (by have := ifB_length p; omega)).mono ?_
    rintro e w4 ⟨rfl, q, rfl⟩
    rw [show decide ((if progE p = 0 then progB p else []) = (if progE p = 0 then progB p else [])) = true from by simp]
    go_wp2_with fail
    refine (awake_any _).mono ?_
    rintro e w5 ⟨rfl, hb5⟩
    go_wp2_with fail
    go_ret
    exact ⟨rfl, (below_drewN hB3 q).next hb5⟩
end P2
end Go.Proofs.YtjpnbjlhjlddbaaDoor
