/- Walk: the reference's Pack. -/
import Derived.Test.YtggdbceommmllaaGreatDoorP3
import Derived.Test.YtggdbceommmllaaGreatDoorE02
namespace Go.Proofs.YtggdbceommmllaaGreatDoor
open Go.RowKit
namespace P2

theorem info_u8 : (Tryz.prog.info? 5).map (fun i => (i.zero, i.size, i.bytes)) = some (some (.int .u8 0), 1, 1) := by kernel_rfl

/-- What was gathered when k functions are done; when j instructions of the next one are, too. -/
def outB (p : List Fn) (k : Nat) : List Int := (p.length : Int) :: (p.take k).flatMap packB
def inB (p : List Fn) (k : Nat) (f : Fn) (j : Nat) : List Int := outB p k ++ (f.1 :: (f.2.length : Int) :: (f.2.take j).flatMap encB)
theorem packB_length {f : Fn} (h : packE f = 0) : (packB f).length ≤ 1026 ∧ 1 ≤ f.2.length ∧ f.2.length ≤ 128 ∧ 0 ≤ f.1 ∧ f.1 ≤ 255 := by
  unfold packE at h
  split at h
  · omega
  · split at h
    · omega
    · rename_i h1 h2
      simp only [packB, List.length_cons, encs_length]
      omega
theorem outs_length : ∀ {l : List Fn}, (∀ f ∈ l, packE f = 0) → (l.flatMap packB).length ≤ l.length * 1026
  | [], _ => by simp
  | f :: l, h => by
    have h1 := (packB_length (h f (by simp))).1
    have h2 := outs_length fun g hg => h g (List.mem_cons_of_mem f hg)
    rw [List.flatMap_cons, List.length_append, List.length_cons]
    omega
theorem outB_length {p : List Fn} {k : Nat} (h : ∀ f ∈ p.take k, packE f = 0) (hp : p.length ≤ 32) : (outB p k).length ≤ 33000 := by
  have := outs_length h
  have hk : (p.take k).length ≤ 32 := by rw [List.length_take]; omega
  simp only [outB, List.length_cons]
  omega
theorem inB_length {p : List Fn} {k : Nat} {f : Fn} {j : Nat} (h : ∀ f ∈ p.take k, packE f = 0) (hp : p.length ≤ 32) (hf : f.2.length ≤ 128) : (inB p k f j).length ≤ 35000 := by
  have := outB_length h hp
  have hj : (f.2.take j).length ≤ 128 := by rw [List.length_take]; omega
  simp only [inB, List.length_append, List.length_cons, encs_length]
  omega
theorem outB_succ {p : List Fn} {k : Nat} (hk : k < p.length) : outB p (k + 1) = inB p k p[k] p[k].2.length := by
  simp only [outB, inB, flatMap_take_succ packB hk, List.take_length, packB, List.cons_append]
theorem inB_succ {p : List Fn} {k : Nat} {f : Fn} {j : Nat} (hj : j < f.2.length) : inB p k f (j + 1) = inB p k f j ++ encB f.2[j] := by
  simp only [inB, flatMap_take_succ encB hj, List.append_assoc, List.cons_append]
theorem inB_zero (p : List Fn) (k : Nat) (f : Fn) : inB p k f 0 = outB p k ++ [f.1, (f.2.length : Int)] := by simp [inB]
theorem outB_all (p : List Fn) : outB p p.length = progB p := by simp [outB, progB]

theorem own_below {w w' : World} {base e size n : Nat} {v : Value} {xs : List Value} (h : w.ownsRow base e size v n xs) (hb : Below w.heap.size w w') : w'.ownsRow base e size v n xs :=
  h.kept (row := none) ⟨hb.os, hb.tape, hb.output, hb.size, fun k hk _ => hb.block k hk⟩ (by
    rcases h.2 with ⟨rfl, _⟩ | ⟨g, cap, cur, rfl, _⟩
    · exact .inl rfl
    · right; simp [Value.ownBlock])
theorem own_len {w : World} {base e size n m : Nat} {v : Value} {xs ys : List Value} (h : w.ownsRow base e size v n xs) (hn : n = m) (hx : xs = ys) : w.ownsRow base e size v m ys := by subst hn; subst hx; exact h

def RefPost (p : List Fn) (w : World) (e : Ending) (w' : World) : Prop :=
  (∃ v, e = .returned (.tuple #[v, .int .i64 (firstE p)]) ∧ (firstE p = 0 → Sl w' w'.heap.size 1 v (bv (progB p))) ∧ (firstE p ≠ 0 → v = .slice none 0 0)) ∧ Below w.heap.size w w'

end P2
end Go.Proofs.YtggdbceommmllaaGreatDoor
