/- Audit: New, Seen, ints. -/
import Derived.Test.YtajbchecjbddgaaDoorVe
namespace Go.Proofs.YtajbchecjbddgaaDoor
open Go.RowKit
namespace P20
open P7

/-- The block of an Audit: its last shot's three slices, how many it has seen, the error it stands on. -/
def auC (vr vs vw : Value) (n e : Int) : Array Value := #[vr, vs, vw, .int .i64 n, .int .i64 e]
theorem new_any {w : World} :
    Calls Tryd.prog 20 #[] w fun e w' => e = .returned (.pointer (some ⟨w.heap.size, 0, none⟩)) ∧ w' = w.alloc (.cells (auC (.slice none 0 0) (.slice none 0 0) (.slice none 0 0) 0 0) 83) := by
  go_enter Tryd.func20, Tryd.ntmps20
  go_wp2_with fail
  go_ret
  exact ⟨rfl, rfl⟩
theorem seenNil_any {w : World} :
    Calls Tryd.prog 24 #[.pointer none] w fun e w' => e = .returned (.tuple #[.int .i64 0, .int .i64 2]) ∧ w' = w := by
  go_enter Tryd.func24, Tryd.ntmps24
  go_wp2_with fail
  go_ret2
  exact ⟨rfl, rfl⟩
theorem seen_any {w : World} {g : Nat} {vr vs vw : Value} {n x : Int} (h : w.heap[g]? = some (.cells (auC vr vs vw n x) 83 (0, 0))) :
    Calls Tryd.prog 24 #[.pointer (some ⟨g, 0, none⟩)] w fun e w' => e = .returned (.tuple #[.int .i64 n, .int .i64 x]) ∧ Below w.heap.size w w' := by
  have q3 : w.cell? ⟨g, 3, none⟩ = some (.int .i64 n) := (cell_of_row _ _ _ _ _ _ h).trans rfl
  have q4 : w.cell? ⟨g, 4, none⟩ = some (.int .i64 x) := (cell_of_row _ _ _ _ _ _ h).trans rfl
  clear h
  go_enter Tryd.func24, Tryd.ntmps24
  go_wp2_with fail
  go_quiet (fail)
  go_wp2_with fail
  go_ret2
  exact ⟨rfl, below_drewN _⟩
theorem seeNil_any {w : World} {vr vs vw : Value} :
    Calls Tryd.prog 22 #[.pointer none, .agg #[vr, vs, vw]] w fun e w' => e = .returned (.int .i64 2) ∧ Below w.heap.size w w' := by
  go_enter Tryd.func22, Tryd.ntmps22
  go_wp2_with fail
  go_ret
  exact ⟨rfl, by go_grown⟩
/-- The same numbers. -/
theorem ints_any {w : World} {v u : Value} {l : List Int} (h : Sl w w.heap.size 1 v (iv l)) (h2 : Sl w w.heap.size 1 u (iv l)) (hl : l.length ≤ 1000) :
    Calls Tryd.prog 46 #[v, u] w fun e w' => e = .returned (.bool true) ∧ Below w.heap.size w w' := by
  obtain ⟨A, c, rfl, -, hA⟩ := ints_open h
  obtain ⟨D, d, rfl, -, hD⟩ := ints_open h2
  have HA := Lib.hid hA
  have HD := Lib.hid hD
  obtain ⟨n, hn⟩ := name_of l.length
  rw [hn] at hl ⊢
  have HN := Lib.hid hn
  clear h h2 hA hD hn
  go_enter Tryd.func46, Tryd.ntmps46
  go_wp2_with fail
  go_loopw [5] (fun x wr => ∃ i : Nat, i ≤ n ∧ x = .int .i64 i ∧ Below w.heap.size w wr) (fun x _ => n - (intOf x).toNat)
  case atStart => exact ⟨0, Nat.zero_le _, rfl, by go_grown⟩
  case round =>
    obtain ⟨i, hi, rfl, hB⟩ := hrel
    by_cases hlt : i < n
    · obtain ⟨b, off, rfl, hb, c0⟩ := HA.out i (by rw [HN.out]; exact hlt)
      obtain ⟨b', off', rfl, hb', c0'⟩ := HD.out i (by rw [HN.out]; exact hlt)
      have e0 := (hB.cell (p := ⟨b, _, none⟩) hb).trans c0
      have e1 := (hB.cell (p := ⟨b', _, none⟩) hb').trans c0'
      obtain ⟨x, hx⟩ := name_of (l.getD i 0)
      rw [hx] at e0 e1
      clear c0 c0' hx hb hb'
      go_wp2_with fail
      go_quiet (fail)
      go_wp2_with fail
      exact ⟨⟨i + 1, by omega, by go_num, hB.next (below_drewN _)⟩, by simp [intOf]; omega⟩
    · go_wp2_with fail
      go_ret
      exact ⟨rfl, hB⟩
end P20
end Go.Proofs.YtajbchecjbddgaaDoor
