/- Script: Calm, and the law's pairs (a loop over Picks' iterator that stops). -/
import Derived.Test.YtkobmoabnnjejaaDoorS8
import Derived.Test.YtkobmoabnnjejaaDoorS14
import Derived.Test.YtkobmoabnnjejaaDoorS16
namespace Go.Proofs.YtkobmoabnnjejaaDoor
open Go.RowKit Go.Shelf
namespace P21
open PC

def calmT (l : List Ev) (k : Nat) : Prop := ∀ j, j < k → (at_ l j).k ≠ 1 ∧ (at_ l j).k ≠ 3
set_option maxHeartbeats 2000000 in
theorem calm_any {w : World} {v : Value} {l : List Ev} (h : Evs w v l) (hlen : l.length ≤ 100000) (b : Bool) (hb : b = true ↔ calmT l l.length) :
    Calls Tryd.prog 24 #[v] w fun e w' => e = .returned (.bool b) ∧ Below w.heap.size w w' := by
  obtain ⟨A, c, rfl, hnc, hA⟩ := evs_open h.sl
  have HA := Lib.hid hA
  obtain ⟨n, hn⟩ := name_of l.length
  have HN := Lib.hid hn
  rw [hn] at hnc hlen hb ⊢
  have HB := Lib.hid hb
  clear hn hA h hb
  go_enter Tryd.func24, Tryd.ntmps24
  go_wp2_with fail
  go_loopw [7] (fun i wr => ∃ k : Nat, k ≤ n ∧ i = .int .i64 k ∧ calmT l k ∧ Below w.heap.size w wr) (fun i _ => n - (intOf i).toNat)
  case atStart => exact ⟨0, Nat.zero_le _, rfl, fun j hj => by omega, Below.refl _ _⟩
  case round =>
    obtain ⟨k, hk, rfl, hcalm, hB⟩ := hrel
    have HC := Lib.hid hcalm
    clear hcalm
    by_cases hlt : k < n
    · obtain ⟨bl, off, rfl, hbl, q0, q1⟩ := HA.out k (by rw [HN.out]; exact hlt)
      obtain ⟨⟨ek, en⟩, he⟩ := name_of (at_ l k)
      rw [he] at q0 q1
      dsimp only at q0 q1
      have HE : Hid ((at_ l k).k = ek) := Lib.hid (by rw [he])
      have c0 := (hB.cell (p := ⟨bl, _, none⟩) hbl).trans q0
      have c1 := (hB.cell (p := ⟨bl, _, none⟩) hbl).trans q1
      clear q0 q1 he
      by_cases h1 : ek = 1
      · have e1 : (ek == 1) = true := by simpa using h1
        have HR : Hid (b = false) := Lib.hid (by
          cases b with
          | false => rfl
          | true => exact absurd (by rw [HE.out]; exact h1) (HB.out.1 rfl k hlt).1)
        clear h1
        go_wp2_with fail
        go_ret
        exact ⟨ret_bool HR.out.symm, hB.alloc hB.size _⟩
      · have e1 : (ek == 1) = false := by simpa using h1
        by_cases h3 : ek = 3
        · have e3 : (ek == 3) = true := by simpa using h3
          have HR : Hid (b = false) := Lib.hid (by
            cases b with
            | false => rfl
            | true => exact absurd (by rw [HE.out]; exact h3) (HB.out.1 rfl k hlt).2)
          clear h1 h3
          go_wp2_with fail
          go_ret
          exact ⟨ret_bool HR.out.symm, hB.alloc hB.size _⟩
        · have e3 : (ek == 3) = false := by simpa using h3
          have HK : Hid ((at_ l k).k ≠ 1 ∧ (at_ l k).k ≠ 3) := Lib.hid (by rw [HE.out]; exact ⟨h1, h3⟩)
          clear h1 h3
          go_wp2_with fail
          exact ⟨⟨k + 1, hlt, by go_num, fun j hj => by
            by_cases e : j = k
            · subst e; exact HK.out
            · exact HC.out j (by omega), hB.alloc hB.size _⟩, by simp [intOf]; omega⟩
    · obtain rfl : k = n := by omega
      have HR : Hid (b = true) := Lib.hid (HB.out.2 HC.out)
      go_wp2_with fail
      go_ret
      exact ⟨ret_bool HR.out.symm, hB⟩
end P21
end Go.Proofs.YtkobmoabnnjejaaDoor
