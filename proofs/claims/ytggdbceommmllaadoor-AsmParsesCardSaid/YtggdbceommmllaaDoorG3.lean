/- Walks: code.Encode and the reference's Encode. -/
import Derived.Test.YtggdbceommmllaaDoorE02
namespace Go.Proofs.YtggdbceommmllaaDoor
open Go.RowKit
namespace P2

theorem _root_.Go.Proofs.YtggdbceommmllaaDoor.Sl.new (w : World) {size : Nat} {xs : List Value} (cs : Array Value) (t : TypeId) (n k : Nat) (hk : k = w.heap.size) (hs : cs.size = n * size) (hx : xs = cs.toList) :
    Sl (w.alloc (.cells cs t)) (w.alloc (.cells cs t)).heap.size size (.slice (some ⟨k, 0, none⟩) n n) xs := by subst hk; subst hx; exact Sl.lit w cs t n hs (by simp)
def u32 (n : Int) : Int := n % 4294967296
def encB (i : Ins) : List Int := [i.1, i.2.1, i.2.2.1, i.2.2.2.1, u32 i.2.2.2.2 / 16777216, u32 i.2.2.2.2 / 65536 % 256, u32 i.2.2.2.2 / 256 % 256, u32 i.2.2.2.2 % 256]

/-- What an instruction that may be has: bounds of its fields. -/
theorem kind_reg (op : Int) (h0 : 0 ≤ op) (h1 : op ≤ 16) (k : Nat) (hk : k < 3) : lo (kind op k) = 0 ∧ hi (kind op k) ≤ 7 ∧ 0 ≤ hi (kind op k) := by
  have h : op = 0 ∨ op = 1 ∨ op = 2 ∨ op = 3 ∨ op = 4 ∨ op = 5 ∨ op = 6 ∨ op = 7 ∨ op = 8 ∨ op = 9 ∨ op = 10 ∨ op = 11 ∨ op = 12 ∨ op = 13 ∨ op = 14 ∨ op = 15 ∨ op = 16 := by omega
  have hk' : k = 0 ∨ k = 1 ∨ k = 2 := by omega
  rcases h with h | h | h | h | h | h | h | h | h | h | h | h | h | h | h | h | h <;> subst h <;> rcases hk' with h | h | h <;> subst h <;> decide
theorem lo_ge (k : Int) : -2147483648 ≤ lo k := by unfold lo; split <;> omega
theorem hi_le (k : Int) : hi k ≤ 2147483647 := by unfold hi; repeat (split <;> try omega)
theorem ok_bounds {op a b c n : Int} (h : chk (op, a, b, c, n) = 0) : (0 ≤ op ∧ op ≤ 16) ∧ (0 ≤ a ∧ a ≤ 7) ∧ (0 ≤ b ∧ b ≤ 7) ∧ (0 ≤ c ∧ c ≤ 7) ∧ (-2147483648 ≤ n ∧ n ≤ 2147483647) := by
  unfold chk at h
  split at h
  · omega
  · rename_i ho
    split at h
    · rename_i hf
      simp only [opOk, Bool.not_eq_false, decide_eq_true_eq] at ho
      simp only [fits, inR, Bool.and_eq_true, decide_eq_true_eq] at hf
      have k0 := kind_reg op ho.1 ho.2 0 (by omega)
      have k1 := kind_reg op ho.1 ho.2 1 (by omega)
      have k2 := kind_reg op ho.1 ho.2 2 (by omega)
      have l3 := lo_ge (kind op 3)
      have h3 := hi_le (kind op 3)
      omega
    · omega

theorem encode_bad (i : Ins) (h : chk i ≠ 0) (w : World) : Calls Tryd.prog 60 #[insV i] w fun e w' => e = .returned (.tuple #[.slice none 0 0, .int .i64 (chk i)]) ∧ Below w.heap.size w w' := by
  have hd : (chk i == 0) = false := by simpa using h
  have hd2 : (chk i != 0) = true := by simpa using h
  obtain ⟨op, a, b, c, n⟩ := i
  unfold insV
  go_enter Tryd.func60, Tryd.ntmps60
  go_wp2_with fail
  refine (check_any (op, a, b, c, n) _).mono ?_
  rintro e w1 ⟨rfl, hb⟩
  have hB := hb.of_alloc
  go_wp2_with fail
  go_ret2
  exact ⟨rfl, hB⟩

theorem encode_new (i : Ins) (h : chk i = 0) (w : World) : Calls Tryd.prog 60 #[insV i] w fun e w' => ∃ g, e = .returned (.tuple #[.slice (some ⟨g, 0, none⟩) 8 8, .int .i64 0]) ∧ w.heap.size ≤ g ∧ Sl w' w'.heap.size 1 (.slice (some ⟨g, 0, none⟩) 8 8) (bv (encB i)) ∧ Below w.heap.size w w' := by
  obtain ⟨op, a, b, c, n⟩ := i
  obtain ⟨⟨h1, h2⟩, ⟨h3, h4⟩, ⟨h5, h6⟩, ⟨h7, h8⟩, ⟨h9, h10⟩⟩ := ok_bounds h
  have hC := check_any (op, a, b, c, n)
  rw [h] at hC
  have HC := Lib.hid hC
  clear hC h
  unfold insV
  go_enter Tryd.func60, Tryd.ntmps60
  go_wp2_with fail
  refine (HC.out _).mono ?_
  rintro e w1 ⟨rfl, hb⟩
  have hI := newest_cells hb (by simp)
  have hB := hb.of_alloc
  clear hb
  go_wp2_with fail
  go_ret2
  refine ⟨_, rfl, hB.size, Sl.new w1 _ _ 8 _ rfl rfl ?_, hB.alloc hB.size _⟩
  simp [bv, encB, u32]
theorem encode_ok (i : Ins) (h : chk i = 0) (w : World) : Calls Tryd.prog 60 #[insV i] w fun e w' => ∃ v, e = .returned (.tuple #[v, .int .i64 0]) ∧ Sl w' w'.heap.size 1 v (bv (encB i)) ∧ Below w.heap.size w w' :=
  (encode_new i h w).mono fun _ _ ⟨_, he, _, hs, hb⟩ => ⟨_, he, hs, hb⟩

end P2
end Go.Proofs.YtggdbceommmllaaDoor
