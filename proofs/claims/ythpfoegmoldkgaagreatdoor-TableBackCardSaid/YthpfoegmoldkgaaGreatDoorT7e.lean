/- Walks: ints, Kids (both). -/
import Derived.Test.YthpfoegmoldkgaaGreatDoorT7n
import Derived.Test.YthpfoegmoldkgaaGreatDoorT7c
namespace Go.Proofs.YthpfoegmoldkgaaGreatDoor
open Go.RowKit
namespace P7

/-! ### Kids, plain -/
def kidsTo (l : List Row) (i : Int) (n : Nat) : List Nat := (List.range n).filter fun k => decide ((at_ l k).p = i)
def kids (l : List Row) (i : Int) : List Nat := kidsTo l i l.length
theorem kidsTo_succ (l : List Row) (i : Int) (n : Nat) : kidsTo l i (n + 1) = kidsTo l i n ++ if (at_ l n).p = i then [n] else [] := by
  unfold kidsTo
  rw [List.range_succ, List.filter_append]
  by_cases h : (at_ l n).p = i <;> simp [h]
theorem kidsTo_len (l : List Row) (i : Int) (n : Nat) : (kidsTo l i n).length ≤ n := by
  have := List.length_filter_le (fun k => decide ((at_ l k).p = i)) (List.range n)
  simpa [kidsTo] using this

def KidR (w : World) (l : List Row) (i : Int) (n : Nat) (v idx : Value) (wr : World) : Prop :=
  ∃ k : Nat, k ≤ n ∧ idx = .int .i64 k ∧ wr.ownsRow w.heap.size 3 1 v (kidsTo l i k).length (iv (kidsTo l i k)) ∧ Below w.heap.size w wr
def KidPost (w : World) (l : List Row) (i : Int) (e : Ending) (w' : World) : Prop := (∃ A c, e = .returned (.slice A (kids l i).length c) ∧ Sl w' w'.heap.size 1 (.slice A (kids l i).length c) (iv (kids l i))) ∧ Below w.heap.size w w'
theorem kid_post {w wr : World} {l : List Row} {i : Int} {n : Nat} {v : Value} (hn : l.length = n) (hown : wr.ownsRow w.heap.size 3 1 v (kidsTo l i n).length (iv (kidsTo l i n))) (hB : Below w.heap.size w wr) : KidPost w l i (.returned v) wr := by
  subst hn
  have hs := Sl.own hown
  obtain ⟨A, m, c, rfl, h1, h2, h3⟩ := hs
  simp only [iv_length, Nat.mul_one] at h2
  refine ⟨⟨A, c, by rw [kids, h2], ?_⟩, hB⟩
  rw [kids, h2]
  exact ⟨A, m, c, rfl, h1, by simp [h2], h3⟩

set_option maxHeartbeats 1000000 in
theorem kids_any {w : World} {v : Value} {l : List Row} (h : Sl w w.heap.size 7 v (rowsC l)) (hlen : l.length ≤ 1000) (i : Int) : Calls Tryz.prog 38 #[v, .int .i64 i] w (KidPost w l i) := by
  obtain ⟨A, c, rfl, hc, hr⟩ := rows_open h
  obtain ⟨n, hn⟩ := name_of l.length
  have HN := Lib.hid hn
  have HR := Lib.hid hr
  rw [hn] at hc hlen ⊢
  clear hn hr h
  go_enter Tryz.func38, Tryz.ntmps38
  go_wp2_with fail
  go_loopw [5, 10] (fun v idx wr => KidR w l i n v idx wr) (fun _ idx _ => n - (intOf idx).toNat)
  case atStart => exact ⟨0, Nat.zero_le _, rfl, World.ownsRow_nil _ _ _ _, Below.refl _ _⟩
  case round =>
    obtain ⟨k, hk, rfl, hown, hB⟩ := hrel
    by_cases hlt : k < n
    · obtain ⟨b, off, rfl, hb, h0, h1, h2, h3, h4, h5, h6⟩ := HR.out k (by have := HN.out; omega)
      have hkl := kidsTo_len l i k
      obtain ⟨⟨rp, ri, rf, rk, rv, rs, rc⟩, hr⟩ := name_of (at_ l k)
      rw [hr] at h0 h1 h2 h3 h4 h5 h6
      dsimp only at h0 h1 h2 h3 h4 h5 h6
      have hbl := fun j => hB.cell (p := ⟨b, j, none⟩) hb
      have c0 := (hbl _).trans h0
      have c1 := (hbl _).trans h1
      have c2 := (hbl _).trans h2
      have c3 := (hbl _).trans h3
      have c4 := (hbl _).trans h4
      have c5 := (hbl _).trans h5
      have c6 := (hbl _).trans h6
      have hsu := kidsTo_succ l i k
      rw [hr] at hsu
      dsimp only at hsu
      have HSU := Lib.hid hsu
      clear h0 h1 h2 h3 h4 h5 h6 hbl hr hsu
      have hB1 : Below w.heap.size w (wr.alloc (.cells #[.int .i64 rp, .int .i64 ri, .int .i64 rf, .int .i64 rk, .int .i64 rv, .int .i64 rs, .string rc] 34)) := hB.alloc hB.size _
      have hown1 := hown.alloc (.cells #[.int .i64 rp, .int .i64 ri, .int .i64 rf, .int .i64 rk, .int .i64 rv, .int .i64 rs, .string rc] 34)
      by_cases hp : rp = i
      · have e0 : (rp == i) = true := by simpa using hp
        have HP := Lib.hid hp
        clear hp
        have hs2 : Sl ((wr.alloc (.cells #[.int .i64 rp, .int .i64 ri, .int .i64 rf, .int .i64 rk, .int .i64 rv, .int .i64 rs, .string rc] 34)).alloc (.cells #[.int .i64 k] 3)) ((wr.alloc (.cells #[.int .i64 rp, .int .i64 ri, .int .i64 rf, .int .i64 rk, .int .i64 rv, .int .i64 rs, .string rc] 34)).alloc (.cells #[.int .i64 k] 3)).heap.size 1 (.slice (some ⟨wr.heap.size + 1, 0, none⟩) 1 1) (iv [k]) := Sl.new (wr.alloc _) _ _ 1 _ (by simp) rfl rfl
        have hB2 := hB1.alloc hB1.size (.cells #[.int .i64 k] 3)
        have hown2 := hown1.alloc (.cells #[.int .i64 k] 3)
        clear hB1 hown1 hown hB
        go_wp2_with (at_builtin; refine wpList_append_sl rfl (.tmp 19) (.tmp 21) 73 rfl w.heap.size 3 (.int .i64 0) 1 8 Tryz.underlying73 info_int rfl (by omega) _ _ _ rfl hown2 _ 1 _ _ rfl hs2 rfl (iv_one _) (by omega) (by omega) hB2.size ?_; intro v6 w6 hown6 hg6 hat6; have hB6 := below_append hB2 hown2 hg6 (Nat.le_refl _); obtain ⟨A6, m6, c6, rfl⟩ := own_slice hown6; clear hown2 hs2 hg6 hat6 hB2)
        refine ⟨⟨k + 1, hlt, by go_num, ?_, hB6⟩, by simp [intOf]; omega⟩
        rw [HSU.out, if_pos HP.out, iv_append]
        exact own_len hown6 (by simp) rfl
      · have e0 : (rp == i) = false := by simpa using hp
        have HP := Lib.hid hp
        clear hp
        go_wp2_with fail
        refine ⟨⟨k + 1, hlt, by go_num, ?_, hB1⟩, by simp [intOf]; omega⟩
        rw [HSU.out, if_neg HP.out, List.append_nil]
        exact hown1
    · have : k = n := by omega
      subst this
      obtain ⟨A6, m6, c6, rfl⟩ := own_slice hown
      go_wp2_with fail
      go_ret
      exact kid_post HN.out hown hB

theorem take_ext {α : Type} {l m : List α} {k : Nat} (hl : k < l.length) (hm : k < m.length) (h : l.take k = m.take k) (he : l[k] = m[k]) : l.take (k + 1) = m.take (k + 1) := by
  rw [List.take_succ_eq_append_getElem hl, List.take_succ_eq_append_getElem hm, h, he]

end P7
end Go.Proofs.YthpfoegmoldkgaaGreatDoor
