/- Merged: T7b T7c T7n T7e. -/
import Derived.Test.YtajbchecjbddgaaGreatDoorT7a
import Derived.Test.YtajbchecjbddgaaGreatDoorH1
import Derived.OneCell
/- Rows of a table in memory. -/
namespace Go.Proofs.YtajbchecjbddgaaGreatDoor
open Go.RowKit
namespace P7

theorem name_of {α : Type} (a : α) : ∃ x, a = x := ⟨a, rfl⟩
theorem blk_next {w w' : World} {g : Nat} {o : Obj} (h : w.heap[g]? = some o) (hb : Below w.heap.size w w') : w'.heap[g]? = some o := (hb.block _ (lt_of_block h)).trans h

def rowC (r : Row) : List Value := [.int .i64 r.p, .int .i64 r.i, .int .i64 r.f, .int .i64 r.k, .int .i64 r.v, .int .i64 r.s, .string r.c]
def rowV (r : Row) : Value := .agg #[.int .i64 r.p, .int .i64 r.i, .int .i64 r.f, .int .i64 r.k, .int .i64 r.v, .int .i64 r.s, .string r.c]
def rowsC (l : List Row) : List Value := l.flatMap rowC
theorem rowC_length (r : Row) : (rowC r).length = 7 := rfl
theorem rowsC_length (l : List Row) : (rowsC l).length = l.length * 7 := flat_length rowC 7 rowC_length l
theorem rowsC_one (l : List Row) : ∀ u ∈ rowsC l, u.oneCell' = true := by
  intro u hu
  obtain ⟨r, _, hr⟩ := List.mem_flatMap.1 hu
  simp only [rowC, List.mem_cons, List.not_mem_nil, or_false] at hr
  rcases hr with h | h | h | h | h | h | h <;> subst h <;> rfl
/-- A row's seven cells. -/
def RowAt (w : World) (b o : Nat) (r : Row) : Prop :=
  w.cell? ⟨b, o, none⟩ = some (.int .i64 r.p) ∧ w.cell? ⟨b, o + 1, none⟩ = some (.int .i64 r.i) ∧ w.cell? ⟨b, o + 2, none⟩ = some (.int .i64 r.f) ∧ w.cell? ⟨b, o + 3, none⟩ = some (.int .i64 r.k) ∧
  w.cell? ⟨b, o + 4, none⟩ = some (.int .i64 r.v) ∧ w.cell? ⟨b, o + 5, none⟩ = some (.int .i64 r.s) ∧ w.cell? ⟨b, o + 6, none⟩ = some (.string r.c)
section
variable {w w' : World} {B : Nat} {v : Value} {l : List Row}
theorem RowAt.keep {b o : Nat} {r : Row} (h : RowAt w b o r) (hk : ∀ j, w'.cell? ⟨b, j, none⟩ = w.cell? ⟨b, j, none⟩) : RowAt w' b o r := by
  obtain ⟨h0, h1, h2, h3, h4, h5, h6⟩ := h
  exact ⟨(hk _).trans h0, (hk _).trans h1, (hk _).trans h2, (hk _).trans h3, (hk _).trans h4, (hk _).trans h5, (hk _).trans h6⟩
theorem RowAt.below {b o : Nat} {r : Row} (h : RowAt w b o r) (hb : Below B w w') (hlt : b < B) : RowAt w' b o r := h.keep fun j => hb.cell (p := ⟨b, j, none⟩) hlt
theorem rows_open (h : Sl w B 7 v (rowsC l)) : ∃ A c, v = .slice A l.length c ∧ l.length ≤ c ∧ ∀ k, k < l.length → ∃ b off, A = some ⟨b, off, none⟩ ∧ b < B ∧ RowAt w b (off + k * 7) (at_ l k) := by
  obtain ⟨A, n, c, rfl, hnc, hn, hA⟩ := h
  rw [rowsC_length] at hn
  have hnl : n = l.length := by omega
  subst hnl
  refine ⟨A, c, rfl, hnc, fun k hk => ?_⟩
  obtain ⟨b, off, rfl, hb, hr⟩ := hA (by omega)
  have hg : ∀ j, j < 7 → (rowsC l)[k * 7 + j]? = (rowC (at_ l k))[j]? := fun j hj => by
    rw [rowsC, flat_get rowC 7 rowC_length l k j hj, List.getElem?_eq_getElem hk, at_eq hk]; rfl
  have hc : ∀ j u, j < 7 → (rowC (at_ l k))[j]? = some u → w.cell? ⟨b, off + k * 7 + j, none⟩ = some u := fun j u hj hu => by
    rw [Nat.add_assoc]; exact hr (k * 7 + j) u ((hg j hj).trans hu)
  exact ⟨b, off, rfl, hb, hc 0 _ (by omega) rfl, hc 1 _ (by omega) rfl, hc 2 _ (by omega) rfl, hc 3 _ (by omega) rfl, hc 4 _ (by omega) rfl, hc 5 _ (by omega) rfl, hc 6 _ (by omega) rfl⟩
/-- What is known of a row that came in. -/
structure RowWf (r : Row) : Prop where
  p : -9223372036854775808 ≤ r.p ∧ r.p ≤ 9223372036854775807
  i : -9223372036854775808 ≤ r.i ∧ r.i ≤ 9223372036854775807
  f : -9223372036854775808 ≤ r.f ∧ r.f ≤ 9223372036854775807
  k : -9223372036854775808 ≤ r.k ∧ r.k ≤ 9223372036854775807
  v : -9223372036854775808 ≤ r.v ∧ r.v ≤ 9223372036854775807
  s : -9223372036854775808 ≤ r.s ∧ r.s ≤ 9223372036854775807
  c : r.c.size ≤ 9223372036854775807
/-- A slice of rows in memory. -/
structure Rws (w : World) (v : Value) (l : List Row) : Prop where
  sl : Sl w w.heap.size 7 v (rowsC l)
  len : l.length ≤ 9223372036854775807
  wf : ∀ r ∈ l, RowWf r
theorem Rws.next (h : Rws w v l) (hb : Below w.heap.size w w') : Rws w' v l := ⟨h.sl.next hb, h.len, h.wf⟩
theorem Rws.wfAt (h : Rws w v l) {k : Nat} (hk : k < l.length) : RowWf (at_ l k) := by rw [at_eq hk]; exact h.wf _ (List.getElem_mem hk)
end
end P7
end Go.Proofs.YtajbchecjbddgaaGreatDoor

/- Walks: Few, Within (both), binary. -/
namespace Go.Proofs.YtajbchecjbddgaaGreatDoor
open Go.RowKit
namespace P7

def Small (l : List Row) : Prop := l.length ≤ 60 ∧ ∀ k, k < l.length → (at_ l k).c.size ≤ 100
def FewPost (l : List Row) (w : World) (e : Ending) (w' : World) : Prop := (∃ b : Bool, e = .returned (.bool b) ∧ (b = true → Small l)) ∧ w' = w

set_option maxHeartbeats 1000000 in
theorem few_any {w : World} {v : Value} {l : List Row} (h : Rws w v l) : Calls Tryz.prog 9 #[v] w (FewPost l w) := by
  obtain ⟨A, c, rfl, hc, hr⟩ := rows_open h.sl
  have hlen := h.len
  obtain ⟨n, hn⟩ := name_of l.length
  have HN := Lib.hid hn
  have HR := Lib.hid hr
  have HWF := Lib.hid (fun k hk => (h.wfAt (k := k) hk).c)
  rw [hn] at hc hlen ⊢
  clear hn hr h
  go_enter Tryz.func9, Tryz.ntmps9
  go_wp2_with fail
  go_loop [3] (fun i => ∃ k : Nat, k ≤ n ∧ i = .int .i64 k ∧ k ≤ 61 ∧ ∀ j, j < k → (at_ l j).c.size ≤ 100) (fun i => n - (intOf i).toNat)
  case atStart => exact ⟨0, Nat.zero_le _, rfl, by omega, fun j hj => by omega⟩
  case round =>
    obtain ⟨k, hk, rfl, hk61, hall⟩ := hrel
    have HALL := Lib.hid hall
    clear hall
    by_cases hlt : k < n
    · by_cases h61 : k < 61
      · obtain ⟨b, off, rfl, hb, h0, h1, h2, h3, h4, h5, h6⟩ := HR.out k (by have := HN.out; omega)
        obtain ⟨s, hs⟩ := name_of (at_ l k).c
        have hcs := HWF.out k (by have := HN.out; omega)
        rw [hs] at h6 hcs
        have HS := Lib.hid hs
        clear h0 h1 h2 h3 h4 h5 hs
        by_cases h100 : 100 < s.size
        · go_wp2_with fail
          go_ret
          exact ⟨⟨_, rfl, by simp⟩, rfl⟩
        · go_wp2_with fail
          go_round
          case rel =>
            refine ⟨k + 1, hlt, by go_num, by omega, fun j hj => ?_⟩
            by_cases e : j = k
            · subst e; rw [HS.out]; omega
            · exact HALL.out j (by omega)
          case measure => simp [intOf]; omega
      · go_wp2_with fail
        go_ret
        exact ⟨⟨_, rfl, fun hb => by have := of_decide_eq_true hb; omega⟩, rfl⟩
    · have : k = n := by omega
      subst this
      go_wp2_with fail
      go_ret
      refine ⟨⟨_, rfl, fun hb => ?_⟩, rfl⟩
      have := of_decide_eq_true hb
      exact ⟨by have := HN.out; omega, fun j hj => HALL.out j (by have := HN.out; omega)⟩

theorem wi_out {l : List Row} {of i : Int} (h : ¬ (0 ≤ i ∧ i < l.length)) : ∀ n, wi l of n i = false
  | 0 => rfl
  | n + 1 => by rw [wi, if_neg h]

set_option maxHeartbeats 1000000 in
theorem refWithin_any {w : World} {B : Nat} {v : Value} {l : List Row} (h : Sl w B 7 v (rowsC l)) (hlen : l.length ≤ 1000) (i of : Int) :
    Calls Tryz.prog 82 #[v, .int .i64 i, .int .i64 of] w fun e w' => e = .returned (.bool (wi l of (l.length + 1) i)) ∧ w' = w := by
  obtain ⟨A, c, rfl, hc, hr⟩ := rows_open h
  obtain ⟨n, hn⟩ := name_of l.length
  have HN := Lib.hid hn
  have HR := Lib.hid hr
  rw [hn] at hc hlen ⊢
  clear hn hr h
  go_enter Tryz.func82, Tryz.ntmps82
  go_wp2_with fail
  go_loop [1, 7] (fun x m => ∃ (k : Nat) (j : Int), k ≤ n + 1 ∧ x = .int .i64 j ∧ m = .int .i64 k ∧ wi l of (n + 1) i = wi l of (n + 1 - k) j) (fun _ m => n + 1 - (intOf m).toNat)
  case atStart => exact ⟨0, i, by omega, rfl, rfl, rfl⟩
  case round =>
    obtain ⟨k, j, hk, rfl, rfl, hw⟩ := hrel
    have HW := Lib.hid hw
    clear hw
    by_cases hkn : k ≤ n
    · obtain ⟨q, hq⟩ : ∃ q, n + 1 - k = q + 1 := ⟨n - k, by omega⟩
      have HQ := Lib.hid hq
      clear hq
      by_cases hj0 : 0 ≤ j
      · obtain ⟨m, rfl⟩ := Int.eq_ofNat_of_zero_le hj0
        by_cases hmn : m < n
        · obtain ⟨b, off, rfl, hb, h0, -⟩ := HR.out m (by have := HN.out; omega)
          obtain ⟨p, hp⟩ := name_of (at_ l m).p
          rw [hp] at h0
          have HP := Lib.hid hp
          clear hp
          have hstep : wi l of (q + 1) m = if (m : Int) = of then true else wi l of q p := by
            rw [wi, if_pos ⟨by omega, by have := HN.out; omega⟩, Int.toNat_natCast, HP.out]
          have HST := Lib.hid hstep
          clear hstep
          by_cases hof : (m : Int) = of
          · have hof' : ((m : Int) == of) = true := by simpa using hof
            have HOF := Lib.hid hof
            clear hof
            go_wp2_with fail
            go_ret
            exact ⟨ret_bool (by rw [HW.out, HQ.out, HST.out, if_pos HOF.out]), rfl⟩
          · have hof' : ((m : Int) == of) = false := by simpa using hof
            have HOF := Lib.hid hof
            clear hof
            go_wp2_with fail
            go_round
            case rel =>
              refine ⟨k + 1, p, by omega, rfl, by go_num, ?_⟩
              rw [HW.out, HQ.out, HST.out, if_neg HOF.out]
              have := HQ.out
              rw [show n + 1 - (k + 1) = q by omega]
            case measure => simp [intOf]; omega
        · go_wp2_with fail
          go_ret
          exact ⟨ret_bool (by rw [HW.out]; exact (wi_out (by have := HN.out; omega) _).symm), rfl⟩
      · go_wp2_with fail
        go_ret
        exact ⟨ret_bool (by rw [HW.out]; exact (wi_out (by omega) _).symm), rfl⟩
    · have : k = n + 1 := by omega
      subst this
      go_wp2_with fail
      go_ret
      exact ⟨ret_bool (by rw [HW.out, Nat.sub_self]; rfl), rfl⟩

set_option maxHeartbeats 1000000 in
theorem within_any {w : World} {B : Nat} {v : Value} {l : List Row} (h : Sl w B 7 v (rowsC l)) (hlen : l.length ≤ 1000) (i of : Int) :
    Calls Tryz.prog 85 #[v, .int .i64 i, .int .i64 of] w fun e w' => e = .returned (.bool (wi l of l.length i)) ∧ w' = w := by
  obtain ⟨A, c, rfl, hc, hr⟩ := rows_open h
  obtain ⟨n, hn⟩ := name_of l.length
  have HN := Lib.hid hn
  have HR := Lib.hid hr
  rw [hn] at hc hlen ⊢
  clear hn hr h
  go_enter Tryz.func85, Tryz.ntmps85
  go_wp2_with fail
  go_loop [1, 9] (fun x m => ∃ (k : Nat) (j : Int), k ≤ n ∧ x = .int .i64 j ∧ m = .int .i64 k ∧ wi l of n i = wi l of (n - k) j) (fun _ m => n - (intOf m).toNat)
  case atStart => exact ⟨0, i, by omega, rfl, rfl, rfl⟩
  case round =>
    obtain ⟨k, j, hk, rfl, rfl, hw⟩ := hrel
    have HW := Lib.hid hw
    clear hw
    by_cases hkn : k < n
    · obtain ⟨q, hq⟩ : ∃ q, n - k = q + 1 := ⟨n - k - 1, by omega⟩
      have HQ := Lib.hid hq
      clear hq
      by_cases hj0 : 0 ≤ j
      · obtain ⟨m, rfl⟩ := Int.eq_ofNat_of_zero_le hj0
        by_cases hmn : m < n
        · obtain ⟨b, off, rfl, hb, h0, -⟩ := HR.out m (by have := HN.out; omega)
          obtain ⟨p, hp⟩ := name_of (at_ l m).p
          rw [hp] at h0
          have HP := Lib.hid hp
          clear hp
          have hstep : wi l of (q + 1) m = if (m : Int) = of then true else wi l of q p := by
            rw [wi, if_pos ⟨by omega, by have := HN.out; omega⟩, Int.toNat_natCast, HP.out]
          have HST := Lib.hid hstep
          clear hstep
          by_cases hof : (m : Int) = of
          · have hof' : ((m : Int) == of) = true := by simpa using hof
            have HOF := Lib.hid hof
            clear hof
            go_wp2_with fail
            go_ret
            exact ⟨ret_bool (by rw [HW.out, HQ.out, HST.out, if_pos HOF.out]), rfl⟩
          · have hof' : ((m : Int) == of) = false := by simpa using hof
            have HOF := Lib.hid hof
            clear hof
            go_wp2_with fail
            go_round
            case rel =>
              refine ⟨k + 1, p, by omega, rfl, by go_num, ?_⟩
              rw [HW.out, HQ.out, HST.out, if_neg HOF.out]
              have := HQ.out
              rw [show n - (k + 1) = q by omega]
            case measure => simp [intOf]; omega
        · go_wp2_with fail
          go_ret
          exact ⟨ret_bool (by rw [HW.out]; exact (wi_out (by have := HN.out; omega) _).symm), rfl⟩
      · go_wp2_with fail
        go_ret
        exact ⟨ret_bool (by rw [HW.out]; exact (wi_out (by omega) _).symm), rfl⟩
    · have : k = n := by omega
      subst this
      go_wp2_with fail
      go_ret
      exact ⟨ret_bool (by rw [HW.out, Nat.sub_self]; rfl), rfl⟩
end P7
end Go.Proofs.YtajbchecjbddgaaGreatDoor

/- Words for memory: rows of the call's own. -/
namespace Go.Proofs.YtajbchecjbddgaaGreatDoor
open Go.RowKit

namespace P7
theorem own_below {w w' : World} {base e size n : Nat} {v : Value} {xs : List Value} (h : w.ownsRow base e size v n xs) (hb : Below w.heap.size w w') : w'.ownsRow base e size v n xs :=
  h.kept (row := none) ⟨hb.os, hb.tape, hb.output, hb.size, fun k hk _ => hb.block k hk⟩ (by
    rcases h.2 with ⟨rfl, _⟩ | ⟨g, cap, cur, rfl, _⟩
    · exact .inl rfl
    · right; simp [Value.ownBlock])
theorem own_len {w : World} {base e size n m : Nat} {v : Value} {xs ys : List Value} (h : w.ownsRow base e size v n xs) (hn : n = m) (hx : xs = ys) : w.ownsRow base e size v m ys := by subst hn; subst hx; exact h

theorem grown_of_below {w w' : World} (hb : Below w.heap.size w w') : w.grownBy w' none := ⟨hb.os, hb.tape, hb.output, hb.size, fun k hk _ => hb.block k hk⟩
theorem own_slice {w : World} {base e size n : Nat} {v : Value} {xs : List Value} (h : w.ownsRow base e size v n xs) : ∃ A m c, v = .slice A m c := by
  rcases h.2 with ⟨rfl, _⟩ | ⟨g, cap, cur, rfl, _⟩ <;> exact ⟨_, _, _, rfl⟩
theorem own_one {w : World} {base e size n : Nat} {v : Value} {xs : List Value} (h : w.ownsRow base e size v n xs) : v.oneCell' = true := by
  rcases h.2 with ⟨rfl, _⟩ | ⟨g, cap, cur, rfl, _⟩ <;> rfl
theorem own_mono {w : World} {base B e size n : Nat} {v : Value} {xs : List Value} (h : w.ownsRow base e size v n xs) (hb : B ≤ base) : w.ownsRow B e size v n xs :=
  ⟨h.1, h.2.imp id fun ⟨g, cap, cur, a, b, c⟩ => ⟨g, cap, cur, a, Nat.le_trans hb b, c⟩⟩
theorem own_kept {w w' : World} {B e size n : Nat} {x : Value} {xs : List Value} {row : Option Nat} (h : w.ownsRow B e size x n xs) (hg : w.grownBy w' row) (hr : ∀ g, row = some g → ∃ cs t fr, w.heap[g]? = some (.cells cs t fr) ∧ e ≠ t) : w'.ownsRow B e size x n xs := by
  refine h.kept hg ?_
  rcases row with _ | g
  · cases hx : x.ownBlock
    · exact .inl rfl
    · exact .inr (by simp)
  · obtain ⟨cs, t, fr, hh, hne⟩ := hr g rfl
    exact .inr fun e => own_ne h hh hne e.symm

/-- Rows of numbers. -/
def iv (l : List Nat) : List Value := l.map fun k => Value.int .i64 (k : Nat)
@[simp] theorem iv_length (l : List Nat) : (iv l).length = l.length := by simp [iv]
theorem iv_append (l m : List Nat) : iv (l ++ m) = iv l ++ iv m := by simp [iv]
theorem iv_one (l : List Nat) : ∀ u ∈ iv l, u.oneCell' = true := by
  intro u hu
  obtain ⟨x, _, rfl⟩ := List.mem_map.1 hu
  rfl
theorem range_iv {w : World} {b off : Nat} {l : List Nat} (h : w.rangeAt b off (iv l)) (j : Nat) (hj : j < l.length) : w.cell? ⟨b, off + j, none⟩ = some (.int .i64 (l.getD j 0 : Nat)) := by
  refine h j _ ?_
  simp [iv, List.getD_eq_getElem?_getD, List.getElem?_eq_getElem hj]
theorem info_int : (Tryz.prog.info? 3).map (fun i => (i.zero, i.size, i.bytes)) = some (some (.int .i64 0), 1, 8) := by kernel_rfl
end P7
end Go.Proofs.YtajbchecjbddgaaGreatDoor

/- Walks: ints, Kids (both). -/
namespace Go.Proofs.YtajbchecjbddgaaGreatDoor
open Go.RowKit
namespace P7

/-! ### Kids, plain -/
def kidsTo (l : List Row) (i : Int) (n : Nat) : List Nat := (List.range n).filter fun k => decide ((at_ l k).p = i)
def kids (l : List Row) (i : Int) : List Nat := kidsTo l i l.length
theorem kidsTo_succ (l : List Row) (i : Int) (n : Nat) : kidsTo l i (n + 1) = kidsTo l i n ++ if (at_ l n).p = i then [n] else [] := by
  unfold kidsTo
  rw [List.range_succ, List.filter_append]
  by_cases h : (at_ l n).p = i <;> simp [h]
theorem kidsTo_len (l : List Row) (i : Int) (n : Nat) : (kidsTo l i n).length ≤ n := by
  have := List.length_filter_le (fun k => decide ((at_ l k).p = i)) (List.range n)
  simpa [kidsTo] using this

def KidR (w : World) (l : List Row) (i : Int) (n : Nat) (v idx : Value) (wr : World) : Prop :=
  ∃ k : Nat, k ≤ n ∧ idx = .int .i64 k ∧ wr.ownsRow w.heap.size 3 1 v (kidsTo l i k).length (iv (kidsTo l i k)) ∧ Below w.heap.size w wr
def KidPost (w : World) (l : List Row) (i : Int) (e : Ending) (w' : World) : Prop := (∃ A c, e = .returned (.slice A (kids l i).length c) ∧ Sl w' w'.heap.size 1 (.slice A (kids l i).length c) (iv (kids l i))) ∧ Below w.heap.size w w'
theorem kid_post {w wr : World} {l : List Row} {i : Int} {n : Nat} {v : Value} (hn : l.length = n) (hown : wr.ownsRow w.heap.size 3 1 v (kidsTo l i n).length (iv (kidsTo l i n))) (hB : Below w.heap.size w wr) : KidPost w l i (.returned v) wr := by
  subst hn
  have hs := Sl.own hown
  obtain ⟨A, m, c, rfl, h1, h2, h3⟩ := hs
  simp only [iv_length, Nat.mul_one] at h2
  refine ⟨⟨A, c, by rw [kids, h2], ?_⟩, hB⟩
  rw [kids, h2]
  exact ⟨A, m, c, rfl, h1, by simp [h2], h3⟩

set_option maxHeartbeats 1000000 in
theorem kids_any {w : World} {v : Value} {l : List Row} (h : Sl w w.heap.size 7 v (rowsC l)) (hlen : l.length ≤ 1000) (i : Int) : Calls Tryz.prog 55 #[v, .int .i64 i] w (KidPost w l i) := by
  obtain ⟨A, c, rfl, hc, hr⟩ := rows_open h
  obtain ⟨n, hn⟩ := name_of l.length
  have HN := Lib.hid hn
  have HR := Lib.hid hr
  rw [hn] at hc hlen ⊢
  clear hn hr h
  go_enter Tryz.func55, Tryz.ntmps55
  go_wp2_with fail
  go_loopw [5, 10] (fun v idx wr => KidR w l i n v idx wr) (fun _ idx _ => n - (intOf idx).toNat)
  case atStart => exact ⟨0, Nat.zero_le _, rfl, World.ownsRow_nil _ _ _ _, Below.refl _ _⟩
  case round =>
    obtain ⟨k, hk, rfl, hown, hB⟩ := hrel
    by_cases hlt : k < n
    · obtain ⟨b, off, rfl, hb, h0, h1, h2, h3, h4, h5, h6⟩ := HR.out k (by have := HN.out; omega)
      have hkl := kidsTo_len l i k
      obtain ⟨⟨rp, ri, rf, rk, rv, rs, rc⟩, hr⟩ := name_of (at_ l k)
      rw [hr] at h0 h1 h2 h3 h4 h5 h6
      dsimp only at h0 h1 h2 h3 h4 h5 h6
      have hbl := fun j => hB.cell (p := ⟨b, j, none⟩) hb
      have c0 := (hbl _).trans h0
      have c1 := (hbl _).trans h1
      have c2 := (hbl _).trans h2
      have c3 := (hbl _).trans h3
      have c4 := (hbl _).trans h4
      have c5 := (hbl _).trans h5
      have c6 := (hbl _).trans h6
      have hsu := kidsTo_succ l i k
      rw [hr] at hsu
      dsimp only at hsu
      have HSU := Lib.hid hsu
      clear h0 h1 h2 h3 h4 h5 h6 hbl hr hsu
      have hB1 : Below w.heap.size w (wr.alloc (.cells #[.int .i64 rp, .int .i64 ri, .int .i64 rf, .int .i64 rk, .int .i64 rv, .int .i64 rs, .string rc] 69)) := hB.alloc hB.size _
      have hown1 := hown.alloc (.cells #[.int .i64 rp, .int .i64 ri, .int .i64 rf, .int .i64 rk, .int .i64 rv, .int .i64 rs, .string rc] 69)
      by_cases hp : rp = i
      · have e0 : (rp == i) = true := by simpa using hp
        have HP := Lib.hid hp
        clear hp
        have hs2 : Sl ((wr.alloc (.cells #[.int .i64 rp, .int .i64 ri, .int .i64 rf, .int .i64 rk, .int .i64 rv, .int .i64 rs, .string rc] 69)).alloc (.cells #[.int .i64 k] 3)) ((wr.alloc (.cells #[.int .i64 rp, .int .i64 ri, .int .i64 rf, .int .i64 rk, .int .i64 rv, .int .i64 rs, .string rc] 69)).alloc (.cells #[.int .i64 k] 3)).heap.size 1 (.slice (some ⟨wr.heap.size + 1, 0, none⟩) 1 1) (iv [k]) := Sl.new (wr.alloc _) _ _ 1 _ (by simp) rfl rfl
        have hB2 := hB1.alloc hB1.size (.cells #[.int .i64 k] 3)
        have hown2 := hown1.alloc (.cells #[.int .i64 k] 3)
        clear hB1 hown1 hown hB
        go_wp2_with (at_builtin; refine wpList_append_sl rfl (.tmp 19) (.tmp 21) 36 rfl w.heap.size 3 (.int .i64 0) 1 8 Tryz.underlying36 info_int rfl (by omega) _ _ _ rfl hown2 _ 1 _ _ rfl hs2 rfl (iv_one _) (by omega) (by omega) hB2.size ?_; intro v6 w6 hown6 hg6 hat6; have hB6 := below_append hB2 hown2 hg6 (Nat.le_refl _); obtain ⟨A6, m6, c6, rfl⟩ := own_slice hown6; clear hown2 hs2 hg6 hat6 hB2)
        refine ⟨⟨k + 1, hlt, by go_num, ?_, hB6⟩, by simp [intOf]; omega⟩
        rw [HSU.out, if_pos HP.out, iv_append]
        exact own_len hown6 (by simp) rfl
      · have e0 : (rp == i) = false := by simpa using hp
        have HP := Lib.hid hp
        clear hp
        go_wp2_with fail
        refine ⟨⟨k + 1, hlt, by go_num, ?_, hB1⟩, by simp [intOf]; omega⟩
        rw [HSU.out, if_neg HP.out, List.append_nil]
        exact hown1
    · have : k = n := by omega
      subst this
      obtain ⟨A6, m6, c6, rfl⟩ := own_slice hown
      go_wp2_with fail
      go_ret
      exact kid_post HN.out hown hB

theorem take_ext {α : Type} {l m : List α} {k : Nat} (hl : k < l.length) (hm : k < m.length) (h : l.take k = m.take k) (he : l[k] = m[k]) : l.take (k + 1) = m.take (k + 1) := by
  rw [List.take_succ_eq_append_getElem hl, List.take_succ_eq_append_getElem hm, h, he]

end P7
end Go.Proofs.YtajbchecjbddgaaGreatDoor
