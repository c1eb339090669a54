/- Walks: slices.Clone of rows, table.Under. -/
import Derived.Test.YtlpkfklbdofmeaaDoorT7u
import Derived.Test.YtlpkfklbdofmeaaDoorT7v
import Derived.Test.YtlpkfklbdofmeaaDoorOw
namespace Go.Proofs.YtlpkfklbdofmeaaDoor
open Go.RowKit
namespace P7

theorem info_row : (Tryd.prog.info? 40).map (fun i => (i.zero, i.size, i.bytes)) = some (some (rowV rowD), 7, 64) := by kernel_rfl

set_option maxHeartbeats 1000000 in
theorem clone_any {w : World} {v : Value} {l : List Row} (h : Sl w w.heap.size 7 v (rowsC l)) (h0 : 0 < l.length) (hlen : l.length ≤ 1000) :
    Calls Tryd.prog 47 #[v] w fun e w' => (∃ v', e = .returned v' ∧ w'.ownsRow w.heap.size 40 7 v' l.length (rowsC l)) ∧ Below w.heap.size w w' := by
  obtain ⟨A, c, rfl, hnc, hA⟩ := rows_open h
  obtain ⟨b, off, rfl, -⟩ := hA 0 h0
  have hB : Below w.heap.size w (w.alloc (.cells #[] 40)) := by go_grown
  have hs2 := h.next hB
  obtain ⟨n, hn⟩ := name_of l.length
  have HN := Lib.hid hn
  have hm : Hid ((rowsC l).length = n * 7) := Lib.hid (by rw [rowsC_length, hn])
  have hown := own_empty w 40 7 w.heap.size (Nat.le_refl _)
  rw [hn] at hs2 hlen ⊢
  clear h hA hn
  have hnF : ∀ ad n c w, (binOp .eql 22 (.slice (some ad) n c) (.slice none 0 0)).run Tryd.prog w = .ok (.bool false) w := fun ad n c w => Lib.run_eql_slice_nil w _ _ (some ad) n c 0 0 Tryd.underlying22
  go_enter Tryd.func47, Tryd.ntmps47
  go_wp2_with (at_builtin; refine wpList_append_sl rfl (.tmp 5) (.tmp 6) 22 rfl w.heap.size 40 (rowV rowD) 7 64 Tryd.underlying22 info_row rfl (by omega) _ _ _ rfl hown _ n _ _ rfl hs2 hm.out (rowsC_one _) (by omega) (by omega) hB.size ?_; intro v6 w6 hown6 hg6 hat6; have hB6 := below_append hB hown hg6 (Nat.le_refl _); obtain ⟨A6, m6, c6, rfl⟩ := own_slice hown6)
  go_ret
  refine ⟨⟨_, rfl, ?_⟩, hB6⟩
  have := hown6
  rwa [Nat.zero_add, List.nil_append] at this

theorem under_bad {w : World} {v : Value} {l : List Row} (h : Sl w w.heap.size 7 v (rowsC l)) (hs : Small l) (i : Int) (E : Int) (hE : chk (l.length + 1) l = E) (h0 : E ≠ 0) :
    Calls Tryd.prog 24 #[v, .int .i64 i] w fun e w' => e = .returned (.tuple #[.slice none 0 0, .int .i64 E]) ∧ Below w.heap.size w w' := by
  have hC := checkT_any h hs
  obtain ⟨A, c, rfl, -⟩ := rows_open h
  rw [hE] at hC
  have e0 : (E != 0) = true := by simpa using h0
  clear h hs hE h0
  go_enter Tryd.func24, Tryd.ntmps24
  go_wp2_with fail
  refine hC.mono ?_
  rintro e w1 ⟨rfl, hb1⟩
  go_wp2_with fail
  go_ret2
  exact ⟨rfl, hb1⟩
theorem under_out {w : World} {v : Value} {l : List Row} (h : Sl w w.heap.size 7 v (rowsC l)) (hs : Small l) (i : Int) (hT : Tab l) (hi : ¬ (0 ≤ i ∧ i < l.length)) :
    Calls Tryd.prog 24 #[v, .int .i64 i] w fun e w' => e = .returned (.tuple #[.slice none 0 0, .int .i64 10]) ∧ Below w.heap.size w w' := by
  have hC := checkT_any h hs
  obtain ⟨A, c, rfl, -⟩ := rows_open h
  obtain ⟨n, hn⟩ := name_of l.length
  rw [show chk (l.length + 1) l = 0 from hT] at hC
  rw [hn] at hi hC ⊢
  clear h hs hT hn
  by_cases h0 : i < 0
  · clear hi
    go_enter Tryd.func24, Tryd.ntmps24
    go_wp2_with fail
    refine hC.mono ?_
    rintro e w1 ⟨rfl, hb1⟩
    go_wp2_with fail
    go_ret2
    exact ⟨rfl, hb1⟩
  · have h1 : (n : Int) ≤ i := by omega
    clear hi
    go_enter Tryd.func24, Tryd.ntmps24
    go_wp2_with fail
    refine hC.mono ?_
    rintro e w1 ⟨rfl, hb1⟩
    go_wp2_with fail
    go_ret2
    exact ⟨rfl, hb1⟩

/-- The rows from i to e, of which the first k have a parent that is i less. -/
def lowT (l : List Row) (i e k : Nat) : List Row := (List.range (e - i)).map fun j => if j < k then ⟨(at_ l (i + j)).p - i, (at_ l (i + j)).i, (at_ l (i + j)).f, (at_ l (i + j)).k, (at_ l (i + j)).v, (at_ l (i + j)).s, (at_ l (i + j)).c⟩ else at_ l (i + j)
@[simp] theorem lowT_length (l : List Row) (i e k : Nat) : (lowT l i e k).length = e - i := by simp [lowT]
theorem lowT_get (l : List Row) {i e k j : Nat} (hj : j < e - i) : (lowT l i e k)[j]? = some (if j < k then ⟨(at_ l (i + j)).p - i, (at_ l (i + j)).i, (at_ l (i + j)).f, (at_ l (i + j)).k, (at_ l (i + j)).v, (at_ l (i + j)).s, (at_ l (i + j)).c⟩ else at_ l (i + j)) := by
  simp [lowT, List.getElem?_range hj]
theorem lowT_zero {l : List Row} {i e : Nat} (he : e ≤ l.length) : lowT l i e 0 = (l.drop i).take (e - i) := by
  refine List.ext_getElem (by simp; omega) fun j h1 h2 => ?_
  rw [lowT_length] at h1
  simp only [lowT, List.getElem_map, List.getElem_range, Nat.not_lt_zero, if_false, List.getElem_take, List.getElem_drop]
  exact at_eq (by omega)
theorem lowT_set {l : List Row} {i e k : Nat} (hk : k < e - i) : (rowsC (lowT l i e k)).set (k * 7) (.int .i64 ((at_ l (i + k)).p - i)) = rowsC (lowT l i e (k + 1)) := by
  have := flat_set rowC 7 rowC_length (.int .i64 ((at_ l (i + k)).p - i)) (lowT l i e k) k 0 (at_ l (i + k)) ⟨(at_ l (i + k)).p - i, (at_ l (i + k)).i, (at_ l (i + k)).f, (at_ l (i + k)).k, (at_ l (i + k)).v, (at_ l (i + k)).s, (at_ l (i + k)).c⟩ (by omega) (by rw [lowT_get l hk, if_neg (Nat.lt_irrefl k)]) rfl
  rw [Nat.add_zero] at this
  rw [rowsC, this, rowsC]
  congr 1
  refine List.ext_getElem? fun j => ?_
  rw [List.getElem?_set, lowT_length]
  by_cases e1 : k = j
  · subst e1
    rw [if_pos rfl, if_pos hk, lowT_get l hk, if_pos (by omega)]
  · rw [if_neg e1]
    by_cases hj : j < e - i
    · rw [lowT_get l hj, lowT_get l hj]
      by_cases h2 : j < k
      · rw [if_pos h2, if_pos (by omega)]
      · rw [if_neg h2, if_neg (by omega)]
    · rw [List.getElem?_eq_none (by simpa using hj), List.getElem?_eq_none (by simpa using hj)]
theorem low_cut {l : List Row} {i e : Nat} (h : i < e) : ((rowsC (lowT l i e (e - i))).set 0 (.int .i64 (-1))).set 1 (.int .i64 0) = rowsC (cutT l i e) := by
  obtain ⟨m, hm⟩ : ∃ m, e - i = m + 1 := ⟨e - i - 1, by omega⟩
  have h1 : lowT l i e (e - i) = (⟨(at_ l i).p - i, (at_ l i).i, (at_ l i).f, (at_ l i).k, (at_ l i).v, (at_ l i).s, (at_ l i).c⟩ : Row) :: (lowT l i e (e - i)).tail := by
    unfold lowT
    rw [hm, List.range_succ_eq_map, List.map_cons, List.tail_cons, if_pos (by omega), Nat.add_zero]
  have h2 : cutT l i e = (⟨-1, 0, (at_ l i).f, (at_ l i).k, (at_ l i).v, (at_ l i).s, (at_ l i).c⟩ : Row) :: (lowT l i e (e - i)).tail := by
    unfold lowT cutT
    rw [hm, List.range_succ_eq_map, List.map_cons, List.map_cons, List.tail_cons, Nat.add_zero, List.map_map, List.map_map]
    congr 1
    refine List.map_congr_left fun j hj => ?_
    have := List.mem_range.1 hj
    simp only [Function.comp_apply]
    rw [if_pos (by omega)]
    unfold cutRow
    rw [if_neg (by omega)]
  rw [h1, h2]
  rfl

def UnderPost (w : World) (l : List Row) (n : Nat) (e : Ending) (w' : World) : Prop := (∃ en v, End l n en ∧ e = .returned (.tuple #[v, .int .i64 0]) ∧ Sl w' w'.heap.size 7 v (rowsC (cutT l n en))) ∧ Below w.heap.size w w'
set_option maxRecDepth 10000 in
set_option maxHeartbeats 4000000 in
theorem under_in {w : World} {v : Value} {l : List Row} (h : Sl w w.heap.size 7 v (rowsC l)) (hs : Small l) (hT : Tab l) (n : Nat) (hn : n < l.length) :
    Calls Tryd.prog 24 #[v, .int .i64 n] w (UnderPost w l n) := by
  have hC := checkT_any h hs
  have H := Lib.hid h
  have HT := Lib.hid hT
  obtain ⟨A, c, rfl, hnc, hA⟩ := rows_open h
  obtain ⟨b, off, rfl, hbw, -⟩ := hA 0 (by omega)
  rw [show chk (l.length + 1) l = 0 from hT] at hC
  have hlen := hs.1
  obtain ⟨m, hm⟩ := name_of l.length
  have HM := Lib.hid hm
  rw [hm] at hnc hlen hC hn H ⊢
  clear h hs hT hm hA
  have d0 : decide ((n : Int) < 0) = false := by simp
  have d1 : decide (m ≤ n) = false := by simp; omega
  go_enter Tryd.func24, Tryd.ntmps24
  go_wp2_with fail
  refine hC.mono ?_
  rintro e w1 ⟨rfl, hb1⟩
  have H1 := Lib.hid (H.out.next hb1)
  clear hC H
  go_wp2_with fail
  go_loop [7] (fun t => ∃ k : Nat, t = .int .i64 k ∧ n < k ∧ k ≤ m ∧ ∀ j, n ≤ j → j < k → an l n j = true) (fun t => m - (intOf t).toNat)
  case atStart => exact ⟨n + 1, by go_num, by omega, by omega, fun j h1 h2 => by rw [show j = n by omega]; exact an_self HT.out (by rw [HM.out]; exact hn)⟩
  case round =>
    obtain ⟨k, rfl, hnk, hkm, hall⟩ := hrel
    have HALL := Lib.hid hall
    clear hall
    by_cases hlt : k < m
    · have hW := within_any H1.out (by rw [HM.out]; omega) (k : Int) (n : Int)
      rw [an_wi HT.out.up (by rw [HM.out]; exact hlt) (by rw [HM.out]; exact hlt)] at hW
      obtain ⟨t, ht⟩ := name_of (an l n k)
      rw [ht] at hW
      have HTT := Lib.hid ht
      clear ht
      cases t
      · go_wp2_with fail
        refine hW.mono ?_
        rintro e w2 ⟨rfl, rfl⟩
        clear hW
        have hE := End.of HT.out (e := k) hnk (by have := HM.out; omega) HALL.out (fun _ => HTT.out)
        have HE := Lib.hid hE
        have hrp := rows_part H1.out n (k - n) (c - n) (by omega) (by omega)
        rw [← lowT_zero (by have := HM.out; omega)] at hrp
        have hll := lowT_length l n k 0
        have hcl := clone_any hrp (by rw [hll]; omega) (by rw [hll]; omega)
        rw [hll] at hcl
        clear hll hrp hE HALL
        go_wp2_with fail
        refine hcl.mono ?_
        rintro e w3 ⟨⟨v3, rfl, hown⟩, hb3⟩
        obtain ⟨N, hN⟩ := name_of (k - n)
        have HN := Lib.hid hN
        have hN0 : 0 < N := by omega
        have hN60 : N ≤ 60 := by omega
        rw [hN] at hown ⊢
        obtain ⟨g, cap, rfl, hg, -, hncap, -, -⟩ := own_open hown hN0
        clear hcl hN
        go_wp2_with fail
        go_loopw [44] (fun i wr => ∃ j : Nat, j ≤ N ∧ i = .int .i64 j ∧ wr.ownsRow w2.heap.size 40 7 (.slice (some ⟨g, 0, none⟩) N cap) N (rowsC (lowT l n k j)) ∧ Below w2.heap.size w2 wr) (fun i _ => N - (intOf i).toNat)
        case atStart => exact ⟨0, Nat.zero_le _, rfl, hown, hb3⟩
        case round =>
          clear hown hb3
          obtain ⟨j, hj, rfl, hown, hB3⟩ := hrel
          obtain ⟨g', cap', he, -, hgs, -, hcl, hfr⟩ := own_open hown hN0
          injection he with e1 _ e3
          injection e1 with e1
          injection e1 with e1
          subst e1 e3
          by_cases hjn : j < N
          · have hget : (rowsC (lowT l n k j))[j * 7]? = some (.int .i64 (at_ l (n + j)).p) := by
              have := flat_get rowC 7 rowC_length (lowT l n k j) j 0 (by omega)
              rw [Nat.add_zero] at this
              rw [rowsC, this, lowT_get l (by have := HN.out; omega), if_neg (Nat.lt_irrefl _)]
              rfl
            have c0 := hcl _ _ hget
            have f0 := hfr (j * 7)
            have hset := own_set hown (j * 7) (.int .i64 ((at_ l (n + j)).p - n))
            rw [lowT_set (by have := HN.out; omega)] at hset
            have hu := HT.out.up (n + j) (by have := HM.out; have := HN.out; omega) (by have := HM.out; have := HN.out; omega)
            have hb0 : -1 ≤ (at_ l (n + j)).p := by
              by_cases e0 : n + j = 0
              · rw [e0, HT.out.root.1]; decide
              · have := hu.2 e0; omega
            obtain ⟨pj, hpj⟩ := name_of (at_ l (n + j)).p
            rw [hpj] at c0 hset hu hb0
            have hb1' : pj ≤ 60 := by have := hu.1; have := HN.out; omega
            have HB4 := Lib.hid (own_below_set hB3 hg (j * 7) (.int .i64 (pj - n)))
            have HS := Lib.hid hset
            clear hget hset hu hpj hcl hfr hown hB3
            go_wp2_with fail
            refine ⟨⟨j + 1, by omega, by go_num, HS.out, HB4.out⟩, by simp [intOf]; omega⟩
          · have hjn' : j = N := by omega
            subst hjn'
            have q0 := hfr 0
            have q1 := hfr 1
            have s1 := own_set (own_set hown 0 (.int .i64 (-1))) 1 (.int .i64 0)
            have z0 : (rowsC (lowT l n k j))[0]? ≠ none := by
              rw [Ne, List.getElem?_eq_none_iff, rowsC_length, lowT_length]
              have := HN.out
              omega
            have z1 : (rowsC (lowT l n k j))[1]? ≠ none := by
              rw [Ne, List.getElem?_eq_none_iff, rowsC_length, lowT_length]
              have := HN.out
              omega
            obtain ⟨x0, hx0⟩ := Option.ne_none_iff_exists'.1 z0
            obtain ⟨x1, hx1⟩ := Option.ne_none_iff_exists'.1 z1
            have c0 := hcl _ _ hx0
            have c1 := hcl _ _ hx1
            have HB4 := Lib.hid (own_below_set (own_below_set hB3 hg 0 (.int .i64 (-1))) hg 1 (.int .i64 0))
            have HS : Hid (((rowsC (lowT l n k j)).set 0 (.int .i64 (-1))).set 1 (.int .i64 0) = rowsC (cutT l n k)) := Lib.hid (by have := low_cut (l := l) hnk; rwa [HN.out] at this)
            have HSO := Lib.hid s1
            clear hcl hfr hown hB3 s1 z0 z1 hx0 hx1
            go_wp2_with fail
            go_ret2
            have hso := HSO.out
            rw [HS.out] at hso
            refine ⟨⟨k, .slice (some ⟨g, 0, none⟩) j cap, HE.out, rfl, Sl.own hso⟩, hb1.next HB4.out⟩
      · go_wp2_with fail
        refine hW.mono ?_
        rintro e w2 ⟨rfl, rfl⟩
        go_wp2_with fail
        refine ⟨⟨k + 1, by go_num, by omega, by omega, fun j h1 h2 => ?_⟩, by simp [intOf]; omega⟩
        by_cases e : j = k
        · subst e; exact HTT.out
        · exact HALL.out j h1 (by omega)
    · have hkm' : k = m := by omega
      subst hkm'
      have hE := End.of HT.out (e := k) hnk (by have := HM.out; omega) HALL.out (fun h => by have := HM.out; omega)
      have HE := Lib.hid hE
      have hrp := rows_part H1.out n (k - n) (c - n) (by omega) (by omega)
      rw [← lowT_zero (by have := HM.out; omega)] at hrp
      have hll := lowT_length l n k 0
      have hcl := clone_any hrp (by rw [hll]; omega) (by rw [hll]; omega)
      rw [hll] at hcl
      clear hll hrp hE HALL
      go_wp2_with fail
      refine hcl.mono ?_
      rintro e w3 ⟨⟨v3, rfl, hown⟩, hb3⟩
      obtain ⟨N, hN⟩ := name_of (k - n)
      have HN := Lib.hid hN
      have hN0 : 0 < N := by omega
      have hN60 : N ≤ 60 := by omega
      rw [hN] at hown ⊢
      obtain ⟨g, cap, rfl, hg, -, hncap, -, -⟩ := own_open hown hN0
      clear hcl hN
      go_wp2_with fail
      go_loopw [44] (fun i wr => ∃ j : Nat, j ≤ N ∧ i = .int .i64 j ∧ wr.ownsRow w1.heap.size 40 7 (.slice (some ⟨g, 0, none⟩) N cap) N (rowsC (lowT l n k j)) ∧ Below w1.heap.size w1 wr) (fun i _ => N - (intOf i).toNat)
      case atStart => exact ⟨0, Nat.zero_le _, rfl, hown, hb3⟩
      case round =>
        clear hown hb3
        obtain ⟨j, hj, rfl, hown, hB3⟩ := hrel
        obtain ⟨g', cap', he, -, hgs, -, hcl, hfr⟩ := own_open hown hN0
        injection he with e1 _ e3
        injection e1 with e1
        injection e1 with e1
        subst e1 e3
        by_cases hjn : j < N
        · have hget : (rowsC (lowT l n k j))[j * 7]? = some (.int .i64 (at_ l (n + j)).p) := by
            have := flat_get rowC 7 rowC_length (lowT l n k j) j 0 (by omega)
            rw [Nat.add_zero] at this
            rw [rowsC, this, lowT_get l (by have := HN.out; omega), if_neg (Nat.lt_irrefl _)]
            rfl
          have c0 := hcl _ _ hget
          have f0 := hfr (j * 7)
          have hset := own_set hown (j * 7) (.int .i64 ((at_ l (n + j)).p - n))
          rw [lowT_set (by have := HN.out; omega)] at hset
          have hu := HT.out.up (n + j) (by have := HM.out; have := HN.out; omega) (by have := HM.out; have := HN.out; omega)
          have hb0 : -1 ≤ (at_ l (n + j)).p := by
            by_cases e0 : n + j = 0
            · rw [e0, HT.out.root.1]; decide
            · have := hu.2 e0; omega
          obtain ⟨pj, hpj⟩ := name_of (at_ l (n + j)).p
          rw [hpj] at c0 hset hu hb0
          have hb1' : pj ≤ 60 := by have := hu.1; have := HN.out; omega
          have HB4 := Lib.hid (own_below_set hB3 hg (j * 7) (.int .i64 (pj - n)))
          have HS := Lib.hid hset
          clear hget hset hu hpj hcl hfr hown hB3
          go_wp2_with fail
          refine ⟨⟨j + 1, by omega, by go_num, HS.out, HB4.out⟩, by simp [intOf]; omega⟩
        · have hjn' : j = N := by omega
          subst hjn'
          have q0 := hfr 0
          have q1 := hfr 1
          have s1 := own_set (own_set hown 0 (.int .i64 (-1))) 1 (.int .i64 0)
          have z0 : (rowsC (lowT l n k j))[0]? ≠ none := by
            rw [Ne, List.getElem?_eq_none_iff, rowsC_length, lowT_length]
            have := HN.out
            omega
          have z1 : (rowsC (lowT l n k j))[1]? ≠ none := by
            rw [Ne, List.getElem?_eq_none_iff, rowsC_length, lowT_length]
            have := HN.out
            omega
          obtain ⟨x0, hx0⟩ := Option.ne_none_iff_exists'.1 z0
          obtain ⟨x1, hx1⟩ := Option.ne_none_iff_exists'.1 z1
          have c0 := hcl _ _ hx0
          have c1 := hcl _ _ hx1
          have HB4 := Lib.hid (own_below_set (own_below_set hB3 hg 0 (.int .i64 (-1))) hg 1 (.int .i64 0))
          have HS : Hid (((rowsC (lowT l n k j)).set 0 (.int .i64 (-1))).set 1 (.int .i64 0) = rowsC (cutT l n k)) := Lib.hid (by have := low_cut (l := l) hnk; rwa [HN.out] at this)
          have HSO := Lib.hid s1
          clear hcl hfr hown hB3 s1 z0 z1 hx0 hx1
          go_wp2_with fail
          go_ret2
          have hso := HSO.out
          rw [HS.out] at hso
          refine ⟨⟨k, .slice (some ⟨g, 0, none⟩) j cap, HE.out, rfl, Sl.own hso⟩, hb1.next HB4.out⟩
end P7
end Go.Proofs.YtlpkfklbdofmeaaDoor
