/- Audit: the law AuditAllows. -/
import Derived.Test.YtajbchecjbddgaaDoorVb
import Derived.Test.YtajbchecjbddgaaDoorH7
import Derived.Deep.CutRange
namespace Go.Proofs.YtajbchecjbddgaaDoor
open Go.RowKit
namespace P20
open P7

/-! ### A scope more that is asked -/
/-- Shots that differ in what is asked alone, and in the second more is asked. -/
structure More (s s' : Sh) : Prop where
  l : s'.l = s.l
  ws : s'.ws = s.ws
  len : s'.sc.length = s.sc.length
  r : ∀ j, (sA s'.sc j).r = (sA s.sc j).r
  k : ∀ j, (sA s'.sc j).k = (sA s.sc j).k
  n : ∀ j, (sA s'.sc j).n = (sA s.sc j).n
  c : ∀ j, (sA s'.sc j).c = (sA s.sc j).c
  v : ∀ j, (sA s'.sc j).v = (sA s.sc j).v
  a : ∀ j, (sA s.sc j).a = true → (sA s'.sc j).a = true
section
variable {s s' : Sh} (h : More s s')
include h
theorem More.at_ (r k : Int) (j : Nat) : isAt s'.sc r k j ↔ isAt s.sc r k j := by unfold isAt; rw [h.r, h.k]
theorem More.fndF (r k : Int) : ∀ f i, fndF s'.sc r k f i = fndF s.sc r k f i
  | 0, _ => rfl
  | f + 1, i => by
    rw [P20.fndF, P20.fndF, More.fndF r k f (i + 1)]
    by_cases hi : isAt s.sc r k i
    · rw [if_pos hi, if_pos ((h.at_ r k i).2 hi)]
    · rw [if_neg hi, if_neg (fun e => hi ((h.at_ r k i).1 e))]
theorem More.fnd (r k : Int) : fnd s'.sc r k = fnd s.sc r k := by unfold P20.fnd; rw [h.len]; exact h.fndF r k _ _
theorem More.ofN (i : Nat) : ofN s' i = ofN s i := by unfold P20.ofN; rw [h.l]; exact h.fnd _ _
theorem More.arN (i : Nat) : arN s' i = arN s i := by unfold P20.arN; rw [h.r, h.k, h.n, h.fnd, h.ofN]
theorem More.chF : ∀ f i, chF s' f i = chF s f i
  | 0, _ => rfl
  | f + 1, i => by
    rw [P20.chF, P20.chF, h.arN]
    cases P20.arN s i with
    | none => rfl
    | some j => simp only; rw [More.chF f j]
theorem More.rowIn (i j : Nat) : rowIn s' i j ↔ rowIn s i j := by unfold P20.rowIn ch; rw [h.ofN, h.chF]
theorem More.told (i : Nat) : told s' i ↔ told s i := by unfold P20.told; rw [h.r, h.k, h.n, h.r, h.k, h.l]
theorem More.scOk : scOk s' ↔ scOk s := by
  unfold P20.scOk toldTo
  rw [h.len, h.l]
  constructor
  · rintro ⟨h1, h2⟩
    exact ⟨fun i hi => ⟨(h.told i).1 (h1 i hi).1, by rw [← h.v]; exact (h1 i hi).2⟩, fun i hi => by rw [← h.ofN]; exact h2 i hi⟩
  · rintro ⟨h1, h2⟩
    exact ⟨fun i hi => ⟨(h.told i).2 (h1 i hi).1, by rw [h.v]; exact (h1 i hi).2⟩, fun i hi => by rw [h.ofN]; exact h2 i hi⟩
theorem More.clOk : clOk s' ↔ clOk s := by
  unfold P20.clOk clean cleanR
  rw [h.len, h.l, h.ws]
  constructor
  · intro h1 j hj hc
    have h2 := h1 j hj (by rw [h.c]; exact hc)
    exact ⟨by rw [← h.v]; exact h2.1, fun i hi hr => h2.2 i hi ((h.rowIn i j).2 hr)⟩
  · intro h1 j hj hc
    have h2 := h1 j hj (by rw [← h.c]; exact hc)
    exact ⟨by rw [h.v]; exact h2.1, fun i hi hr => h2.2 i hi ((h.rowIn i j).1 hr)⟩
theorem More.chkS : chkS s' = chkS s := by
  have h1 : numOk s' ↔ numOk s := by unfold numOk; rw [h.l, h.ws]
  have h2 : stOk s' ↔ stOk s := by unfold stOk; rw [h.l, h.ws]
  unfold P20.chkS
  rw [h.l]
  simp only [h.scOk, h.clOk, h1, h2]
theorem More.alOk (ha : alOk s) : alOk s' := by
  refine ⟨h.chkS.trans ha.1, fun i hi => ?_⟩
  have h1 := ha.2 i (by rw [← h.l]; exact hi)
  unfold askR at h1 ⊢
  rw [h.l, h.len]
  intro h4
  obtain ⟨j, g1, g2, g3⟩ := h1 h4
  exact ⟨j, g1, h.a j g2, (h.rowIn i j).2 g3⟩
end
def askSc (x : Sc) : Sc := ⟨x.r, x.k, x.n, true, x.c, x.v⟩
def askSh (s : Sh) (i : Nat) : Sh := ⟨s.l, s.sc.set i (askSc (sA s.sc i)), s.ws⟩
theorem askSh_at (s : Sh) (i j : Nat) (hi : i < s.sc.length) : sA (askSh s i).sc j = if j = i then askSc (sA s.sc i) else sA s.sc j := by
  unfold askSh
  show (s.sc.set i (askSc (sA s.sc i))).getD j scD = _
  rw [List.getD_eq_getElem?_getD, List.getElem?_set]
  by_cases e : j = i
  · subst e
    rw [if_pos rfl, if_pos hi, if_pos rfl]
    rfl
  · rw [if_neg (fun e' => e e'.symm), if_neg e]
    unfold sA
    rw [List.getD_eq_getElem?_getD]
theorem askSh_more (s : Sh) (i : Nat) (hi : i < s.sc.length) : More s (askSh s i) where
  l := rfl
  ws := rfl
  len := by simp [askSh]
  r := fun j => by rw [askSh_at s i j hi]; split; (subst_vars; rfl); rfl
  k := fun j => by rw [askSh_at s i j hi]; split; (subst_vars; rfl); rfl
  n := fun j => by rw [askSh_at s i j hi]; split; (subst_vars; rfl); rfl
  c := fun j => by rw [askSh_at s i j hi]; split; (subst_vars; rfl); rfl
  v := fun j => by rw [askSh_at s i j hi]; split; (subst_vars; rfl); rfl
  a := fun j h => by rw [askSh_at s i j hi]; split; rfl; exact h
theorem askSh_few {s : Sh} (h : FewS s) (i : Nat) : FewS (askSh s i) := ⟨h.l, h.lc, by simpa [askSh] using h.sc, h.ws, h.st, h.dq⟩
theorem info_scope : (Tryd.prog.info? 36).map (fun i => (i.zero, i.size, i.bytes)) = some (some (scV scD), 6, 40) := by kernel_rfl
/-- A scope's own row with one more asked. -/
theorem ask_own {w : World} {base g cap : Nat} {s : Sh} (h : w.ownsRow base 36 6 (.slice (some ⟨g, 0, none⟩) s.sc.length cap) s.sc.length (scsC s.sc)) {i : Nat} (hi : i < s.sc.length) :
    (w.setCell ⟨g, i * 6 + 3, none⟩ (.bool true)).ownsRow base 36 6 (.slice (some ⟨g, 0, none⟩) s.sc.length cap) s.sc.length (scsC (askSh s i).sc) := by
  have h1 := own_set h (i * 6 + 3) (.bool true)
  have h2 : (scsC s.sc).set (i * 6 + 3) (.bool true) = scsC (askSh s i).sc := by
    unfold scsC askSh
    exact flat_set scC 6 scC_length (.bool true) s.sc i 3 (sA s.sc i) (askSc (sA s.sc i)) (by omega) (by rw [sA_eq hi]; exact List.getElem?_eq_getElem hi) rfl
  rw [h2] at h1
  exact h1
set_option maxRecDepth 100000 in
set_option maxHeartbeats 8000000 in
theorem auditAllows_any (hAw : AwP) {w : World} {vr vs vw : Value} {s : Sh} {i : Int} (hS : Shm w vr vs vw s) (hi : -9223372036854775808 ≤ i ∧ i ≤ 9223372036854775807) :
    Calls Tryd.prog 4 #[.agg #[vr, vs, vw], .int .i64 i] w fun e w' => e = .returned (.bool true) ∧ Below w.heap.size w w' := by
  obtain ⟨Ar, cr, hvr, -, -⟩ := rows_open hS.rows.sl
  obtain ⟨A, c, hvs, hnc, -⟩ := scs_open hS.scs
  obtain ⟨Aw, cw, hvw, -, -⟩ := hS.wks.open_
  obtain ⟨n, hn⟩ := name_of s.sc.length
  obtain ⟨nr, hnr⟩ := name_of s.l.length
  obtain ⟨nw, hnw⟩ := name_of s.ws.length
  have HN := Lib.hid hn
  rw [hn] at hvs hnc
  rw [hnr] at hvr
  rw [hnw] at hvw
  subst hvr hvs hvw
  have hblk := heap_alloc_last w (.cells #[.slice Ar nr cr, .slice A n c, .slice Aw nw cw] 26)
  obtain ⟨V, hV⟩ := name_of (w.alloc (.cells #[.slice Ar nr cr, .slice A n c, .slice Aw nw cw] 26))
  have hb1 : Below w.heap.size w V := by rw [← hV]; exact (Below.refl _ _).alloc (Nat.le_refl _) _
  rw [hV] at hblk
  have HB1 := Lib.hid hb1
  have HK1 := Lib.hid hblk
  have HS := Lib.hid (hS.next hb1)
  have hF := few20_any HS.out
  have q0 : V.cell? ⟨w.heap.size, 0, none⟩ = some (.slice Ar nr cr) := (cell_of_row _ _ _ _ _ _ hblk).trans rfl
  have q1 : V.cell? ⟨w.heap.size, 1, none⟩ = some (.slice A n c) := (cell_of_row _ _ _ _ _ _ hblk).trans rfl
  have q2 : V.cell? ⟨w.heap.size, 2, none⟩ = some (.slice Aw nw cw) := (cell_of_row _ _ _ _ _ _ hblk).trans rfl
  clear hn hnr hnw hS hb1 hblk
  go_enter Tryd.func4, Tryd.ntmps4
  go_wp2_with fail
  clear hV
  refine hF.mono ?_
  clear hF q0 q1 q2
  rintro e w2 ⟨⟨b, rfl, hb⟩, hb2⟩
  have HB2 := Lib.hid hb2
  have HK2 := Lib.hid (blk_next HK1.out hb2)
  have HFW := Lib.hid hb
  clear hb hb2
  cases b with
  | false =>
    have hC := hAw w2
    go_wp2_with fail
    refine hC.mono ?_
    rintro e w3 ⟨rfl, hb3⟩
    have HB3 := Lib.hid (HB1.out.next (HB2.out.next hb3))
    clear hC hb3
    go_wp2_with fail
    go_ret
    exact ⟨rfl, HB3.out⟩
  | true =>
  have hf := HFW.out rfl
  have hs60 := hf.sc
  rw [HN.out] at hs60
  have HF := Lib.hid hf
  have q0 : w2.cell? ⟨w.heap.size, 0, none⟩ = some (.slice Ar nr cr) := (cell_of_row _ _ _ _ _ _ HK2.out).trans rfl
  have q1 : w2.cell? ⟨w.heap.size, 1, none⟩ = some (.slice A n c) := (cell_of_row _ _ _ _ _ _ HK2.out).trans rfl
  have q2 : w2.cell? ⟨w.heap.size, 2, none⟩ = some (.slice Aw nw cw) := (cell_of_row _ _ _ _ _ _ HK2.out).trans rfl
  obtain ⟨R, hR⟩ := name_of (decide (alOk s))
  have HR := Lib.hid hR
  have hSh := shot_any (w := w2) (Ar := Ar) (A := A) (Aw := Aw) (nr := nr) (cr := cr) (n := n) (c := c) (nw := nw) (cw := cw)
  have hAl := fun W (hW : Below V.heap.size V W) => allowed_any (HS.out.next hW) hf
  have hRl := fun W (hW : Below V.heap.size V W) => refAllowed_any (HS.out.next hW) hf
  rw [hR] at hAl hRl
  have HAL := Lib.hid hAl
  have HRL := Lib.hid hRl
  clear hf hR HFW hAl hRl
  go_wp2_with fail
  refine hSh.mono ?_
  clear hSh q0 q1 q2
  rintro e w3 ⟨rfl, hb3⟩
  have HB3 := Lib.hid (HB2.out.next hb3)
  have HK3 := Lib.hid (blk_next HK2.out hb3)
  have hC := HAL.out w3 HB3.out
  clear hb3 HB2 HK2
  go_wp2_with fail
  refine hC.mono ?_
  clear hC
  rintro e w4 ⟨rfl, hb4⟩
  have HB4 := Lib.hid (HB3.out.next hb4)
  have HK4 := Lib.hid (blk_next HK3.out hb4)
  have q0 : w4.cell? ⟨w.heap.size, 0, none⟩ = some (.slice Ar nr cr) := (cell_of_row _ _ _ _ _ _ HK4.out).trans rfl
  have q1 : w4.cell? ⟨w.heap.size, 1, none⟩ = some (.slice A n c) := (cell_of_row _ _ _ _ _ _ HK4.out).trans rfl
  have q2 : w4.cell? ⟨w.heap.size, 2, none⟩ = some (.slice Aw nw cw) := (cell_of_row _ _ _ _ _ _ HK4.out).trans rfl
  have hC := HRL.out w4 HB4.out
  clear hb4 HB3 HK3
  go_wp2_with fail
  refine hC.mono ?_
  clear hC q0 q1 q2
  rintro e w5 ⟨rfl, hb5⟩
  have HB5 := Lib.hid (HB4.out.next hb5)
  have HK5 := Lib.hid (blk_next HK4.out hb5)
  have q0 : w5.cell? ⟨w.heap.size, 0, none⟩ = some (.slice Ar nr cr) := (cell_of_row _ _ _ _ _ _ HK5.out).trans rfl
  have q1 : w5.cell? ⟨w.heap.size, 1, none⟩ = some (.slice A n c) := (cell_of_row _ _ _ _ _ _ HK5.out).trans rfl
  have q2 : w5.cell? ⟨w.heap.size, 2, none⟩ = some (.slice Aw nw cw) := (cell_of_row _ _ _ _ _ _ HK5.out).trans rfl
  have f0 : (R != R) = false := by simp
  clear hb5 HB4 HK4 HRL
  by_cases h1 : i < 0
  · have f1 : decide (i < 0) = true := decide_eq_true h1
    have hC := hAw w5
    clear h1
    go_wp2_with fail
    refine hC.mono ?_
    rintro e w6 ⟨rfl, hb6⟩
    have HB6 := Lib.hid (HB1.out.next (HB5.out.next hb6))
    clear hC hb6
    go_wp2_with fail
    go_ret
    exact ⟨rfl, HB6.out⟩
  obtain ⟨k, rfl⟩ := Int.eq_ofNat_of_zero_le (show 0 ≤ i by omega)
  have f1 : decide ((k : Int) < 0) = false := decide_eq_false (by omega)
  by_cases h2 : n ≤ k
  · have f2 : decide ((n : Int) ≤ k) = true := decide_eq_true (by omega)
    have f2n : decide (n ≤ k) = true := decide_eq_true h2
    have hC := hAw w5
    clear h1 h2
    go_wp2_with fail
    refine hC.mono ?_
    rintro e w6 ⟨rfl, hb6⟩
    have HB6 := Lib.hid (HB1.out.next (HB5.out.next hb6))
    clear hC hb6
    go_wp2_with fail
    go_ret
    exact ⟨rfl, HB6.out⟩
  have f2 : decide ((n : Int) ≤ k) = false := decide_eq_false (by omega)
  have f2n : decide (n ≤ k) = false := decide_eq_false h2
  have hk : k < n := by omega
  have HKN : Hid (k < s.sc.length) := Lib.hid (by rw [HN.out]; exact hk)
  clear h1 h2
  have hb6 : Below w5.heap.size w5 (w5.alloc (.cells #[] 36)) := (Below.refl _ _).alloc (Nat.le_refl _) _
  have hown := own_empty w5 36 6 w5.heap.size (Nat.le_refl _)
  have hs2 := (HS.out.next (HB5.out.next hb6)).scs
  have hm : Hid ((scsC s.sc).length = n * 6) := Lib.hid (by rw [scsC_length, HN.out])
  have b1 := (hb6.cell (p := ⟨w.heap.size, 1, none⟩) (lt_of_block HK5.out)).trans q1
  go_upto_region 9 with (at_builtin; refine wpList_append_sl rfl (.tmp 28) (.tmp 30) 23 rfl w5.heap.size 36 (scV scD) 6 40 Tryd.underlying23 info_scope rfl (by omega) _ _ _ rfl hown _ n _ _ rfl hs2 hm.out (scsC_one _) (by omega) (by omega) hb6.size ?_; intro v6 w6 hown6 hg6 hat6; have hB6 := below_append hb6 hown hg6 (Nat.le_refl _); rw [Nat.zero_add, List.nil_append] at hown6)
  obtain ⟨g6, cap6, rfl, hg5, hgl6, hc6, hcl6, hfr6⟩ := own_open hown6 (by omega)
  have y3 : w6.cell? ⟨g6, k * 6 + 3, none⟩ = some (.bool (sA s.sc k).a) := hcl6 (k * 6 + 3) _ (by
    rw [scsC, flat_get scC 6 scC_length s.sc k 3 (by omega), List.getElem?_eq_getElem HKN.out, sA_eq HKN.out]
    rfl)
  have y4 := hfr6 (k * 6 + 3)
  obtain ⟨W7, hW7⟩ := name_of (w6.setCell ⟨g6, k * 6 + 3, none⟩ (.bool true))
  have hb7 : Below w5.heap.size w5 W7 := by rw [← hW7]; exact hB6.setCell (p := ⟨g6, k * 6 + 3, none⟩) hg5 _
  have hown7 : W7.ownsRow w5.heap.size 36 6 (.slice (some ⟨g6, 0, none⟩) n cap6) n (scsC (askSh s k).sc) := by
    rw [← HN.out] at hown6 ⊢
    rw [← hW7]
    exact ask_own hown6 HKN.out
  have hb57 := HB5.out.next hb7
  have hsh7 : Shm W7 (.slice Ar nr cr) (.slice (some ⟨g6, 0, none⟩) n cap6) (.slice Aw nw cw) (askSh s k) :=
    ⟨(HS.out.next hb57).rows, Sl.own hown7, (HS.out.next hb57).wks, fun x hx => by
      rcases List.mem_or_eq_of_mem_set hx with h | h
      · exact HS.out.scf x h
      · subst h
        have := sA_wf HS.out.scf HKN.out
        exact ⟨this.r, this.k, this.n, this.v⟩, HS.out.wkf⟩
  have HSH7 := Lib.hid hsh7
  have HK7 := Lib.hid (blk_next HK5.out hb7)
  have HB7 := Lib.hid hb57
  have v0 : W7.cell? ⟨w.heap.size, 0, none⟩ = some (.slice Ar nr cr) := (cell_of_row _ _ _ _ _ _ HK7.out).trans rfl
  have v2 : W7.cell? ⟨w.heap.size, 2, none⟩ = some (.slice Aw nw cw) := (cell_of_row _ _ _ _ _ _ HK7.out).trans rfl
  clear hown6 hown7 hg6 hat6 hB6 hb57 hb7 hsh7 hb6 hs2 b1 hown hcl6 hfr6 q0 q1 q2
  cases R with
  | false =>
    have hC := hAw W7
    go_wp2_with fail
    refine hC.mono ?_
    rintro e w8 ⟨rfl, hb8⟩
    have HB8 := Lib.hid (HB1.out.next (HB7.out.next hb8))
    clear hC hb8
    go_wp2_with fail
    go_ret
    exact ⟨rfl, HB8.out⟩
  | true =>
    have hal := of_decide_eq_true HR.out
    have hC := allowed_any HSH7.out (askSh_few HF.out k)
    rw [decide_eq_true ((askSh_more s k HKN.out).alOk hal)] at hC
    clear hal
    go_wp2_with fail
    refine hC.mono ?_
    clear hC
    rintro e w8 ⟨rfl, hb8⟩
    have HB8 := Lib.hid (HB7.out.next hb8)
    clear hb8
    have hC := hAw w8
    go_wp2_with fail
    refine hC.mono ?_
    rintro e w9 ⟨rfl, hb9⟩
    have HB9 := Lib.hid (HB1.out.next (HB8.out.next hb9))
    clear hC hb9
    go_wp2_with fail
    go_ret
    exact ⟨rfl, HB9.out⟩
end P20
end Go.Proofs.YtajbchecjbddgaaDoor
