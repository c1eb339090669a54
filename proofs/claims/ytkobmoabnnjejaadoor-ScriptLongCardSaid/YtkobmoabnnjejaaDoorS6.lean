/- Script: Parse. -/
import Derived.Test.YtkobmoabnnjejaaDoorS5
import Derived.RangeFuncBox
namespace Go.Proofs.YtkobmoabnnjejaaDoor
open Go.RowKit
namespace P21
open PC NumL

def parseR (s : List UInt8) : (Nat × Int) ⊕ List Ev := if 131072 < s.length then .inl (0, 12) else parseT (s.length + 1) 1 s []
def ParsePost (s : List UInt8) (w : World) (e : Ending) (w' : World) : Prop := (match parseR s with
  | .inl x => e = .returned (.tuple #[.slice none 0 0, .int .i64 (x.1 : Nat), .int .i64 x.2])
  | .inr l => ∃ v, e = .returned (.tuple #[v, .int .i64 0, .int .i64 0]) ∧ Sl w' w'.heap.size 2 v (evsC l)) ∧ Below w.heap.size w w'
theorem parse_bad {s : List UInt8} {w w' : World} {n : Nat} {c : Int} (h : parseR s = .inl (n, c)) (hb : Below w.heap.size w w') {e : Ending} (he : e = .returned (.tuple #[.slice none 0 0, .int .i64 n, .int .i64 c])) : ParsePost s w e w' := by
  unfold ParsePost; rw [h]; exact ⟨he, hb⟩
theorem parse_good {s : List UInt8} {w w' : World} {l : List Ev} (h : parseR s = .inr l) (hb : Below w.heap.size w w') {v : Value} (hv : Sl w' w'.heap.size 2 v (evsC l)) {e : Ending} (he : e = .returned (.tuple #[v, .int .i64 0, .int .i64 0])) : ParsePost s w e w' := by
  unfold ParsePost; rw [h]; exact ⟨⟨v, he, hv⟩, hb⟩
theorem results_three {tmps : Array Value} {w : World} {g2 g3 g4 : Nat} {v x y : Value} (h2 : tmps.getD 2 undef = .pointer (some ⟨g2, 0, none⟩)) (h3 : tmps.getD 3 undef = .pointer (some ⟨g3, 0, none⟩)) (h4 : tmps.getD 4 undef = .pointer (some ⟨g4, 0, none⟩))
    (c2 : w.cell? ⟨g2, 0, none⟩ = some v) (c3 : w.cell? ⟨g3, 0, none⟩ = some x) (c4 : w.cell? ⟨g4, 0, none⟩ = some y) :
    (results Tryd.f16 tmps).run Tryd.prog w = .ok (.tuple #[v, x, y]) w := by
  have h2' : tmps[2]?.getD undef = .pointer (some ⟨g2, 0, none⟩) := by simpa using h2
  have h3' : tmps[3]?.getD undef = .pointer (some ⟨g3, 0, none⟩) := by simpa using h3
  have h4' : tmps[4]?.getD undef = .pointer (some ⟨g4, 0, none⟩) := by simpa using h4
  simp [results, Tryd.results16, h2', h3', h4', go_sem, asAddr, c2, c3, c4]
/-- What the results are does not hang on other temporaries. -/
theorem leaves_put {P : Program} {fn : Func} {R : Ending → World → Prop} {t t' : Array Value} (h : results fn t = results fn t') : ∀ (ds : List Deferred) (u : FrameMode) (w : World), Leaves P fn t R ds u w → Leaves P fn t' R ds u w := by
  intro ds
  induction ds with
  | nil =>
    intro u w hl
    cases u with
    | run => exact hl
    | returning =>
      unfold Leaves at hl ⊢
      rw [← h]
      exact hl
    | panicking c => exact hl
  | cons d ds ih =>
    intro u w hl
    unfold Leaves at hl ⊢
    obtain ⟨h1, fv, cap, f, args, h2, h3, h4⟩ := hl
    refine ⟨h1, fv, cap, f, args, h2, h3, h4.mono ?_⟩
    intro e u' w' hh
    cases e with
    | returned v => exact ih _ _ hh
    | panicked c => exact ih _ _ hh
    | outgrown => exact hh
theorem parse_put {R : Ending → World → Prop} {d : Nat} (hd : d ≠ 2 ∧ d ≠ 3 ∧ d ≠ 4) (c : List PanicEntry) (a : Act) (v : Value) (w : World) (h : bodyPostD Tryd.prog Tryd.f16 R (.panic c) (a.put (some d) v) w) : bodyPostD Tryd.prog Tryd.f16 R (.panic c) a w := by
  refine leaves_put ?_ _ _ _ h
  simp only [results, Tryd.results16, Act.put]
  obtain ⟨h2, h3, h4⟩ := hd
  simp [Array.getElem?_setIfInBounds, h2, h3, h4]

def PaR (w : World) (L : List UInt8) (s i : Value) (wr : World) : Prop :=
  ∃ (rest : List UInt8) (acc : List Ev) (k f : Nat) (v : Value), s = .string ⟨rest.toArray⟩ ∧ i = .int .i64 k ∧ 1 ≤ k ∧ k + rest.length ≤ L.length + 1 ∧ acc.length + 1 = k ∧ rest.length < f ∧ parseT (L.length + 1) 1 L [] = parseT f k rest acc ∧
    wr.heap[w.heap.size]? = some (.cells #[v] 22 (0, 0)) ∧ wr.heap[w.heap.size + 1]? = some (.cells #[.int .i64 0] 3 (0, 0)) ∧ wr.heap[w.heap.size + 2]? = some (.cells #[.int .i64 0] 25 (0, 0)) ∧
    wr.ownsRow (w.heap.size + 3) 24 2 v acc.length (evsC acc) ∧ Below w.heap.size w wr ∧ w.heap.size + 3 ≤ wr.heap.size
theorem own_other {w : World} {base e size n g : Nat} {v : Value} {xs : List Value} (h : w.ownsRow base e size v n xs) (hg : g < base) (u : Value) : (w.setCell ⟨g, 0, none⟩ u).ownsRow base e size v n xs :=
  h.kept (grownBy_setCell' w g u) (by
    rcases h.2 with ⟨rfl, _⟩ | ⟨g', cap, cur, rfl, hg', _⟩
    · exact .inl rfl
    · right
      intro e
      have : g' = g := by simpa [Value.ownBlock] using e
      omega)
theorem blk_set {w : World} {g : Nat} {o u : Value} {t : TypeId} (h : w.heap[g]? = some (.cells #[o] t (0, 0))) : (w.setCell ⟨g, 0, none⟩ u).heap[g]? = some (.cells #[u] t (0, 0)) := by
  simp [World.setCell, Array.getElem?_modify, h]
theorem blk_other {w : World} {g g' : Nat} {o : Obj} {u : Value} (h : w.heap[g]? = some o) (hne : g ≠ g') : (w.setCell ⟨g', 0, none⟩ u).heap[g]? = some o := by
  simp [World.setCell, Array.getElem?_modify, h, Ne.symm hne]
theorem info_ev : (Tryd.prog.info? 24).map (fun i => (i.zero, i.size, i.bytes)) = some (some (.agg #[.int .i64 0, .int .i64 0]), 2, 16) := by kernel_rfl
set_option maxRecDepth 10000 in
set_option maxHeartbeats 4000000 in
theorem parse_any (s : ByteArray) (hs : s.size ≤ 1000000) (w : World) (hp : Lab w) : Calls Tryd.prog 16 #[.string s] w (ParsePost s.data.toList w) := by
  have hmf : ∀ (fn : Fn) (first cap : Array Value) (w : World), (Instr.makeFunc fn first cap).run Tryd.prog w = .ok (.func fn first cap) w := fun _ _ _ _ => rfl
  obtain ⟨i0, hi, hz0, hz1, hz2⟩ := info_parts info_ev
  have HP := Lib.hid hp
  clear hp
  by_cases hbig : 131072 < s.size
  · have HR : Hid (parseR s.data.toList = .inl (0, 12)) := Lib.hid (by unfold parseR; rw [if_pos (by rw [bs_len]; exact hbig)])
    have f1 : decide (131072 < (s.size : Int)) = true := by simp; omega
    go_enter_defers Tryd.func16, Tryd.ntmps16
    go_wp2_with fail
    refine ⟨_, results_three rfl rfl rfl (v := .slice none 0 0) (x := .int .i64 0) (y := .int .i64 12) ?_ ?_ ?_, parse_bad HR.out (by go_grown) rfl⟩
    · go_simp
    · go_simp
    · go_simp
  · have HR : Hid (parseR s.data.toList = parseT (s.data.toList.length + 1) 1 s.data.toList []) := Lib.hid (by unfold parseR; rw [if_neg (by rw [bs_len]; exact hbig)])
    have f1 : decide (131072 < (s.size : Int)) = false := by simp; omega
    have hL : s.data.toList.length ≤ 131072 := by rw [bs_len]; omega
    go_enter_defers Tryd.func16, Tryd.ntmps16
    go_wp2_with fail
    go_loopw [0, 5] (fun v0 v5 wr => PaR w s.data.toList v0 v5 wr) (fun v0 _ _ => match v0 with | .string b => b.size | _ => 0)
    case atStart =>
      refine ⟨s.data.toList, [], 1, s.data.toList.length + 1, .slice none 0 0, rfl, rfl, Nat.le_refl _, by omega, rfl, by omega, rfl, ?_, ?_, ?_, World.ownsRow_nil _ _ _ _, by go_grown, by simp⟩
      · exact blk_next (blk_next (heap_alloc_last w _) (by go_grown)) (by go_grown)
      · have := blk_next (heap_alloc_last (w.alloc (.cells #[.slice none 0 0] 22)) (.cells #[.int .i64 0] 3)) (w' := ((w.alloc (.cells #[.slice none 0 0] 22)).alloc (.cells #[.int .i64 0] 3)).alloc (.cells #[.int .i64 0] 25)) (by go_grown)
        simpa using this
      · have := heap_alloc_last ((w.alloc (.cells #[.slice none 0 0] 22)).alloc (.cells #[.int .i64 0] 3)) (.cells #[.int .i64 0] 25)
        simpa using this
    case round =>
      obtain ⟨rest, acc, k, f, v, rfl, rfl, hk1, hkl, hacc, hf, hpt, h2, h3, h4, hown, hBr, hsz⟩ := hrel
      obtain ⟨A0, m0, c0, rfl⟩ := own_slice hown
      have HPT := Lib.hid hpt
      have HACC := Lib.hid hacc
      have hal : acc.length ≤ 131072 := by omega
      clear hacc
      have HH2 := Lib.hid h2
      clear hpt
      by_cases hnil : rest = []
      · subst hnil
        have HRES : Hid (parseR s.data.toList = .inr acc) := Lib.hid (by
          rw [HR.out, HPT.out]
          cases f with
          | zero => omega
          | succ f => rfl)
        have c2 := cell_of_row _ _ 0 _ _ _ h2
        have c3 := cell_of_row _ _ 0 _ _ _ h3
        have c4 := cell_of_row _ _ 0 _ _ _ h4
        have f2 : wr.frozen? ⟨w.heap.size, 0, none⟩ = false := by simp [World.frozen?, h2]
        have f3 : wr.frozen? ⟨w.heap.size + 1, 0, none⟩ = false := by simp [World.frozen?, h3]
        have f4 : wr.frozen? ⟨w.heap.size + 1 + 1, 0, none⟩ = false := by simp [World.frozen?, h4]
        clear h2 h3 h4 HH2
        go_wp2_with fail
        refine leaves_cons (f := 33) (args := #[.pointer (some ⟨w.heap.size, 0, none⟩), .pointer (some ⟨w.heap.size + 1, 0, none⟩), .pointer (some ⟨w.heap.size + 1 + 1, 0, none⟩)]) (by simp) (by simp [go_sem]) ?_
        refine (caught_idle _ _ _ _).mono ?_
        rintro e u' w3 ⟨rfl, rfl, rfl⟩
        refine ⟨_, results_three rfl rfl rfl (v := .slice A0 m0 c0) (x := .int .i64 0) (y := .int .i64 0) ?_ ?_ ?_, parse_good HRES.out (((hBr.setCell (p := ⟨w.heap.size, 0, none⟩) (Nat.le_refl _) _).setCell (p := ⟨w.heap.size + 1, 0, none⟩) (Nat.le_add_right _ _) _).setCell (p := ⟨w.heap.size + 1 + 1, 0, none⟩) (Nat.le_trans (Nat.le_add_right _ 1) (Nat.le_add_right _ 1)) _) (Sl.own (own_other (own_other (own_other hown (by omega) _) (by omega) _) (by omega) _)) rfl⟩
        · go_simp
        · go_simp
        · go_simp
      · skip
        obtain ⟨f, rfl⟩ : ∃ f', f = f' + 1 := ⟨f - 1, by omega⟩
        have e0 : ((⟨rest.toArray⟩ : ByteArray).toList == (⟨#[]⟩ : ByteArray).toList) = false := str_bne (fun h => hnil (bs_inj (m := []) h))
        have e1 : rest.isEmpty = false := by
          cases rest with
          | nil => exact absurd rfl hnil
          | cons => rfl
        have e2 : (!rest.isEmpty) = true := by rw [e1]; rfl
        have hcl := (cutB_len 10 rest).2.2 hnil
        have hcl1 := (cutB_len 10 rest).1
        have HST : Hid (parseT (f + 1) k rest acc = match evT (cutB 10 rest).1 (cutB 10 rest).2.2 with
            | .inl c => .inl (k, c)
            | .inr e => parseT f (k + 1) (cutB 10 rest).2.1 (acc ++ [e])) := Lib.hid (by rw [parseT, if_neg hnil]; rfl)
        have hlab := HP.out.next hBr
        obtain ⟨m, hm⟩ := hlab.max
        have hC := Tryd.strings_Cut ⟨rest.toArray⟩ ⟨#[10]⟩ m wr (by show rest.length < _; omega) hm
        rw [show (⟨rest.toArray⟩ : ByteArray).data.toList = rest from rfl, show (⟨#[10]⟩ : ByteArray).data.toList = [10] from rfl, cut_cutB] at hC
        obtain ⟨⟨t, r, wh⟩, hx⟩ := name_of (cutB 10 rest)
        rw [hx] at hC HST hcl hcl1
        dsimp only at hC HST hcl hcl1
        have hEv := fun W (hl : Lab W) => event_any ⟨t.toArray⟩ (by show t.length ≤ _; omega) wh (k : Int) W hl
        rw [show (⟨t.toArray⟩ : ByteArray).data.toList = t from rfl] at hEv
        cases hev : evT t wh with
        | inl c =>
          have HBAD : Hid (parseR s.data.toList = .inl (k, c)) := Lib.hid (by rw [HR.out, HPT.out, HST.out, hev])
          unfold EvPost at hEv
          simp only [hev] at hEv
          clear hx hm hlab hnil hev
          go_wp2_with fail
          refine hC.mono ?_
          rintro e w3 ⟨rfl, q, rfl⟩
          have hq := below_drewn (w := wr) q
          obtain ⟨W0, hW0⟩ := name_of (wr.drewN q)
          rw [hW0] at hq ⊢
          have hq1 := hq.next (below_drew' (w := W0))
          clear hC
          go_wp2_with fail
          refine wp_region_held_drew (S := fun _ => True) (by kernel_rfl) trivial (fun hH => ?_)
          obtain ⟨W1, hW1⟩ := name_of W0.drew
          rw [hW1] at hq1 ⊢
          have j2 := blk_next h2 hq1
          have j3 := blk_next h3 hq1
          have j4 := blk_next h4 hq1
          have jown := own_below hown hq1
          have jB := hBr.next hq1
          have jsz : w.heap.size + 3 ≤ W1.heap.size := Nat.le_trans hsz hq1.size
          have jL := Lib.hid (HP.out.next jB)
          have HQ1 := Lib.hid hq1
          clear h2 h3 h4 hown hBr hsz HH2 hq hq1 hW0 hW1
          refine Rg.take (i := 1) (d := 24) (v := .string ⟨t.toArray⟩) rfl rfl (by kernel_rfl) (by kernel_rfl) (by kernel_rfl) (fun c a w h => parse_put ⟨by decide, by decide, by decide⟩ c a _ w h) (by kernel_rfl) (fun W _ => ?_) trivial ?_
          · go_simp
          simp only [List.setIfInBounds_toArray, List.set_cons_zero, List.set_cons_succ]
          refine Rg.take (i := 2) (d := 25) (v := .bool wh) rfl rfl (by kernel_rfl) (by kernel_rfl) (by kernel_rfl) (fun c a w h => parse_put ⟨by decide, by decide, by decide⟩ c a _ w h) (by kernel_rfl) (fun W _ => ?_) trivial ?_
          · go_simp
          simp only [List.setIfInBounds_toArray, List.set_cons_zero, List.set_cons_succ]
          refine Rg.take (i := 3) (d := 26) (v := .int .i64 k) rfl rfl (by kernel_rfl) (by kernel_rfl) (by kernel_rfl) (fun c a w h => parse_put ⟨by decide, by decide, by decide⟩ c a _ w h) (by kernel_rfl) (fun W _ => ?_) trivial ?_
          · go_simp
          simp only [List.setIfInBounds_toArray, List.set_cons_zero, List.set_cons_succ]
          refine wpAnyH_ready (rs := [0, 4]) (by kernel_rfl) (by simp) ?_
          refine AllReadyH.cons rfl (fun K hK => ?_) (AllReadyH.cons rfl (fun K hK => ?_) AllReadyH.nil)
          · skip
            have c2 := cell_of_row _ _ 0 _ _ _ j2
            go_simp
            refine hK.out _ _ trivial (fun hH => ?_)
            clear hK K
            refine wpAnyH_ready (rs := [4]) (by kernel_rfl) (by simp) ?_
            refine AllReadyH.cons rfl (fun K hK => ?_) AllReadyH.nil
            go_simp
            refine (hEv _ jL.out).mono ?_
            rintro e w5 ⟨rfl, hb5⟩
            refine leaves_cons (f := 33) (args := #[.pointer (some ⟨w.heap.size, 0, none⟩), .pointer (some ⟨w.heap.size + 1, 0, none⟩), .pointer (some ⟨w.heap.size + 1 + 1, 0, none⟩)]) (by simp) (by simp [go_sem]) ?_
            have i2 := blk_next j2 hb5
            have i3 := blk_next j3 hb5
            have i4 := blk_next j4 hb5
            refine (caught_broken w.heap.size (w.heap.size + 1) (w.heap.size + 1 + 1) k c (.slice A0 m0 c0) 0 0 w5 (cell_of_row _ _ 0 _ _ _ i2) (cell_of_row _ _ 0 _ _ _ i3) (cell_of_row _ _ 0 _ _ _ i4) (by simp [World.frozen?, i2]) (by simp [World.frozen?, i3]) (by simp [World.frozen?, i4]) (by omega) (by omega) (by omega) w.heap.size (Nat.le_trans jB.size hb5.size) (Nat.le_refl _) (by omega) (by omega)).mono ?_
            rintro e u' w6 ⟨rfl, rfl, x2, x3, x4, hb6⟩
            exact ⟨_, results_three rfl rfl rfl x2 x3 x4, parse_bad HBAD.out ((jB.next hb5).trans hb6) rfl⟩
          · skip
            go_simp
            refine (hEv _ jL.out).mono ?_
            rintro e w5 ⟨rfl, hb5⟩
            refine leaves_cons (f := 33) (args := #[.pointer (some ⟨w.heap.size, 0, none⟩), .pointer (some ⟨w.heap.size + 1, 0, none⟩), .pointer (some ⟨w.heap.size + 1 + 1, 0, none⟩)]) (by simp) (by simp [go_sem]) ?_
            have i2 := blk_next j2 hb5
            have i3 := blk_next j3 hb5
            have i4 := blk_next j4 hb5
            refine (caught_broken w.heap.size (w.heap.size + 1) (w.heap.size + 1 + 1) k c (.slice A0 m0 c0) 0 0 w5 (cell_of_row _ _ 0 _ _ _ i2) (cell_of_row _ _ 0 _ _ _ i3) (cell_of_row _ _ 0 _ _ _ i4) (by simp [World.frozen?, i2]) (by simp [World.frozen?, i3]) (by simp [World.frozen?, i4]) (by omega) (by omega) (by omega) w.heap.size (Nat.le_trans jB.size hb5.size) (Nat.le_refl _) (by omega) (by omega)).mono ?_
            rintro e u' w6 ⟨rfl, rfl, x2, x3, x4, hb6⟩
            exact ⟨_, results_three rfl rfl rfl x2 x3 x4, parse_bad HBAD.out ((jB.next hb5).trans hb6) rfl⟩
        | inr x =>
          obtain ⟨xk, xn⟩ := x
          have HSTEP : Hid ((match evT t wh with
              | .inl c => .inl (k, c)
              | .inr e => parseT f (k + 1) r (acc ++ [e])) = parseT f (k + 1) r (acc ++ [⟨xk, xn⟩])) := Lib.hid (by rw [hev])
          unfold EvPost at hEv
          simp only [hev] at hEv
          unfold evV at hEv
          clear hx hm hlab hnil hev
          go_wp2_with fail
          refine hC.mono ?_
          rintro e w3 ⟨rfl, q, rfl⟩
          have hq := below_drewn (w := wr) q
          obtain ⟨W0, hW0⟩ := name_of (wr.drewN q)
          rw [hW0] at hq ⊢
          have hq1 := hq.next (below_drew' (w := W0))
          clear hC
          go_wp2_with fail
          refine wp_region_held_drew (S := fun _ => True) (by kernel_rfl) trivial (fun hH => ?_)
          obtain ⟨W1, hW1⟩ := name_of W0.drew
          rw [hW1] at hq1 ⊢
          have j2 := blk_next h2 hq1
          have j3 := blk_next h3 hq1
          have j4 := blk_next h4 hq1
          have jown := own_below hown hq1
          have jB := hBr.next hq1
          have jsz : w.heap.size + 3 ≤ W1.heap.size := Nat.le_trans hsz hq1.size
          have jL := Lib.hid (HP.out.next jB)
          have HQ1 := Lib.hid hq1
          clear h2 h3 h4 hown hBr hsz HH2 hq hq1 hW0 hW1
          refine Rg.take (i := 1) (d := 24) (v := .string ⟨t.toArray⟩) rfl rfl (by kernel_rfl) (by kernel_rfl) (by kernel_rfl) (fun c a w h => parse_put ⟨by decide, by decide, by decide⟩ c a _ w h) (by kernel_rfl) (fun W _ => ?_) trivial ?_
          · go_simp
          simp only [List.setIfInBounds_toArray, List.set_cons_zero, List.set_cons_succ]
          refine Rg.take (i := 2) (d := 25) (v := .bool wh) rfl rfl (by kernel_rfl) (by kernel_rfl) (by kernel_rfl) (fun c a w h => parse_put ⟨by decide, by decide, by decide⟩ c a _ w h) (by kernel_rfl) (fun W _ => ?_) trivial ?_
          · go_simp
          simp only [List.setIfInBounds_toArray, List.set_cons_zero, List.set_cons_succ]
          refine Rg.take (i := 3) (d := 26) (v := .int .i64 k) rfl rfl (by kernel_rfl) (by kernel_rfl) (by kernel_rfl) (fun c a w h => parse_put ⟨by decide, by decide, by decide⟩ c a _ w h) (by kernel_rfl) (fun W _ => ?_) trivial ?_
          · go_simp
          simp only [List.setIfInBounds_toArray, List.set_cons_zero, List.set_cons_succ]
          refine wpAnyH_ready (rs := [0, 4]) (by kernel_rfl) (by simp) ?_
          refine AllReadyH.cons rfl (fun K hK => ?_) (AllReadyH.cons rfl (fun K hK => ?_) AllReadyH.nil)
          · skip
            have c2 := cell_of_row _ _ 0 _ _ _ j2
            go_simp
            refine hK.out _ _ trivial (fun hH => ?_)
            clear hK K
            refine wpAnyH_ready (rs := [4]) (by kernel_rfl) (by simp) ?_
            refine AllReadyH.cons rfl (fun K hK => ?_) AllReadyH.nil
            go_simp
            refine (hEv _ jL.out).mono ?_
            rintro e w5 ⟨rfl, hb5⟩
            go_simp
            refine hK.out _ _ trivial (fun hH => ?_)
            clear hK K
            refine wpAnyH_ready (rs := [5]) (by kernel_rfl) (by simp) ?_
            refine AllReadyH.cons rfl (fun K hK => ?_) AllReadyH.nil
            go_simp
            refine hK.out _ _ trivial (fun hH => ?_)
            clear hK K
            have hA5 : Below w5.heap.size w5 (w5.alloc (.cells #[.int .i64 xk, .int .i64 xn] 24)) := by go_grown
            have hb55 := hb5.next hA5
            have i2 := blk_next j2 hb55
            have i3 := blk_next j3 hb55
            have i4 := blk_next j4 hb55
            have iown := own_below jown hb55
            have iB := jB.next hb55
            have isz : w.heap.size + 3 ≤ (w5.alloc (.cells #[.int .i64 xk, .int .i64 xn] 24)).heap.size := Nat.le_trans jsz hb55.size
            refine wpAnyH_ready (rs := [6]) (by kernel_rfl) (by simp) ?_
            refine AllReadyH.cons rfl (fun K hK => ?_) AllReadyH.nil
            refine step_append_lies _ rfl (.tmp 23) (.tmp 28) 22 rfl (w.heap.size + 3) 24 i0 _ 2 16 Tryd.underlying22 hi hz0 hz1 hz2 rfl (by decide) (.slice A0 m0 c0) acc.length _ rfl iown ⟨w5.heap.size, 0, none⟩ 1 1 (evC ⟨xk, xn⟩) rfl rfl ?_ (evC_one _) (by omega) (by simp only [maxLen]; omega) (by omega) isz _ rfl ?_
            · intro j u hj
              rw [Addr.add_mid, cell_of_row _ _ _ _ _ _ (heap_alloc_last w5 _), Nat.zero_add]
              simpa [evC] using hj
            intro g' cap' w6 hown6 hg6 hat6 hlt6
            have hB6 := below_append iB iown hg6 (by omega)
            have k2 := grown_block hg6 i2 (own_ne iown i2 (by decide))
            have k3 := grown_block hg6 i3 (own_ne iown i3 (by decide))
            have k4 := grown_block hg6 i4 (own_ne iown i4 (by decide))
            have k2c := cell_of_row _ _ 0 _ _ _ k2
            have k2f : w6.frozen? ⟨w.heap.size, 0, none⟩ = false := by simp [World.frozen?, k2]
            have ksz : w.heap.size + 3 ≤ w6.heap.size := Nat.le_trans isz hg6.size
            refine hK.out _ _ trivial (fun hH => ?_)
            clear hK K
            simp only [Act.put, List.setIfInBounds_toArray]
            refine wpAnyH_ready (rs := [7]) (by kernel_rfl) (by simp) ?_
            refine AllReadyH.cons rfl (fun K hK => ?_) AllReadyH.nil
            go_simp
            refine hK.out _ _ trivial (fun hH => ?_)
            clear hK K
            refine wpAnyH_done (by kernel_rfl) ?_ _
            have HK2 := Lib.hid k2
            have HK3 := Lib.hid k3
            have HK4 := Lib.hid k4
            have HO6 := Lib.hid hown6
            have HB6 := Lib.hid hB6
            clear hg6 hat6 iown jown j2 j3 j4 i2 i3 i4 k2 k3 k4 hown6 hB6 iB jB hA5 hb55 hb5 hEv
            go_wp2_with fail
            refine ⟨⟨r, acc ++ [⟨xk, xn⟩], k + 1, f, .slice (some ⟨g', 0, none⟩) (acc.length + 1) cap', rfl, by go_num, by omega, by omega, by rw [List.length_append, ← HACC.out]; rfl, by omega, HPT.out.trans (HST.out.trans HSTEP.out), blk_set HK2.out, blk_other HK3.out (by omega), blk_other HK4.out (by omega), ?_, HB6.out.setCell (p := ⟨w.heap.size, 0, none⟩) (Nat.le_refl _) _, by rw [set_size]; exact ksz⟩, by simp [ByteArray.size]; omega⟩
            rw [List.length_append, evsC_append]
            exact own_other HO6.out (by omega) _
          · skip
            go_simp
            refine (hEv _ jL.out).mono ?_
            rintro e w5 ⟨rfl, hb5⟩
            go_simp
            refine hK.out _ _ trivial (fun hH => ?_)
            clear hK K
            refine wpAnyH_ready (rs := [0, 5]) (by kernel_rfl) (by simp) ?_
            refine AllReadyH.cons rfl (fun K hK => ?_) (AllReadyH.cons rfl (fun K hK => ?_) AllReadyH.nil)
            · skip
              have c2 := cell_of_row _ _ 0 _ _ _ (blk_next j2 hb5)
              go_simp
              refine hK.out _ _ trivial (fun hH => ?_)
              clear hK K
              refine wpAnyH_ready (rs := [5]) (by kernel_rfl) (by simp) ?_
              refine AllReadyH.cons rfl (fun K hK => ?_) AllReadyH.nil
              go_simp
              refine hK.out _ _ trivial (fun hH => ?_)
              clear hK K
              have hA5 : Below w5.heap.size w5 (w5.alloc (.cells #[.int .i64 xk, .int .i64 xn] 24)) := by go_grown
              have hb55 := hb5.next hA5
              have i2 := blk_next j2 hb55
              have i3 := blk_next j3 hb55
              have i4 := blk_next j4 hb55
              have iown := own_below jown hb55
              have iB := jB.next hb55
              have isz : w.heap.size + 3 ≤ (w5.alloc (.cells #[.int .i64 xk, .int .i64 xn] 24)).heap.size := Nat.le_trans jsz hb55.size
              refine wpAnyH_ready (rs := [6]) (by kernel_rfl) (by simp) ?_
              refine AllReadyH.cons rfl (fun K hK => ?_) AllReadyH.nil
              refine step_append_lies _ rfl (.tmp 23) (.tmp 28) 22 rfl (w.heap.size + 3) 24 i0 _ 2 16 Tryd.underlying22 hi hz0 hz1 hz2 rfl (by decide) (.slice A0 m0 c0) acc.length _ rfl iown ⟨w5.heap.size, 0, none⟩ 1 1 (evC ⟨xk, xn⟩) rfl rfl ?_ (evC_one _) (by omega) (by simp only [maxLen]; omega) (by omega) isz _ rfl ?_
              · intro j u hj
                rw [Addr.add_mid, cell_of_row _ _ _ _ _ _ (heap_alloc_last w5 _), Nat.zero_add]
                simpa [evC] using hj
              intro g' cap' w6 hown6 hg6 hat6 hlt6
              have hB6 := below_append iB iown hg6 (by omega)
              have k2 := grown_block hg6 i2 (own_ne iown i2 (by decide))
              have k3 := grown_block hg6 i3 (own_ne iown i3 (by decide))
              have k4 := grown_block hg6 i4 (own_ne iown i4 (by decide))
              have k2c := cell_of_row _ _ 0 _ _ _ k2
              have k2f : w6.frozen? ⟨w.heap.size, 0, none⟩ = false := by simp [World.frozen?, k2]
              have ksz : w.heap.size + 3 ≤ w6.heap.size := Nat.le_trans isz hg6.size
              refine hK.out _ _ trivial (fun hH => ?_)
              clear hK K
              simp only [Act.put, List.setIfInBounds_toArray]
              refine wpAnyH_ready (rs := [7]) (by kernel_rfl) (by simp) ?_
              refine AllReadyH.cons rfl (fun K hK => ?_) AllReadyH.nil
              go_simp
              refine hK.out _ _ trivial (fun hH => ?_)
              clear hK K
              refine wpAnyH_done (by kernel_rfl) ?_ _
              have HK2 := Lib.hid k2
              have HK3 := Lib.hid k3
              have HK4 := Lib.hid k4
              have HO6 := Lib.hid hown6
              have HB6 := Lib.hid hB6
              clear hg6 hat6 iown jown j2 j3 j4 i2 i3 i4 k2 k3 k4 hown6 hB6 iB jB hA5 hb55 hb5 hEv
              go_wp2_with fail
              refine ⟨⟨r, acc ++ [⟨xk, xn⟩], k + 1, f, .slice (some ⟨g', 0, none⟩) (acc.length + 1) cap', rfl, by go_num, by omega, by omega, by rw [List.length_append, ← HACC.out]; rfl, by omega, HPT.out.trans (HST.out.trans HSTEP.out), blk_set HK2.out, blk_other HK3.out (by omega), blk_other HK4.out (by omega), ?_, HB6.out.setCell (p := ⟨w.heap.size, 0, none⟩) (Nat.le_refl _) _, by rw [set_size]; exact ksz⟩, by simp [ByteArray.size]; omega⟩
              rw [List.length_append, evsC_append]
              exact own_other HO6.out (by omega) _
            · skip
              go_simp
              refine hK.out _ _ trivial (fun hH => ?_)
              clear hK K
              refine wpAnyH_ready (rs := [0]) (by kernel_rfl) (by simp) ?_
              refine AllReadyH.cons rfl (fun K hK => ?_) AllReadyH.nil
              have c2 := cell_of_row _ _ 0 _ _ _ (blk_next (blk_next j2 hb5) (show Below w5.heap.size w5 (w5.alloc (.cells #[.int .i64 xk, .int .i64 xn] 24)) by go_grown))
              go_simp
              refine hK.out _ _ trivial (fun hH => ?_)
              clear hK K
              have hA5 : Below w5.heap.size w5 (w5.alloc (.cells #[.int .i64 xk, .int .i64 xn] 24)) := by go_grown
              have hb55 := hb5.next hA5
              have i2 := blk_next j2 hb55
              have i3 := blk_next j3 hb55
              have i4 := blk_next j4 hb55
              have iown := own_below jown hb55
              have iB := jB.next hb55
              have isz : w.heap.size + 3 ≤ (w5.alloc (.cells #[.int .i64 xk, .int .i64 xn] 24)).heap.size := Nat.le_trans jsz hb55.size
              refine wpAnyH_ready (rs := [6]) (by kernel_rfl) (by simp) ?_
              refine AllReadyH.cons rfl (fun K hK => ?_) AllReadyH.nil
              refine step_append_lies _ rfl (.tmp 23) (.tmp 28) 22 rfl (w.heap.size + 3) 24 i0 _ 2 16 Tryd.underlying22 hi hz0 hz1 hz2 rfl (by decide) (.slice A0 m0 c0) acc.length _ rfl iown ⟨w5.heap.size, 0, none⟩ 1 1 (evC ⟨xk, xn⟩) rfl rfl ?_ (evC_one _) (by omega) (by simp only [maxLen]; omega) (by omega) isz _ rfl ?_
              · intro j u hj
                rw [Addr.add_mid, cell_of_row _ _ _ _ _ _ (heap_alloc_last w5 _), Nat.zero_add]
                simpa [evC] using hj
              intro g' cap' w6 hown6 hg6 hat6 hlt6
              have hB6 := below_append iB iown hg6 (by omega)
              have k2 := grown_block hg6 i2 (own_ne iown i2 (by decide))
              have k3 := grown_block hg6 i3 (own_ne iown i3 (by decide))
              have k4 := grown_block hg6 i4 (own_ne iown i4 (by decide))
              have k2c := cell_of_row _ _ 0 _ _ _ k2
              have k2f : w6.frozen? ⟨w.heap.size, 0, none⟩ = false := by simp [World.frozen?, k2]
              have ksz : w.heap.size + 3 ≤ w6.heap.size := Nat.le_trans isz hg6.size
              refine hK.out _ _ trivial (fun hH => ?_)
              clear hK K
              simp only [Act.put, List.setIfInBounds_toArray]
              refine wpAnyH_ready (rs := [7]) (by kernel_rfl) (by simp) ?_
              refine AllReadyH.cons rfl (fun K hK => ?_) AllReadyH.nil
              go_simp
              refine hK.out _ _ trivial (fun hH => ?_)
              clear hK K
              refine wpAnyH_done (by kernel_rfl) ?_ _
              have HK2 := Lib.hid k2
              have HK3 := Lib.hid k3
              have HK4 := Lib.hid k4
              have HO6 := Lib.hid hown6
              have HB6 := Lib.hid hB6
              clear hg6 hat6 iown jown j2 j3 j4 i2 i3 i4 k2 k3 k4 hown6 hB6 iB jB hA5 hb55 hb5 hEv
              go_wp2_with fail
              refine ⟨⟨r, acc ++ [⟨xk, xn⟩], k + 1, f, .slice (some ⟨g', 0, none⟩) (acc.length + 1) cap', rfl, by go_num, by omega, by omega, by rw [List.length_append, ← HACC.out]; rfl, by omega, HPT.out.trans (HST.out.trans HSTEP.out), blk_set HK2.out, blk_other HK3.out (by omega), blk_other HK4.out (by omega), ?_, HB6.out.setCell (p := ⟨w.heap.size, 0, none⟩) (Nat.le_refl _) _, by rw [set_size]; exact ksz⟩, by simp [ByteArray.size]; omega⟩
              rw [List.length_append, evsC_append]
              exact own_other HO6.out (by omega) _
end P21
end Go.Proofs.YtkobmoabnnjejaaDoor
