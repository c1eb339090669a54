/- Asm: Read. -/
import Derived.Test.YtggdbceommmllaaDoorA3l
namespace Go.Proofs.YtggdbceommmllaaDoor
open Go.RowKit
namespace P3
open P2 PC NumL CutL

theorem splitC_words (c : UInt8) : ∀ (n : Nat) (l : List UInt8), l.length = n → ∀ w ∈ splitC c l, w.length ≤ l.length := by
  intro n
  induction n using Nat.strongRecOn with
  | ind n ih =>
    intro l hl w hw
    rcases first_of c l with h | ⟨a, b, rfl, h⟩
    · rw [splitC_miss c l h, List.mem_singleton] at hw
      rw [hw]; exact Nat.le_refl _
    · rw [splitC_hit c a b h] at hw
      rcases List.mem_cons.1 hw with rfl | hw
      · simp
      · have := ih b.length (by rw [← hl]; simp; omega) b rfl w hw
        simp
        omega
theorem splitC_num (c : UInt8) (l : List UInt8) : (splitC c l).length ≤ l.length + 1 := by
  rw [splitC_len]
  have := List.count_le_length (a := c) (l := l)
  omega
theorem wv_eq {ss : List ByteArray} {ws : List (List UInt8)} (h : ss.map (·.data.toList) = ws) : ss.map Value.string = wv ws := by
  subst h
  simp only [wv, List.map_map]
  rfl
theorem split_any (c : UInt8) (s : ByteArray) (hs : s.size ≤ 200000) (w : World) (hp : Lb w) : Calls Tryd.prog 37 #[.string s, .string ⟨#[c]⟩] w fun e w' =>
    e = .returned (.slice (some ⟨w.heap.size, 0, none⟩) (splitC c s.data.toList).length (splitC c s.data.toList).length) ∧ w' = w.alloc (.cells (wv (splitC c s.data.toList)).toArray 9) := by
  obtain ⟨m, hm⟩ := hp.max
  obtain ⟨h1, h2⟩ := splitB_eq s c
  refine (Tryd.strings_Split s ⟨#[c]⟩ m w (by omega) hm (Nat.le_refl 1)).mono ?_
  rintro e w' ⟨rfl, rfl⟩
  rw [h2, wv_eq h1]
  exact ⟨rfl, rfl⟩
theorem Sl.words (w : World) (ws : List (List UInt8)) : Sl (w.alloc (.cells (wv ws).toArray 9)) (w.alloc (.cells (wv ws).toArray 9)).heap.size 1 (.slice (some ⟨w.heap.size, 0, none⟩) ws.length ws.length) (wv ws) :=
  Sl.new w _ _ _ _ rfl (by simp) rfl
theorem readW_cons {x : List UInt8} {us : List (List UInt8)} {op : Nat} (h : opOf x = some op) : readW (x :: us) = if us.length = countF op then opsR op [0, 1, 2, 3] us (op, 0, 0, 0, 0) else .inl 11 := by
  unfold readW
  rw [List.headD_cons, h]
  rfl
theorem readW_none {x : List UInt8} {us : List (List UInt8)} (h : opOf x = none) : readW (x :: us) = .inl 14 := by
  unfold readW
  rw [List.headD_cons, h]
theorem opOf_all {x : List UInt8} (h : ∀ j, j < 17 → nameL j ≠ x) : opOf x = none := opOf_none fun op ho => h op (by omega)
/-- What stands while Read's last line is laid. -/
abbrev RdS (X op : Nat) (w0 W : World) : Prop := W.cell? ⟨X, 1, none⟩ = some (.int .u8 (form op 0 : Nat)) ∧ W.cell? ⟨X, 2, none⟩ = some (.int .u8 (form op 1 : Nat)) ∧ W.cell? ⟨X, 3, none⟩ = some (.int .u8 (form op 2 : Nat)) ∧ W.cell? ⟨X, 4, none⟩ = some (.int .u8 (form op 3 : Nat)) ∧ Below w0.heap.size w0 W
theorem RdS.nx {X op : Nat} {w0 W W' : World} (hb : Below W.heap.size W W') (h : RdS X op w0 W) : RdS X op w0 W' :=
  ⟨(hb.cell (World.block_lt_of_cell? _ _ h.1)).trans h.1, (hb.cell (World.block_lt_of_cell? _ _ h.2.1)).trans h.2.1, (hb.cell (World.block_lt_of_cell? _ _ h.2.2.1)).trans h.2.2.1, (hb.cell (World.block_lt_of_cell? _ _ h.2.2.2.1)).trans h.2.2.2.1, h.2.2.2.2.next hb⟩
theorem RdS.set {X op B : Nat} {w0 W : World} (h : RdS X op w0 W) (hB : w0.heap.size ≤ B) (hX : B < X) (j : Nat) (u : Value) : RdS X op w0 (W.setCell ⟨B, j, none⟩ u) := by
  have hn : ∀ i, (⟨B, j, none⟩ : Addr) ≠ ⟨X, i, none⟩ := fun i e => by injection e with e _ _; omega
  exact ⟨(World.cell?_setCell_other _ _ _ _ (hn 1)).trans h.1, (World.cell?_setCell_other _ _ _ _ (hn 2)).trans h.2.1, (World.cell?_setCell_other _ _ _ _ (hn 3)).trans h.2.2.1, (World.cell?_setCell_other _ _ _ _ (hn 4)).trans h.2.2.2.1, h.2.2.2.2.setCell (p := ⟨B, j, none⟩) hB u⟩
abbrev zerC : Array Value := #[.int .i64 0, .int .i64 0, .int .i64 0, .int .i64 0, .int .i64 0]
theorem blk_five {w : World} {g : Nat} {t : TypeId} {fr : Nat × Nat} (h : w.heap[g]? = some (.cells zerC t fr)) (v0 v1 v2 v3 v4 : Value) :
    (((((w.setCell ⟨g, 0, none⟩ v0).setCell ⟨g, 1, none⟩ v1).setCell ⟨g, 2, none⟩ v2).setCell ⟨g, 3, none⟩ v3).setCell ⟨g, 4, none⟩ v4).heap[g]? = some (.cells #[v0, v1, v2, v3, v4] t fr) :=
  blk_set (blk_set (blk_set (blk_set (blk_set h v0) v1) v2) v3) v4
theorem five_of {w : World} {g : Nat} {cs : Array Value} {t : TypeId} (h : w.heap[g]? = some (.cells cs t (0, 0))) : (∀ j v, cs[j]? = some v → w.cell? ⟨g, j, none⟩ = some v) ∧ ∀ j, w.frozen? ⟨g, j, none⟩ = false :=
  ⟨fun j v hj => by rw [cell_of_row _ _ _ _ _ _ h]; exact hj, fun j => by simp [World.frozen?, h]⟩
theorem there_five {w : World} {g : Nat} {t : TypeId} (h : w.heap[g]? = some (.cells zerC t (0, 0))) : w.there g 0 5 := fun j hj => by
  have hc := cell_of_row w g (0 + j) _ _ _ h
  refine ⟨?_, by simp [World.frozen?, h]⟩
  rw [hc]
  have : j = 0 ∨ j = 1 ∨ j = 2 ∨ j = 3 ∨ j = 4 := by omega
  rcases this with rfl | rfl | rfl | rfl | rfl <;> rfl
theorem setCells_five (w : World) (g : Nat) (a b c d e : Value) : w.setCells g 0 [a, b, c, d, e] = ((((w.setCell ⟨g, 0, none⟩ a).setCell ⟨g, 1, none⟩ b).setCell ⟨g, 2, none⟩ c).setCell ⟨g, 3, none⟩ d).setCell ⟨g, 4, none⟩ e := rfl
theorem resI_inl (c : Int) : resI (.inl c) = .tuple #[.agg zerC, .int .i64 c] := rfl
theorem resI_inr (o a b c n : Int) : resI (.inr (o, a, b, c, n)) = .tuple #[.agg #[.int .i64 o, .int .i64 a, .int .i64 b, .int .i64 c, .int .i64 n], .int .i64 0] := rfl
/-- The five numbers and the error of what was read. -/
theorem resI_five (r : Int ⊕ Ins) : ∃ o a b c n e : Int, resI r = .tuple #[.agg #[.int .i64 o, .int .i64 a, .int .i64 b, .int .i64 c, .int .i64 n], .int .i64 e] := by
  rcases r with c | ⟨o, a, b, c, n⟩
  · exact ⟨0, 0, 0, 0, 0, c, rfl⟩
  · exact ⟨o, a, b, c, n, 0, rfl⟩
set_option maxRecDepth 10000 in
set_option maxHeartbeats 8000000 in
theorem read_any (s : ByteArray) (hs : s.size ≤ 200000) (w : World) (hp : Lb w) : Calls Tryd.prog 16 #[.string s] w (InsPost (readA s.data.toList) w) := by
  obtain ⟨R, hR⟩ := name_of (readA s.data.toList)
  have HR : Hid (readW (splitC 32 s.data.toList) = R) := Lib.hid hR
  rw [hR]
  have hsp := split_any 32 s hs (w.alloc (.cells zerC 33)) (hp.next ((Below.refl _ _).alloc (Nat.le_refl _) _))
  have hwl := splitC_words 32 _ s.data.toList rfl
  have hnum := splitC_num 32 s.data.toList
  obtain ⟨y, us, hws⟩ : ∃ y us, splitC 32 s.data.toList = y :: us := by
    cases h : splitC 32 s.data.toList with
    | nil => exact absurd h (splitC_ne 32 _)
    | cons x us => exact ⟨x, us, rfl⟩
  rw [hws] at HR hsp hwl hnum
  rw [bs_len] at hwl hnum
  have HUL : Hid (∀ u ∈ us, u.length ≤ 200000) := Lib.hid fun u hu => Nat.le_trans (hwl u (by simp [hu])) hs
  have hul : us.length ≤ 200000 := by rw [List.length_cons] at hnum; omega
  have hsl := Sl.words (w.alloc (.cells zerC 33)) (y :: us)
  rw [List.length_cons] at hsl hsp
  obtain ⟨n, hn⟩ := name_of us.length
  rw [hn] at hsl hsp hul
  have HN := Lib.hid hn
  obtain ⟨ys, hys⟩ := name_of (⟨y.toArray⟩ : ByteArray)
  have HYS := Lib.hid hys
  clear hR hws hwl hnum hn hp hys
  go_enter Tryd.func16, Tryd.ntmps16
  go_wp2_with fail
  refine hsp.mono ?_
  rintro e w1 ⟨rfl, hw1⟩
  have hB1 : Below w.heap.size w w1 := by rw [hw1]; go_grown
  have hg1 : w1.heap[w.heap.size]? = some (.cells zerC 33 (0, 0)) := by rw [hw1]; exact (alloc_keep _ _ (by simp)).trans (heap_alloc_last w _)
  rw [← hw1] at hsl
  clear hsp hw1
  rw [show (w.alloc (.cells zerC 33)).heap.size = w.heap.size + 1 by simp] at hsl ⊢
  go_wp2_with fail
  refine (entries_any w1).mono ?_
  rintro e w2 ⟨rfl, hb2⟩
  have hB2 := hB1.next hb2
  have HG2 := Lib.hid (blk_next hg1 hb2)
  have HSL := Lib.hid (hsl.next hb2)
  clear hsl hg1 hb2 hB1
  go_wp2_with fail
  go_loopw [10] (fun x wr => ∃ k : Nat, k ≤ 17 ∧ x = .int .i64 k ∧ Hid (∀ j, j < k → nameL j ≠ y) ∧ Below w2.heap.size w2 wr) (fun x _ => 17 - (intOf x).toNat)
  case atStart => exact ⟨0, Nat.zero_le _, rfl, Lib.hid (fun j h => absurd h (by omega)), Below.refl _ _⟩
  case round =>
    obtain ⟨k, hk, rfl, HNO, hBr⟩ := hrel
    by_cases hlt : k < 17
    · have hix := fun W => idx_entry k (by omega) W
      have HSr := HSL.out.next hBr
      have hcy : wr.cell? ⟨w.heap.size + 1, 0, none⟩ = some (.string ys) := by
        obtain ⟨A, m, c, he, _, _, hA⟩ := HSr
        injection he with e1 e2 e3
        subst e1 e2 e3
        obtain ⟨b, off, e, _, hr⟩ := hA (by omega)
        injection e with e
        injection e with e1 e2 _
        subst e1 e2
        rw [← HYS.out]
        exact hr 0 _ rfl
      have hl1 : w.heap.size + 1 < wr.heap.size := World.block_lt_of_cell? _ _ hcy
      have HST := Lib.hid (sl_tail HSr)
      have HGr := Lib.hid (blk_next HG2.out hBr)
      have hBw := hB2.next hBr
      clear HSr
      by_cases hm : nameL k = y
      · have heq : ((nameS k).toList == ys.toList) = true := by rw [← HYS.out, ← hm]; exact str_beq _
        have HR2 : Hid ((if us.length = countF k then opsR k [0, 1, 2, 3] us ((k : Int), 0, 0, 0, 0) else .inl 11) = R) := Lib.hid (by rw [← HR.out, readW_cons (opOf_some (by omega) hm)])
        have hO := fun W v hs => operands_any k (by omega) us HUL.out (by rw [HN.out]; omega) W v hs
        rw [HR2.out] at hO
        obtain ⟨o, a, b, c, d, e5, hr5⟩ := resI_five R
        clear HR2 HR HNO hm
        go_wp2_with fail
        go_quiet (fail)
        go_wp2_with fail
        have hO' : ∀ W v, Sl W W.heap.size 1 v (wv us) → Calls Tryd.prog 38 #[.int .i64 k, .agg #[.int .u8 (form k 0 : Nat), .int .u8 (form k 1 : Nat), .int .u8 (form k 2 : Nat), .int .u8 (form k 3 : Nat)], v] W fun e w' => e = .returned (.tuple #[.agg #[.int .i64 o, .int .i64 a, .int .i64 b, .int .i64 c, .int .i64 d], .int .i64 e5]) ∧ Below W.heap.size W w' := fun W v h => (hO W v h).mono fun e w' hp => ⟨by rw [hp.1, hr5], hp.2⟩
        have hBA : Below wr.heap.size wr ((wr.alloc (.cells #[.string (nameS k), .int .u8 (form k 0 : Nat), .int .u8 (form k 1 : Nat), .int .u8 (form k 2 : Nat), .int .u8 (form k 3 : Nat)] 69)).drewN nq) := ((Below.refl _ _).alloc (Nat.le_refl _) _).next (below_drewn _)
        have hXc : ((wr.alloc (.cells #[.string (nameS k), .int .u8 (form k 0 : Nat), .int .u8 (form k 1 : Nat), .int .u8 (form k 2 : Nat), .int .u8 (form k 3 : Nat)] 69)).drewN nq).heap[wr.heap.size]? = some (.cells #[.string (nameS k), .int .u8 (form k 0 : Nat), .int .u8 (form k 1 : Nat), .int .u8 (form k 2 : Nat), .int .u8 (form k 3 : Nat)] 69 (0, 0)) := heap_alloc_last wr _
        obtain ⟨W, hW⟩ := name_of ((wr.alloc (.cells #[.string (nameS k), .int .u8 (form k 0 : Nat), .int .u8 (form k 1 : Nat), .int .u8 (form k 2 : Nat), .int .u8 (form k 3 : Nat)] 69)).drewN nq)
        rw [hW] at hBA hXc ⊢
        have hBX : w.heap.size < wr.heap.size := by omega
        obtain ⟨X, hX⟩ := name_of wr.heap.size
        rw [hX] at hXc hBX ⊢
        have hGW := blk_next HGr.out hBA
        have HGW := Lib.hid hGW
        have hBW := hBw.next hBA
        have hsc := fun W => slice_tail W (w.heap.size + 1) 0 n (n + 1) (by omega)
        have hT : Sl W W.heap.size 1 (.slice (some ⟨w.heap.size + 1, if n + 1 = 1 then 0 else 0 + 1, none⟩) n n) (wv us) := by
          have h := (HST.out.next hBA)
          split
          · rename_i h1
            obtain ⟨_, _, _, he, hnc2, hn2, hA2⟩ := h
            injection he with e1 e2 e3
            subst e1 e2 e3
            exact ⟨_, _, _, rfl, Nat.le_refl _, hn2, fun h => by omega⟩
          · exact h
        obtain ⟨f1, hf1⟩ := name_of (if n + 1 = 1 then 0 else 0 + 1)
        rw [hf1] at hT
        simp only [hf1, Nat.add_sub_cancel] at hsc
        have hTd := hT.next below_drew'
        have hx := fun j => cell_of_row W X j _ _ _ hXc
        have hS : RdS X k w W.drew := ⟨hx 1, hx 2, hx 3, hx 4, hBW.next below_drew'⟩
        clear hf1 hX hW hXc hT hBA hBw HGr HST hcy hB2 HG2 HSL hx hO hGW hBr
        refine wp_region_held_drew (S := (fun V => RdS X k w V)) (by kernel_rfl) hS (fun hH => ?_)
        refine Rg.take (i := 0) (d := 20) (v := .int .i64 k) rfl rfl (by kernel_rfl) (by kernel_rfl) (by kernel_rfl) (fun _ _ _ h => h) (by kernel_rfl) (fun W hSW => ?_) hH ?_
        · clear hSW
          go_simp
        simp only [List.setIfInBounds_toArray, List.set_cons_zero, List.set_cons_succ]
        refine Rg.take (i := 1) (d := 21) (v := .pointer (some ⟨X, 1, none⟩)) rfl rfl (by kernel_rfl) (by kernel_rfl) (by kernel_rfl) (fun _ _ _ h => h) (by kernel_rfl) (fun W hSW => ?_) hH ?_
        · clear hSW
          go_simp
        simp only [List.setIfInBounds_toArray, List.set_cons_zero, List.set_cons_succ]
        refine Rg.take (i := 2) (d := 22) (v := .agg #[.int .u8 (form k 0 : Nat), .int .u8 (form k 1 : Nat), .int .u8 (form k 2 : Nat), .int .u8 (form k 3 : Nat)]) rfl rfl (by kernel_rfl) (by kernel_rfl) (by kernel_rfl) (fun _ _ _ h => h) (by kernel_rfl) (fun W hSW => ?_) hH ?_
        · obtain ⟨h1, h2, h3, h4, -⟩ := hSW
          go_simp
        simp only [List.setIfInBounds_toArray, List.set_cons_zero, List.set_cons_succ]
        refine Rg.take (i := 3) (d := 23) (v := .slice (some ⟨w.heap.size + 1, 0, none⟩) (n + 1) (n + 1)) rfl rfl (by kernel_rfl) (by kernel_rfl) (by kernel_rfl) (fun _ _ _ h => h) (by kernel_rfl) (fun W hSW => ?_) hH ?_
        · clear hSW
          go_simp
        simp only [List.setIfInBounds_toArray, List.set_cons_zero, List.set_cons_succ]
        refine Rg.take (i := 4) (d := 24) (v := .slice (some ⟨w.heap.size + 1, f1, none⟩) n n) rfl rfl (by kernel_rfl) (by kernel_rfl) (by kernel_rfl) (fun _ _ _ h => h) (by kernel_rfl) (fun W hSW => ?_) hH ?_
        · clear hSW
          go_simp
        simp only [List.setIfInBounds_toArray, List.set_cons_zero, List.set_cons_succ]
        refine wpAnyH_ready (rs := [5]) (by kernel_rfl) (by simp) (AllReadyH.cons rfl (fun K hK => ?_) AllReadyH.nil)
        go_simp
        refine (hO' _ _ hTd).mono ?_
        rintro e w5 ⟨rfl, hb5⟩
        have HG5 := blk_next HGW.out (below_drew'.next hb5)
        have hth : w5.there w.heap.size 0 5 := there_five HG5
        go_simp
        refine hK.out _ _ (RdS.nx hb5 hH) (fun hH => ?_)
        clear hK K
        refine Rg.take (i := 6) (d := 26) (v := .agg #[.int .i64 o, .int .i64 a, .int .i64 b, .int .i64 c, .int .i64 d]) rfl rfl (by kernel_rfl) (by kernel_rfl) (by kernel_rfl) (fun _ _ _ h => h) (by kernel_rfl) (fun W hSW => ?_) hH ?_
        · clear hSW
          go_simp
        simp only [List.setIfInBounds_toArray, List.set_cons_zero, List.set_cons_succ]
        refine Rg.take (i := 7) (d := 27) (v := .int .i64 e5) rfl rfl (by kernel_rfl) (by kernel_rfl) (by kernel_rfl) (fun _ _ _ h => h) (by kernel_rfl) (fun W hSW => ?_) hH ?_
        · clear hSW
          go_simp
        simp only [List.setIfInBounds_toArray, List.set_cons_zero, List.set_cons_succ]
        refine wpAnyH_ready (rs := [8]) (by kernel_rfl) (by simp) (AllReadyH.cons rfl (fun K hK => ?_) AllReadyH.nil)
        rw [if_pos (by rfl)]
        refine wp_store_mid _ _ _ rfl w.heap.size 0 #[.int .i64 o, .int .i64 a, .int .i64 b, .int .i64 c, .int .i64 d] rfl rfl hth (by kernel_rfl) (by simp [Value.oneCell']) ?_
        have hg6 := blk_five HG5 (.int .i64 o) (.int .i64 a) (.int .i64 b) (.int .i64 c) (.int .i64 d)
        have hH6 := RdS.set (RdS.set (RdS.set (RdS.set (RdS.set hH (Nat.le_refl _) hBX 0 (.int .i64 o)) (Nat.le_refl _) hBX 1 (.int .i64 a)) (Nat.le_refl _) hBX 2 (.int .i64 b)) (Nat.le_refl _) hBX 3 (.int .i64 c)) (Nat.le_refl _) hBX 4 (.int .i64 d)
        rw [← setCells_five] at hg6 hH6
        obtain ⟨w6, hw6⟩ := name_of (w5.setCells w.heap.size 0 (#[.int .i64 o, .int .i64 a, .int .i64 b, .int .i64 c, .int .i64 d] : Array Value).toList)
        have hw6' : w5.setCells w.heap.size 0 [.int .i64 o, .int .i64 a, .int .i64 b, .int .i64 c, .int .i64 d] = w6 := hw6
        rw [hw6'] at hg6 hH6
        rw [hw6]
        clear hw6 hw6'
        refine hK.out _ _ hH6 (fun hH => ?_)
        clear hK K
        dsimp only [Act.put]
        refine Rg.take (i := 9) (d := 3) (v := .int .i64 e5) rfl rfl (by kernel_rfl) (by kernel_rfl) (by kernel_rfl) (fun _ _ _ h => h) (by kernel_rfl) (fun W hSW => ?_) hH ?_
        · clear hSW
          go_simp
        simp only [List.setIfInBounds_toArray, List.set_cons_zero, List.set_cons_succ]
        refine wpAnyH_done (by kernel_rfl) ?_ _
        go_wp2_with fail
        refine bodyPost_ret (results_cell_tmp rfl _ _ w.heap.size 33 _ _ _ rfl hg6 Tryd.underlying33 rfl (by kernel_rfl)) rfl ?_
        exact ip_of (by rw [hr5]; rfl) rfl hH6.2.2.2.2
      · have heq : ((nameS k).toList == ys.toList) = false := str_bne (fun e => hm (by rw [← HYS.out] at e; exact bs_inj e))
        have HNO2 : Hid (∀ j, j < k + 1 → nameL j ≠ y) := Lib.hid (fun j hj => by
          rcases Nat.lt_or_ge j k with h | h
          · exact HNO.out j h
          · rw [show j = k by omega]; exact hm)
        clear HNO hm
        go_wp2_with fail
        go_quiet (fail)
        go_wp2_with fail
        refine ⟨⟨k + 1, by omega, by go_num, HNO2, ?_⟩, by simp [intOf]; omega⟩
        exact hBr.next (((Below.refl _ _).alloc (Nat.le_refl _) _).next (below_drewn _))
    · obtain rfl : k = 17 := by omega
      have HR2 : Hid (R = .inl 14) := Lib.hid (by rw [← HR.out, readW_none (opOf_all HNO.out)])
      have hg := blk_next HG2.out hBr
      have hBw := hB2.next hBr
      clear HR HNO hBr
      go_wp2_with (refine wpList_store_blk rfl 33 33 (.tmp 2) _ rfl w.heap.size rfl _ rfl _ hg (by kernel_rfl) rfl (by kernel_rfl) ?_; intro w6 hg6 ho6 hz6 hb6)
      refine bodyPost_ret (results_cell_tmp rfl _ _ w.heap.size 33 _ _ _ rfl hg6 Tryd.underlying33 rfl (by kernel_rfl)) rfl ?_
      exact ip_of (by rw [HR2.out]; rfl) rfl (hBw.trans hb6)
end P3
end Go.Proofs.YtggdbceommmllaaDoor
