/- Audit: own. -/
import Derived.Test.YtajbchecjbddgaaDoorVc
import Derived.Test.YtajbchecjbddgaaDoorU8
import Derived.Deep.CutRange
namespace Go.Proofs.YtajbchecjbddgaaDoor
open Go.RowKit
namespace P20
open P7

theorem wp_store_blk {P : Program} {o : Oper} {a : Act} {w : World} {K : Act → World → Prop} {Q : Exit → Act → World → Prop}
    (ty t : TypeId) (x y : Operand) (ho : o.op = .store ty x y) (g : Nat) (hx : a.eval x = .pointer (some ⟨g, 0, none⟩)) (cs : Array Value) (hy : a.eval y = .agg cs)
    (old : Array Value) (hg : w.heap[g]? = some (.cells old t (0, 0))) (hi : (P.info? ty).map (·.size) = some cs.size) (hs : old.size = cs.size) (h1 : cs.all (·.oneCell') = true)
    (h : ∀ w', w'.heap[g]? = some (.cells cs t (0, 0)) → (∀ k, k ≠ g → w'.heap[k]? = w.heap[k]?) → w'.heap.size = w.heap.size → Below g w w' → K (a.put o.dst undef) w') : o.wp P a w K Q := by
  unfold Oper.wp execOp
  simp only [ho, hx, hy, Instr.storeAt, Instr.sureAddr, Sem.run_bind, Sem.run_pure, Result.andThen_ok, run_storeVar_row w g t ty old cs hg hi hs h1]
  exact h _ (setRow_heap w g old cs t _ hg) (fun k hk => setRow_other w g k cs hk) (setRow_size _ _ _) (setRow_below _ _ _)
theorem below_low {W0 W W' : World} {b : Nat} (h : Below W0.heap.size W0 W) (hb : Below b W W') (hg : W0.heap.size ≤ b) : Below W0.heap.size W0 W' :=
  ⟨hb.os.trans h.os, hb.tape.trans h.tape, hb.output.trans h.output, Nat.le_trans h.size hb.size, fun k hk => (hb.block k (by omega)).trans (h.block k hk)⟩
theorem BxS.low {W0 W W' : World} {g b : Nat} {a1 a2 a3 : Value} (h : BxS W0 g a1 a2 a3 W) (hb : Below b W W') (hl : W0.heap.size ≤ b) (hg : g < W0.heap.size) : BxS W0 g a1 a2 a3 W' := by
  obtain ⟨h0, r0, r1, r2⟩ := h
  have h0s := h0.size
  have k := fun j => hb.cell (p := ⟨g, j, none⟩) (show g < b by omega)
  exact ⟨below_low h0 hb hl, (k _).trans r0, (k _).trans r1, (k _).trans r2⟩
theorem own_off {W W' : World} {base e size n b : Nat} {v : Value} {xs : List Value} {cs : Array Value} {t : TypeId} {fr : Nat × Nat} (h : W.ownsRow base e size v n xs) (hb : W.heap[b]? = some (.cells cs t fr)) (hne : e ≠ t) (ho : ∀ k, k ≠ b → W'.heap[k]? = W.heap[k]?) : W'.ownsRow base e size v n xs :=
  own_same h fun g hg => ho g fun e' => own_ne h hb hne (by rw [hg, e'])
theorem zip_set {α β : Type} (c : β) : ∀ (l : List α) (m : List β) (q : Nat) (a : α), l[q]? = some a → (l.zip m).set q (a, c) = l.zip (m.set q c)
  | [], m, q, a, h => by simp at h
  | x :: l, [], q, a, h => by simp
  | x :: l, y :: m, 0, a, h => by
    simp only [List.getElem?_cons_zero, Option.some.injEq] at h
    subst h
    simp
  | x :: l, y :: m, q + 1, a, h => by
    simp only [List.getElem?_cons_succ] at h
    simp [zip_set c l m q a h]
/-- A copy whose first m workers have lists of their own; the others' lists lie below B. -/
structure OwnP (B : Nat) (s : Sh) (vr vs vw : Value) (m : Nat) (cv : List (Value × Value)) (W : World) : Prop where
  rows : W.ownsRow B 64 7 vr s.l.length (rowsC s.l)
  scs : W.ownsRow B 36 6 vs s.sc.length (scsC s.sc)
  wk : W.ownsRow B 56 4 vw s.ws.length ((s.ws.zip cv).flatMap wkC)
  len : cv.length = s.ws.length
  own : ∀ (k : Nat) (hk : k < s.ws.length) (c : Value × Value), k < m → cv[k]? = some c → W.ownsRow B 3 1 c.1 s.ws[k].st.length (iv s.ws[k].st) ∧ W.ownsRow B 3 1 c.2 s.ws[k].dq.length (iv s.ws[k].dq)
  old : ∀ (k : Nat) (hk : k < s.ws.length) (c : Value × Value), m ≤ k → cv[k]? = some c → Sl W B 1 c.1 (iv s.ws[k].st) ∧ Sl W B 1 c.2 (iv s.ws[k].dq)
theorem OwnP.next {B : Nat} {s : Sh} {vr vs vw : Value} {m : Nat} {cv : List (Value × Value)} {W W' : World} (h : OwnP B s vr vs vw m cv W) (hb : Below W.heap.size W W') (hB : B ≤ W.heap.size) : OwnP B s vr vs vw m cv W' :=
  ⟨own_below h.rows hb, own_below h.scs hb, own_below h.wk hb, h.len, fun k hk c hm hc => ⟨own_below (h.own k hk c hm hc).1 hb, own_below (h.own k hk c hm hc).2 hb⟩,
    fun k hk c hm hc => ⟨(h.old k hk c hm hc).1.below (Below.mono hb hB), (h.old k hk c hm hc).2.below (Below.mono hb hB)⟩⟩
theorem own_view {w : World} {base e size n : Nat} {v : Value} {xs : List Value} (h : w.ownsRow base e size v n xs) : ∃ A c, v = .slice A n c ∧ n ≤ c ∧ (0 < n → ∃ g cur, A = some ⟨g, 0, none⟩ ∧ base ≤ g ∧ g < w.heap.size ∧ w.heap[g]? = some (.cells cur e (0, 0)) ∧ n * size ≤ cur.size ∧ ∀ j u, xs[j]? = some u → w.cell? ⟨g, j, none⟩ = some u) := by
  rcases h.2 with ⟨rfl, h0⟩ | ⟨g, cap, cur, rfl, hg, hh, hnc, hc, hs, hx⟩
  · subst h0
    exact ⟨none, 0, rfl, Nat.le_refl _, fun h0 => absurd h0 (Nat.lt_irrefl 0)⟩
  · refine ⟨_, cap, rfl, hnc, fun _ => ⟨g, cur, rfl, hg, lt_of_block hh, hh, ?_, fun j u hj => ?_⟩⟩
    · rw [hs]; exact Nat.mul_le_mul_right _ hnc
    · rw [cell_of_row _ _ _ cur e (0, 0) hh]
      subst hx
      rw [List.getElem?_take] at hj
      split at hj
      · simpa using hj
      · cases hj
theorem own_set2 {W W' : World} {base e size n c g a b : Nat} {xs : List Value} {cur : Array Value} {x y : Value} (h : W.ownsRow base e size (.slice (some ⟨g, 0, none⟩) n c) n xs) (hg : W.heap[g]? = some (.cells cur e (0, 0)))
    (hg' : W'.heap[g]? = some (.cells ((cur.setIfInBounds a x).setIfInBounds b y) e (0, 0))) : W'.ownsRow base e size (.slice (some ⟨g, 0, none⟩) n c) n ((xs.set a x).set b y) := by
  refine ⟨by rw [List.length_set, List.length_set]; exact h.1, ?_⟩
  rcases h.2 with ⟨he, _⟩ | ⟨g', cap', cur', he, hb, hh, hnc, hc, hs, hx⟩
  · cases he
  · injection he with e1 e2 e3
    injection e1 with e1
    injection e1 with e1 e4
    subst e1 e3
    rw [hh] at hg
    injection hg with hg
    injection hg with hg
    subst hg
    refine .inr ⟨g, c, _, rfl, hb, hg', hnc, hc, by simpa using hs, ?_⟩
    rw [Array.toList_setIfInBounds, Array.toList_setIfInBounds, List.take_set, List.take_set, hx]
theorem wp_store_cellb {P : Program} {o : Oper} {a : Act} {w : World} {K : Act → World → Prop} {Q : Exit → Act → World → Prop}
    (ty : TypeId) (x y : Operand) (ho : o.op = .store ty x y) (g j : Nat) (hx : a.eval x = .pointer (some ⟨g, j, none⟩)) (v : Value) (hy : a.eval y = v)
    (cs : Array Value) (t : TypeId) (hg : w.heap[g]? = some (.cells cs t (0, 0))) (hj : j < cs.size) (hi : (P.info? ty).map (·.size) = some 1) (h1 : v.oneCell' = true)
    (h : ∀ w', w'.heap[g]? = some (.cells (cs.setIfInBounds j v) t (0, 0)) → (∀ k, k ≠ g → w'.heap[k]? = w.heap[k]?) → w'.heap.size = w.heap.size → Below g w w' → K (a.put o.dst undef) w') : o.wp P a w K Q := by
  have hc := cell_of_row w g j cs t (0, 0) hg
  have hb := (Below.refl g w).setCell (p := ⟨g, j, none⟩) (Nat.le_refl _) v
  unfold Oper.wp execOp
  simp only [ho, hx, hy, Instr.storeAt, Instr.sureAddr, Sem.run_bind, Sem.run_pure, Result.andThen_ok, PC.run_storeVar_cell w g j ty v (by rw [hc]; simp [hj]) (by simp [World.frozen?, hg]) hi h1]
  exact h _ (by simp [World.setCell, Array.getElem?_modify, hg]) (fun k hk => Below.heap_setCell w ⟨g, j, none⟩ v k hk) (by simp [World.setCell]) hb
theorem OwnP.step {B : Nat} {s : Sh} {vr vs : Value} {i g c : Nat} {cv : List (Value × Value)} {W W' : World} {cur : Array Value} {x y : Value} (h : OwnP B s vr vs (.slice (some ⟨g, 0, none⟩) s.ws.length c) i cv W) (hi : i < s.ws.length)
    (hg : W.heap[g]? = some (.cells cur 56 (0, 0))) (hg' : W'.heap[g]? = some (.cells ((cur.setIfInBounds (i * 4 + 2) x).setIfInBounds (i * 4 + 3) y) 56 (0, 0))) (ho : ∀ k, k ≠ g → W'.heap[k]? = W.heap[k]?) (hb : Below B W W')
    (o1 : W.ownsRow B 3 1 x s.ws[i].st.length (iv s.ws[i].st)) (o2 : W.ownsRow B 3 1 y s.ws[i].dq.length (iv s.ws[i].dq)) : OwnP B s vr vs (.slice (some ⟨g, 0, none⟩) s.ws.length c) (i + 1) (cv.set i (x, y)) W' := by
  have hcl : i < cv.length := by rw [h.len]; exact hi
  refine ⟨own_off h.rows hg (by decide) ho, own_off h.scs hg (by decide) ho, ?_, by rw [List.length_set]; exact h.len, fun k hk d hm hd => ?_, fun k hk d hm hd => ?_⟩
  · have hz : (s.ws.zip cv)[i]? = some (s.ws[i], cv[i]) := by rw [List.getElem?_eq_getElem (by rw [List.length_zip]; omega), List.getElem_zip]
    have e1 := flat_set wkC 4 wkC_length x (s.ws.zip cv) i 2 (s.ws[i], cv[i]) (s.ws[i], x, cv[i].2) (by omega) hz rfl
    rw [zip_set (x, cv[i].2) s.ws cv i s.ws[i] (List.getElem?_eq_getElem hi)] at e1
    have hz2 : (s.ws.zip (cv.set i (x, cv[i].2)))[i]? = some (s.ws[i], x, cv[i].2) := by rw [List.getElem?_eq_getElem (by rw [List.length_zip, List.length_set]; omega), List.getElem_zip, List.getElem_set_self]
    have e2 := flat_set wkC 4 wkC_length y (s.ws.zip (cv.set i (x, cv[i].2))) i 3 (s.ws[i], x, cv[i].2) (s.ws[i], x, y) (by omega) hz2 rfl
    rw [zip_set (x, y) s.ws _ i s.ws[i] (List.getElem?_eq_getElem hi), List.set_set] at e2
    have := own_set2 h.wk hg hg'
    rw [e1, e2] at this
    exact this
  · by_cases e : k = i
    · subst e
      rw [List.getElem?_set_self hcl] at hd
      injection hd with hd
      subst hd
      exact ⟨own_off o1 hg (by decide) ho, own_off o2 hg (by decide) ho⟩
    · rw [List.getElem?_set_ne (Ne.symm e)] at hd
      have := h.own k hk d (by omega) hd
      exact ⟨own_off this.1 hg (by decide) ho, own_off this.2 hg (by decide) ho⟩
  · rw [List.getElem?_set_ne (by omega)] at hd
    have := h.old k hk d (by omega) hd
    exact ⟨this.1.below hb, this.2.below hb⟩
theorem ivI_one (l : List Int) : ∀ u ∈ iv l, u.oneCell' = true := by
  intro u hu
  obtain ⟨x, _, rfl⟩ := List.mem_map.1 hu
  rfl
theorem OwnP.at {B : Nat} {s : Sh} {vr vs : Value} {i g c : Nat} {cv : List (Value × Value)} {W : World} (h : OwnP B s vr vs (.slice (some ⟨g, 0, none⟩) s.ws.length c) i cv W) (hi : i < s.ws.length) :
    ∃ p q, W.cell? ⟨g, i * 4 + 2, none⟩ = some p ∧ W.cell? ⟨g, i * 4 + 3, none⟩ = some q ∧ Sl W B 1 p (iv s.ws[i].st) ∧ Sl W B 1 q (iv s.ws[i].dq) := by
  have hcl : i < cv.length := by rw [h.len]; exact hi
  obtain ⟨A, c', e, -, hA⟩ := own_view h.wk
  obtain ⟨g', cur, e2, -, -, -, -, hc⟩ := hA (by omega)
  injection e with e _ _
  rw [← e] at e2
  injection e2 with e2
  injection e2 with e2
  subst e2
  have hz : (s.ws.zip cv)[i]? = some (s.ws[i], cv[i]) := by rw [List.getElem?_eq_getElem (by rw [List.length_zip]; omega), List.getElem_zip]
  have hg : ∀ j, j < 4 → ((s.ws.zip cv).flatMap wkC)[i * 4 + j]? = (wkC (s.ws[i], cv[i]))[j]? := fun j hj => by
    rw [flat_get wkC 4 wkC_length _ i j hj, hz]; rfl
  obtain ⟨h1, h2⟩ := h.old i hi cv[i] (Nat.le_refl _) (List.getElem?_eq_getElem hcl)
  exact ⟨_, _, hc _ _ (hg 2 (by omega)), hc _ _ (hg 3 (by omega)), h1, h2⟩
theorem blk_off {W W' : World} {g b : Nat} {cur cs : Array Value} {t t' : TypeId} {fr fr' : Nat × Nat} (hg : W.heap[g]? = some (.cells cur t fr)) (hb : W.heap[b]? = some (.cells cs t' fr')) (hne : t ≠ t') (ho : ∀ k, k ≠ g → W'.heap[k]? = W.heap[k]?) : W'.heap[b]? = some (.cells cs t' fr') :=
  (ho b fun e => by
    subst e
    rw [hg] at hb
    injection hb with hb
    injection hb with _ hb
    exact hne hb).trans hb
theorem OwnP.all {B : Nat} {s : Sh} {vr vs vw : Value} {m : Nat} {cv : List (Value × Value)} {W : World} (h : OwnP B s vr vs vw m cv W) (hm : s.ws.length ≤ m) (hl : s.l.length ≤ 1000) (h1 : ∀ r ∈ s.l, RowWf r) (h2 : ∀ x ∈ s.sc, ScWf x) (h3 : ∀ x ∈ s.ws, WkWf x) : OwnS B W vr vs vw s :=
  ⟨h.rows, h.scs, ⟨cv, h.len, h.wk, fun k hk c hc => h.own k hk c (by omega) hc⟩, hl, h1, h2, h3⟩
theorem OwnS.off {B g : Nat} {s : Sh} {vr vs vw : Value} {W W' : World} {cs : Array Value} {t : TypeId} {fr : Nat × Nat} (h : OwnS B W vr vs vw s) (hb : W.heap[g]? = some (.cells cs t fr)) (h1 : 64 ≠ t) (h2 : 36 ≠ t) (h3 : 56 ≠ t) (h4 : 3 ≠ t) (ho : ∀ k, k ≠ g → W'.heap[k]? = W.heap[k]?) : OwnS B W' vr vs vw s := by
  obtain ⟨cv, g1, g2, g3⟩ := h.wks
  exact ⟨own_off h.rows hb h1 ho, own_off h.scs hb h2 ho, ⟨cv, g1, own_off g2 hb h3 ho, fun k hk c hc => ⟨own_off (g3 k hk c hc).1 hb h4 ho, own_off (g3 k hk c hc).2 hb h4 ho⟩⟩, h.len, h.rwf, h.scf, h.wkf⟩
set_option maxRecDepth 100000 in
set_option maxHeartbeats 16000000 in
theorem own_any {w : World} {vr vs vw : Value} {s : Sh} (hA : Shm w vr vs vw s) (hf : FewS s) :
    Calls Tryd.prog 45 #[.agg #[vr, vs, vw]] w fun e w' => (∃ ur us uw, e = .returned (.agg #[ur, us, uw]) ∧ OwnS w.heap.size w' ur us uw s) ∧ Below w.heap.size w w' := by
  obtain ⟨Ar, cr, hvr, -, -⟩ := rows_open hA.rows.sl
  obtain ⟨As, cs, hvs, -, -⟩ := scs_open hA.scs
  obtain ⟨cv0, hcl, hwk, hcv⟩ := hA.wks
  have hwl : ((s.ws.zip cv0).flatMap wkC).length = s.ws.length * 4 := by rw [flat_length wkC 4 wkC_length, List.length_zip, hcl, Nat.min_self]
  have hw1 : ∀ u ∈ (s.ws.zip cv0).flatMap wkC, u.oneCell' = true := by
    intro u hu
    obtain ⟨x, hx, hu⟩ := List.mem_flatMap.1 hu
    obtain ⟨k, hk, rfl⟩ := List.getElem_of_mem hx
    have hks : k < s.ws.length := by rw [List.length_zip] at hk; omega
    have hkc : k < cv0.length := by omega
    rw [List.getElem_zip] at hu
    obtain ⟨⟨A1, n1, c1, e1, -⟩, ⟨A2, n2, c2, e2, -⟩⟩ := hcv k hks cv0[k] (List.getElem?_eq_getElem hkc)
    simp only [wkC, List.mem_cons, List.not_mem_nil, or_false] at hu
    rcases hu with h | h | h | h <;> subst h
    · rfl
    · rfl
    · show (cv0[k].1).oneCell' = true
      rw [e1]; rfl
    · show (cv0[k].2).oneCell' = true
      rw [e2]; rfl
  obtain ⟨Aw, cw, hvw, -, -⟩ := hA.wks.open_
  have hl40 := hf.l
  have hs60 := hf.sc
  have hw20 := hf.ws
  have HF := Lib.hid hf
  obtain ⟨nr, hnr⟩ := name_of s.l.length
  obtain ⟨ns, hns⟩ := name_of s.sc.length
  obtain ⟨nw, hnw⟩ := name_of s.ws.length
  have HNR := Lib.hid hnr
  have HNS := Lib.hid hns
  have HNW := Lib.hid hnw
  rw [hnr] at hvr
  rw [hns] at hvs
  rw [hnw] at hvw
  subst hvr hvs hvw
  have HW4 := Lib.hid hwk
  have HCV := Lib.hid hcv
  have HCL := Lib.hid hcl
  have HWL := Lib.hid hwl
  have HW1 := Lib.hid hw1
  have HL40 : Hid (s.l.length ≤ 1000) := Lib.hid (by omega)
  have HS60 : Hid (s.sc.length ≤ 1000) := Lib.hid (by omega)
  have HW20 : Hid (s.ws.length ≤ 1000) := Lib.hid (by omega)
  obtain ⟨V, hV⟩ := name_of ((w.alloc (.cells #[.slice Ar nr cr, .slice As ns cs, .slice Aw nw cw] 31)).alloc (.cells #[.slice none 0 0, .slice none 0 0, .slice none 0 0] 31))
  have hbV : Below w.heap.size w V := by rw [← hV]; go_grown
  have hbx : V.heap[w.heap.size]? = some (.cells #[.slice Ar nr cr, .slice As ns cs, .slice Aw nw cw] 31 (0, 0)) := by rw [← hV]; exact heap_alloc2_old w _ _
  have hres : V.heap[w.heap.size + 1]? = some (.cells #[.slice none 0 0, .slice none 0 0, .slice none 0 0] 31 (0, 0)) := by rw [← hV]; exact heap_alloc2_new w _ _
  have hBX : BxS V w.heap.size (.slice Ar nr cr) (.slice As ns cs) (.slice Aw nw cw) V := ⟨Below.refl _ _, (cell_of_row _ _ _ _ _ _ hbx).trans rfl, (cell_of_row _ _ _ _ _ _ hbx).trans rfl, (cell_of_row _ _ _ _ _ _ hbx).trans rfl⟩
  have hgl := lt_of_block hbx
  have HGL := Lib.hid hgl
  have HBX := Lib.hid hBX
  have HBV := Lib.hid hbV
  have HRES := Lib.hid hres
  have HA := Lib.hid hA
  have HAV := Lib.hid (hA.next hbV)
  have HVS := Lib.hid hbV.size
  clear hA hf hbV hbx hres hgl hBX hnr hns hnw hwk hcv hcl hwl hw1
  go_enter Tryd.func45, Tryd.ntmps45
  go_upto_region 1 with fail
  clear hV
  go_cut [3] from 3 to 15 (fun x wx => ∃ (b : Nat) (ur us uw : Value), x = .pointer (some ⟨b, 0, none⟩) ∧ V.heap.size ≤ b ∧ wx.heap[b]? = some (.cells #[ur, us, uw] 31 (0, 0)) ∧ OwnP w.heap.size s ur us uw 0 cv0 wx ∧ Below V.heap.size V wx)
  case first =>
    refine wp_region_held_drew (S := (fun W => BxS V w.heap.size (.slice Ar nr cr) (.slice As ns cs) (.slice Aw nw cw) W)) (by kernel_rfl) (BxS.next HBX.out below_drewU HGL.out) (fun hH => ?_)
    obtain ⟨W0, hW0⟩ := name_of V.drew
    rw [hW0] at hH ⊢
    clear hW0
    refine Rg.take (i := 0) (d := 6) (v := .pointer (some ⟨w.heap.size, 0, none⟩)) rfl rfl (by kernel_rfl) (by kernel_rfl) (by kernel_rfl) (fun _ _ _ h => h) (by kernel_rfl) (fun W hSW => ?_) hH ?_
    · clear hSW
      go_simp
    simp only [List.setIfInBounds_toArray, List.set_cons_zero, List.set_cons_succ]
    refine Rg.take (i := 1) (d := 7) (v := .slice Ar nr cr) rfl rfl (by kernel_rfl) (by kernel_rfl) (by kernel_rfl) (fun _ _ _ h => h) (by kernel_rfl) (fun W hSW => ?_) hH ?_
    · obtain ⟨-, q0, -, -⟩ := hSW
      go_simp
    simp only [List.setIfInBounds_toArray, List.set_cons_zero, List.set_cons_succ]
    refine Rg.take (i := 3) (d := 9) (v := .pointer (some ⟨w.heap.size, 1, none⟩)) rfl rfl (by kernel_rfl) (by kernel_rfl) (by kernel_rfl) (fun _ _ _ h => h) (by kernel_rfl) (fun W hSW => ?_) hH ?_
    · clear hSW
      go_simp
    simp only [List.setIfInBounds_toArray, List.set_cons_zero, List.set_cons_succ]
    refine Rg.take (i := 4) (d := 10) (v := .slice As ns cs) rfl rfl (by kernel_rfl) (by kernel_rfl) (by kernel_rfl) (fun _ _ _ h => h) (by kernel_rfl) (fun W hSW => ?_) hH ?_
    · obtain ⟨-, -, q1, -⟩ := hSW
      go_simp
    simp only [List.setIfInBounds_toArray, List.set_cons_zero, List.set_cons_succ]
    refine Rg.take (i := 6) (d := 12) (v := .pointer (some ⟨w.heap.size, 2, none⟩)) rfl rfl (by kernel_rfl) (by kernel_rfl) (by kernel_rfl) (fun _ _ _ h => h) (by kernel_rfl) (fun W hSW => ?_) hH ?_
    · clear hSW
      go_simp
    simp only [List.setIfInBounds_toArray, List.set_cons_zero, List.set_cons_succ]
    refine Rg.take (i := 7) (d := 13) (v := .slice Aw nw cw) rfl rfl (by kernel_rfl) (by kernel_rfl) (by kernel_rfl) (fun _ _ _ h => h) (by kernel_rfl) (fun W hSW => ?_) hH ?_
    · obtain ⟨-, -, -, q2⟩ := hSW
      go_simp
    simp only [List.setIfInBounds_toArray, List.set_cons_zero, List.set_cons_succ]
    refine wpAnyH_ready (rs := [2, 10]) (by kernel_rfl) (by simp) (AllReadyH.cons rfl (fun K hK => ?_) (AllReadyH.cons rfl (fun K hK => ?_) AllReadyH.nil))
    · go_simp
      refine (clone_rows (n := s.l.length) (HAV.out.next hH.1).rows.sl (rowsC_length _) HL40.out (rowsC_one _)).mono ?_
      rintro e W1 ⟨⟨u1, rfl, o1⟩, hb⟩
      obtain ⟨A1, m1, c1, rfl⟩ := PC.own_slice o1
      go_simp
      have o1 := own_mono o1 (Nat.le_trans HVS.out hH.1.size)
      refine hK.out _ _ (BxS.next hH hb HGL.out) (fun hH => ?_)
      clear hK K hb
      refine wpAnyH_ready (rs := [5, 10]) (by kernel_rfl) (by simp) (AllReadyH.cons rfl (fun K hK => ?_) (AllReadyH.cons rfl (fun K hK => ?_) AllReadyH.nil))
      · go_simp
        refine (clone_scs (n := s.sc.length) (HAV.out.next hH.1).scs (scsC_length _) HS60.out (scsC_one _)).mono ?_
        rintro e W2 ⟨⟨u2, rfl, o2⟩, hb⟩
        obtain ⟨A2, m2, c2, rfl⟩ := PC.own_slice o2
        go_simp
        have o2 := own_mono o2 (Nat.le_trans HVS.out hH.1.size)
        have o1 := own_below o1 hb
        refine hK.out _ _ (BxS.next hH hb HGL.out) (fun hH => ?_)
        clear hK K hb
        refine wpAnyH_ready (rs := [8, 10]) (by kernel_rfl) (by simp) (AllReadyH.cons rfl (fun K hK => ?_) (AllReadyH.cons rfl (fun K hK => ?_) AllReadyH.nil))
        · go_simp
          refine (clone_wks (n := s.ws.length) ((HW4.out.next HBV.out).next hH.1) HWL.out HW20.out HW1.out).mono ?_
          rintro e W3 ⟨⟨u3, rfl, o3⟩, hb⟩
          obtain ⟨A3, m3, c3, rfl⟩ := PC.own_slice o3
          go_simp
          have o3 := own_mono o3 (Nat.le_trans HVS.out hH.1.size)
          have o1 := own_below o1 hb
          have o2 := own_below o2 hb
          refine hK.out _ _ (BxS.next hH hb HGL.out) (fun hH => ?_)
          clear hK K hb
          refine Rg.take (i := 9) (d := 15) (v := .agg #[.slice A1 m1 c1, .slice A2 m2 c2, .slice A3 m3 c3]) rfl rfl (by kernel_rfl) (by kernel_rfl) (by kernel_rfl) (fun _ _ _ h => h) (by kernel_rfl) (fun W hSW => ?_) hH ?_
          · clear hSW
            go_simp
          simp only [List.setIfInBounds_toArray, List.set_cons_zero, List.set_cons_succ]
          refine wpAnyH_ready (rs := [10]) (by kernel_rfl) (by simp) (AllReadyH.cons rfl (fun K hK => ?_) AllReadyH.nil)
          go_simp
          have hb : Below _ W3 (W3.alloc (.cells #[.slice none 0 0, .slice none 0 0, .slice none 0 0] 31)) := (Below.refl _ _).alloc (Nat.le_refl _) _
          have hblk := heap_alloc_last W3 (.cells #[.slice none 0 0, .slice none 0 0, .slice none 0 0] 31)
          have hvb : V.heap.size ≤ W3.heap.size := hH.1.size
          refine hK.out _ _ (BxS.next hH hb HGL.out) (fun hH => ?_)
          clear hK K
          have o1 := own_below o1 hb
          have o2 := own_below o2 hb
          have o3 := own_below o3 hb
          obtain ⟨b, hbn⟩ := name_of W3.heap.size
          obtain ⟨W3a, hY⟩ := name_of (W3.alloc (.cells #[.slice none 0 0, .slice none 0 0, .slice none 0 0] 31))
          rw [hbn] at hblk hvb ⊢
          rw [hY] at hblk hH o1 o2 o3 ⊢
          clear hb hbn hY
          refine wpAnyH_ready (rs := [11]) (by kernel_rfl) (by simp) (AllReadyH.cons rfl (fun K hK => ?_) AllReadyH.nil)
          rw [if_pos (by rfl)]
          refine wp_store_blk 31 31 (.tmp 3) (.tmp 15) rfl b rfl #[.slice A1 m1 c1, .slice A2 m2 c2, .slice A3 m3 c3] rfl _ hblk (by kernel_rfl) rfl (by simp [Value.oneCell']) ?_
          intro w9 g1 g2 g3 g4
          go_simp
          refine hK.out _ _ (hH.low g4 hvb HGL.out) (fun hH9 => ?_)
          clear hK K
          refine wpAnyH_done (by kernel_rfl) ?_ _
          go_wp2_with fail
          go_meet
          refine ⟨b, _, _, _, rfl, hvb, g1, ⟨own_off o1 hblk (by decide) g2, own_off o2 hblk (by decide) g2, own_off o3 hblk (by decide) g2, HCL.out, fun k _ c hk => absurd hk (Nat.not_lt_zero k), fun k hk c _ hc => ?_⟩, hH9.1⟩
          have hbl := HBV.out.next hH9.1
          exact ⟨((HCV.out k hk c hc).1.below hbl), ((HCV.out k hk c hc).2.below hbl)⟩
        · go_simp
          have hb : Below _ W2 (W2.alloc (.cells #[.slice none 0 0, .slice none 0 0, .slice none 0 0] 31)) := (Below.refl _ _).alloc (Nat.le_refl _) _
          have hblk := heap_alloc_last W2 (.cells #[.slice none 0 0, .slice none 0 0, .slice none 0 0] 31)
          have hvb : V.heap.size ≤ W2.heap.size := hH.1.size
          refine hK.out _ _ (BxS.next hH hb HGL.out) (fun hH => ?_)
          clear hK K
          have o1 := own_below o1 hb
          have o2 := own_below o2 hb
          obtain ⟨b, hbn⟩ := name_of W2.heap.size
          obtain ⟨W2a, hY⟩ := name_of (W2.alloc (.cells #[.slice none 0 0, .slice none 0 0, .slice none 0 0] 31))
          rw [hbn] at hblk hvb ⊢
          rw [hY] at hblk hH o1 o2 ⊢
          clear hb hbn hY
          refine wpAnyH_ready (rs := [8]) (by kernel_rfl) (by simp) (AllReadyH.cons rfl (fun K hK => ?_) AllReadyH.nil)
          go_simp
          refine (clone_wks (n := s.ws.length) ((HW4.out.next HBV.out).next hH.1) HWL.out HW20.out HW1.out).mono ?_
          rintro e W3x ⟨⟨u3, rfl, o3⟩, hb⟩
          obtain ⟨A3, m3, c3, rfl⟩ := PC.own_slice o3
          go_simp
          have o3 := own_mono o3 (Nat.le_trans HVS.out hH.1.size)
          have o1 := own_below o1 hb
          have o2 := own_below o2 hb
          have hblk := blk_next hblk hb
          refine hK.out _ _ (BxS.next hH hb HGL.out) (fun hH => ?_)
          clear hK K hb
          refine Rg.take (i := 9) (d := 15) (v := .agg #[.slice A1 m1 c1, .slice A2 m2 c2, .slice A3 m3 c3]) rfl rfl (by kernel_rfl) (by kernel_rfl) (by kernel_rfl) (fun _ _ _ h => h) (by kernel_rfl) (fun W hSW => ?_) hH ?_
          · clear hSW
            go_simp
          simp only [List.setIfInBounds_toArray, List.set_cons_zero, List.set_cons_succ]
          refine wpAnyH_ready (rs := [11]) (by kernel_rfl) (by simp) (AllReadyH.cons rfl (fun K hK => ?_) AllReadyH.nil)
          rw [if_pos (by rfl)]
          refine wp_store_blk 31 31 (.tmp 3) (.tmp 15) rfl b rfl #[.slice A1 m1 c1, .slice A2 m2 c2, .slice A3 m3 c3] rfl _ hblk (by kernel_rfl) rfl (by simp [Value.oneCell']) ?_
          intro w9 g1 g2 g3 g4
          go_simp
          refine hK.out _ _ (hH.low g4 hvb HGL.out) (fun hH9 => ?_)
          clear hK K
          refine wpAnyH_done (by kernel_rfl) ?_ _
          go_wp2_with fail
          go_meet
          refine ⟨b, _, _, _, rfl, hvb, g1, ⟨own_off o1 hblk (by decide) g2, own_off o2 hblk (by decide) g2, own_off o3 hblk (by decide) g2, HCL.out, fun k _ c hk => absurd hk (Nat.not_lt_zero k), fun k hk c _ hc => ?_⟩, hH9.1⟩
          have hbl := HBV.out.next hH9.1
          exact ⟨((HCV.out k hk c hc).1.below hbl), ((HCV.out k hk c hc).2.below hbl)⟩
      · go_simp
        have hb : Below _ W1 (W1.alloc (.cells #[.slice none 0 0, .slice none 0 0, .slice none 0 0] 31)) := (Below.refl _ _).alloc (Nat.le_refl _) _
        have hblk := heap_alloc_last W1 (.cells #[.slice none 0 0, .slice none 0 0, .slice none 0 0] 31)
        have hvb : V.heap.size ≤ W1.heap.size := hH.1.size
        refine hK.out _ _ (BxS.next hH hb HGL.out) (fun hH => ?_)
        clear hK K
        have o1 := own_below o1 hb
        obtain ⟨b, hbn⟩ := name_of W1.heap.size
        obtain ⟨W1a, hY⟩ := name_of (W1.alloc (.cells #[.slice none 0 0, .slice none 0 0, .slice none 0 0] 31))
        rw [hbn] at hblk hvb ⊢
        rw [hY] at hblk hH o1 ⊢
        clear hb hbn hY
        refine wpAnyH_ready (rs := [5]) (by kernel_rfl) (by simp) (AllReadyH.cons rfl (fun K hK => ?_) AllReadyH.nil)
        go_simp
        refine (clone_scs (n := s.sc.length) (HAV.out.next hH.1).scs (scsC_length _) HS60.out (scsC_one _)).mono ?_
        rintro e W2x ⟨⟨u2, rfl, o2⟩, hb⟩
        obtain ⟨A2, m2, c2, rfl⟩ := PC.own_slice o2
        go_simp
        have o2 := own_mono o2 (Nat.le_trans HVS.out hH.1.size)
        have o1 := own_below o1 hb
        have hblk := blk_next hblk hb
        refine hK.out _ _ (BxS.next hH hb HGL.out) (fun hH => ?_)
        clear hK K hb
        refine wpAnyH_ready (rs := [8]) (by kernel_rfl) (by simp) (AllReadyH.cons rfl (fun K hK => ?_) AllReadyH.nil)
        go_simp
        refine (clone_wks (n := s.ws.length) ((HW4.out.next HBV.out).next hH.1) HWL.out HW20.out HW1.out).mono ?_
        rintro e W3x ⟨⟨u3, rfl, o3⟩, hb⟩
        obtain ⟨A3, m3, c3, rfl⟩ := PC.own_slice o3
        go_simp
        have o3 := own_mono o3 (Nat.le_trans HVS.out hH.1.size)
        have o1 := own_below o1 hb
        have o2 := own_below o2 hb
        have hblk := blk_next hblk hb
        refine hK.out _ _ (BxS.next hH hb HGL.out) (fun hH => ?_)
        clear hK K hb
        refine Rg.take (i := 9) (d := 15) (v := .agg #[.slice A1 m1 c1, .slice A2 m2 c2, .slice A3 m3 c3]) rfl rfl (by kernel_rfl) (by kernel_rfl) (by kernel_rfl) (fun _ _ _ h => h) (by kernel_rfl) (fun W hSW => ?_) hH ?_
        · clear hSW
          go_simp
        simp only [List.setIfInBounds_toArray, List.set_cons_zero, List.set_cons_succ]
        refine wpAnyH_ready (rs := [11]) (by kernel_rfl) (by simp) (AllReadyH.cons rfl (fun K hK => ?_) AllReadyH.nil)
        rw [if_pos (by rfl)]
        refine wp_store_blk 31 31 (.tmp 3) (.tmp 15) rfl b rfl #[.slice A1 m1 c1, .slice A2 m2 c2, .slice A3 m3 c3] rfl _ hblk (by kernel_rfl) rfl (by simp [Value.oneCell']) ?_
        intro w9 g1 g2 g3 g4
        go_simp
        refine hK.out _ _ (hH.low g4 hvb HGL.out) (fun hH9 => ?_)
        clear hK K
        refine wpAnyH_done (by kernel_rfl) ?_ _
        go_wp2_with fail
        go_meet
        refine ⟨b, _, _, _, rfl, hvb, g1, ⟨own_off o1 hblk (by decide) g2, own_off o2 hblk (by decide) g2, own_off o3 hblk (by decide) g2, HCL.out, fun k _ c hk => absurd hk (Nat.not_lt_zero k), fun k hk c _ hc => ?_⟩, hH9.1⟩
        have hbl := HBV.out.next hH9.1
        exact ⟨((HCV.out k hk c hc).1.below hbl), ((HCV.out k hk c hc).2.below hbl)⟩
    · go_simp
      have hb : Below _ W0 (W0.alloc (.cells #[.slice none 0 0, .slice none 0 0, .slice none 0 0] 31)) := (Below.refl _ _).alloc (Nat.le_refl _) _
      have hblk := heap_alloc_last W0 (.cells #[.slice none 0 0, .slice none 0 0, .slice none 0 0] 31)
      have hvb : V.heap.size ≤ W0.heap.size := hH.1.size
      refine hK.out _ _ (BxS.next hH hb HGL.out) (fun hH => ?_)
      clear hK K
      obtain ⟨b, hbn⟩ := name_of W0.heap.size
      obtain ⟨W0a, hY⟩ := name_of (W0.alloc (.cells #[.slice none 0 0, .slice none 0 0, .slice none 0 0] 31))
      rw [hbn] at hblk hvb ⊢
      rw [hY] at hblk hH ⊢
      clear hb hbn hY
      refine wpAnyH_ready (rs := [2]) (by kernel_rfl) (by simp) (AllReadyH.cons rfl (fun K hK => ?_) AllReadyH.nil)
      go_simp
      refine (clone_rows (n := s.l.length) (HAV.out.next hH.1).rows.sl (rowsC_length _) HL40.out (rowsC_one _)).mono ?_
      rintro e W1x ⟨⟨u1, rfl, o1⟩, hb⟩
      obtain ⟨A1, m1, c1, rfl⟩ := PC.own_slice o1
      go_simp
      have o1 := own_mono o1 (Nat.le_trans HVS.out hH.1.size)
      have hblk := blk_next hblk hb
      refine hK.out _ _ (BxS.next hH hb HGL.out) (fun hH => ?_)
      clear hK K hb
      refine wpAnyH_ready (rs := [5]) (by kernel_rfl) (by simp) (AllReadyH.cons rfl (fun K hK => ?_) AllReadyH.nil)
      go_simp
      refine (clone_scs (n := s.sc.length) (HAV.out.next hH.1).scs (scsC_length _) HS60.out (scsC_one _)).mono ?_
      rintro e W2x ⟨⟨u2, rfl, o2⟩, hb⟩
      obtain ⟨A2, m2, c2, rfl⟩ := PC.own_slice o2
      go_simp
      have o2 := own_mono o2 (Nat.le_trans HVS.out hH.1.size)
      have o1 := own_below o1 hb
      have hblk := blk_next hblk hb
      refine hK.out _ _ (BxS.next hH hb HGL.out) (fun hH => ?_)
      clear hK K hb
      refine wpAnyH_ready (rs := [8]) (by kernel_rfl) (by simp) (AllReadyH.cons rfl (fun K hK => ?_) AllReadyH.nil)
      go_simp
      refine (clone_wks (n := s.ws.length) ((HW4.out.next HBV.out).next hH.1) HWL.out HW20.out HW1.out).mono ?_
      rintro e W3x ⟨⟨u3, rfl, o3⟩, hb⟩
      obtain ⟨A3, m3, c3, rfl⟩ := PC.own_slice o3
      go_simp
      have o3 := own_mono o3 (Nat.le_trans HVS.out hH.1.size)
      have o1 := own_below o1 hb
      have o2 := own_below o2 hb
      have hblk := blk_next hblk hb
      refine hK.out _ _ (BxS.next hH hb HGL.out) (fun hH => ?_)
      clear hK K hb
      refine Rg.take (i := 9) (d := 15) (v := .agg #[.slice A1 m1 c1, .slice A2 m2 c2, .slice A3 m3 c3]) rfl rfl (by kernel_rfl) (by kernel_rfl) (by kernel_rfl) (fun _ _ _ h => h) (by kernel_rfl) (fun W hSW => ?_) hH ?_
      · clear hSW
        go_simp
      simp only [List.setIfInBounds_toArray, List.set_cons_zero, List.set_cons_succ]
      refine wpAnyH_ready (rs := [11]) (by kernel_rfl) (by simp) (AllReadyH.cons rfl (fun K hK => ?_) AllReadyH.nil)
      rw [if_pos (by rfl)]
      refine wp_store_blk 31 31 (.tmp 3) (.tmp 15) rfl b rfl #[.slice A1 m1 c1, .slice A2 m2 c2, .slice A3 m3 c3] rfl _ hblk (by kernel_rfl) rfl (by simp [Value.oneCell']) ?_
      intro w9 g1 g2 g3 g4
      go_simp
      refine hK.out _ _ (hH.low g4 hvb HGL.out) (fun hH9 => ?_)
      clear hK K
      refine wpAnyH_done (by kernel_rfl) ?_ _
      go_wp2_with fail
      go_meet
      refine ⟨b, _, _, _, rfl, hvb, g1, ⟨own_off o1 hblk (by decide) g2, own_off o2 hblk (by decide) g2, own_off o3 hblk (by decide) g2, HCL.out, fun k _ c hk => absurd hk (Nat.not_lt_zero k), fun k hk c _ hc => ?_⟩, hH9.1⟩
      have hbl := HBV.out.next hH9.1
      exact ⟨((HCV.out k hk c hc).1.below hbl), ((HCV.out k hk c hc).2.below hbl)⟩
  obtain ⟨b, ur, us, uw, rfl, hvb, hblk, hOP, hbW⟩ := hcut
  obtain ⟨A1, m1, c1, rfl⟩ := PC.own_slice hOP.rows
  obtain ⟨A2, m2, c2, rfl⟩ := PC.own_slice hOP.scs
  have hwk := hOP.wk
  rw [HNW.out] at hwk
  obtain ⟨A3, c3, rfl, hn3, -⟩ := own_view hwk
  have q2 : wc.cell? ⟨b, 2, none⟩ = some (.slice A3 nw c3) := (cell_of_row _ _ _ _ _ _ hblk).trans rfl
  have hrs := blk_next HRES.out hbW
  have HB0 := Lib.hid (HBV.out.next hbW)
  have HOP := Lib.hid hOP
  have HBK := Lib.hid hblk
  have HRS := Lib.hid hrs
  have HVB := Lib.hid hvb
  clear hOP hwk hblk hrs hbW hvb HBX HRES HAV HW4 HW1
  go_wp2_with fail
  clear q2
  go_loopw [19] (fun x wr => ∃ (i : Nat) (cv : List (Value × Value)), i ≤ nw ∧ x = .int .i64 i ∧ Below w.heap.size w wr ∧ Hid (OwnP w.heap.size s (.slice A1 m1 c1) (.slice A2 m2 c2) (.slice A3 nw c3) i cv wr) ∧ Hid (wr.heap[b]? = some (.cells #[.slice A1 m1 c1, .slice A2 m2 c2, .slice A3 nw c3] 31 (0, 0))) ∧ Hid (wr.heap[w.heap.size + 1]? = some (.cells #[.slice none 0 0, .slice none 0 0, .slice none 0 0] 31 (0, 0)))) (fun x _ => nw - (intOf x).toNat)
  case atStart => exact ⟨0, cv0, Nat.zero_le _, rfl, HB0.out, HOP, HBK, HRS⟩
  case round =>
    obtain ⟨i, cv, hi, rfl, hB, hOP, hbk, hrs⟩ := hrel
    have q2 : wr.cell? ⟨b, 2, none⟩ = some (.slice A3 nw c3) := (cell_of_row _ _ _ _ _ _ hbk.out).trans rfl
    by_cases hlt : i < nw
    · have hwk := hOP.out.wk
      rw [HNW.out] at hwk
      obtain ⟨A3', c3', e3, -, hA3⟩ := own_view hwk
      injection e3 with e3 _ e4
      subst e3 e4
      obtain ⟨g, cur, rfl, hgb, hgl, hgc, hgs, hcl⟩ := hA3 (by omega)
      have hgi : i < s.ws.length := by rw [HNW.out]; exact hlt
      obtain ⟨p, q, C2, C3, hp, hq⟩ := OwnP.at (by rw [HNW.out]; exact hOP.out) hgi
      have hst := HF.out.st i hgi
      have hdq := HF.out.dq i hgi
      rw [wA_eq hgi] at hst hdq
      have HP := Lib.hid hp
      have HQ := Lib.hid hq
      obtain ⟨Ap, np, kp, rfl, -⟩ := hp
      obtain ⟨Aq, nq, kq, rfl, -⟩ := hq
      have HST : Hid (s.ws[i].st.length ≤ 1000) := Lib.hid (by omega)
      have HDQ : Hid (s.ws[i].dq.length ≤ 1000) := Lib.hid (by omega)
      have HI := Lib.hid hgi
      have LHST : Hid ((iv s.ws[i].st).length = s.ws[i].st.length * 1) := Lib.hid (by simp)
      have LHDQ : Hid ((iv s.ws[i].dq).length = s.ws[i].dq.length * 1) := Lib.hid (by simp)
      have HGC := Lib.hid hgc
      have HCL2 := Lib.hid hcl
      have HSZ : Hid (w.heap.size ≤ wr.heap.size) := Lib.hid hB.size
      clear hwk hA3 hcl hst hdq hgc
      go_upto_region 6 with fail
      refine wp_region_held_drew (S := (fun _ => True)) (by kernel_rfl) trivial (fun hH => ?_)
      obtain ⟨W0, hW0⟩ := name_of wr.drew
      have hBX : Below wr.heap.size wr W0 := by rw [← hW0]; exact below_drewU
      have C2 := (hBX.cell (p := ⟨g, _, none⟩) hgl).trans C2
      have C3 := (hBX.cell (p := ⟨g, _, none⟩) hgl).trans C3
      rw [hW0]
      clear hW0 hH
      refine Rg.take (i := 0) (d := 26) (v := .pointer (some ⟨g, i * 4, none⟩)) rfl rfl (by kernel_rfl) (by kernel_rfl) (by kernel_rfl) (fun _ _ _ h => h) (by kernel_rfl) (fun W hSW => ?_) trivial ?_
      · clear hSW
        go_simp
      simp only [List.setIfInBounds_toArray, List.set_cons_zero, List.set_cons_succ]
      refine Rg.take (i := 1) (d := 27) (v := .pointer (some ⟨g, i * 4, none⟩)) rfl rfl (by kernel_rfl) (by kernel_rfl) (by kernel_rfl) (fun _ _ _ h => h) (by kernel_rfl) (fun W hSW => ?_) trivial ?_
      · clear hSW
        go_simp
      simp only [List.setIfInBounds_toArray, List.set_cons_zero, List.set_cons_succ]
      refine Rg.take (i := 2) (d := 28) (v := .pointer (some ⟨g, i * 4, none⟩)) rfl rfl (by kernel_rfl) (by kernel_rfl) (by kernel_rfl) (fun _ _ _ h => h) (by kernel_rfl) (fun W hSW => ?_) trivial ?_
      · clear hSW
        go_simp
      simp only [List.setIfInBounds_toArray, List.set_cons_zero, List.set_cons_succ]
      refine Rg.take (i := 3) (d := 29) (v := .pointer (some ⟨g, i * 4, none⟩)) rfl rfl (by kernel_rfl) (by kernel_rfl) (by kernel_rfl) (fun _ _ _ h => h) (by kernel_rfl) (fun W hSW => ?_) trivial ?_
      · clear hSW
        go_simp
      simp only [List.setIfInBounds_toArray, List.set_cons_zero, List.set_cons_succ]
      refine Rg.take (i := 4) (d := 30) (v := .pointer (some ⟨g, i * 4 + 2, none⟩)) rfl rfl (by kernel_rfl) (by kernel_rfl) (by kernel_rfl) (fun _ _ _ h => h) (by kernel_rfl) (fun W hSW => ?_) trivial ?_
      · clear hSW
        go_simp
      simp only [List.setIfInBounds_toArray, List.set_cons_zero, List.set_cons_succ]
      refine Rg.take (i := 7) (d := 33) (v := .pointer (some ⟨g, i * 4, none⟩)) rfl rfl (by kernel_rfl) (by kernel_rfl) (by kernel_rfl) (fun _ _ _ h => h) (by kernel_rfl) (fun W hSW => ?_) trivial ?_
      · clear hSW
        go_simp
      simp only [List.setIfInBounds_toArray, List.set_cons_zero, List.set_cons_succ]
      refine Rg.take (i := 8) (d := 34) (v := .pointer (some ⟨g, i * 4, none⟩)) rfl rfl (by kernel_rfl) (by kernel_rfl) (by kernel_rfl) (fun _ _ _ h => h) (by kernel_rfl) (fun W hSW => ?_) trivial ?_
      · clear hSW
        go_simp
      simp only [List.setIfInBounds_toArray, List.set_cons_zero, List.set_cons_succ]
      refine Rg.take (i := 9) (d := 35) (v := .pointer (some ⟨g, i * 4 + 3, none⟩)) rfl rfl (by kernel_rfl) (by kernel_rfl) (by kernel_rfl) (fun _ _ _ h => h) (by kernel_rfl) (fun W hSW => ?_) trivial ?_
      · clear hSW
        go_simp
      simp only [List.setIfInBounds_toArray, List.set_cons_zero, List.set_cons_succ]
      refine wpAnyH_ready (rs := [5, 10]) (by kernel_rfl) (by simp) (AllReadyH.cons rfl (fun K hK => ?_) (AllReadyH.cons rfl (fun K hK => ?_) AllReadyH.nil))
      · go_simp
        refine hK.out _ _ trivial (fun _ => ?_)
        clear hK K
        refine wpAnyH_ready (rs := [6, 10]) (by kernel_rfl) (by simp) (AllReadyH.cons rfl (fun K hK => ?_) (AllReadyH.cons rfl (fun K hK => ?_) AllReadyH.nil))
        · go_simp
          refine (clone_ints ((HP.out.below (Below.mono hBX HSZ.out)).more (Nat.le_trans HSZ.out hBX.size)) LHST.out HST.out (ivI_one _)).mono ?_
          rintro e X1 ⟨⟨u1, rfl, o1⟩, hb⟩
          obtain ⟨B1, n1, k1, rfl⟩ := PC.own_slice o1
          go_simp
          have o1 := own_mono o1 (Nat.le_trans HSZ.out hBX.size)
          have C3 := (hb.cell (p := ⟨g, _, none⟩) (Nat.lt_of_lt_of_le hgl hBX.size)).trans C3
          have hBX := hBX.next hb
          refine hK.out _ _ trivial (fun _ => ?_)
          clear hK K hb
          refine wpAnyH_ready (rs := [10]) (by kernel_rfl) (by simp) (AllReadyH.cons rfl (fun K hK => ?_) AllReadyH.nil)
          go_simp
          refine hK.out _ _ trivial (fun _ => ?_)
          clear hK K
          refine wpAnyH_ready (rs := [11]) (by kernel_rfl) (by simp) (AllReadyH.cons rfl (fun K hK => ?_) AllReadyH.nil)
          go_simp
          refine (clone_ints ((HQ.out.below (Below.mono hBX HSZ.out)).more (Nat.le_trans HSZ.out hBX.size)) LHDQ.out HDQ.out (ivI_one _)).mono ?_
          rintro e X2 ⟨⟨u2, rfl, o2⟩, hb⟩
          obtain ⟨B2, n2, k2, rfl⟩ := PC.own_slice o2
          go_simp
          have o2 := own_mono o2 (Nat.le_trans HSZ.out hBX.size)
          have o1 := own_below o1 hb
          have hBX := hBX.next hb
          refine hK.out _ _ trivial (fun _ => ?_)
          clear hK K hb
          have hgX := (hBX.block g hgl).trans HGC.out
          refine Rg.take (i := 12) (d := 38) (v := .pointer (some ⟨g, i * 4, none⟩)) rfl rfl (by kernel_rfl) (by kernel_rfl) (by kernel_rfl) (fun _ _ _ h => h) (by kernel_rfl) (fun W hSW => ?_) trivial ?_
          · clear hSW
            go_simp
          simp only [List.setIfInBounds_toArray, List.set_cons_zero, List.set_cons_succ]
          refine Rg.take (i := 13) (d := 39) (v := .pointer (some ⟨g, i * 4 + 2, none⟩)) rfl rfl (by kernel_rfl) (by kernel_rfl) (by kernel_rfl) (fun _ _ _ h => h) (by kernel_rfl) (fun W hSW => ?_) trivial ?_
          · clear hSW
            go_simp
          simp only [List.setIfInBounds_toArray, List.set_cons_zero, List.set_cons_succ]
          refine wpAnyH_ready (rs := [14]) (by kernel_rfl) (by simp) (AllReadyH.cons rfl (fun K hK => ?_) AllReadyH.nil)
          rw [if_pos (by rfl)]
          refine wp_store_cellb 54 (.tmp 39) (.tmp 32) rfl g (i * 4 + 2) rfl (.slice B1 n1 k1) rfl cur 56 hgX (by omega) (by kernel_rfl) rfl ?_
          intro Y1 g1 g2 g3 g4
          go_simp
          refine hK.out _ _ trivial (fun _ => ?_)
          clear hK K
          refine Rg.take (i := 15) (d := 40) (v := .pointer (some ⟨g, i * 4, none⟩)) rfl rfl (by kernel_rfl) (by kernel_rfl) (by kernel_rfl) (fun _ _ _ h => h) (by kernel_rfl) (fun W hSW => ?_) trivial ?_
          · clear hSW
            go_simp
          simp only [List.setIfInBounds_toArray, List.set_cons_zero, List.set_cons_succ]
          refine Rg.take (i := 16) (d := 41) (v := .pointer (some ⟨g, i * 4 + 3, none⟩)) rfl rfl (by kernel_rfl) (by kernel_rfl) (by kernel_rfl) (fun _ _ _ h => h) (by kernel_rfl) (fun W hSW => ?_) trivial ?_
          · clear hSW
            go_simp
          simp only [List.setIfInBounds_toArray, List.set_cons_zero, List.set_cons_succ]
          refine wpAnyH_ready (rs := [17]) (by kernel_rfl) (by simp) (AllReadyH.cons rfl (fun K hK => ?_) AllReadyH.nil)
          rw [if_pos (by rfl)]
          refine wp_store_cellb 54 (.tmp 41) (.tmp 37) rfl g (i * 4 + 3) rfl (.slice B2 n2 k2) rfl _ 56 g1 (by rw [Array.size_setIfInBounds]; omega) (by kernel_rfl) rfl ?_
          intro Y2 y1 y2 y3 y4
          go_simp
          refine hK.out _ _ trivial (fun _ => ?_)
          clear hK K
          refine wpAnyH_done (by kernel_rfl) ?_ _
          have ho2 : ∀ k, k ≠ g → Y2.heap[k]? = X2.heap[k]? := fun k hk => (y2 k hk).trans (g2 k hk)
          have hb2 : Below w.heap.size X2 Y2 := (Below.mono g4 hgb).trans (Below.mono y4 hgb)
          have hBX2 := Below.mono hBX HSZ.out
          have HOP2 := Lib.hid (OwnP.step (by rw [HNW.out]; exact hOP.out.next hBX HSZ.out) HI.out hgX y1 ho2 hb2 o1 o2)
          rw [HNW.out] at HOP2
          have HBK2 := Lib.hid (blk_off hgX (blk_next hbk.out hBX) (by decide) ho2)
          have HRS2 := Lib.hid (blk_off hgX (blk_next hrs.out hBX) (by decide) ho2)
          have HB2 := Lib.hid ((hB.trans hBX2).trans hb2)
          clear hBX hBX2 hb2 ho2 y1 y2 y3 y4 g1 g2 g3 g4 o1 o2 hgX hOP hbk hrs hB
          go_wp2_with fail
          exact ⟨⟨i + 1, _, by omega, by go_num, HB2.out, HOP2, HBK2, HRS2⟩, by simp [intOf]; omega⟩
        · go_simp
          refine hK.out _ _ trivial (fun _ => ?_)
          clear hK K
          refine wpAnyH_ready (rs := [6]) (by kernel_rfl) (by simp) (AllReadyH.cons rfl (fun K hK => ?_) AllReadyH.nil)
          go_simp
          refine (clone_ints ((HP.out.below (Below.mono hBX HSZ.out)).more (Nat.le_trans HSZ.out hBX.size)) LHST.out HST.out (ivI_one _)).mono ?_
          rintro e X1 ⟨⟨u1, rfl, o1⟩, hb⟩
          obtain ⟨B1, n1, k1, rfl⟩ := PC.own_slice o1
          go_simp
          have o1 := own_mono o1 (Nat.le_trans HSZ.out hBX.size)
          have C3 := (hb.cell (p := ⟨g, _, none⟩) (Nat.lt_of_lt_of_le hgl hBX.size)).trans C3
          have hBX := hBX.next hb
          refine hK.out _ _ trivial (fun _ => ?_)
          clear hK K hb
          refine wpAnyH_ready (rs := [11]) (by kernel_rfl) (by simp) (AllReadyH.cons rfl (fun K hK => ?_) AllReadyH.nil)
          go_simp
          refine (clone_ints ((HQ.out.below (Below.mono hBX HSZ.out)).more (Nat.le_trans HSZ.out hBX.size)) LHDQ.out HDQ.out (ivI_one _)).mono ?_
          rintro e X2 ⟨⟨u2, rfl, o2⟩, hb⟩
          obtain ⟨B2, n2, k2, rfl⟩ := PC.own_slice o2
          go_simp
          have o2 := own_mono o2 (Nat.le_trans HSZ.out hBX.size)
          have o1 := own_below o1 hb
          have hBX := hBX.next hb
          refine hK.out _ _ trivial (fun _ => ?_)
          clear hK K hb
          have hgX := (hBX.block g hgl).trans HGC.out
          refine Rg.take (i := 12) (d := 38) (v := .pointer (some ⟨g, i * 4, none⟩)) rfl rfl (by kernel_rfl) (by kernel_rfl) (by kernel_rfl) (fun _ _ _ h => h) (by kernel_rfl) (fun W hSW => ?_) trivial ?_
          · clear hSW
            go_simp
          simp only [List.setIfInBounds_toArray, List.set_cons_zero, List.set_cons_succ]
          refine Rg.take (i := 13) (d := 39) (v := .pointer (some ⟨g, i * 4 + 2, none⟩)) rfl rfl (by kernel_rfl) (by kernel_rfl) (by kernel_rfl) (fun _ _ _ h => h) (by kernel_rfl) (fun W hSW => ?_) trivial ?_
          · clear hSW
            go_simp
          simp only [List.setIfInBounds_toArray, List.set_cons_zero, List.set_cons_succ]
          refine wpAnyH_ready (rs := [14]) (by kernel_rfl) (by simp) (AllReadyH.cons rfl (fun K hK => ?_) AllReadyH.nil)
          rw [if_pos (by rfl)]
          refine wp_store_cellb 54 (.tmp 39) (.tmp 32) rfl g (i * 4 + 2) rfl (.slice B1 n1 k1) rfl cur 56 hgX (by omega) (by kernel_rfl) rfl ?_
          intro Y1 g1 g2 g3 g4
          go_simp
          refine hK.out _ _ trivial (fun _ => ?_)
          clear hK K
          refine Rg.take (i := 15) (d := 40) (v := .pointer (some ⟨g, i * 4, none⟩)) rfl rfl (by kernel_rfl) (by kernel_rfl) (by kernel_rfl) (fun _ _ _ h => h) (by kernel_rfl) (fun W hSW => ?_) trivial ?_
          · clear hSW
            go_simp
          simp only [List.setIfInBounds_toArray, List.set_cons_zero, List.set_cons_succ]
          refine Rg.take (i := 16) (d := 41) (v := .pointer (some ⟨g, i * 4 + 3, none⟩)) rfl rfl (by kernel_rfl) (by kernel_rfl) (by kernel_rfl) (fun _ _ _ h => h) (by kernel_rfl) (fun W hSW => ?_) trivial ?_
          · clear hSW
            go_simp
          simp only [List.setIfInBounds_toArray, List.set_cons_zero, List.set_cons_succ]
          refine wpAnyH_ready (rs := [17]) (by kernel_rfl) (by simp) (AllReadyH.cons rfl (fun K hK => ?_) AllReadyH.nil)
          rw [if_pos (by rfl)]
          refine wp_store_cellb 54 (.tmp 41) (.tmp 37) rfl g (i * 4 + 3) rfl (.slice B2 n2 k2) rfl _ 56 g1 (by rw [Array.size_setIfInBounds]; omega) (by kernel_rfl) rfl ?_
          intro Y2 y1 y2 y3 y4
          go_simp
          refine hK.out _ _ trivial (fun _ => ?_)
          clear hK K
          refine wpAnyH_done (by kernel_rfl) ?_ _
          have ho2 : ∀ k, k ≠ g → Y2.heap[k]? = X2.heap[k]? := fun k hk => (y2 k hk).trans (g2 k hk)
          have hb2 : Below w.heap.size X2 Y2 := (Below.mono g4 hgb).trans (Below.mono y4 hgb)
          have hBX2 := Below.mono hBX HSZ.out
          have HOP2 := Lib.hid (OwnP.step (by rw [HNW.out]; exact hOP.out.next hBX HSZ.out) HI.out hgX y1 ho2 hb2 o1 o2)
          rw [HNW.out] at HOP2
          have HBK2 := Lib.hid (blk_off hgX (blk_next hbk.out hBX) (by decide) ho2)
          have HRS2 := Lib.hid (blk_off hgX (blk_next hrs.out hBX) (by decide) ho2)
          have HB2 := Lib.hid ((hB.trans hBX2).trans hb2)
          clear hBX hBX2 hb2 ho2 y1 y2 y3 y4 g1 g2 g3 g4 o1 o2 hgX hOP hbk hrs hB
          go_wp2_with fail
          exact ⟨⟨i + 1, _, by omega, by go_num, HB2.out, HOP2, HBK2, HRS2⟩, by simp [intOf]; omega⟩
      · go_simp
        refine hK.out _ _ trivial (fun _ => ?_)
        clear hK K
        refine wpAnyH_ready (rs := [5]) (by kernel_rfl) (by simp) (AllReadyH.cons rfl (fun K hK => ?_) AllReadyH.nil)
        go_simp
        refine hK.out _ _ trivial (fun _ => ?_)
        clear hK K
        refine wpAnyH_ready (rs := [6]) (by kernel_rfl) (by simp) (AllReadyH.cons rfl (fun K hK => ?_) AllReadyH.nil)
        go_simp
        refine (clone_ints ((HP.out.below (Below.mono hBX HSZ.out)).more (Nat.le_trans HSZ.out hBX.size)) LHST.out HST.out (ivI_one _)).mono ?_
        rintro e X1 ⟨⟨u1, rfl, o1⟩, hb⟩
        obtain ⟨B1, n1, k1, rfl⟩ := PC.own_slice o1
        go_simp
        have o1 := own_mono o1 (Nat.le_trans HSZ.out hBX.size)
        have C3 := (hb.cell (p := ⟨g, _, none⟩) (Nat.lt_of_lt_of_le hgl hBX.size)).trans C3
        have hBX := hBX.next hb
        refine hK.out _ _ trivial (fun _ => ?_)
        clear hK K hb
        refine wpAnyH_ready (rs := [11]) (by kernel_rfl) (by simp) (AllReadyH.cons rfl (fun K hK => ?_) AllReadyH.nil)
        go_simp
        refine (clone_ints ((HQ.out.below (Below.mono hBX HSZ.out)).more (Nat.le_trans HSZ.out hBX.size)) LHDQ.out HDQ.out (ivI_one _)).mono ?_
        rintro e X2 ⟨⟨u2, rfl, o2⟩, hb⟩
        obtain ⟨B2, n2, k2, rfl⟩ := PC.own_slice o2
        go_simp
        have o2 := own_mono o2 (Nat.le_trans HSZ.out hBX.size)
        have o1 := own_below o1 hb
        have hBX := hBX.next hb
        refine hK.out _ _ trivial (fun _ => ?_)
        clear hK K hb
        have hgX := (hBX.block g hgl).trans HGC.out
        refine Rg.take (i := 12) (d := 38) (v := .pointer (some ⟨g, i * 4, none⟩)) rfl rfl (by kernel_rfl) (by kernel_rfl) (by kernel_rfl) (fun _ _ _ h => h) (by kernel_rfl) (fun W hSW => ?_) trivial ?_
        · clear hSW
          go_simp
        simp only [List.setIfInBounds_toArray, List.set_cons_zero, List.set_cons_succ]
        refine Rg.take (i := 13) (d := 39) (v := .pointer (some ⟨g, i * 4 + 2, none⟩)) rfl rfl (by kernel_rfl) (by kernel_rfl) (by kernel_rfl) (fun _ _ _ h => h) (by kernel_rfl) (fun W hSW => ?_) trivial ?_
        · clear hSW
          go_simp
        simp only [List.setIfInBounds_toArray, List.set_cons_zero, List.set_cons_succ]
        refine wpAnyH_ready (rs := [14]) (by kernel_rfl) (by simp) (AllReadyH.cons rfl (fun K hK => ?_) AllReadyH.nil)
        rw [if_pos (by rfl)]
        refine wp_store_cellb 54 (.tmp 39) (.tmp 32) rfl g (i * 4 + 2) rfl (.slice B1 n1 k1) rfl cur 56 hgX (by omega) (by kernel_rfl) rfl ?_
        intro Y1 g1 g2 g3 g4
        go_simp
        refine hK.out _ _ trivial (fun _ => ?_)
        clear hK K
        refine Rg.take (i := 15) (d := 40) (v := .pointer (some ⟨g, i * 4, none⟩)) rfl rfl (by kernel_rfl) (by kernel_rfl) (by kernel_rfl) (fun _ _ _ h => h) (by kernel_rfl) (fun W hSW => ?_) trivial ?_
        · clear hSW
          go_simp
        simp only [List.setIfInBounds_toArray, List.set_cons_zero, List.set_cons_succ]
        refine Rg.take (i := 16) (d := 41) (v := .pointer (some ⟨g, i * 4 + 3, none⟩)) rfl rfl (by kernel_rfl) (by kernel_rfl) (by kernel_rfl) (fun _ _ _ h => h) (by kernel_rfl) (fun W hSW => ?_) trivial ?_
        · clear hSW
          go_simp
        simp only [List.setIfInBounds_toArray, List.set_cons_zero, List.set_cons_succ]
        refine wpAnyH_ready (rs := [17]) (by kernel_rfl) (by simp) (AllReadyH.cons rfl (fun K hK => ?_) AllReadyH.nil)
        rw [if_pos (by rfl)]
        refine wp_store_cellb 54 (.tmp 41) (.tmp 37) rfl g (i * 4 + 3) rfl (.slice B2 n2 k2) rfl _ 56 g1 (by rw [Array.size_setIfInBounds]; omega) (by kernel_rfl) rfl ?_
        intro Y2 y1 y2 y3 y4
        go_simp
        refine hK.out _ _ trivial (fun _ => ?_)
        clear hK K
        refine wpAnyH_done (by kernel_rfl) ?_ _
        have ho2 : ∀ k, k ≠ g → Y2.heap[k]? = X2.heap[k]? := fun k hk => (y2 k hk).trans (g2 k hk)
        have hb2 : Below w.heap.size X2 Y2 := (Below.mono g4 hgb).trans (Below.mono y4 hgb)
        have hBX2 := Below.mono hBX HSZ.out
        have HOP2 := Lib.hid (OwnP.step (by rw [HNW.out]; exact hOP.out.next hBX HSZ.out) HI.out hgX y1 ho2 hb2 o1 o2)
        rw [HNW.out] at HOP2
        have HBK2 := Lib.hid (blk_off hgX (blk_next hbk.out hBX) (by decide) ho2)
        have HRS2 := Lib.hid (blk_off hgX (blk_next hrs.out hBX) (by decide) ho2)
        have HB2 := Lib.hid ((hB.trans hBX2).trans hb2)
        clear hBX hBX2 hb2 ho2 y1 y2 y3 y4 g1 g2 g3 g4 o1 o2 hgX hOP hbk hrs hB
        go_wp2_with fail
        exact ⟨⟨i + 1, _, by omega, by go_num, HB2.out, HOP2, HBK2, HRS2⟩, by simp [intOf]; omega⟩
    · have hin : i = nw := by omega
      subst hin
      have hbk2 := hbk.out
      have hrs2 := hrs.out
      have b0 : wr.cell? ⟨b, 0, none⟩ = some (.slice A1 m1 c1) := (cell_of_row _ _ _ _ _ _ hbk2).trans rfl
      have b1 : wr.cell? ⟨b, 1, none⟩ = some (.slice A2 m2 c2) := (cell_of_row _ _ _ _ _ _ hbk2).trans rfl
      clear hbk hrs HRS HBK HCV HCL HWL HS60
      have HBX := Lib.hid hB
      have HBK3 := Lib.hid hbk2
      have HRS3 := Lib.hid hrs2
      clear hB hbk2 hrs2
      have HOS := Lib.hid (hOP.out.all (by rw [HNW.out]; exact Nat.le_refl _) HL40.out HA.out.rows.wf HA.out.scf HA.out.wkf)
      clear hOP
      go_upto_region 8 with fail
      refine wp_region_lit (wpList_load_blk rfl 31 31 (.tmp 3) rfl b rfl #[.slice A1 m1 c1, .slice A2 m2 c2, .slice A3 i c3] (0, 0) HBK3.out _ Tryd.underlying31 rfl (by kernel_rfl) ?_)
      refine wpList_store_blk rfl 31 31 (.tmp 2) (.tmp 43) rfl (w.heap.size + 1) rfl #[.slice A1 m1 c1, .slice A2 m2 c2, .slice A3 i c3] rfl _ HRS3.out (by kernel_rfl) rfl (by simp [Value.oneCell']) ?_
      intro Y g1 g2 g3 g4
      refine wpList_nil ?_
      go_wp2_with fail
      refine bodyPost_ret (results_cell_one rfl _ _ (w.heap.size + 1) 31 _ _ _ rfl g1 Tryd.underlying31 rfl (by kernel_rfl)) rfl ?_
      exact ⟨⟨_, _, _, rfl, HOS.out.off HRS3.out (by decide) (by decide) (by decide) (by decide) g2⟩, HBX.out.trans (Below.mono g4 (Nat.le_succ _))⟩
end P20
end Go.Proofs.YtajbchecjbddgaaDoor
