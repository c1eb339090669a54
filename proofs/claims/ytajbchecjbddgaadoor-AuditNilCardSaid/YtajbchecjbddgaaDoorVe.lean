/- Audit: copied. -/
import Derived.Test.YtajbchecjbddgaaDoorVd
namespace Go.Proofs.YtajbchecjbddgaaDoor
open Go.RowKit
namespace P20
open P7

theorem wp_append_sx {P : Program} {o : Oper} {a : Act} {w : World} {K : Act → World → Prop} {Q : Exit → Act → World → Prop} (s x : Operand) (t : TypeId)
    (ho : o.op = .call { callee := .builtin .append, args := #[s, x], argTypes := #[t, t] })
    (base : Nat) (e : TypeId) (z : Value) (size bytes : Nat) (ht : P.underlying t = some (.slice e)) (hinfo : (P.info? e).map (fun i => (i.zero, i.size, i.bytes)) = some (some z, size, bytes))
    (hzs : z.cells.size = size) (hsz : 0 < size)
    (v : Value) (n : Nat) (xs : List Value) (hs : a.eval s = v) (hown : w.ownsRow base e size v n xs)
    (B m : Nat) (sv : Value) (ys : List Value) (hx : a.eval x = sv) (hr : Sl w B size sv ys) (hm : ys.length = m * size) (h1 : ∀ u ∈ ys, u.oneCell' = true)
    (h63 : n + m ≤ 1099511627776) (hbytes : (n + m) * bytes ≤ 140737488355328) (hbase : base ≤ w.heap.size)
    (h : ∀ v' w', w'.ownsRow base e size v' (n + m) (xs ++ ys) → w.grownBy w' v.ownBlock → (v'.ownBlock = v.ownBlock ∨ v'.ownBlock = some w.heap.size) → K (a.put o.dst v') w') : o.wp P a w K Q := by
  obtain ⟨i, hi, hz, hz1, hz2⟩ := info_parts hinfo
  obtain ⟨A, k, c, rfl, hkc, hk, hA⟩ := hr
  have hmk : m = k := by
    have : m * size = k * size := by omega
    exact Nat.eq_of_mul_eq_mul_right hsz this
  subst hmk
  rcases Nat.eq_zero_or_pos m with h0 | h0
  · subst h0
    have hy : ys = [] := List.eq_nil_of_length_eq_zero (by simpa using hm)
    subst hy
    rcases A with _ | ad
    · have hrun := append_nil_src (P := P) w base t o.type e i size ht hi v n xs hown c
      unfold Oper.wp execOp
      simp only [ho, resolve, invoke, builtin, Sem.run_bind, Sem.run_pure, Result.andThen_ok, List.map_toArray, List.map_cons, List.map_nil, hs, hx, hrun]
      exact h v w (by simpa using hown) (World.grownBy.refl w _) (.inl rfl)
    · obtain ⟨v', w', hr, h2, h3, _, h5⟩ := run_append_own_at (P := P) w base t o.type e i z size bytes ht hi hz hz1 hz2 hzs hsz v n xs hown ad 0 c [] (by simp) (fun j u hj => by simp at hj) h1 (by simp only [maxLen]; omega) hbytes hbase
      unfold Oper.wp execOp
      simp only [ho, resolve, invoke, builtin, Sem.run_bind, Sem.run_pure, Result.andThen_ok, List.map_toArray, List.map_cons, List.map_nil, hs, hx, hr]
      exact h v' w' h2 h3 h5
  · obtain ⟨b, off, rfl, _, hc⟩ := hA h0
    exact wp_append_sl s x t ho base e z size bytes ht hinfo hzs hsz v n xs hs hown b off m c ys hx hc hm h1 h63 hbytes hbase h
theorem own_keep2 {w w' : World} {B e size n B2 e2 size2 n2 : Nat} {v v2 : Value} {xs xs2 : List Value} (h1 : w.ownsRow B e size v n xs) (h2 : w.ownsRow B2 e2 size2 v2 n2 xs2) (hg : w.grownBy w' v2.ownBlock) (hne : e ≠ e2) : w'.ownsRow B e size v n xs :=
  PC.own_kept h1 hg fun g e => by
    rcases h2.2 with ⟨rfl, _⟩ | ⟨g', cap, cur, rfl, _, hh, _⟩
    · cases e
    · injection e with e
      have e : g' = g := e
      subst e
      exact ⟨_, _, _, hh, hne⟩
/-- A copy of the first i workers. -/
structure OwnC (B : Nat) (s : Sh) (vr vs vw : Value) (i : Nat) (cv : List (Value × Value)) (W : World) : Prop where
  rows : W.ownsRow B 64 7 vr s.l.length (rowsC s.l)
  scs : W.ownsRow B 36 6 vs s.sc.length (scsC s.sc)
  wk : W.ownsRow B 56 4 vw i (((s.ws.take i).zip cv).flatMap wkC)
  len : cv.length = i
  own : ∀ (k : Nat) (hk : k < s.ws.length) (c : Value × Value), cv[k]? = some c → W.ownsRow B 3 1 c.1 s.ws[k].st.length (iv s.ws[k].st) ∧ W.ownsRow B 3 1 c.2 s.ws[k].dq.length (iv s.ws[k].dq)
section
variable {B : Nat} {s : Sh} {vr vs vw : Value} {i : Nat} {cv : List (Value × Value)} {W W' : World}
theorem OwnC.next (h : OwnC B s vr vs vw i cv W) (hb : Below W.heap.size W W') : OwnC B s vr vs vw i cv W' :=
  ⟨own_below h.rows hb, own_below h.scs hb, own_below h.wk hb, h.len, fun k hk c hc => ⟨own_below (h.own k hk c hc).1 hb, own_below (h.own k hk c hc).2 hb⟩⟩
theorem OwnC.off {g : Nat} {cs : Array Value} {fr : Nat × Nat} (h : OwnC B s vr vs vw i cv W) (hb : W.heap[g]? = some (.cells cs 31 fr)) (ho : ∀ k, k ≠ g → W'.heap[k]? = W.heap[k]?) : OwnC B s vr vs vw i cv W' :=
  ⟨own_off h.rows hb (by decide) ho, own_off h.scs hb (by decide) ho, own_off h.wk hb (by decide) ho, h.len, fun k hk c hc => ⟨own_off (h.own k hk c hc).1 hb (by decide) ho, own_off (h.own k hk c hc).2 hb (by decide) ho⟩⟩
theorem OwnC.push {p q v' : Value} (h : OwnC B s vr vs vw i cv W) (hi : i < s.ws.length) (hg : W.grownBy W' vw.ownBlock) (ho : W'.ownsRow B 56 4 v' (i + 1) (((s.ws.take i).zip cv).flatMap wkC ++ [.bool s.ws[i].on, .bool s.ws[i].pk, p, q]))
    (o1 : W.ownsRow B 3 1 p s.ws[i].st.length (iv s.ws[i].st)) (o2 : W.ownsRow B 3 1 q s.ws[i].dq.length (iv s.ws[i].dq)) : OwnC B s vr vs v' (i + 1) (cv ++ [(p, q)]) W' := by
  have hl : (s.ws.take i).length = cv.length := by rw [List.length_take, h.len]; omega
  refine ⟨own_keep2 h.rows h.wk hg (by decide), own_keep2 h.scs h.wk hg (by decide), ?_, by simp [h.len], fun k hk c hc => ?_⟩
  · rw [List.take_succ_eq_append_getElem hi, List.zip_append hl, List.flatMap_append]
    simpa [wkC] using ho
  · rw [List.getElem?_append] at hc
    split at hc
    · exact ⟨own_keep2 (h.own k hk c hc).1 h.wk hg (by decide), own_keep2 (h.own k hk c hc).2 h.wk hg (by decide)⟩
    · rename_i hn
      rw [h.len] at hn hc
      have e : k - i = 0 := by
        rcases Nat.eq_zero_or_pos (k - i) with e | e
        · exact e
        · rw [List.getElem?_eq_none (by simp; omega)] at hc
          cases hc
      have e2 : k = i := by omega
      subst e2
      simp at hc
      subst hc
      exact ⟨own_keep2 o1 h.wk hg (by decide), own_keep2 o2 h.wk hg (by decide)⟩
theorem OwnC.all (h : OwnC B s vr vs vw i cv W) (hm : i = s.ws.length) (hl : s.l.length ≤ 1000) (h1 : ∀ r ∈ s.l, RowWf r) (h2 : ∀ x ∈ s.sc, ScWf x) (h3 : ∀ x ∈ s.ws, WkWf x) : OwnS B W vr vs vw s := by
  subst hm
  have hw := h.wk
  rw [List.take_length] at hw
  exact ⟨h.rows, h.scs, ⟨cv, h.len, hw, fun k hk c hc => h.own k hk c hc⟩, hl, h1, h2, h3⟩
theorem OwnS.mono {B' : Nat} (h : OwnS B W vr vs vw s) (hB : B' ≤ B) : OwnS B' W vr vs vw s := by
  obtain ⟨cv, g1, g2, g3⟩ := h.wks
  exact ⟨own_mono h.rows hB, own_mono h.scs hB, ⟨cv, g1, own_mono g2 hB, fun k hk c hc => ⟨own_mono (g3 k hk c hc).1 hB, own_mono (g3 k hk c hc).2 hB⟩⟩, h.len, h.rwf, h.scf, h.wkf⟩
end
theorem sl_lit {W : World} {size : Nat} {cs : Array Value} {t : TypeId} (hs : cs.size = size) : Sl (W.alloc (.cells cs t)) (W.alloc (.cells cs t)).heap.size size (.slice (some ⟨W.heap.size, 0, none⟩) 1 1) cs.toList :=
  ⟨_, 1, 1, rfl, Nat.le_refl _, by simp [hs], fun _ => ⟨_, 0, rfl, by simp, fun j u hj => by
    rw [cell_of_row _ _ _ cs t (0, 0) (heap_alloc_last W _)]
    simpa using hj⟩⟩
set_option maxRecDepth 100000 in
set_option maxHeartbeats 16000000 in
theorem copied_any {w : World} {vr vs vw : Value} {s : Sh} (hA : Shm w vr vs vw s) (hf : FewS s) :
    Calls Tryd.prog 21 #[.agg #[vr, vs, vw]] w fun e w' => (∃ ur us uw, e = .returned (.agg #[ur, us, uw]) ∧ OwnS w.heap.size w' ur us uw s) ∧ Below w.heap.size w w' := by
  obtain ⟨Ar, cr, hvr, -, -⟩ := rows_open hA.rows.sl
  obtain ⟨As, cs, hvs, -, -⟩ := scs_open hA.scs
  obtain ⟨Aw, cw, hvw, hncw, hAw⟩ := hA.wks.open_
  have HAW := Lib.hid hAw
  have hl40 := hf.l
  have hs60 := hf.sc
  have hw20 := hf.ws
  have HF := Lib.hid hf
  obtain ⟨nr, hnr⟩ := name_of s.l.length
  obtain ⟨ns, hns⟩ := name_of s.sc.length
  obtain ⟨nw, hnw⟩ := name_of s.ws.length
  have HNR := Lib.hid hnr
  have HNS := Lib.hid hns
  have HNW := Lib.hid hnw
  rw [hnr] at hvr
  rw [hns] at hvs
  rw [hnw] at hvw hncw hw20
  subst hvr hvs hvw
  have HL40 : Hid (s.l.length ≤ 1000) := Lib.hid (by omega)
  have HS60 : Hid (s.sc.length ≤ 1000) := Lib.hid (by omega)
  obtain ⟨V, hV⟩ := name_of ((w.alloc (.cells #[.slice Ar nr cr, .slice As ns cs, .slice Aw nw cw] 26)).alloc (.cells #[.slice none 0 0, .slice none 0 0, .slice none 0 0] 31))
  have hbV : Below w.heap.size w V := by rw [← hV]; go_grown
  have hbx : V.heap[w.heap.size]? = some (.cells #[.slice Ar nr cr, .slice As ns cs, .slice Aw nw cw] 26 (0, 0)) := by rw [← hV]; exact heap_alloc2_old w _ _
  have hres : V.heap[w.heap.size + 1]? = some (.cells #[.slice none 0 0, .slice none 0 0, .slice none 0 0] 31 (0, 0)) := by rw [← hV]; exact heap_alloc2_new w _ _
  have hBX : BxS V w.heap.size (.slice Ar nr cr) (.slice As ns cs) (.slice Aw nw cw) V := ⟨Below.refl _ _, (cell_of_row _ _ _ _ _ _ hbx).trans rfl, (cell_of_row _ _ _ _ _ _ hbx).trans rfl, (cell_of_row _ _ _ _ _ _ hbx).trans rfl⟩
  have hgl := lt_of_block hbx
  have HGL := Lib.hid hgl
  have HBX := Lib.hid hBX
  have HBV := Lib.hid hbV
  have HRES := Lib.hid hres
  have HA := Lib.hid hA
  have HAV := Lib.hid (hA.next hbV)
  have HVS := Lib.hid hbV.size
  clear hA hf hbV hbx hres hgl hBX hnr hns hnw hAw hl40 hs60
  go_enter Tryd.func21, Tryd.ntmps21
  go_upto_region 1 with fail
  clear hV
  go_cut [3] from 3 to 14 (fun x wx => ∃ (b : Nat) (ur us : Value), x = .pointer (some ⟨b, 0, none⟩) ∧ V.heap.size ≤ b ∧ wx.heap[b]? = some (.cells #[ur, us, .slice none 0 0] 31 (0, 0)) ∧ wx.ownsRow V.heap.size 64 7 ur s.l.length (rowsC s.l) ∧ wx.ownsRow V.heap.size 36 6 us s.sc.length (scsC s.sc) ∧ BxS V w.heap.size (.slice Ar nr cr) (.slice As ns cs) (.slice Aw nw cw) wx)
  case first =>
    refine wp_region_held_drew (S := (fun W => BxS V w.heap.size (.slice Ar nr cr) (.slice As ns cs) (.slice Aw nw cw) W)) (by kernel_rfl) (BxS.next HBX.out below_drewU HGL.out) (fun hH => ?_)
    obtain ⟨W0, hW0⟩ := name_of V.drew
    rw [hW0] at hH ⊢
    clear hW0
    refine Rg.take (i := 1) (d := 7) (v := .pointer (some ⟨w.heap.size, 0, none⟩)) rfl rfl (by kernel_rfl) (by kernel_rfl) (by kernel_rfl) (fun _ _ _ h => h) (by kernel_rfl) (fun W hSW => ?_) hH ?_
    · clear hSW
      go_simp
    simp only [List.setIfInBounds_toArray, List.set_cons_zero, List.set_cons_succ]
    refine Rg.take (i := 2) (d := 8) (v := .slice Ar nr cr) rfl rfl (by kernel_rfl) (by kernel_rfl) (by kernel_rfl) (fun _ _ _ h => h) (by kernel_rfl) (fun W hSW => ?_) hH ?_
    · obtain ⟨-, q0, -, -⟩ := hSW
      go_simp
    simp only [List.setIfInBounds_toArray, List.set_cons_zero, List.set_cons_succ]
    refine Rg.take (i := 5) (d := 11) (v := .pointer (some ⟨w.heap.size, 1, none⟩)) rfl rfl (by kernel_rfl) (by kernel_rfl) (by kernel_rfl) (fun _ _ _ h => h) (by kernel_rfl) (fun W hSW => ?_) hH ?_
    · clear hSW
      go_simp
    simp only [List.setIfInBounds_toArray, List.set_cons_zero, List.set_cons_succ]
    refine Rg.take (i := 6) (d := 12) (v := .slice As ns cs) rfl rfl (by kernel_rfl) (by kernel_rfl) (by kernel_rfl) (fun _ _ _ h => h) (by kernel_rfl) (fun W hSW => ?_) hH ?_
    · obtain ⟨-, -, q1, -⟩ := hSW
      go_simp
    simp only [List.setIfInBounds_toArray, List.set_cons_zero, List.set_cons_succ]
    refine wpAnyH_ready (rs := [0, 4, 9]) (by kernel_rfl) (by simp) (AllReadyH.cons rfl (fun K hK => ?_) (AllReadyH.cons rfl (fun K hK => ?_) (AllReadyH.cons rfl (fun K hK => ?_) AllReadyH.nil)))
    · go_simp
      have hb : Below W0.heap.size W0 (W0.alloc (.cells #[] 64)) := (Below.refl _ _).alloc (Nat.le_refl _) _
      have eR := own_empty W0 64 7 V.heap.size hH.1.size
      refine hK.out _ _ (BxS.next hH hb HGL.out) (fun hH => ?_)
      clear hK K
      obtain ⟨gR, hgn⟩ := name_of W0.heap.size
      obtain ⟨Y1, hY⟩ := name_of (W0.alloc (.cells #[] 64))
      rw [hgn] at eR ⊢
      rw [hY] at hH eR ⊢
      clear hb hgn hY
      refine wpAnyH_ready (rs := [3, 4, 9]) (by kernel_rfl) (by simp) (AllReadyH.cons rfl (fun K hK => ?_) (AllReadyH.cons rfl (fun K hK => ?_) (AllReadyH.cons rfl (fun K hK => ?_) AllReadyH.nil)))
      · rw [if_pos (by rfl)]
        refine wp_append_sx (.tmp 6) (.tmp 8) 22 rfl V.heap.size 64 (rowV rowD) 7 64 Tryd.underlying22 infoC_rows rfl (by omega) _ 0 _ rfl eR _ s.l.length _ (rowsC s.l) rfl (HAV.out.next hH.1).rows.sl (rowsC_length _) (rowsC_one _) (by have := HL40.out; omega) (by have := HL40.out; omega) hH.1.size ?_
        intro v1 Y2 oR hg hat
        rw [Nat.zero_add, List.nil_append] at oR
        have hbV := below_append hH.1 eR hg (Nat.le_refl _)
        obtain ⟨A1, m1, c1, rfl⟩ := PC.own_slice oR
        go_simp
        refine hK.out _ _ (BxS.next HBX.out hbV HGL.out) (fun hH => ?_)
        clear hK K hbV hg hat eR
        refine wpAnyH_ready (rs := [4, 9]) (by kernel_rfl) (by simp) (AllReadyH.cons rfl (fun K hK => ?_) (AllReadyH.cons rfl (fun K hK => ?_) AllReadyH.nil))
        · go_simp
          have hb : Below Y2.heap.size Y2 (Y2.alloc (.cells #[] 36)) := (Below.refl _ _).alloc (Nat.le_refl _) _
          have eS := own_empty Y2 36 6 V.heap.size hH.1.size
          have oR := own_below oR hb
          refine hK.out _ _ (BxS.next hH hb HGL.out) (fun hH => ?_)
          clear hK K
          obtain ⟨gS, hgn⟩ := name_of Y2.heap.size
          obtain ⟨Y3, hY⟩ := name_of (Y2.alloc (.cells #[] 36))
          rw [hgn] at eS ⊢
          rw [hY] at hH eS oR ⊢
          clear hb hgn hY
          refine wpAnyH_ready (rs := [7, 9]) (by kernel_rfl) (by simp) (AllReadyH.cons rfl (fun K hK => ?_) (AllReadyH.cons rfl (fun K hK => ?_) AllReadyH.nil))
          · rw [if_pos (by rfl)]
            refine wp_append_sx (.tmp 10) (.tmp 12) 23 rfl V.heap.size 36 (scV scD) 6 40 Tryd.underlying23 infoC_scs rfl (by omega) _ 0 _ rfl eS _ s.sc.length _ (scsC s.sc) rfl (HAV.out.next hH.1).scs (scsC_length _) (scsC_one _) (by have := HS60.out; omega) (by have := HS60.out; omega) hH.1.size ?_
            intro v2 Y4 oS hg hat
            rw [Nat.zero_add, List.nil_append] at oS
            have hbV := below_append hH.1 eS hg (Nat.le_refl _)
            have oR := own_keep2 oR eS hg (by decide)
            obtain ⟨A2, m2, c2, rfl⟩ := PC.own_slice oS
            go_simp
            refine hK.out _ _ (BxS.next HBX.out hbV HGL.out) (fun hH => ?_)
            clear hK K hbV hg hat eS
            refine Rg.take (i := 8) (d := 14) (v := .agg #[.slice A1 m1 c1, .slice A2 m2 c2, .slice none 0 0]) rfl rfl (by kernel_rfl) (by kernel_rfl) (by kernel_rfl) (fun _ _ _ h => h) (by kernel_rfl) (fun W hSW => ?_) hH ?_
            · clear hSW
              go_simp
            simp only [List.setIfInBounds_toArray, List.set_cons_zero, List.set_cons_succ]
            refine wpAnyH_ready (rs := [9]) (by kernel_rfl) (by simp) (AllReadyH.cons rfl (fun K hK => ?_) AllReadyH.nil)
            go_simp
            have hb : Below Y4.heap.size Y4 (Y4.alloc (.cells #[.slice none 0 0, .slice none 0 0, .slice none 0 0] 31)) := (Below.refl _ _).alloc (Nat.le_refl _) _
            have hblk := heap_alloc_last Y4 (.cells #[.slice none 0 0, .slice none 0 0, .slice none 0 0] 31)
            have hvb : V.heap.size ≤ Y4.heap.size := hH.1.size
            have oR := own_below oR hb
            have oS := own_below oS hb
            refine hK.out _ _ (BxS.next hH hb HGL.out) (fun hH => ?_)
            clear hK K
            obtain ⟨b, hgn⟩ := name_of Y4.heap.size
            obtain ⟨Y5, hY⟩ := name_of (Y4.alloc (.cells #[.slice none 0 0, .slice none 0 0, .slice none 0 0] 31))
            rw [hgn] at hblk hvb ⊢
            rw [hY] at hH hblk oR oS ⊢
            clear hb hgn hY
            refine wpAnyH_ready (rs := [10]) (by kernel_rfl) (by simp) (AllReadyH.cons rfl (fun K hK => ?_) AllReadyH.nil)
            rw [if_pos (by rfl)]
            refine wp_store_blk 31 31 (.tmp 3) (.tmp 14) rfl b rfl #[.slice A1 m1 c1, .slice A2 m2 c2, .slice none 0 0] rfl _ hblk (by kernel_rfl) rfl (by simp [Value.oneCell']) ?_
            intro w9 g1 g2 g3 g4
            go_simp
            refine hK.out _ _ (hH.low g4 hvb HGL.out) (fun hH9 => ?_)
            clear hK K
            refine wpAnyH_done (by kernel_rfl) ?_ _
            go_wp2_with fail
            go_meet
            exact ⟨b, _, _, rfl, hvb, g1, own_off oR hblk (by decide) g2, own_off oS hblk (by decide) g2, hH9⟩
          · go_simp
            have hb : Below Y3.heap.size Y3 (Y3.alloc (.cells #[.slice none 0 0, .slice none 0 0, .slice none 0 0] 31)) := (Below.refl _ _).alloc (Nat.le_refl _) _
            have hblk := heap_alloc_last Y3 (.cells #[.slice none 0 0, .slice none 0 0, .slice none 0 0] 31)
            have hvb : V.heap.size ≤ Y3.heap.size := hH.1.size
            have oR := own_below oR hb
            have eS := own_below eS hb
            refine hK.out _ _ (BxS.next hH hb HGL.out) (fun hH => ?_)
            clear hK K
            obtain ⟨b, hgn⟩ := name_of Y3.heap.size
            obtain ⟨Y6, hY⟩ := name_of (Y3.alloc (.cells #[.slice none 0 0, .slice none 0 0, .slice none 0 0] 31))
            rw [hgn] at hblk hvb ⊢
            rw [hY] at hH hblk oR eS ⊢
            clear hb hgn hY
            refine wpAnyH_ready (rs := [7]) (by kernel_rfl) (by simp) (AllReadyH.cons rfl (fun K hK => ?_) AllReadyH.nil)
            rw [if_pos (by rfl)]
            refine wp_append_sx (.tmp 10) (.tmp 12) 23 rfl V.heap.size 36 (scV scD) 6 40 Tryd.underlying23 infoC_scs rfl (by omega) _ 0 _ rfl eS _ s.sc.length _ (scsC s.sc) rfl (HAV.out.next hH.1).scs (scsC_length _) (scsC_one _) (by have := HS60.out; omega) (by have := HS60.out; omega) hH.1.size ?_
            intro v2 Y7 oS hg hat
            rw [Nat.zero_add, List.nil_append] at oS
            have hbV := below_append hH.1 eS hg (Nat.le_refl _)
            have oR := own_keep2 oR eS hg (by decide)
            have hblk := grown_block hg hblk (own_ne eS hblk (by decide))
            obtain ⟨A2, m2, c2, rfl⟩ := PC.own_slice oS
            go_simp
            refine hK.out _ _ (BxS.next HBX.out hbV HGL.out) (fun hH => ?_)
            clear hK K hbV hg hat eS
            refine Rg.take (i := 8) (d := 14) (v := .agg #[.slice A1 m1 c1, .slice A2 m2 c2, .slice none 0 0]) rfl rfl (by kernel_rfl) (by kernel_rfl) (by kernel_rfl) (fun _ _ _ h => h) (by kernel_rfl) (fun W hSW => ?_) hH ?_
            · clear hSW
              go_simp
            simp only [List.setIfInBounds_toArray, List.set_cons_zero, List.set_cons_succ]
            refine wpAnyH_ready (rs := [10]) (by kernel_rfl) (by simp) (AllReadyH.cons rfl (fun K hK => ?_) AllReadyH.nil)
            rw [if_pos (by rfl)]
            refine wp_store_blk 31 31 (.tmp 3) (.tmp 14) rfl b rfl #[.slice A1 m1 c1, .slice A2 m2 c2, .slice none 0 0] rfl _ hblk (by kernel_rfl) rfl (by simp [Value.oneCell']) ?_
            intro w9 g1 g2 g3 g4
            go_simp
            refine hK.out _ _ (hH.low g4 hvb HGL.out) (fun hH9 => ?_)
            clear hK K
            refine wpAnyH_done (by kernel_rfl) ?_ _
            go_wp2_with fail
            go_meet
            exact ⟨b, _, _, rfl, hvb, g1, own_off oR hblk (by decide) g2, own_off oS hblk (by decide) g2, hH9⟩
        · go_simp
          have hb : Below Y2.heap.size Y2 (Y2.alloc (.cells #[.slice none 0 0, .slice none 0 0, .slice none 0 0] 31)) := (Below.refl _ _).alloc (Nat.le_refl _) _
          have hblk := heap_alloc_last Y2 (.cells #[.slice none 0 0, .slice none 0 0, .slice none 0 0] 31)
          have hvb : V.heap.size ≤ Y2.heap.size := hH.1.size
          have oR := own_below oR hb
          refine hK.out _ _ (BxS.next hH hb HGL.out) (fun hH => ?_)
          clear hK K
          obtain ⟨b, hgn⟩ := name_of Y2.heap.size
          obtain ⟨Y8, hY⟩ := name_of (Y2.alloc (.cells #[.slice none 0 0, .slice none 0 0, .slice none 0 0] 31))
          rw [hgn] at hblk hvb ⊢
          rw [hY] at hH hblk oR ⊢
          clear hb hgn hY
          refine wpAnyH_ready (rs := [4]) (by kernel_rfl) (by simp) (AllReadyH.cons rfl (fun K hK => ?_) AllReadyH.nil)
          go_simp
          have hb : Below Y8.heap.size Y8 (Y8.alloc (.cells #[] 36)) := (Below.refl _ _).alloc (Nat.le_refl _) _
          have eS := own_empty Y8 36 6 V.heap.size hH.1.size
          have oR := own_below oR hb
          have hblk := blk_next hblk hb
          refine hK.out _ _ (BxS.next hH hb HGL.out) (fun hH => ?_)
          clear hK K
          obtain ⟨gS, hgn⟩ := name_of Y8.heap.size
          obtain ⟨Y9, hY⟩ := name_of (Y8.alloc (.cells #[] 36))
          rw [hgn] at eS ⊢
          rw [hY] at hH eS oR hblk ⊢
          clear hb hgn hY
          refine wpAnyH_ready (rs := [7]) (by kernel_rfl) (by simp) (AllReadyH.cons rfl (fun K hK => ?_) AllReadyH.nil)
          rw [if_pos (by rfl)]
          refine wp_append_sx (.tmp 10) (.tmp 12) 23 rfl V.heap.size 36 (scV scD) 6 40 Tryd.underlying23 infoC_scs rfl (by omega) _ 0 _ rfl eS _ s.sc.length _ (scsC s.sc) rfl (HAV.out.next hH.1).scs (scsC_length _) (scsC_one _) (by have := HS60.out; omega) (by have := HS60.out; omega) hH.1.size ?_
          intro v2 Y10 oS hg hat
          rw [Nat.zero_add, List.nil_append] at oS
          have hbV := below_append hH.1 eS hg (Nat.le_refl _)
          have oR := own_keep2 oR eS hg (by decide)
          have hblk := grown_block hg hblk (own_ne eS hblk (by decide))
          obtain ⟨A2, m2, c2, rfl⟩ := PC.own_slice oS
          go_simp
          refine hK.out _ _ (BxS.next HBX.out hbV HGL.out) (fun hH => ?_)
          clear hK K hbV hg hat eS
          refine Rg.take (i := 8) (d := 14) (v := .agg #[.slice A1 m1 c1, .slice A2 m2 c2, .slice none 0 0]) rfl rfl (by kernel_rfl) (by kernel_rfl) (by kernel_rfl) (fun _ _ _ h => h) (by kernel_rfl) (fun W hSW => ?_) hH ?_
          · clear hSW
            go_simp
          simp only [List.setIfInBounds_toArray, List.set_cons_zero, List.set_cons_succ]
          refine wpAnyH_ready (rs := [10]) (by kernel_rfl) (by simp) (AllReadyH.cons rfl (fun K hK => ?_) AllReadyH.nil)
          rw [if_pos (by rfl)]
          refine wp_store_blk 31 31 (.tmp 3) (.tmp 14) rfl b rfl #[.slice A1 m1 c1, .slice A2 m2 c2, .slice none 0 0] rfl _ hblk (by kernel_rfl) rfl (by simp [Value.oneCell']) ?_
          intro w9 g1 g2 g3 g4
          go_simp
          refine hK.out _ _ (hH.low g4 hvb HGL.out) (fun hH9 => ?_)
          clear hK K
          refine wpAnyH_done (by kernel_rfl) ?_ _
          go_wp2_with fail
          go_meet
          exact ⟨b, _, _, rfl, hvb, g1, own_off oR hblk (by decide) g2, own_off oS hblk (by decide) g2, hH9⟩
      · go_simp
        have hb : Below Y1.heap.size Y1 (Y1.alloc (.cells #[] 36)) := (Below.refl _ _).alloc (Nat.le_refl _) _
        have eS := own_empty Y1 36 6 V.heap.size hH.1.size
        have eR := own_below eR hb
        refine hK.out _ _ (BxS.next hH hb HGL.out) (fun hH => ?_)
        clear hK K
        obtain ⟨gS, hgn⟩ := name_of Y1.heap.size
        obtain ⟨Y11, hY⟩ := name_of (Y1.alloc (.cells #[] 36))
        rw [hgn] at eS ⊢
        rw [hY] at hH eS eR ⊢
        clear hb hgn hY
        refine wpAnyH_ready (rs := [3, 9]) (by kernel_rfl) (by simp) (AllReadyH.cons rfl (fun K hK => ?_) (AllReadyH.cons rfl (fun K hK => ?_) AllReadyH.nil))
        · rw [if_pos (by rfl)]
          refine wp_append_sx (.tmp 6) (.tmp 8) 22 rfl V.heap.size 64 (rowV rowD) 7 64 Tryd.underlying22 infoC_rows rfl (by omega) _ 0 _ rfl eR _ s.l.length _ (rowsC s.l) rfl (HAV.out.next hH.1).rows.sl (rowsC_length _) (rowsC_one _) (by have := HL40.out; omega) (by have := HL40.out; omega) hH.1.size ?_
          intro v1 Y12 oR hg hat
          rw [Nat.zero_add, List.nil_append] at oR
          have hbV := below_append hH.1 eR hg (Nat.le_refl _)
          have eS := own_keep2 eS eR hg (by decide)
          obtain ⟨A1, m1, c1, rfl⟩ := PC.own_slice oR
          go_simp
          refine hK.out _ _ (BxS.next HBX.out hbV HGL.out) (fun hH => ?_)
          clear hK K hbV hg hat eR
          refine wpAnyH_ready (rs := [7, 9]) (by kernel_rfl) (by simp) (AllReadyH.cons rfl (fun K hK => ?_) (AllReadyH.cons rfl (fun K hK => ?_) AllReadyH.nil))
          · rw [if_pos (by rfl)]
            refine wp_append_sx (.tmp 10) (.tmp 12) 23 rfl V.heap.size 36 (scV scD) 6 40 Tryd.underlying23 infoC_scs rfl (by omega) _ 0 _ rfl eS _ s.sc.length _ (scsC s.sc) rfl (HAV.out.next hH.1).scs (scsC_length _) (scsC_one _) (by have := HS60.out; omega) (by have := HS60.out; omega) hH.1.size ?_
            intro v2 Y13 oS hg hat
            rw [Nat.zero_add, List.nil_append] at oS
            have hbV := below_append hH.1 eS hg (Nat.le_refl _)
            have oR := own_keep2 oR eS hg (by decide)
            obtain ⟨A2, m2, c2, rfl⟩ := PC.own_slice oS
            go_simp
            refine hK.out _ _ (BxS.next HBX.out hbV HGL.out) (fun hH => ?_)
            clear hK K hbV hg hat eS
            refine Rg.take (i := 8) (d := 14) (v := .agg #[.slice A1 m1 c1, .slice A2 m2 c2, .slice none 0 0]) rfl rfl (by kernel_rfl) (by kernel_rfl) (by kernel_rfl) (fun _ _ _ h => h) (by kernel_rfl) (fun W hSW => ?_) hH ?_
            · clear hSW
              go_simp
            simp only [List.setIfInBounds_toArray, List.set_cons_zero, List.set_cons_succ]
            refine wpAnyH_ready (rs := [9]) (by kernel_rfl) (by simp) (AllReadyH.cons rfl (fun K hK => ?_) AllReadyH.nil)
            go_simp
            have hb : Below Y13.heap.size Y13 (Y13.alloc (.cells #[.slice none 0 0, .slice none 0 0, .slice none 0 0] 31)) := (Below.refl _ _).alloc (Nat.le_refl _) _
            have hblk := heap_alloc_last Y13 (.cells #[.slice none 0 0, .slice none 0 0, .slice none 0 0] 31)
            have hvb : V.heap.size ≤ Y13.heap.size := hH.1.size
            have oR := own_below oR hb
            have oS := own_below oS hb
            refine hK.out _ _ (BxS.next hH hb HGL.out) (fun hH => ?_)
            clear hK K
            obtain ⟨b, hgn⟩ := name_of Y13.heap.size
            obtain ⟨Y14, hY⟩ := name_of (Y13.alloc (.cells #[.slice none 0 0, .slice none 0 0, .slice none 0 0] 31))
            rw [hgn] at hblk hvb ⊢
            rw [hY] at hH hblk oR oS ⊢
            clear hb hgn hY
            refine wpAnyH_ready (rs := [10]) (by kernel_rfl) (by simp) (AllReadyH.cons rfl (fun K hK => ?_) AllReadyH.nil)
            rw [if_pos (by rfl)]
            refine wp_store_blk 31 31 (.tmp 3) (.tmp 14) rfl b rfl #[.slice A1 m1 c1, .slice A2 m2 c2, .slice none 0 0] rfl _ hblk (by kernel_rfl) rfl (by simp [Value.oneCell']) ?_
            intro w9 g1 g2 g3 g4
            go_simp
            refine hK.out _ _ (hH.low g4 hvb HGL.out) (fun hH9 => ?_)
            clear hK K
            refine wpAnyH_done (by kernel_rfl) ?_ _
            go_wp2_with fail
            go_meet
            exact ⟨b, _, _, rfl, hvb, g1, own_off oR hblk (by decide) g2, own_off oS hblk (by decide) g2, hH9⟩
          · go_simp
            have hb : Below Y12.heap.size Y12 (Y12.alloc (.cells #[.slice none 0 0, .slice none 0 0, .slice none 0 0] 31)) := (Below.refl _ _).alloc (Nat.le_refl _) _
            have hblk := heap_alloc_last Y12 (.cells #[.slice none 0 0, .slice none 0 0, .slice none 0 0] 31)
            have hvb : V.heap.size ≤ Y12.heap.size := hH.1.size
            have oR := own_below oR hb
            have eS := own_below eS hb
            refine hK.out _ _ (BxS.next hH hb HGL.out) (fun hH => ?_)
            clear hK K
            obtain ⟨b, hgn⟩ := name_of Y12.heap.size
            obtain ⟨Y15, hY⟩ := name_of (Y12.alloc (.cells #[.slice none 0 0, .slice none 0 0, .slice none 0 0] 31))
            rw [hgn] at hblk hvb ⊢
            rw [hY] at hH hblk oR eS ⊢
            clear hb hgn hY
            refine wpAnyH_ready (rs := [7]) (by kernel_rfl) (by simp) (AllReadyH.cons rfl (fun K hK => ?_) AllReadyH.nil)
            rw [if_pos (by rfl)]
            refine wp_append_sx (.tmp 10) (.tmp 12) 23 rfl V.heap.size 36 (scV scD) 6 40 Tryd.underlying23 infoC_scs rfl (by omega) _ 0 _ rfl eS _ s.sc.length _ (scsC s.sc) rfl (HAV.out.next hH.1).scs (scsC_length _) (scsC_one _) (by have := HS60.out; omega) (by have := HS60.out; omega) hH.1.size ?_
            intro v2 Y16 oS hg hat
            rw [Nat.zero_add, List.nil_append] at oS
            have hbV := below_append hH.1 eS hg (Nat.le_refl _)
            have oR := own_keep2 oR eS hg (by decide)
            have hblk := grown_block hg hblk (own_ne eS hblk (by decide))
            obtain ⟨A2, m2, c2, rfl⟩ := PC.own_slice oS
            go_simp
            refine hK.out _ _ (BxS.next HBX.out hbV HGL.out) (fun hH => ?_)
            clear hK K hbV hg hat eS
            refine Rg.take (i := 8) (d := 14) (v := .agg #[.slice A1 m1 c1, .slice A2 m2 c2, .slice none 0 0]) rfl rfl (by kernel_rfl) (by kernel_rfl) (by kernel_rfl) (fun _ _ _ h => h) (by kernel_rfl) (fun W hSW => ?_) hH ?_
            · clear hSW
              go_simp
            simp only [List.setIfInBounds_toArray, List.set_cons_zero, List.set_cons_succ]
            refine wpAnyH_ready (rs := [10]) (by kernel_rfl) (by simp) (AllReadyH.cons rfl (fun K hK => ?_) AllReadyH.nil)
            rw [if_pos (by rfl)]
            refine wp_store_blk 31 31 (.tmp 3) (.tmp 14) rfl b rfl #[.slice A1 m1 c1, .slice A2 m2 c2, .slice none 0 0] rfl _ hblk (by kernel_rfl) rfl (by simp [Value.oneCell']) ?_
            intro w9 g1 g2 g3 g4
            go_simp
            refine hK.out _ _ (hH.low g4 hvb HGL.out) (fun hH9 => ?_)
            clear hK K
            refine wpAnyH_done (by kernel_rfl) ?_ _
            go_wp2_with fail
            go_meet
            exact ⟨b, _, _, rfl, hvb, g1, own_off oR hblk (by decide) g2, own_off oS hblk (by decide) g2, hH9⟩
        · go_simp
          have hb : Below Y11.heap.size Y11 (Y11.alloc (.cells #[.slice none 0 0, .slice none 0 0, .slice none 0 0] 31)) := (Below.refl _ _).alloc (Nat.le_refl _) _
          have hblk := heap_alloc_last Y11 (.cells #[.slice none 0 0, .slice none 0 0, .slice none 0 0] 31)
          have hvb : V.heap.size ≤ Y11.heap.size := hH.1.size
          have eR := own_below eR hb
          have eS := own_below eS hb
          refine hK.out _ _ (BxS.next hH hb HGL.out) (fun hH => ?_)
          clear hK K
          obtain ⟨b, hgn⟩ := name_of Y11.heap.size
          obtain ⟨Y17, hY⟩ := name_of (Y11.alloc (.cells #[.slice none 0 0, .slice none 0 0, .slice none 0 0] 31))
          rw [hgn] at hblk hvb ⊢
          rw [hY] at hH hblk eR eS ⊢
          clear hb hgn hY
          refine wpAnyH_ready (rs := [3]) (by kernel_rfl) (by simp) (AllReadyH.cons rfl (fun K hK => ?_) AllReadyH.nil)
          rw [if_pos (by rfl)]
          refine wp_append_sx (.tmp 6) (.tmp 8) 22 rfl V.heap.size 64 (rowV rowD) 7 64 Tryd.underlying22 infoC_rows rfl (by omega) _ 0 _ rfl eR _ s.l.length _ (rowsC s.l) rfl (HAV.out.next hH.1).rows.sl (rowsC_length _) (rowsC_one _) (by have := HL40.out; omega) (by have := HL40.out; omega) hH.1.size ?_
          intro v1 Y18 oR hg hat
          rw [Nat.zero_add, List.nil_append] at oR
          have hbV := below_append hH.1 eR hg (Nat.le_refl _)
          have eS := own_keep2 eS eR hg (by decide)
          have hblk := grown_block hg hblk (own_ne eR hblk (by decide))
          obtain ⟨A1, m1, c1, rfl⟩ := PC.own_slice oR
          go_simp
          refine hK.out _ _ (BxS.next HBX.out hbV HGL.out) (fun hH => ?_)
          clear hK K hbV hg hat eR
          refine wpAnyH_ready (rs := [7]) (by kernel_rfl) (by simp) (AllReadyH.cons rfl (fun K hK => ?_) AllReadyH.nil)
          rw [if_pos (by rfl)]
          refine wp_append_sx (.tmp 10) (.tmp 12) 23 rfl V.heap.size 36 (scV scD) 6 40 Tryd.underlying23 infoC_scs rfl (by omega) _ 0 _ rfl eS _ s.sc.length _ (scsC s.sc) rfl (HAV.out.next hH.1).scs (scsC_length _) (scsC_one _) (by have := HS60.out; omega) (by have := HS60.out; omega) hH.1.size ?_
          intro v2 Y19 oS hg hat
          rw [Nat.zero_add, List.nil_append] at oS
          have hbV := below_append hH.1 eS hg (Nat.le_refl _)
          have oR := own_keep2 oR eS hg (by decide)
          have hblk := grown_block hg hblk (own_ne eS hblk (by decide))
          obtain ⟨A2, m2, c2, rfl⟩ := PC.own_slice oS
          go_simp
          refine hK.out _ _ (BxS.next HBX.out hbV HGL.out) (fun hH => ?_)
          clear hK K hbV hg hat eS
          refine Rg.take (i := 8) (d := 14) (v := .agg #[.slice A1 m1 c1, .slice A2 m2 c2, .slice none 0 0]) rfl rfl (by kernel_rfl) (by kernel_rfl) (by kernel_rfl) (fun _ _ _ h => h) (by kernel_rfl) (fun W hSW => ?_) hH ?_
          · clear hSW
            go_simp
          simp only [List.setIfInBounds_toArray, List.set_cons_zero, List.set_cons_succ]
          refine wpAnyH_ready (rs := [10]) (by kernel_rfl) (by simp) (AllReadyH.cons rfl (fun K hK => ?_) AllReadyH.nil)
          rw [if_pos (by rfl)]
          refine wp_store_blk 31 31 (.tmp 3) (.tmp 14) rfl b rfl #[.slice A1 m1 c1, .slice A2 m2 c2, .slice none 0 0] rfl _ hblk (by kernel_rfl) rfl (by simp [Value.oneCell']) ?_
          intro w9 g1 g2 g3 g4
          go_simp
          refine hK.out _ _ (hH.low g4 hvb HGL.out) (fun hH9 => ?_)
          clear hK K
          refine wpAnyH_done (by kernel_rfl) ?_ _
          go_wp2_with fail
          go_meet
          exact ⟨b, _, _, rfl, hvb, g1, own_off oR hblk (by decide) g2, own_off oS hblk (by decide) g2, hH9⟩
      · go_simp
        have hb : Below Y1.heap.size Y1 (Y1.alloc (.cells #[.slice none 0 0, .slice none 0 0, .slice none 0 0] 31)) := (Below.refl _ _).alloc (Nat.le_refl _) _
        have hblk := heap_alloc_last Y1 (.cells #[.slice none 0 0, .slice none 0 0, .slice none 0 0] 31)
        have hvb : V.heap.size ≤ Y1.heap.size := hH.1.size
        have eR := own_below eR hb
        refine hK.out _ _ (BxS.next hH hb HGL.out) (fun hH => ?_)
        clear hK K
        obtain ⟨b, hgn⟩ := name_of Y1.heap.size
        obtain ⟨Y20, hY⟩ := name_of (Y1.alloc (.cells #[.slice none 0 0, .slice none 0 0, .slice none 0 0] 31))
        rw [hgn] at hblk hvb ⊢
        rw [hY] at hH hblk eR ⊢
        clear hb hgn hY
        refine wpAnyH_ready (rs := [3, 4]) (by kernel_rfl) (by simp) (AllReadyH.cons rfl (fun K hK => ?_) (AllReadyH.cons rfl (fun K hK => ?_) AllReadyH.nil))
        · rw [if_pos (by rfl)]
          refine wp_append_sx (.tmp 6) (.tmp 8) 22 rfl V.heap.size 64 (rowV rowD) 7 64 Tryd.underlying22 infoC_rows rfl (by omega) _ 0 _ rfl eR _ s.l.length _ (rowsC s.l) rfl (HAV.out.next hH.1).rows.sl (rowsC_length _) (rowsC_one _) (by have := HL40.out; omega) (by have := HL40.out; omega) hH.1.size ?_
          intro v1 Y21 oR hg hat
          rw [Nat.zero_add, List.nil_append] at oR
          have hbV := below_append hH.1 eR hg (Nat.le_refl _)
          have hblk := grown_block hg hblk (own_ne eR hblk (by decide))
          obtain ⟨A1, m1, c1, rfl⟩ := PC.own_slice oR
          go_simp
          refine hK.out _ _ (BxS.next HBX.out hbV HGL.out) (fun hH => ?_)
          clear hK K hbV hg hat eR
          refine wpAnyH_ready (rs := [4]) (by kernel_rfl) (by simp) (AllReadyH.cons rfl (fun K hK => ?_) AllReadyH.nil)
          go_simp
          have hb : Below Y21.heap.size Y21 (Y21.alloc (.cells #[] 36)) := (Below.refl _ _).alloc (Nat.le_refl _) _
          have eS := own_empty Y21 36 6 V.heap.size hH.1.size
          have oR := own_below oR hb
          have hblk := blk_next hblk hb
          refine hK.out _ _ (BxS.next hH hb HGL.out) (fun hH => ?_)
          clear hK K
          obtain ⟨gS, hgn⟩ := name_of Y21.heap.size
          obtain ⟨Y22, hY⟩ := name_of (Y21.alloc (.cells #[] 36))
          rw [hgn] at eS ⊢
          rw [hY] at hH eS oR hblk ⊢
          clear hb hgn hY
          refine wpAnyH_ready (rs := [7]) (by kernel_rfl) (by simp) (AllReadyH.cons rfl (fun K hK => ?_) AllReadyH.nil)
          rw [if_pos (by rfl)]
          refine wp_append_sx (.tmp 10) (.tmp 12) 23 rfl V.heap.size 36 (scV scD) 6 40 Tryd.underlying23 infoC_scs rfl (by omega) _ 0 _ rfl eS _ s.sc.length _ (scsC s.sc) rfl (HAV.out.next hH.1).scs (scsC_length _) (scsC_one _) (by have := HS60.out; omega) (by have := HS60.out; omega) hH.1.size ?_
          intro v2 Y23 oS hg hat
          rw [Nat.zero_add, List.nil_append] at oS
          have hbV := below_append hH.1 eS hg (Nat.le_refl _)
          have oR := own_keep2 oR eS hg (by decide)
          have hblk := grown_block hg hblk (own_ne eS hblk (by decide))
          obtain ⟨A2, m2, c2, rfl⟩ := PC.own_slice oS
          go_simp
          refine hK.out _ _ (BxS.next HBX.out hbV HGL.out) (fun hH => ?_)
          clear hK K hbV hg hat eS
          refine Rg.take (i := 8) (d := 14) (v := .agg #[.slice A1 m1 c1, .slice A2 m2 c2, .slice none 0 0]) rfl rfl (by kernel_rfl) (by kernel_rfl) (by kernel_rfl) (fun _ _ _ h => h) (by kernel_rfl) (fun W hSW => ?_) hH ?_
          · clear hSW
            go_simp
          simp only [List.setIfInBounds_toArray, List.set_cons_zero, List.set_cons_succ]
          refine wpAnyH_ready (rs := [10]) (by kernel_rfl) (by simp) (AllReadyH.cons rfl (fun K hK => ?_) AllReadyH.nil)
          rw [if_pos (by rfl)]
          refine wp_store_blk 31 31 (.tmp 3) (.tmp 14) rfl b rfl #[.slice A1 m1 c1, .slice A2 m2 c2, .slice none 0 0] rfl _ hblk (by kernel_rfl) rfl (by simp [Value.oneCell']) ?_
          intro w9 g1 g2 g3 g4
          go_simp
          refine hK.out _ _ (hH.low g4 hvb HGL.out) (fun hH9 => ?_)
          clear hK K
          refine wpAnyH_done (by kernel_rfl) ?_ _
          go_wp2_with fail
          go_meet
          exact ⟨b, _, _, rfl, hvb, g1, own_off oR hblk (by decide) g2, own_off oS hblk (by decide) g2, hH9⟩
        · go_simp
          have hb : Below Y20.heap.size Y20 (Y20.alloc (.cells #[] 36)) := (Below.refl _ _).alloc (Nat.le_refl _) _
          have eS := own_empty Y20 36 6 V.heap.size hH.1.size
          have eR := own_below eR hb
          have hblk := blk_next hblk hb
          refine hK.out _ _ (BxS.next hH hb HGL.out) (fun hH => ?_)
          clear hK K
          obtain ⟨gS, hgn⟩ := name_of Y20.heap.size
          obtain ⟨Y24, hY⟩ := name_of (Y20.alloc (.cells #[] 36))
          rw [hgn] at eS ⊢
          rw [hY] at hH eS eR hblk ⊢
          clear hb hgn hY
          refine wpAnyH_ready (rs := [3]) (by kernel_rfl) (by simp) (AllReadyH.cons rfl (fun K hK => ?_) AllReadyH.nil)
          rw [if_pos (by rfl)]
          refine wp_append_sx (.tmp 6) (.tmp 8) 22 rfl V.heap.size 64 (rowV rowD) 7 64 Tryd.underlying22 infoC_rows rfl (by omega) _ 0 _ rfl eR _ s.l.length _ (rowsC s.l) rfl (HAV.out.next hH.1).rows.sl (rowsC_length _) (rowsC_one _) (by have := HL40.out; omega) (by have := HL40.out; omega) hH.1.size ?_
          intro v1 Y25 oR hg hat
          rw [Nat.zero_add, List.nil_append] at oR
          have hbV := below_append hH.1 eR hg (Nat.le_refl _)
          have eS := own_keep2 eS eR hg (by decide)
          have hblk := grown_block hg hblk (own_ne eR hblk (by decide))
          obtain ⟨A1, m1, c1, rfl⟩ := PC.own_slice oR
          go_simp
          refine hK.out _ _ (BxS.next HBX.out hbV HGL.out) (fun hH => ?_)
          clear hK K hbV hg hat eR
          refine wpAnyH_ready (rs := [7]) (by kernel_rfl) (by simp) (AllReadyH.cons rfl (fun K hK => ?_) AllReadyH.nil)
          rw [if_pos (by rfl)]
          refine wp_append_sx (.tmp 10) (.tmp 12) 23 rfl V.heap.size 36 (scV scD) 6 40 Tryd.underlying23 infoC_scs rfl (by omega) _ 0 _ rfl eS _ s.sc.length _ (scsC s.sc) rfl (HAV.out.next hH.1).scs (scsC_length _) (scsC_one _) (by have := HS60.out; omega) (by have := HS60.out; omega) hH.1.size ?_
          intro v2 Y26 oS hg hat
          rw [Nat.zero_add, List.nil_append] at oS
          have hbV := below_append hH.1 eS hg (Nat.le_refl _)
          have oR := own_keep2 oR eS hg (by decide)
          have hblk := grown_block hg hblk (own_ne eS hblk (by decide))
          obtain ⟨A2, m2, c2, rfl⟩ := PC.own_slice oS
          go_simp
          refine hK.out _ _ (BxS.next HBX.out hbV HGL.out) (fun hH => ?_)
          clear hK K hbV hg hat eS
          refine Rg.take (i := 8) (d := 14) (v := .agg #[.slice A1 m1 c1, .slice A2 m2 c2, .slice none 0 0]) rfl rfl (by kernel_rfl) (by kernel_rfl) (by kernel_rfl) (fun _ _ _ h => h) (by kernel_rfl) (fun W hSW => ?_) hH ?_
          · clear hSW
            go_simp
          simp only [List.setIfInBounds_toArray, List.set_cons_zero, List.set_cons_succ]
          refine wpAnyH_ready (rs := [10]) (by kernel_rfl) (by simp) (AllReadyH.cons rfl (fun K hK => ?_) AllReadyH.nil)
          rw [if_pos (by rfl)]
          refine wp_store_blk 31 31 (.tmp 3) (.tmp 14) rfl b rfl #[.slice A1 m1 c1, .slice A2 m2 c2, .slice none 0 0] rfl _ hblk (by kernel_rfl) rfl (by simp [Value.oneCell']) ?_
          intro w9 g1 g2 g3 g4
          go_simp
          refine hK.out _ _ (hH.low g4 hvb HGL.out) (fun hH9 => ?_)
          clear hK K
          refine wpAnyH_done (by kernel_rfl) ?_ _
          go_wp2_with fail
          go_meet
          exact ⟨b, _, _, rfl, hvb, g1, own_off oR hblk (by decide) g2, own_off oS hblk (by decide) g2, hH9⟩
    · go_simp
      have hb : Below W0.heap.size W0 (W0.alloc (.cells #[] 36)) := (Below.refl _ _).alloc (Nat.le_refl _) _
      have eS := own_empty W0 36 6 V.heap.size hH.1.size
      refine hK.out _ _ (BxS.next hH hb HGL.out) (fun hH => ?_)
      clear hK K
      obtain ⟨gS, hgn⟩ := name_of W0.heap.size
      obtain ⟨Y27, hY⟩ := name_of (W0.alloc (.cells #[] 36))
      rw [hgn] at eS ⊢
      rw [hY] at hH eS ⊢
      clear hb hgn hY
      refine wpAnyH_ready (rs := [0, 9]) (by kernel_rfl) (by simp) (AllReadyH.cons rfl (fun K hK => ?_) (AllReadyH.cons rfl (fun K hK => ?_) AllReadyH.nil))
      · go_simp
        have hb : Below Y27.heap.size Y27 (Y27.alloc (.cells #[] 64)) := (Below.refl _ _).alloc (Nat.le_refl _) _
        have eR := own_empty Y27 64 7 V.heap.size hH.1.size
        have eS := own_below eS hb
        refine hK.out _ _ (BxS.next hH hb HGL.out) (fun hH => ?_)
        clear hK K
        obtain ⟨gR, hgn⟩ := name_of Y27.heap.size
        obtain ⟨Y28, hY⟩ := name_of (Y27.alloc (.cells #[] 64))
        rw [hgn] at eR ⊢
        rw [hY] at hH eR eS ⊢
        clear hb hgn hY
        refine wpAnyH_ready (rs := [3, 9]) (by kernel_rfl) (by simp) (AllReadyH.cons rfl (fun K hK => ?_) (AllReadyH.cons rfl (fun K hK => ?_) AllReadyH.nil))
        · rw [if_pos (by rfl)]
          refine wp_append_sx (.tmp 6) (.tmp 8) 22 rfl V.heap.size 64 (rowV rowD) 7 64 Tryd.underlying22 infoC_rows rfl (by omega) _ 0 _ rfl eR _ s.l.length _ (rowsC s.l) rfl (HAV.out.next hH.1).rows.sl (rowsC_length _) (rowsC_one _) (by have := HL40.out; omega) (by have := HL40.out; omega) hH.1.size ?_
          intro v1 Y29 oR hg hat
          rw [Nat.zero_add, List.nil_append] at oR
          have hbV := below_append hH.1 eR hg (Nat.le_refl _)
          have eS := own_keep2 eS eR hg (by decide)
          obtain ⟨A1, m1, c1, rfl⟩ := PC.own_slice oR
          go_simp
          refine hK.out _ _ (BxS.next HBX.out hbV HGL.out) (fun hH => ?_)
          clear hK K hbV hg hat eR
          refine wpAnyH_ready (rs := [7, 9]) (by kernel_rfl) (by simp) (AllReadyH.cons rfl (fun K hK => ?_) (AllReadyH.cons rfl (fun K hK => ?_) AllReadyH.nil))
          · rw [if_pos (by rfl)]
            refine wp_append_sx (.tmp 10) (.tmp 12) 23 rfl V.heap.size 36 (scV scD) 6 40 Tryd.underlying23 infoC_scs rfl (by omega) _ 0 _ rfl eS _ s.sc.length _ (scsC s.sc) rfl (HAV.out.next hH.1).scs (scsC_length _) (scsC_one _) (by have := HS60.out; omega) (by have := HS60.out; omega) hH.1.size ?_
            intro v2 Y30 oS hg hat
            rw [Nat.zero_add, List.nil_append] at oS
            have hbV := below_append hH.1 eS hg (Nat.le_refl _)
            have oR := own_keep2 oR eS hg (by decide)
            obtain ⟨A2, m2, c2, rfl⟩ := PC.own_slice oS
            go_simp
            refine hK.out _ _ (BxS.next HBX.out hbV HGL.out) (fun hH => ?_)
            clear hK K hbV hg hat eS
            refine Rg.take (i := 8) (d := 14) (v := .agg #[.slice A1 m1 c1, .slice A2 m2 c2, .slice none 0 0]) rfl rfl (by kernel_rfl) (by kernel_rfl) (by kernel_rfl) (fun _ _ _ h => h) (by kernel_rfl) (fun W hSW => ?_) hH ?_
            · clear hSW
              go_simp
            simp only [List.setIfInBounds_toArray, List.set_cons_zero, List.set_cons_succ]
            refine wpAnyH_ready (rs := [9]) (by kernel_rfl) (by simp) (AllReadyH.cons rfl (fun K hK => ?_) AllReadyH.nil)
            go_simp
            have hb : Below Y30.heap.size Y30 (Y30.alloc (.cells #[.slice none 0 0, .slice none 0 0, .slice none 0 0] 31)) := (Below.refl _ _).alloc (Nat.le_refl _) _
            have hblk := heap_alloc_last Y30 (.cells #[.slice none 0 0, .slice none 0 0, .slice none 0 0] 31)
            have hvb : V.heap.size ≤ Y30.heap.size := hH.1.size
            have oR := own_below oR hb
            have oS := own_below oS hb
            refine hK.out _ _ (BxS.next hH hb HGL.out) (fun hH => ?_)
            clear hK K
            obtain ⟨b, hgn⟩ := name_of Y30.heap.size
            obtain ⟨Y31, hY⟩ := name_of (Y30.alloc (.cells #[.slice none 0 0, .slice none 0 0, .slice none 0 0] 31))
            rw [hgn] at hblk hvb ⊢
            rw [hY] at hH hblk oR oS ⊢
            clear hb hgn hY
            refine wpAnyH_ready (rs := [10]) (by kernel_rfl) (by simp) (AllReadyH.cons rfl (fun K hK => ?_) AllReadyH.nil)
            rw [if_pos (by rfl)]
            refine wp_store_blk 31 31 (.tmp 3) (.tmp 14) rfl b rfl #[.slice A1 m1 c1, .slice A2 m2 c2, .slice none 0 0] rfl _ hblk (by kernel_rfl) rfl (by simp [Value.oneCell']) ?_
            intro w9 g1 g2 g3 g4
            go_simp
            refine hK.out _ _ (hH.low g4 hvb HGL.out) (fun hH9 => ?_)
            clear hK K
            refine wpAnyH_done (by kernel_rfl) ?_ _
            go_wp2_with fail
            go_meet
            exact ⟨b, _, _, rfl, hvb, g1, own_off oR hblk (by decide) g2, own_off oS hblk (by decide) g2, hH9⟩
          · go_simp
            have hb : Below Y29.heap.size Y29 (Y29.alloc (.cells #[.slice none 0 0, .slice none 0 0, .slice none 0 0] 31)) := (Below.refl _ _).alloc (Nat.le_refl _) _
            have hblk := heap_alloc_last Y29 (.cells #[.slice none 0 0, .slice none 0 0, .slice none 0 0] 31)
            have hvb : V.heap.size ≤ Y29.heap.size := hH.1.size
            have oR := own_below oR hb
            have eS := own_below eS hb
            refine hK.out _ _ (BxS.next hH hb HGL.out) (fun hH => ?_)
            clear hK K
            obtain ⟨b, hgn⟩ := name_of Y29.heap.size
            obtain ⟨Y32, hY⟩ := name_of (Y29.alloc (.cells #[.slice none 0 0, .slice none 0 0, .slice none 0 0] 31))
            rw [hgn] at hblk hvb ⊢
            rw [hY] at hH hblk oR eS ⊢
            clear hb hgn hY
            refine wpAnyH_ready (rs := [7]) (by kernel_rfl) (by simp) (AllReadyH.cons rfl (fun K hK => ?_) AllReadyH.nil)
            rw [if_pos (by rfl)]
            refine wp_append_sx (.tmp 10) (.tmp 12) 23 rfl V.heap.size 36 (scV scD) 6 40 Tryd.underlying23 infoC_scs rfl (by omega) _ 0 _ rfl eS _ s.sc.length _ (scsC s.sc) rfl (HAV.out.next hH.1).scs (scsC_length _) (scsC_one _) (by have := HS60.out; omega) (by have := HS60.out; omega) hH.1.size ?_
            intro v2 Y33 oS hg hat
            rw [Nat.zero_add, List.nil_append] at oS
            have hbV := below_append hH.1 eS hg (Nat.le_refl _)
            have oR := own_keep2 oR eS hg (by decide)
            have hblk := grown_block hg hblk (own_ne eS hblk (by decide))
            obtain ⟨A2, m2, c2, rfl⟩ := PC.own_slice oS
            go_simp
            refine hK.out _ _ (BxS.next HBX.out hbV HGL.out) (fun hH => ?_)
            clear hK K hbV hg hat eS
            refine Rg.take (i := 8) (d := 14) (v := .agg #[.slice A1 m1 c1, .slice A2 m2 c2, .slice none 0 0]) rfl rfl (by kernel_rfl) (by kernel_rfl) (by kernel_rfl) (fun _ _ _ h => h) (by kernel_rfl) (fun W hSW => ?_) hH ?_
            · clear hSW
              go_simp
            simp only [List.setIfInBounds_toArray, List.set_cons_zero, List.set_cons_succ]
            refine wpAnyH_ready (rs := [10]) (by kernel_rfl) (by simp) (AllReadyH.cons rfl (fun K hK => ?_) AllReadyH.nil)
            rw [if_pos (by rfl)]
            refine wp_store_blk 31 31 (.tmp 3) (.tmp 14) rfl b rfl #[.slice A1 m1 c1, .slice A2 m2 c2, .slice none 0 0] rfl _ hblk (by kernel_rfl) rfl (by simp [Value.oneCell']) ?_
            intro w9 g1 g2 g3 g4
            go_simp
            refine hK.out _ _ (hH.low g4 hvb HGL.out) (fun hH9 => ?_)
            clear hK K
            refine wpAnyH_done (by kernel_rfl) ?_ _
            go_wp2_with fail
            go_meet
            exact ⟨b, _, _, rfl, hvb, g1, own_off oR hblk (by decide) g2, own_off oS hblk (by decide) g2, hH9⟩
        · go_simp
          have hb : Below Y28.heap.size Y28 (Y28.alloc (.cells #[.slice none 0 0, .slice none 0 0, .slice none 0 0] 31)) := (Below.refl _ _).alloc (Nat.le_refl _) _
          have hblk := heap_alloc_last Y28 (.cells #[.slice none 0 0, .slice none 0 0, .slice none 0 0] 31)
          have hvb : V.heap.size ≤ Y28.heap.size := hH.1.size
          have eR := own_below eR hb
          have eS := own_below eS hb
          refine hK.out _ _ (BxS.next hH hb HGL.out) (fun hH => ?_)
          clear hK K
          obtain ⟨b, hgn⟩ := name_of Y28.heap.size
          obtain ⟨Y34, hY⟩ := name_of (Y28.alloc (.cells #[.slice none 0 0, .slice none 0 0, .slice none 0 0] 31))
          rw [hgn] at hblk hvb ⊢
          rw [hY] at hH hblk eR eS ⊢
          clear hb hgn hY
          refine wpAnyH_ready (rs := [3]) (by kernel_rfl) (by simp) (AllReadyH.cons rfl (fun K hK => ?_) AllReadyH.nil)
          rw [if_pos (by rfl)]
          refine wp_append_sx (.tmp 6) (.tmp 8) 22 rfl V.heap.size 64 (rowV rowD) 7 64 Tryd.underlying22 infoC_rows rfl (by omega) _ 0 _ rfl eR _ s.l.length _ (rowsC s.l) rfl (HAV.out.next hH.1).rows.sl (rowsC_length _) (rowsC_one _) (by have := HL40.out; omega) (by have := HL40.out; omega) hH.1.size ?_
          intro v1 Y35 oR hg hat
          rw [Nat.zero_add, List.nil_append] at oR
          have hbV := below_append hH.1 eR hg (Nat.le_refl _)
          have eS := own_keep2 eS eR hg (by decide)
          have hblk := grown_block hg hblk (own_ne eR hblk (by decide))
          obtain ⟨A1, m1, c1, rfl⟩ := PC.own_slice oR
          go_simp
          refine hK.out _ _ (BxS.next HBX.out hbV HGL.out) (fun hH => ?_)
          clear hK K hbV hg hat eR
          refine wpAnyH_ready (rs := [7]) (by kernel_rfl) (by simp) (AllReadyH.cons rfl (fun K hK => ?_) AllReadyH.nil)
          rw [if_pos (by rfl)]
          refine wp_append_sx (.tmp 10) (.tmp 12) 23 rfl V.heap.size 36 (scV scD) 6 40 Tryd.underlying23 infoC_scs rfl (by omega) _ 0 _ rfl eS _ s.sc.length _ (scsC s.sc) rfl (HAV.out.next hH.1).scs (scsC_length _) (scsC_one _) (by have := HS60.out; omega) (by have := HS60.out; omega) hH.1.size ?_
          intro v2 Y36 oS hg hat
          rw [Nat.zero_add, List.nil_append] at oS
          have hbV := below_append hH.1 eS hg (Nat.le_refl _)
          have oR := own_keep2 oR eS hg (by decide)
          have hblk := grown_block hg hblk (own_ne eS hblk (by decide))
          obtain ⟨A2, m2, c2, rfl⟩ := PC.own_slice oS
          go_simp
          refine hK.out _ _ (BxS.next HBX.out hbV HGL.out) (fun hH => ?_)
          clear hK K hbV hg hat eS
          refine Rg.take (i := 8) (d := 14) (v := .agg #[.slice A1 m1 c1, .slice A2 m2 c2, .slice none 0 0]) rfl rfl (by kernel_rfl) (by kernel_rfl) (by kernel_rfl) (fun _ _ _ h => h) (by kernel_rfl) (fun W hSW => ?_) hH ?_
          · clear hSW
            go_simp
          simp only [List.setIfInBounds_toArray, List.set_cons_zero, List.set_cons_succ]
          refine wpAnyH_ready (rs := [10]) (by kernel_rfl) (by simp) (AllReadyH.cons rfl (fun K hK => ?_) AllReadyH.nil)
          rw [if_pos (by rfl)]
          refine wp_store_blk 31 31 (.tmp 3) (.tmp 14) rfl b rfl #[.slice A1 m1 c1, .slice A2 m2 c2, .slice none 0 0] rfl _ hblk (by kernel_rfl) rfl (by simp [Value.oneCell']) ?_
          intro w9 g1 g2 g3 g4
          go_simp
          refine hK.out _ _ (hH.low g4 hvb HGL.out) (fun hH9 => ?_)
          clear hK K
          refine wpAnyH_done (by kernel_rfl) ?_ _
          go_wp2_with fail
          go_meet
          exact ⟨b, _, _, rfl, hvb, g1, own_off oR hblk (by decide) g2, own_off oS hblk (by decide) g2, hH9⟩
      · go_simp
        have hb : Below Y27.heap.size Y27 (Y27.alloc (.cells #[.slice none 0 0, .slice none 0 0, .slice none 0 0] 31)) := (Below.refl _ _).alloc (Nat.le_refl _) _
        have hblk := heap_alloc_last Y27 (.cells #[.slice none 0 0, .slice none 0 0, .slice none 0 0] 31)
        have hvb : V.heap.size ≤ Y27.heap.size := hH.1.size
        have eS := own_below eS hb
        refine hK.out _ _ (BxS.next hH hb HGL.out) (fun hH => ?_)
        clear hK K
        obtain ⟨b, hgn⟩ := name_of Y27.heap.size
        obtain ⟨Y37, hY⟩ := name_of (Y27.alloc (.cells #[.slice none 0 0, .slice none 0 0, .slice none 0 0] 31))
        rw [hgn] at hblk hvb ⊢
        rw [hY] at hH hblk eS ⊢
        clear hb hgn hY
        refine wpAnyH_ready (rs := [0]) (by kernel_rfl) (by simp) (AllReadyH.cons rfl (fun K hK => ?_) AllReadyH.nil)
        go_simp
        have hb : Below Y37.heap.size Y37 (Y37.alloc (.cells #[] 64)) := (Below.refl _ _).alloc (Nat.le_refl _) _
        have eR := own_empty Y37 64 7 V.heap.size hH.1.size
        have eS := own_below eS hb
        have hblk := blk_next hblk hb
        refine hK.out _ _ (BxS.next hH hb HGL.out) (fun hH => ?_)
        clear hK K
        obtain ⟨gR, hgn⟩ := name_of Y37.heap.size
        obtain ⟨Y38, hY⟩ := name_of (Y37.alloc (.cells #[] 64))
        rw [hgn] at eR ⊢
        rw [hY] at hH eR eS hblk ⊢
        clear hb hgn hY
        refine wpAnyH_ready (rs := [3]) (by kernel_rfl) (by simp) (AllReadyH.cons rfl (fun K hK => ?_) AllReadyH.nil)
        rw [if_pos (by rfl)]
        refine wp_append_sx (.tmp 6) (.tmp 8) 22 rfl V.heap.size 64 (rowV rowD) 7 64 Tryd.underlying22 infoC_rows rfl (by omega) _ 0 _ rfl eR _ s.l.length _ (rowsC s.l) rfl (HAV.out.next hH.1).rows.sl (rowsC_length _) (rowsC_one _) (by have := HL40.out; omega) (by have := HL40.out; omega) hH.1.size ?_
        intro v1 Y39 oR hg hat
        rw [Nat.zero_add, List.nil_append] at oR
        have hbV := below_append hH.1 eR hg (Nat.le_refl _)
        have eS := own_keep2 eS eR hg (by decide)
        have hblk := grown_block hg hblk (own_ne eR hblk (by decide))
        obtain ⟨A1, m1, c1, rfl⟩ := PC.own_slice oR
        go_simp
        refine hK.out _ _ (BxS.next HBX.out hbV HGL.out) (fun hH => ?_)
        clear hK K hbV hg hat eR
        refine wpAnyH_ready (rs := [7]) (by kernel_rfl) (by simp) (AllReadyH.cons rfl (fun K hK => ?_) AllReadyH.nil)
        rw [if_pos (by rfl)]
        refine wp_append_sx (.tmp 10) (.tmp 12) 23 rfl V.heap.size 36 (scV scD) 6 40 Tryd.underlying23 infoC_scs rfl (by omega) _ 0 _ rfl eS _ s.sc.length _ (scsC s.sc) rfl (HAV.out.next hH.1).scs (scsC_length _) (scsC_one _) (by have := HS60.out; omega) (by have := HS60.out; omega) hH.1.size ?_
        intro v2 Y40 oS hg hat
        rw [Nat.zero_add, List.nil_append] at oS
        have hbV := below_append hH.1 eS hg (Nat.le_refl _)
        have oR := own_keep2 oR eS hg (by decide)
        have hblk := grown_block hg hblk (own_ne eS hblk (by decide))
        obtain ⟨A2, m2, c2, rfl⟩ := PC.own_slice oS
        go_simp
        refine hK.out _ _ (BxS.next HBX.out hbV HGL.out) (fun hH => ?_)
        clear hK K hbV hg hat eS
        refine Rg.take (i := 8) (d := 14) (v := .agg #[.slice A1 m1 c1, .slice A2 m2 c2, .slice none 0 0]) rfl rfl (by kernel_rfl) (by kernel_rfl) (by kernel_rfl) (fun _ _ _ h => h) (by kernel_rfl) (fun W hSW => ?_) hH ?_
        · clear hSW
          go_simp
        simp only [List.setIfInBounds_toArray, List.set_cons_zero, List.set_cons_succ]
        refine wpAnyH_ready (rs := [10]) (by kernel_rfl) (by simp) (AllReadyH.cons rfl (fun K hK => ?_) AllReadyH.nil)
        rw [if_pos (by rfl)]
        refine wp_store_blk 31 31 (.tmp 3) (.tmp 14) rfl b rfl #[.slice A1 m1 c1, .slice A2 m2 c2, .slice none 0 0] rfl _ hblk (by kernel_rfl) rfl (by simp [Value.oneCell']) ?_
        intro w9 g1 g2 g3 g4
        go_simp
        refine hK.out _ _ (hH.low g4 hvb HGL.out) (fun hH9 => ?_)
        clear hK K
        refine wpAnyH_done (by kernel_rfl) ?_ _
        go_wp2_with fail
        go_meet
        exact ⟨b, _, _, rfl, hvb, g1, own_off oR hblk (by decide) g2, own_off oS hblk (by decide) g2, hH9⟩
    · go_simp
      have hb : Below W0.heap.size W0 (W0.alloc (.cells #[.slice none 0 0, .slice none 0 0, .slice none 0 0] 31)) := (Below.refl _ _).alloc (Nat.le_refl _) _
      have hblk := heap_alloc_last W0 (.cells #[.slice none 0 0, .slice none 0 0, .slice none 0 0] 31)
      have hvb : V.heap.size ≤ W0.heap.size := hH.1.size
      refine hK.out _ _ (BxS.next hH hb HGL.out) (fun hH => ?_)
      clear hK K
      obtain ⟨b, hgn⟩ := name_of W0.heap.size
      obtain ⟨Y41, hY⟩ := name_of (W0.alloc (.cells #[.slice none 0 0, .slice none 0 0, .slice none 0 0] 31))
      rw [hgn] at hblk hvb ⊢
      rw [hY] at hH hblk ⊢
      clear hb hgn hY
      refine wpAnyH_ready (rs := [0, 4]) (by kernel_rfl) (by simp) (AllReadyH.cons rfl (fun K hK => ?_) (AllReadyH.cons rfl (fun K hK => ?_) AllReadyH.nil))
      · go_simp
        have hb : Below Y41.heap.size Y41 (Y41.alloc (.cells #[] 64)) := (Below.refl _ _).alloc (Nat.le_refl _) _
        have eR := own_empty Y41 64 7 V.heap.size hH.1.size
        have hblk := blk_next hblk hb
        refine hK.out _ _ (BxS.next hH hb HGL.out) (fun hH => ?_)
        clear hK K
        obtain ⟨gR, hgn⟩ := name_of Y41.heap.size
        obtain ⟨Y42, hY⟩ := name_of (Y41.alloc (.cells #[] 64))
        rw [hgn] at eR ⊢
        rw [hY] at hH eR hblk ⊢
        clear hb hgn hY
        refine wpAnyH_ready (rs := [3, 4]) (by kernel_rfl) (by simp) (AllReadyH.cons rfl (fun K hK => ?_) (AllReadyH.cons rfl (fun K hK => ?_) AllReadyH.nil))
        · rw [if_pos (by rfl)]
          refine wp_append_sx (.tmp 6) (.tmp 8) 22 rfl V.heap.size 64 (rowV rowD) 7 64 Tryd.underlying22 infoC_rows rfl (by omega) _ 0 _ rfl eR _ s.l.length _ (rowsC s.l) rfl (HAV.out.next hH.1).rows.sl (rowsC_length _) (rowsC_one _) (by have := HL40.out; omega) (by have := HL40.out; omega) hH.1.size ?_
          intro v1 Y43 oR hg hat
          rw [Nat.zero_add, List.nil_append] at oR
          have hbV := below_append hH.1 eR hg (Nat.le_refl _)
          have hblk := grown_block hg hblk (own_ne eR hblk (by decide))
          obtain ⟨A1, m1, c1, rfl⟩ := PC.own_slice oR
          go_simp
          refine hK.out _ _ (BxS.next HBX.out hbV HGL.out) (fun hH => ?_)
          clear hK K hbV hg hat eR
          refine wpAnyH_ready (rs := [4]) (by kernel_rfl) (by simp) (AllReadyH.cons rfl (fun K hK => ?_) AllReadyH.nil)
          go_simp
          have hb : Below Y43.heap.size Y43 (Y43.alloc (.cells #[] 36)) := (Below.refl _ _).alloc (Nat.le_refl _) _
          have eS := own_empty Y43 36 6 V.heap.size hH.1.size
          have oR := own_below oR hb
          have hblk := blk_next hblk hb
          refine hK.out _ _ (BxS.next hH hb HGL.out) (fun hH => ?_)
          clear hK K
          obtain ⟨gS, hgn⟩ := name_of Y43.heap.size
          obtain ⟨Y44, hY⟩ := name_of (Y43.alloc (.cells #[] 36))
          rw [hgn] at eS ⊢
          rw [hY] at hH eS oR hblk ⊢
          clear hb hgn hY
          refine wpAnyH_ready (rs := [7]) (by kernel_rfl) (by simp) (AllReadyH.cons rfl (fun K hK => ?_) AllReadyH.nil)
          rw [if_pos (by rfl)]
          refine wp_append_sx (.tmp 10) (.tmp 12) 23 rfl V.heap.size 36 (scV scD) 6 40 Tryd.underlying23 infoC_scs rfl (by omega) _ 0 _ rfl eS _ s.sc.length _ (scsC s.sc) rfl (HAV.out.next hH.1).scs (scsC_length _) (scsC_one _) (by have := HS60.out; omega) (by have := HS60.out; omega) hH.1.size ?_
          intro v2 Y45 oS hg hat
          rw [Nat.zero_add, List.nil_append] at oS
          have hbV := below_append hH.1 eS hg (Nat.le_refl _)
          have oR := own_keep2 oR eS hg (by decide)
          have hblk := grown_block hg hblk (own_ne eS hblk (by decide))
          obtain ⟨A2, m2, c2, rfl⟩ := PC.own_slice oS
          go_simp
          refine hK.out _ _ (BxS.next HBX.out hbV HGL.out) (fun hH => ?_)
          clear hK K hbV hg hat eS
          refine Rg.take (i := 8) (d := 14) (v := .agg #[.slice A1 m1 c1, .slice A2 m2 c2, .slice none 0 0]) rfl rfl (by kernel_rfl) (by kernel_rfl) (by kernel_rfl) (fun _ _ _ h => h) (by kernel_rfl) (fun W hSW => ?_) hH ?_
          · clear hSW
            go_simp
          simp only [List.setIfInBounds_toArray, List.set_cons_zero, List.set_cons_succ]
          refine wpAnyH_ready (rs := [10]) (by kernel_rfl) (by simp) (AllReadyH.cons rfl (fun K hK => ?_) AllReadyH.nil)
          rw [if_pos (by rfl)]
          refine wp_store_blk 31 31 (.tmp 3) (.tmp 14) rfl b rfl #[.slice A1 m1 c1, .slice A2 m2 c2, .slice none 0 0] rfl _ hblk (by kernel_rfl) rfl (by simp [Value.oneCell']) ?_
          intro w9 g1 g2 g3 g4
          go_simp
          refine hK.out _ _ (hH.low g4 hvb HGL.out) (fun hH9 => ?_)
          clear hK K
          refine wpAnyH_done (by kernel_rfl) ?_ _
          go_wp2_with fail
          go_meet
          exact ⟨b, _, _, rfl, hvb, g1, own_off oR hblk (by decide) g2, own_off oS hblk (by decide) g2, hH9⟩
        · go_simp
          have hb : Below Y42.heap.size Y42 (Y42.alloc (.cells #[] 36)) := (Below.refl _ _).alloc (Nat.le_refl _) _
          have eS := own_empty Y42 36 6 V.heap.size hH.1.size
          have eR := own_below eR hb
          have hblk := blk_next hblk hb
          refine hK.out _ _ (BxS.next hH hb HGL.out) (fun hH => ?_)
          clear hK K
          obtain ⟨gS, hgn⟩ := name_of Y42.heap.size
          obtain ⟨Y46, hY⟩ := name_of (Y42.alloc (.cells #[] 36))
          rw [hgn] at eS ⊢
          rw [hY] at hH eS eR hblk ⊢
          clear hb hgn hY
          refine wpAnyH_ready (rs := [3]) (by kernel_rfl) (by simp) (AllReadyH.cons rfl (fun K hK => ?_) AllReadyH.nil)
          rw [if_pos (by rfl)]
          refine wp_append_sx (.tmp 6) (.tmp 8) 22 rfl V.heap.size 64 (rowV rowD) 7 64 Tryd.underlying22 infoC_rows rfl (by omega) _ 0 _ rfl eR _ s.l.length _ (rowsC s.l) rfl (HAV.out.next hH.1).rows.sl (rowsC_length _) (rowsC_one _) (by have := HL40.out; omega) (by have := HL40.out; omega) hH.1.size ?_
          intro v1 Y47 oR hg hat
          rw [Nat.zero_add, List.nil_append] at oR
          have hbV := below_append hH.1 eR hg (Nat.le_refl _)
          have eS := own_keep2 eS eR hg (by decide)
          have hblk := grown_block hg hblk (own_ne eR hblk (by decide))
          obtain ⟨A1, m1, c1, rfl⟩ := PC.own_slice oR
          go_simp
          refine hK.out _ _ (BxS.next HBX.out hbV HGL.out) (fun hH => ?_)
          clear hK K hbV hg hat eR
          refine wpAnyH_ready (rs := [7]) (by kernel_rfl) (by simp) (AllReadyH.cons rfl (fun K hK => ?_) AllReadyH.nil)
          rw [if_pos (by rfl)]
          refine wp_append_sx (.tmp 10) (.tmp 12) 23 rfl V.heap.size 36 (scV scD) 6 40 Tryd.underlying23 infoC_scs rfl (by omega) _ 0 _ rfl eS _ s.sc.length _ (scsC s.sc) rfl (HAV.out.next hH.1).scs (scsC_length _) (scsC_one _) (by have := HS60.out; omega) (by have := HS60.out; omega) hH.1.size ?_
          intro v2 Y48 oS hg hat
          rw [Nat.zero_add, List.nil_append] at oS
          have hbV := below_append hH.1 eS hg (Nat.le_refl _)
          have oR := own_keep2 oR eS hg (by decide)
          have hblk := grown_block hg hblk (own_ne eS hblk (by decide))
          obtain ⟨A2, m2, c2, rfl⟩ := PC.own_slice oS
          go_simp
          refine hK.out _ _ (BxS.next HBX.out hbV HGL.out) (fun hH => ?_)
          clear hK K hbV hg hat eS
          refine Rg.take (i := 8) (d := 14) (v := .agg #[.slice A1 m1 c1, .slice A2 m2 c2, .slice none 0 0]) rfl rfl (by kernel_rfl) (by kernel_rfl) (by kernel_rfl) (fun _ _ _ h => h) (by kernel_rfl) (fun W hSW => ?_) hH ?_
          · clear hSW
            go_simp
          simp only [List.setIfInBounds_toArray, List.set_cons_zero, List.set_cons_succ]
          refine wpAnyH_ready (rs := [10]) (by kernel_rfl) (by simp) (AllReadyH.cons rfl (fun K hK => ?_) AllReadyH.nil)
          rw [if_pos (by rfl)]
          refine wp_store_blk 31 31 (.tmp 3) (.tmp 14) rfl b rfl #[.slice A1 m1 c1, .slice A2 m2 c2, .slice none 0 0] rfl _ hblk (by kernel_rfl) rfl (by simp [Value.oneCell']) ?_
          intro w9 g1 g2 g3 g4
          go_simp
          refine hK.out _ _ (hH.low g4 hvb HGL.out) (fun hH9 => ?_)
          clear hK K
          refine wpAnyH_done (by kernel_rfl) ?_ _
          go_wp2_with fail
          go_meet
          exact ⟨b, _, _, rfl, hvb, g1, own_off oR hblk (by decide) g2, own_off oS hblk (by decide) g2, hH9⟩
      · go_simp
        have hb : Below Y41.heap.size Y41 (Y41.alloc (.cells #[] 36)) := (Below.refl _ _).alloc (Nat.le_refl _) _
        have eS := own_empty Y41 36 6 V.heap.size hH.1.size
        have hblk := blk_next hblk hb
        refine hK.out _ _ (BxS.next hH hb HGL.out) (fun hH => ?_)
        clear hK K
        obtain ⟨gS, hgn⟩ := name_of Y41.heap.size
        obtain ⟨Y49, hY⟩ := name_of (Y41.alloc (.cells #[] 36))
        rw [hgn] at eS ⊢
        rw [hY] at hH eS hblk ⊢
        clear hb hgn hY
        refine wpAnyH_ready (rs := [0]) (by kernel_rfl) (by simp) (AllReadyH.cons rfl (fun K hK => ?_) AllReadyH.nil)
        go_simp
        have hb : Below Y49.heap.size Y49 (Y49.alloc (.cells #[] 64)) := (Below.refl _ _).alloc (Nat.le_refl _) _
        have eR := own_empty Y49 64 7 V.heap.size hH.1.size
        have eS := own_below eS hb
        have hblk := blk_next hblk hb
        refine hK.out _ _ (BxS.next hH hb HGL.out) (fun hH => ?_)
        clear hK K
        obtain ⟨gR, hgn⟩ := name_of Y49.heap.size
        obtain ⟨Y50, hY⟩ := name_of (Y49.alloc (.cells #[] 64))
        rw [hgn] at eR ⊢
        rw [hY] at hH eR eS hblk ⊢
        clear hb hgn hY
        refine wpAnyH_ready (rs := [3]) (by kernel_rfl) (by simp) (AllReadyH.cons rfl (fun K hK => ?_) AllReadyH.nil)
        rw [if_pos (by rfl)]
        refine wp_append_sx (.tmp 6) (.tmp 8) 22 rfl V.heap.size 64 (rowV rowD) 7 64 Tryd.underlying22 infoC_rows rfl (by omega) _ 0 _ rfl eR _ s.l.length _ (rowsC s.l) rfl (HAV.out.next hH.1).rows.sl (rowsC_length _) (rowsC_one _) (by have := HL40.out; omega) (by have := HL40.out; omega) hH.1.size ?_
        intro v1 Y51 oR hg hat
        rw [Nat.zero_add, List.nil_append] at oR
        have hbV := below_append hH.1 eR hg (Nat.le_refl _)
        have eS := own_keep2 eS eR hg (by decide)
        have hblk := grown_block hg hblk (own_ne eR hblk (by decide))
        obtain ⟨A1, m1, c1, rfl⟩ := PC.own_slice oR
        go_simp
        refine hK.out _ _ (BxS.next HBX.out hbV HGL.out) (fun hH => ?_)
        clear hK K hbV hg hat eR
        refine wpAnyH_ready (rs := [7]) (by kernel_rfl) (by simp) (AllReadyH.cons rfl (fun K hK => ?_) AllReadyH.nil)
        rw [if_pos (by rfl)]
        refine wp_append_sx (.tmp 10) (.tmp 12) 23 rfl V.heap.size 36 (scV scD) 6 40 Tryd.underlying23 infoC_scs rfl (by omega) _ 0 _ rfl eS _ s.sc.length _ (scsC s.sc) rfl (HAV.out.next hH.1).scs (scsC_length _) (scsC_one _) (by have := HS60.out; omega) (by have := HS60.out; omega) hH.1.size ?_
        intro v2 Y52 oS hg hat
        rw [Nat.zero_add, List.nil_append] at oS
        have hbV := below_append hH.1 eS hg (Nat.le_refl _)
        have oR := own_keep2 oR eS hg (by decide)
        have hblk := grown_block hg hblk (own_ne eS hblk (by decide))
        obtain ⟨A2, m2, c2, rfl⟩ := PC.own_slice oS
        go_simp
        refine hK.out _ _ (BxS.next HBX.out hbV HGL.out) (fun hH => ?_)
        clear hK K hbV hg hat eS
        refine Rg.take (i := 8) (d := 14) (v := .agg #[.slice A1 m1 c1, .slice A2 m2 c2, .slice none 0 0]) rfl rfl (by kernel_rfl) (by kernel_rfl) (by kernel_rfl) (fun _ _ _ h => h) (by kernel_rfl) (fun W hSW => ?_) hH ?_
        · clear hSW
          go_simp
        simp only [List.setIfInBounds_toArray, List.set_cons_zero, List.set_cons_succ]
        refine wpAnyH_ready (rs := [10]) (by kernel_rfl) (by simp) (AllReadyH.cons rfl (fun K hK => ?_) AllReadyH.nil)
        rw [if_pos (by rfl)]
        refine wp_store_blk 31 31 (.tmp 3) (.tmp 14) rfl b rfl #[.slice A1 m1 c1, .slice A2 m2 c2, .slice none 0 0] rfl _ hblk (by kernel_rfl) rfl (by simp [Value.oneCell']) ?_
        intro w9 g1 g2 g3 g4
        go_simp
        refine hK.out _ _ (hH.low g4 hvb HGL.out) (fun hH9 => ?_)
        clear hK K
        refine wpAnyH_done (by kernel_rfl) ?_ _
        go_wp2_with fail
        go_meet
        exact ⟨b, _, _, rfl, hvb, g1, own_off oR hblk (by decide) g2, own_off oS hblk (by decide) g2, hH9⟩
  obtain ⟨b, ur, us, rfl, hvb, hblk, oR, oS, hBX1⟩ := hcut
  obtain ⟨A1, m1, c1, rfl⟩ := PC.own_slice oR
  obtain ⟨A2, m2, c2, rfl⟩ := PC.own_slice oS
  have HOC : Hid (OwnC V.heap.size s (.slice A1 m1 c1) (.slice A2 m2 c2) (.slice none 0 0) 0 [] wc) := Lib.hid ⟨oR, oS, by simpa using World.ownsRow_nil wc V.heap.size 56 4, rfl, fun k _ c hc => by simp at hc⟩
  have HBK := Lib.hid hblk
  have HVB := Lib.hid hvb
  have HB1 := Lib.hid hBX1
  clear oR oS hblk hvb hBX1
  go_wp2_with fail
  go_loopw [4] (fun x wr => ∃ (i : Nat) (A3 : Option Addr) (c3 : Nat) (cv : List (Value × Value)), i ≤ nw ∧ x = .int .i64 i ∧ Hid (BxS V w.heap.size (.slice Ar nr cr) (.slice As ns cs) (.slice Aw nw cw) wr) ∧ Hid (OwnC V.heap.size s (.slice A1 m1 c1) (.slice A2 m2 c2) (.slice A3 i c3) i cv wr) ∧ Hid (wr.heap[b]? = some (.cells #[.slice A1 m1 c1, .slice A2 m2 c2, .slice A3 i c3] 31 (0, 0)))) (fun x _ => nw - (intOf x).toNat)
  case atStart => exact ⟨0, none, 0, [], Nat.zero_le _, rfl, HB1, HOC, HBK⟩
  case round =>
    obtain ⟨i, A3, c3, cv, hi, rfl, hB, hOC, hbk⟩ := hrel
    obtain ⟨-, -, -, q2⟩ := hB.out
    by_cases hlt : i < nw
    · have hgi : i < s.ws.length := by rw [HNW.out]; exact hlt
      obtain ⟨gw, off, sv, dv, rfl, hgw, e0, e1, e2, e3, hp, hq⟩ := HAW.out i hgi
      have hBw := HBV.out.next hB.out.1
      have e0 := (hBw.cell (p := ⟨gw, _, none⟩) hgw).trans e0
      have e1 := (hBw.cell (p := ⟨gw, _, none⟩) hgw).trans e1
      have e2 := (hBw.cell (p := ⟨gw, _, none⟩) hgw).trans e2
      have e3 := (hBw.cell (p := ⟨gw, _, none⟩) hgw).trans e3
      have HP : Hid (∀ W, Below wr.heap.size wr W → Sl W W.heap.size 1 sv (iv (wA s.ws i).st)) := Lib.hid (fun W hW => (hp.next hBw).next hW)
      have HQ : Hid (∀ W, Below wr.heap.size wr W → Sl W W.heap.size 1 dv (iv (wA s.ws i).dq)) := Lib.hid (fun W hW => (hq.next hBw).next hW)
      have hst := HF.out.st i hgi
      have hdq := HF.out.dq i hgi
      obtain ⟨Ap, np, kp, rfl, hpk, hpn, -⟩ := hp
      obtain ⟨Aq, nq, kq, rfl, hqk, hqn, -⟩ := hq
      rw [iv_length, Nat.mul_one] at hpn hqn
      have LP : Hid ((iv (wA s.ws i).st).length = np * 1) := Lib.hid (by rw [iv_length, hpn, Nat.mul_one])
      have LQ : Hid ((iv (wA s.ws i).dq).length = nq * 1) := Lib.hid (by rw [iv_length, hqn, Nat.mul_one])
      rw [hpn] at hst
      rw [hqn] at hdq
      have HPN := Lib.hid hpn
      have HQN := Lib.hid hqn
      obtain ⟨on, hon⟩ := name_of (wA s.ws i).on
      obtain ⟨pk, hpk2⟩ := name_of (wA s.ws i).pk
      rw [hon] at e0
      rw [hpk2] at e1
      have HON := Lib.hid hon
      have HPK := Lib.hid hpk2
      have HGI := Lib.hid hgi
      have hbl := lt_of_block hbk.out
      have HBL := Lib.hid hbl
      have hB0 := hB
      clear hpn hqn hon hpk2 hBw hgw hbl
      obtain ⟨W1, hW1⟩ := name_of (wr.alloc (.cells #[.bool on, .bool pk, .slice Ap np kp, .slice Aq nq kq] 56))
      go_upto_region 6 with fail
      have hbW1 : Below wr.heap.size wr W1 := by rw [← hW1]; exact (Below.refl _ _).alloc (Nat.le_refl _) _
      have blW1 : W1.heap[wr.heap.size]? = some (.cells #[.bool on, .bool pk, .slice Ap np kp, .slice Aq nq kq] 56 (0, 0)) := by rw [← hW1]; exact heap_alloc_last _ _
      clear hW1 e0 e1 e2 e3 q2
      have hbE6 : Below W1.heap.size W1 (W1.alloc (.cells #[] 3)) := (Below.refl _ _).alloc (Nat.le_refl _) _
      have hown6 := own_empty W1 3 1 W1.heap.size (Nat.le_refl _)
      have hsl6 := (HP.out W1 hbW1).next hbE6
      have hblE6 := blk_next blW1 hbE6
      have cE6 : (W1.alloc (.cells #[] 3)).cell? ⟨wr.heap.size, 2, none⟩ = some (.slice Ap np kp) := (cell_of_row _ _ _ _ _ _ hblE6).trans rfl
      go_upto_region 7 with (at_builtin; go_loud (refine wpList_append_sl rfl (.tmp 27) (.tmp 29) 54 rfl W1.heap.size 3 (.int .i64 0) 1 8 Tryd.underlying54 infoC_ints rfl (by omega) _ _ _ rfl hown6 _ np _ _ rfl hsl6 LP.out (ivI_one _) (by omega) (by omega) hbE6.size ?_; intro v6 w6 o6 hg6 hat6); go_loud (have hB6 := below_append hbE6 hown6 hg6 (Nat.le_refl _); obtain ⟨B6, n6, k6, rfl⟩ := PC.own_slice o6); go_loud (have hbl6 := blk_next blW1 hB6; have cc6 : w6.cell? ⟨wr.heap.size, 2, none⟩ = some (.slice Ap np kp) := (cell_of_row _ _ _ _ _ _ hbl6).trans rfl); go_loud (have zz6 : w6.frozen? ⟨wr.heap.size, 2, none⟩ = false := (by simp [World.frozen?, hbl6]); obtain ⟨W2, hW2⟩ := name_of (w6.setCell ⟨wr.heap.size, 2, none⟩ (.slice B6 n6 k6))))
      rw [Nat.zero_add, List.nil_append] at o6
      have blW2 : W2.heap[wr.heap.size]? = some (.cells #[.bool on, .bool pk, .slice B6 n6 k6, .slice Aq nq kq] 56 (0, 0)) := by rw [← hW2]; simp [World.setCell, Array.getElem?_modify, hbl6]
      have hbW2 : Below wr.heap.size wr W2 := by rw [← hW2]; exact (hbW1.next hB6).setCell (p := ⟨wr.heap.size, 2, none⟩) (Nat.le_refl _) _
      have hVW1 : V.heap.size ≤ W1.heap.size := Nat.le_trans hB.out.1.size hbW1.size
      have o6 := own_off (own_mono o6 hVW1) hbl6 (by decide) (fun k hk => setCell_away w6 ⟨wr.heap.size, 2, none⟩ (.slice B6 n6 k6) hk)
      rw [hW2] at o6
      clear hW2 cc6 zz6 hbl6 hB6 hg6 hat6 cE6 hblE6 hsl6 hown6 hbE6 blW1 hbW1
      have hbE7 : Below W2.heap.size W2 (W2.alloc (.cells #[] 3)) := (Below.refl _ _).alloc (Nat.le_refl _) _
      have hown7 := own_empty W2 3 1 W2.heap.size (Nat.le_refl _)
      have hsl7 := (HQ.out W2 hbW2).next hbE7
      have hblE7 := blk_next blW2 hbE7
      have cE7 : (W2.alloc (.cells #[] 3)).cell? ⟨wr.heap.size, 3, none⟩ = some (.slice Aq nq kq) := (cell_of_row _ _ _ _ _ _ hblE7).trans rfl
      go_upto_region 8 with (at_builtin; go_loud (refine wpList_append_sl rfl (.tmp 32) (.tmp 34) 54 rfl W2.heap.size 3 (.int .i64 0) 1 8 Tryd.underlying54 infoC_ints rfl (by omega) _ _ _ rfl hown7 _ nq _ _ rfl hsl7 LQ.out (ivI_one _) (by omega) (by omega) hbE7.size ?_; intro v7 w7 o7 hg7 hat7); go_loud (have hB7 := below_append hbE7 hown7 hg7 (Nat.le_refl _); obtain ⟨B7, n7, k7, rfl⟩ := PC.own_slice o7); go_loud (have hbl7 := blk_next blW2 hB7; have cc7 : w7.cell? ⟨wr.heap.size, 3, none⟩ = some (.slice Aq nq kq) := (cell_of_row _ _ _ _ _ _ hbl7).trans rfl); go_loud (have zz7 : w7.frozen? ⟨wr.heap.size, 3, none⟩ = false := (by simp [World.frozen?, hbl7]); obtain ⟨W3, hW3⟩ := name_of (w7.setCell ⟨wr.heap.size, 3, none⟩ (.slice B7 n7 k7))))
      rw [Nat.zero_add, List.nil_append] at o7
      have blW3 : W3.heap[wr.heap.size]? = some (.cells #[.bool on, .bool pk, .slice B6 n6 k6, .slice B7 n7 k7] 56 (0, 0)) := by rw [← hW3]; simp [World.setCell, Array.getElem?_modify, hbl7]
      have hbW3 : Below wr.heap.size wr W3 := by rw [← hW3]; exact (hbW2.next hB7).setCell (p := ⟨wr.heap.size, 3, none⟩) (Nat.le_refl _) _
      have hVW2 : V.heap.size ≤ W2.heap.size := Nat.le_trans hB.out.1.size hbW2.size
      have o6 := own_off (own_below o6 hB7) hbl7 (by decide) (fun k hk => setCell_away w7 ⟨wr.heap.size, 3, none⟩ (.slice B7 n7 k7) hk)
      have o7 := own_off (own_mono o7 hVW2) hbl7 (by decide) (fun k hk => setCell_away w7 ⟨wr.heap.size, 3, none⟩ (.slice B7 n7 k7) hk)
      rw [hW3] at o6 o7
      clear hW3 cc7 zz7 hbl7 hB7 hg7 hat7 cE7 hblE7 hsl7 hown7 hbE7 blW2 hbW2 hVW1 hVW2
      have hbE8 : Below W3.heap.size W3 (W3.alloc (.cells #[.bool on, .bool pk, .slice B6 n6 k6, .slice B7 n7 k7] 56)) := (Below.refl _ _).alloc (Nat.le_refl _) _
      have hOC4 := (hOC.out.next hbW3).next hbE8
      have hwk4 := hOC4.wk
      have hbk3 := blk_next hbk.out hbW3
      have hbk4 := blk_next hbk3 hbE8
      have d2 : W3.cell? ⟨b, 2, none⟩ = some (.slice A3 i c3) := (cell_of_row _ _ _ _ _ _ hbk3).trans rfl
      have f0 : W3.cell? ⟨wr.heap.size, 0, none⟩ = some (.bool on) := (cell_of_row _ _ _ _ _ _ blW3).trans rfl
      have f1 : W3.cell? ⟨wr.heap.size, 1, none⟩ = some (.bool pk) := (cell_of_row _ _ _ _ _ _ blW3).trans rfl
      have f2 : W3.cell? ⟨wr.heap.size, 2, none⟩ = some (.slice B6 n6 k6) := (cell_of_row _ _ _ _ _ _ blW3).trans rfl
      have f3 : W3.cell? ⟨wr.heap.size, 3, none⟩ = some (.slice B7 n7 k7) := (cell_of_row _ _ _ _ _ _ blW3).trans rfl
      have hs8 := sl_lit (W := W3) (size := 4) (cs := #[.bool on, .bool pk, .slice B6 n6 k6, .slice B7 n7 k7]) (t := 56) rfl
      have h81 : ∀ u ∈ (#[Value.bool on, .bool pk, .slice B6 n6 k6, .slice B7 n7 k7] : Array Value).toList, u.oneCell' = true := by
        intro u hu
        simp at hu
        rcases hu with h | h | h | h <;> subst h <;> rfl
      have hbV4 := (hB.out.1.next hbW3).next hbE8
      have hi21 : i ≤ 20 := by omega
      have HS8 := Lib.hid hs8
      have H81 := Lib.hid h81
      clear hs8 h81
      go_wp2_with (at_builtin; go_loud (refine wpList_append_sl rfl (.tmp 38) (.tmp 40) 24 rfl V.heap.size 56 (.agg #[.bool false, .bool false, .slice none 0 0, .slice none 0 0]) 4 56 Tryd.underlying24 infoC_wks rfl (by omega) _ _ _ rfl hwk4 _ 1 _ _ rfl HS8.out rfl H81.out (by omega) (by omega) hbV4.size ?_; intro v8 w8 o8 hg8 hat8; have hB8 := below_append hbV4 hwk4 hg8 (Nat.le_refl _); have hbl8 := grown_block hg8 hbk4 (own_ne hwk4 hbk4 (by decide)); obtain ⟨B8, k8, rfl, hik8, -⟩ := own_view o8; have cc8 : w8.cell? ⟨b, 2, none⟩ = some (.slice A3 i c3) := (cell_of_row _ _ _ _ _ _ hbl8).trans rfl; have zz8 : w8.frozen? ⟨b, 2, none⟩ = false := (by simp [World.frozen?, hbl8]); obtain ⟨W5, hW5⟩ := name_of (w8.setCell ⟨b, 2, none⟩ (.slice B8 (i + 1) k8))))
      have hB5 : Below V.heap.size V W5 := by rw [← hW5]; exact hB8.setCell (p := ⟨b, 2, none⟩) HVB.out _
      have hbl5 : W5.heap[b]? = some (.cells #[.slice A1 m1 c1, .slice A2 m2 c2, .slice B8 (i + 1) k8] 31 (0, 0)) := by rw [← hW5]; simp [World.setCell, Array.getElem?_modify, hbl8]
      have HI := HGI.out
      have hOC5 : OwnC V.heap.size s (.slice A1 m1 c1) (.slice A2 m2 c2) (.slice B8 (i + 1) k8) (i + 1) (cv ++ [(.slice B6 n6 k6, .slice B7 n7 k7)]) W5 := by
        rw [← hW5]
        refine (hOC4.push HI hg8 ?_ ?_ ?_).off hbl8 (fun k hk => setCell_away w8 ⟨b, 2, none⟩ (.slice B8 (i + 1) k8) hk)
        · rw [← wA_eq HI, HON.out, HPK.out]
          exact o8
        · have h := own_below o6 hbE8
          rw [← HPN.out, wA_eq HI] at h
          exact h
        · have h := own_below o7 hbE8
          rw [← HQN.out, wA_eq HI] at h
          exact h
      exact ⟨⟨i + 1, B8, k8, _, by omega, by go_num, Lib.hid (BxS.next HBX.out hB5 HGL.out), Lib.hid hOC5, Lib.hid hbl5⟩, by simp [intOf]; omega⟩
    · have hin : i = nw := by omega
      subst hin
      have hbk2 := hbk.out
      have HOS := Lib.hid ((hOC.out.all HNW.out.symm HL40.out HA.out.rows.wf HA.out.scf HA.out.wkf).mono HVS.out)
      have HRS3 := Lib.hid (blk_next HRES.out hB.out.1)
      have HBW3 := Lib.hid (HBV.out.next hB.out.1)
      have HBK3 := Lib.hid hbk2
      clear hOC hbk hbk2
      go_upto_region 9 with fail
      refine wp_region_lit (wpList_load_blk rfl 31 31 (.tmp 3) rfl b rfl #[.slice A1 m1 c1, .slice A2 m2 c2, .slice A3 i c3] (0, 0) HBK3.out _ Tryd.underlying31 rfl (by kernel_rfl) ?_)
      refine wpList_store_blk rfl 31 31 (.tmp 2) (.tmp 43) rfl (w.heap.size + 1) rfl #[.slice A1 m1 c1, .slice A2 m2 c2, .slice A3 i c3] rfl _ HRS3.out (by kernel_rfl) rfl (by simp [Value.oneCell']) ?_
      intro Y g1 g2 g3 g4
      refine wpList_nil ?_
      go_wp2_with fail
      refine bodyPost_ret (results_cell_one rfl _ _ (w.heap.size + 1) 31 _ _ _ rfl g1 Tryd.underlying31 rfl (by kernel_rfl)) rfl ?_
      exact ⟨⟨_, _, _, rfl, HOS.out.off HRS3.out (by decide) (by decide) (by decide) (by decide) g2⟩, HBW3.out.trans (Below.mono g4 (Nat.le_succ _))⟩
end P20
end Go.Proofs.YtajbchecjbddgaaDoor
