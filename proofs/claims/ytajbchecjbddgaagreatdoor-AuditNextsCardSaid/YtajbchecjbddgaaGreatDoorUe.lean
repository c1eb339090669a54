/- Audit: (view).any. -/
import Derived.Test.YtajbchecjbddgaaGreatDoorUd
namespace Go.Proofs.YtajbchecjbddgaaGreatDoor
open Go.RowKit Go.Shelf
namespace P20
open P7

attribute [local go_sem] Oper.semAt_some

theorem results_any {tmps : Array Value} {w : World} {g : Nat} {v : Value} (hp : tmps.getD 6 undef = .pointer (some ⟨g, 0, none⟩)) (hc : w.cell? ⟨g, 0, none⟩ = some v) :
    (results Tryz.f17 tmps).run Tryz.prog w = .ok v w := by
  have hp' : tmps[6]?.getD undef = .pointer (some ⟨g, 0, none⟩) := by simpa using hp
  simp [results, Tryz.results17, hp', go_sem, asAddr, hc]
theorem box_putU {W : World} {B D : Nat} {t : TypeId} {v : Value} (h : Boxed W B t v) (hne : B ≠ D) (o : Obj) : Boxed (W.putObj D o) B t v := (World.putObj_heap_other hne).trans h
theorem grown_ofB {w w' : World} (hb : Below w.heap.size w w') : w.grownBy w' none := ⟨hb.os, hb.tape, hb.output, hb.size, fun k hk _ => hb.block k hk⟩
theorem boxNext {W W' : World} {B : Nat} {t : TypeId} {v : Value} (h : Boxed W B t v) (hb : Below W.heap.size W W') : Boxed W' B t v := h.kept (grown_ofB hb) (by simp)
/-- While none has been such a one. -/
def AnI (w : World) (sv bvp : Value) (P : Nat → Bool) (pre : List Nat) (W : World) : Prop :=
  ((Boxed W w.heap.size 56 sv ∧ Boxed W (w.heap.size + 1) 4 (.bool false)) ∧ Boxed W (w.heap.size + 1 + 1) 42 bvp) ∧ (Below w.heap.size w W ∧ w.heap.size + 1 + 1 + 1 < W.heap.size) ∧ ∀ x ∈ pre, P x = false
/-- One was. -/
def AnX (w : World) (P : Nat → Bool) (c : Code) (pre : List Nat) (W : World) : Prop :=
  Boxed W (w.heap.size + 1) 4 (.bool true) ∧ Below w.heap.size w W ∧ c = .ret ∧ ∃ x ∈ pre, P x = true
theorem box_ownU {B : Nat} {t : TypeId} {v : Value} {X Y : World} {row : Option Nat} (h : Boxed X B t v) (hg : X.grownBy Y row) (hrow : ∀ r, row = some r → ∃ o : Obj, X.heap[r]? = some o ∧ o.isCells = false) : Boxed Y B t v :=
  boxed_own (β := Unit) B t (fun _ => v) () X Y row h hg hrow
theorem AnI.own (w : World) (sv bvp : Value) (P : Nat → Bool) (B : Nat) (hB : w.heap.size ≤ B) : OwnFrom B (AnI w sv bvp P) := fun s X Y row hs hg hr => by
  obtain ⟨⟨⟨h1, h2⟩, h3⟩, ⟨h4, h5⟩, h6⟩ := hs
  have hr' : ∀ r, row = some r → ∃ o : Obj, X.heap[r]? = some o ∧ o.isCells = false := fun r e => (hr r e).2
  exact ⟨⟨⟨box_ownU h1 hg hr', box_ownU h2 hg hr'⟩, box_ownU h3 hg hr'⟩, ⟨(ownFrom_below (β := Unit) (Nat.le_refl _) hB) () X Y row h4 hg hr, Nat.lt_of_lt_of_le h5 hg.size⟩, h6⟩
theorem AnX.own (w : World) (P : Nat → Bool) (B : Nat) (hB : w.heap.size ≤ B) (c : Code) : OwnFrom B (AnX w P c) := fun s X Y row hs hg hr => by
  obtain ⟨h1, h2, h3⟩ := hs
  exact ⟨box_ownU h1 hg (fun r e => (hr r e).2), (ownFrom_below (β := Unit) (Nat.le_refl _) hB) () X Y row h2 hg hr, h3⟩
theorem AnI.set {w : World} {sv bvp : Value} {P : Nat → Bool} {Bs : Nat} (hBs : w.heap.size + 1 + 1 < Bs) (pre : List Nat) (W : World) (v : Value) (h : AnI w sv bvp P pre W) (_ : Boxed W Bs 3 v) (v' : Value) : AnI w sv bvp P pre (W.setCell ⟨Bs, 0, none⟩ v') := by
  obtain ⟨⟨⟨h1, h2⟩, h3⟩, ⟨h4, h5⟩, h6⟩ := h
  exact ⟨⟨⟨h1.other (by omega) _, h2.other (by omega) _⟩, h3.other (by omega) _⟩, ⟨h4.setCell (p := ⟨Bs, 0, none⟩) (by simp; omega) _, by simpa using h5⟩, h6⟩
theorem AnI.next {w : World} {sv bvp : Value} {P : Nat → Bool} (pre : List Nat) (W W' : World) (h : AnI w sv bvp P pre W) (hb : Below W.heap.size W W') : AnI w sv bvp P pre W' := by
  obtain ⟨⟨⟨h1, h2⟩, h3⟩, ⟨h4, h5⟩, h6⟩ := h
  exact ⟨⟨⟨boxNext h1 hb, boxNext h2 hb⟩, boxNext h3 hb⟩, ⟨h4.next hb, Nat.lt_of_lt_of_le h5 hb.size⟩, h6⟩
set_option maxRecDepth 100000 in
set_option maxHeartbeats 4000000 in
theorem any_any {w : World} {bv bm : Nat} {vr vs vw : Value} {s : Sh} (hV : Vm w bv bm vr vs vw s) (hf : Fine s) (i : Nat) (hi : i < s.sc.length) (fS : Nat) (caps : Array Value) (P : Nat → Bool)
    (eS : ∀ args w, (callFunc fS args).run Tryz.prog w = .ok (.enter fS args) w)
    (hS : ∀ W x, Below w.heap.size w W → x < s.sc.length → Calls Tryz.prog fS (#[.int .i64 (x : Int)] ++ caps) W fun e W' => e = .returned (.bool (P x)) ∧ Below W.heap.size W W') :
    Calls Tryz.prog 17 #[.pointer (some ⟨bv, 0, none⟩), .int .i64 i, .func (.func fS) #[] caps] w fun e w' => e = .returned (.bool ((ch s i).any P)) ∧ Below w.heap.size w w' := by
  have HV := Lib.hid hV
  have HF := Lib.hid hf
  have HS := Lib.hid hS
  have HES := Lib.hid eS
  clear hV hf hS eS
  refine (callsIn_wide (n := 10)).1 ?_
  refine callsIn_of_wp_marks Tryz.func17 rfl trivial ?_ rfl
  simp only [Tryz.ntmps17, List.size_toArray, List.length_cons, List.length_nil, Nat.reduceAdd, Nat.reduceSub, Array.replicate_succ, Array.replicate_zero, List.push_toArray, List.append_toArray, List.nil_append, List.cons_append]
  gi_wp2
  refine ⟨trivial, (callsIn_wide.2 (out_any bv i _)).mono ?_⟩
  rintro e w' ⟨rfl, rfl⟩
  gi_wp2
  have b0 := Boxed.new w 56 (.func (.func fS) #[] caps)
  have b1 := Boxed.new (w.alloc (.cells #[.func (.func fS) #[] caps] 56)) 4 (.bool false)
  have b2 := Boxed.new ((w.alloc (.cells #[.func (.func fS) #[] caps] 56)).alloc (.cells #[.bool false] 4)) 42 (.pointer (some ⟨bv, 0, none⟩))
  have b3 := Boxed.new (((w.alloc (.cells #[.func (.func fS) #[] caps] 56)).alloc (.cells #[.bool false] 4)).alloc (.cells #[.pointer (some ⟨bv, 0, none⟩)] 42)) 3 (.int .i64 i)
  simp only [World.size_alloc] at b1 b2 b3
  have hB4 : Below w.heap.size w ((((w.alloc (.cells #[.func (.func fS) #[] caps] 56)).alloc (.cells #[.bool false] 4)).alloc (.cells #[.pointer (some ⟨bv, 0, none⟩)] 42)).alloc (.cells #[.int .i64 i] 3)) := by go_grown
  have hI0 : AnI w (.func (.func fS) #[] caps) (.pointer (some ⟨bv, 0, none⟩)) P [] ((((w.alloc (.cells #[.func (.func fS) #[] caps] 56)).alloc (.cells #[.bool false] 4)).alloc (.cells #[.pointer (some ⟨bv, 0, none⟩)] 42)).alloc (.cells #[.int .i64 i] 3)) :=
    ⟨⟨⟨((b0.alloc _).alloc _).alloc _, (b1.alloc _).alloc _⟩, b2.alloc _⟩, ⟨hB4, by simp⟩, fun x hx => by cases hx⟩
  have hSeq : SeqBoxV Fence.wide 9 Tryz.prog 57 #[.pointer (some ⟨w.heap.size + 1 + 1 + 1, 0, none⟩), .pointer (some ⟨w.heap.size + 1 + 1, 0, none⟩)] natV (w.heap.size + 1 + 1 + 1) 3 (.int .i64 i) (ch s i) (OutV (w.heap.size + 1 + 1) bv bm vr vs vw s) :=
    fun l J Jx W hJs hJb hJV hY hb h0 => out1_in 9 (by omega) l _ _ bv bm vr vs vw s HF.out i hi J Jx W hJs hJb hJV hY hb h0
  have HB3 := Lib.hid b3
  have HI0 := Lib.hid hI0
  clear b0 b1 b2 b3 hB4 hI0
  refine wpIn_rangeBoxV rfl (by omega) (gf := 57) (lb := #[.pointer (some ⟨w.heap.size + 1 + 1 + 1, 0, none⟩), .pointer (some ⟨w.heap.size + 1 + 1, 0, none⟩)]) rfl trivial (enters_of Tryz.func57 (by kernel_rfl) rfl)
    hSeq HB3.out (fun _ => rfl) (AnI w (.func (.func fS) #[] caps) (.pointer (some ⟨bv, 0, none⟩)) P) (AnX w P) (AnI.own w _ _ P _ (by simp; omega)) (AnX.own w P _ (by simp; omega)) (AnI.set (by omega)) AnI.next
    (fun pre W h => ⟨HV.out.next h.2.1.1, h.1.2⟩) HI0.out
    (fun x => { tmps := #[.pointer (some ⟨bv, 0, none⟩), .int .i64 i, .func (.func fS) #[] caps, undef, undef, .pointer (some ⟨w.heap.size, 0, none⟩), .pointer (some ⟨w.heap.size + 1, 0, none⟩), .int .i64 (x : Int), .pointer (some ⟨bv, 0, none⟩), .int .i64 i, .func (.func 57) #[] #[.pointer (some ⟨w.heap.size + 1 + 1 + 1, 0, none⟩), .pointer (some ⟨w.heap.size + 1 + 1, 0, none⟩)], .int .i64 (x : Int), undef, undef, undef], defers := [] }) ?assign ?body ?done ?stop
  case assign =>
    intro l x W K hK
    unfold natV
    gi_wp2
    exact hK
  case body =>
    rintro l' pre x W ⟨⟨⟨h1, h2⟩, h3⟩, ⟨hB, hz⟩, hno⟩ - hpx
    have hxl : x < s.sc.length := by
      have hx : x ∈ ch s i := hpx.subset (by simp)
      have := ch_lt HF.out.sc HF.out.up i hi x hx
      omega
    have c0 := h1.cell
    have c1 := h2.cell
    have f1 := h2.frozen
    have hCs := CallsIn.inRound l' ((callsIn_wide (n := 10 - 1 - 1 - 1)).2 (HS.out W x hB hxl))
    have eS := HES.out
    have hd : 1 ≤ 10 - 1 - 1 := by omega
    have HNO := Lib.hid hno
    clear hno hpx
    obtain ⟨t, ht⟩ := name_of (P x)
    rw [ht] at hCs
    have HT := Lib.hid ht
    clear ht
    have HB := Lib.hid hB
    have H1 := Lib.hid h1
    have H2 := Lib.hid h2
    have H3 := Lib.hid h3
    clear hB h1 h2 h3
    gi_wp2
    refine ⟨trivial, hCs.mono ?_⟩
    rintro e W2 ⟨rfl, hb2⟩
    have k2 : KeepsFrom (((((w.alloc (.cells #[.func (.func fS) #[] caps] 56)).alloc (.cells #[.bool false] 4)).alloc (.cells #[.pointer (some ⟨bv, 0, none⟩)] 42)).alloc (.cells #[.int .i64 i] 3)).heap.size) W W2 := ⟨hb2.size, fun k _ _ hk _ => (hb2.block k (Array.getElem?_eq_some_iff.1 hk).1).trans hk⟩
    have hbx := hb2.block (w.heap.size + 1 + 1 + 1) hz
    have n1 := boxNext H1.out hb2
    have n2 := boxNext H2.out hb2
    have n3 := boxNext H3.out hb2
    have hB2 := HB.out.next hb2
    have hz2 := Nat.lt_of_lt_of_le hz hb2.size
    have c1 := n2.cell
    have f1 := n2.frozen
    have N1 := Lib.hid n1
    have N2 := Lib.hid n2
    have N3 := Lib.hid n3
    have K2 := Lib.hid k2
    have HBX := Lib.hid hbx
    have HB2 := Lib.hid hB2
    clear n1 n2 n3 k2 hbx hB2 hb2 hCs
    cases t with
    | false =>
      gi_wp2
      refine ⟨K2.out, HBX.out, ⟨⟨N1.out, N2.out⟩, N3.out⟩, ⟨HB2.out, hz2⟩, fun y hy => ?_⟩
      rcases List.mem_append.1 hy with hy | hy
      · exact HNO.out y hy
      · rw [List.mem_singleton] at hy
        rw [hy]
        exact HT.out
    | true =>
      gi_wp2
      exact ⟨K2.out.trans ((KeepsOthers.setCell _ _ _).from _), N2.out.set _, HB2.out.setCell (p := ⟨w.heap.size + 1, 0, none⟩) (by simp) _, rfl, x, by simp, HT.out⟩
  case done =>
    rintro D W hD ⟨⟨⟨h1, h2⟩, h3⟩, ⟨hB, hz⟩, hno⟩ hK
    have c1 := h2.cell
    have f1 := h2.frozen
    have hDs : w.heap.size + 1 < D := by simp at hD; omega
    have HNO : Hid ((ch s i).any P = false) := Lib.hid (by rw [List.any_eq_false]; intro x hx; rw [hno x hx]; simp)
    clear hno
    have g2 := h2.set (.bool false)
    have gK : (W.setCell ⟨w.heap.size + 1, 0, none⟩ (.bool false)).heap[D]? = some (.deferred (some [])) := by
      rw [setCell_block_other _ _ _ (by omega)]
      exact hK
    have gB := hB.setCell (p := ⟨w.heap.size + 1, 0, none⟩) (by simp) (.bool false)
    have G2 := Lib.hid g2
    have GK := Lib.hid gK
    have GB := Lib.hid gB
    clear g2 gK gB h1 h2 h3 hB hK
    gi_wp2
    refine ⟨by simp, .inl ⟨_, _, rfl, run_takeDeferred GK.out, ?_⟩⟩
    exact ⟨_, results_any rfl (Boxed.cell (box_putU G2.out (by omega) _)), ret_bool HNO.out.symm, GB.out.trans (belowK_b (w := w) (Nat.le_refl _) _ D _ _ (by omega) GK.out rfl rfl)⟩
  case stop =>
    rintro D c pre W hD hpre ⟨h2, hB, rfl, hex⟩ hK
    have c1 := h2.cell
    have hDs : w.heap.size + 1 < D := by simp at hD; omega
    have HEX : Hid ((ch s i).any P = true) := Lib.hid (by
      obtain ⟨x, hx, hp⟩ := hex
      exact List.any_eq_true.2 ⟨x, hpre.subset hx, hp⟩)
    clear hex
    gi_wp2
    refine ⟨by simp, .inl ⟨_, _, rfl, run_takeDeferred hK, ?_⟩⟩
    exact ⟨_, results_any rfl (Boxed.cell (box_putU h2 (by omega) _)), ret_bool HEX.out.symm, hB.trans (belowK_b (w := w) (Nat.le_refl _) _ D _ _ (by omega) hK rfl rfl)⟩
end P20
end Go.Proofs.YtajbchecjbddgaaGreatDoor
