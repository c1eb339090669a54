/- Merged: U2 U3. -/
import Derived.Test.YtajbchecjbddgaaGreatDoorU1
import Derived.Test.YtajbchecjbddgaaGreatDoorH2
import Derived.Maps.Own
import Derived.Maps.OwnOps
import Derived.Maps.OwnSet
import Derived.Maps.Views
import Derived.DeepKeys3
/- Audit: shots in memory. -/
namespace Go.Proofs.YtajbchecjbddgaaGreatDoor
open Go.RowKit
namespace P20
open P7

def scC (x : Sc) : List Value := [.int .i64 x.r, .int .i64 x.k, .int .i64 x.n, .bool x.a, .bool x.c, .int .i64 x.v]
def scsC (l : List Sc) : List Value := l.flatMap scC
def scV (x : Sc) : Value := .agg #[.int .i64 x.r, .int .i64 x.k, .int .i64 x.n, .bool x.a, .bool x.c, .int .i64 x.v]
theorem scC_length (x : Sc) : (scC x).length = 6 := rfl
theorem scsC_length (l : List Sc) : (scsC l).length = l.length * 6 := flat_length scC 6 scC_length l
theorem scsC_one (l : List Sc) : ∀ u ∈ scsC l, u.oneCell' = true := by
  intro u hu
  obtain ⟨r, _, hr⟩ := List.mem_flatMap.1 hu
  simp only [scC, List.mem_cons, List.not_mem_nil, or_false] at hr
  rcases hr with h | h | h | h | h | h <;> subst h <;> rfl
def wkC (x : Wk × Value × Value) : List Value := [.bool x.1.on, .bool x.1.pk, x.2.1, x.2.2]
theorem wkC_length (x : Wk × Value × Value) : (wkC x).length = 4 := rfl
def iv (l : List Int) : List Value := l.map (Value.int .i64)
@[simp] theorem iv_length (l : List Int) : (iv l).length = l.length := by simp [iv]
/-- A scope's six cells. -/
def ScAt (w : World) (b o : Nat) (x : Sc) : Prop :=
  w.cell? ⟨b, o, none⟩ = some (.int .i64 x.r) ∧ w.cell? ⟨b, o + 1, none⟩ = some (.int .i64 x.k) ∧ w.cell? ⟨b, o + 2, none⟩ = some (.int .i64 x.n) ∧
  w.cell? ⟨b, o + 3, none⟩ = some (.bool x.a) ∧ w.cell? ⟨b, o + 4, none⟩ = some (.bool x.c) ∧ w.cell? ⟨b, o + 5, none⟩ = some (.int .i64 x.v)
/-- The slice value v reads as these workers, all below block B. -/
def Wks (w : World) (B : Nat) (v : Value) (p : List Wk) : Prop :=
  ∃ cv : List (Value × Value), cv.length = p.length ∧ Sl w B 4 v ((p.zip cv).flatMap wkC) ∧ ∀ (k : Nat) (hk : k < p.length) (c : Value × Value), cv[k]? = some c → Sl w B 1 c.1 (iv p[k].st) ∧ Sl w B 1 c.2 (iv p[k].dq)
section
variable {w w' : World} {B B' : Nat} {v : Value} {p : List Wk} {l : List Sc}
theorem ScAt.keep {b o : Nat} {r : Sc} (h : ScAt w b o r) (hk : ∀ j, w'.cell? ⟨b, j, none⟩ = w.cell? ⟨b, j, none⟩) : ScAt w' b o r := by
  obtain ⟨h0, h1, h2, h3, h4, h5⟩ := h
  exact ⟨(hk _).trans h0, (hk _).trans h1, (hk _).trans h2, (hk _).trans h3, (hk _).trans h4, (hk _).trans h5⟩
theorem ScAt.below {b o : Nat} {r : Sc} (h : ScAt w b o r) (hb : Below B w w') (hlt : b < B) : ScAt w' b o r := h.keep fun j => hb.cell (p := ⟨b, j, none⟩) hlt
theorem scs_open (h : Sl w B 6 v (scsC l)) : ∃ A c, v = .slice A l.length c ∧ l.length ≤ c ∧ ∀ k, k < l.length → ∃ b off, A = some ⟨b, off, none⟩ ∧ b < B ∧ ScAt w b (off + k * 6) (sA l k) := by
  obtain ⟨A, n, c, rfl, hnc, hn, hA⟩ := h
  rw [scsC_length] at hn
  have hnl : n = l.length := by omega
  subst hnl
  refine ⟨A, c, rfl, hnc, fun k hk => ?_⟩
  obtain ⟨b, off, rfl, hb, hr⟩ := hA (by omega)
  have hg : ∀ j, j < 6 → (scsC l)[k * 6 + j]? = (scC (sA l k))[j]? := fun j hj => by
    rw [scsC, flat_get scC 6 scC_length l k j hj, List.getElem?_eq_getElem hk, sA_eq hk]; rfl
  have hc : ∀ j u, j < 6 → (scC (sA l k))[j]? = some u → w.cell? ⟨b, off + k * 6 + j, none⟩ = some u := fun j u hj hu => by
    rw [Nat.add_assoc]; exact hr (k * 6 + j) u ((hg j hj).trans hu)
  exact ⟨b, off, rfl, hb, hc 0 _ (by omega) rfl, hc 1 _ (by omega) rfl, hc 2 _ (by omega) rfl, hc 3 _ (by omega) rfl, hc 4 _ (by omega) rfl, hc 5 _ (by omega) rfl⟩
theorem Wks.below (h : Wks w B v p) (hb : Below B w w') : Wks w' B v p := by
  obtain ⟨cv, h1, h2, h3⟩ := h
  exact ⟨cv, h1, h2.below hb, fun k hk c hc => ⟨(h3 k hk c hc).1.below hb, (h3 k hk c hc).2.below hb⟩⟩
theorem Wks.more (h : Wks w B v p) (hB : B ≤ B') : Wks w B' v p := by
  obtain ⟨cv, h1, h2, h3⟩ := h
  exact ⟨cv, h1, h2.more hB, fun k hk c hc => ⟨(h3 k hk c hc).1.more hB, (h3 k hk c hc).2.more hB⟩⟩
theorem Wks.next (h : Wks w w.heap.size v p) (hb : Below w.heap.size w w') : Wks w' w'.heap.size v p := (h.below hb).more hb.size
/-- The slice's make, and each worker's four cells and its two lists. -/
theorem Wks.open_ (h : Wks w B v p) : ∃ A c, v = .slice A p.length c ∧ p.length ≤ c ∧ ∀ k, k < p.length → ∃ b off sv dv, A = some ⟨b, off, none⟩ ∧ b < B ∧
    w.cell? ⟨b, off + k * 4, none⟩ = some (.bool (wA p k).on) ∧ w.cell? ⟨b, off + k * 4 + 1, none⟩ = some (.bool (wA p k).pk) ∧ w.cell? ⟨b, off + k * 4 + 2, none⟩ = some sv ∧ w.cell? ⟨b, off + k * 4 + 3, none⟩ = some dv ∧
    Sl w B 1 sv (iv (wA p k).st) ∧ Sl w B 1 dv (iv (wA p k).dq) := by
  obtain ⟨cv, h1, ⟨A, n, c, rfl, hnc, hn, hA⟩, h3⟩ := h
  have hl : ((p.zip cv).flatMap wkC).length = p.length * 4 := by rw [flat_length wkC 4 wkC_length, List.length_zip, h1, Nat.min_self]
  have hnp : n = p.length := by omega
  subst hnp
  refine ⟨A, c, rfl, hnc, fun k hk => ?_⟩
  obtain ⟨b, off, rfl, hb, hr⟩ := hA (by omega)
  have hz : (p.zip cv)[k]? = some (p[k], cv[k]'(by omega)) := by
    rw [List.getElem?_eq_getElem (by rw [List.length_zip]; omega), List.getElem_zip]
  have hg : ∀ j, j < 4 → ((p.zip cv).flatMap wkC)[k * 4 + j]? = (wkC (p[k], cv[k]'(by omega)))[j]? := fun j hj => by
    rw [flat_get wkC 4 wkC_length _ k j hj, hz]; rfl
  have hc : ∀ j u, j < 4 → (wkC (p[k], cv[k]'(by omega)))[j]? = some u → w.cell? ⟨b, off + k * 4 + j, none⟩ = some u := fun j u hj hu => by
    rw [Nat.add_assoc]; exact hr (k * 4 + j) u ((hg j hj).trans hu)
  obtain ⟨g1, g2⟩ := h3 k hk _ (List.getElem?_eq_getElem (by omega))
  rw [wA_eq hk]
  exact ⟨b, off, (cv[k]'(by omega)).1, (cv[k]'(by omega)).2, rfl, hb, hc 0 _ (by omega) rfl, hc 1 _ (by omega) rfl, hc 2 _ (by omega) rfl, hc 3 _ (by omega) rfl, g1, g2⟩
/-- A slice of numbers. -/
theorem ints_open {x : List Int} (h : Sl w B 1 v (iv x)) : ∃ A c, v = .slice A x.length c ∧ x.length ≤ c ∧ ∀ k, k < x.length → ∃ b off, A = some ⟨b, off, none⟩ ∧ b < B ∧ w.cell? ⟨b, off + k, none⟩ = some (.int .i64 (x.getD k 0)) := by
  obtain ⟨A, n, c, rfl, hnc, hn, hA⟩ := h
  rw [iv_length, Nat.mul_one] at hn
  subst hn
  refine ⟨A, c, rfl, hnc, fun k hk => ?_⟩
  obtain ⟨b, off, rfl, hb, hr⟩ := hA (by omega)
  refine ⟨b, off, rfl, hb, hr k _ ?_⟩
  simp [iv, List.getD_eq_getElem?_getD, List.getElem?_eq_getElem hk]
end
def i64R (x : Int) : Prop := -9223372036854775808 ≤ x ∧ x ≤ 9223372036854775807
/-- What is known of a scope, and of a worker, that came in. -/
structure ScWf (x : Sc) : Prop where
  r : i64R x.r
  k : i64R x.k
  n : i64R x.n
  v : i64R x.v
structure WkWf (x : Wk) : Prop where
  st : ∀ y ∈ x.st, i64R y
  dq : ∀ y ∈ x.dq, i64R y
/-- A shot's three slices. -/
structure Shm (w : World) (vr vs vw : Value) (s : Sh) : Prop where
  rows : Rws w vr s.l
  scs : Sl w w.heap.size 6 vs (scsC s.sc)
  wks : Wks w w.heap.size vw s.ws
  scf : ∀ x ∈ s.sc, ScWf x
  wkf : ∀ x ∈ s.ws, WkWf x
theorem Shm.next {w w' : World} {vr vs vw : Value} {s : Sh} (h : Shm w vr vs vw s) (hb : Below w.heap.size w w') : Shm w' vr vs vw s :=
  ⟨h.rows.next hb, h.scs.next hb, h.wks.next hb, h.scf, h.wkf⟩
/-- Not too great. -/
structure FewS (s : Sh) : Prop where
  l : s.l.length ≤ 40
  lc : ∀ k, k < s.l.length → (at_ s.l k).c.size ≤ 100
  sc : s.sc.length ≤ 60
  ws : s.ws.length ≤ 20
  st : ∀ k, k < s.ws.length → (wA s.ws k).st.length ≤ 60
  dq : ∀ k, k < s.ws.length → (wA s.ws k).dq.length ≤ 60
end P20
end Go.Proofs.YtajbchecjbddgaaGreatDoor

/- Audit: the map of places. -/
namespace Go.Proofs.YtajbchecjbddgaaGreatDoor
open Go.RowKit
namespace P20
open P7 Go.Maps

theorem placeLaw : Keyed Tryz.prog 55 := Keyed.of_law (deep_law (m := 2) (by decide) (by kernel_rfl) (by kernel_rfl) (by kernel_rfl))
theorem zeroInt (w : World) : (zeroValue 3).run Tryz.prog w = .ok (.int .i64 0) w := by kernel_rfl
def plV (r k : Int) : Value := .agg #[.int .i64 r, .int .i64 k]
theorem wf_i64 {x : Int} (h : i64R x) : (Lit.int .i64 x).wf = true := by
  obtain ⟨h1, h2⟩ := h
  exact WalkArith.wf_i64 ⟨h1, h2⟩
def plK (r k : Int) : Lit := .string (keyBytes [.int .i64 r, .int .i64 k])
theorem lits_int {d : Nat} {x : Int} (h : i64R x) : Tryz.prog.keyLits (d + 1) 3 [.int .i64 x] = some [.int .i64 x] := by
  unfold Program.keyLits
  rw [Tryz.underlying3]
  simp only
  rw [if_pos ⟨trivial, wf_i64 h⟩]
theorem lits_place {d : Nat} {r k : Int} (hr : i64R r) (hk : i64R k) : Tryz.prog.keyLits (d + 2) 55 [.int .i64 r, .int .i64 k] = some [.int .i64 r, .int .i64 k] := by
  have hc : Tryz.prog.cellsOf 55 = 2 := by kernel_rfl
  have hi : Tryz.prog.cellsOf 3 = 1 := by kernel_rfl
  unfold Program.keyLits
  rw [Tryz.underlying55]
  simp [hc, hi, lits_int hr, lits_int hk]
theorem plK_of {r k : Int} (hr : i64R r) (hk : i64R k) : keyOf Tryz.prog 55 (plV r k) = some (plK r k) := by
  have h1 : Tryz.prog.keyType 55 = true := by kernel_rfl
  have h2 : (plV r k).formed Tryz.prog 55 = true := by
    have hc : Tryz.prog.cellsOf 55 = 2 := by kernel_rfl
    unfold plV Value.formed
    rw [Tryz.underlying55]
    simp [hc]
  obtain ⟨d, hd⟩ : ∃ d, Tryz.prog.types.size + 1 = d + 2 := ⟨Tryz.prog.types.size - 1, by
    have h : decide (2 ≤ Tryz.prog.types.size) = true := by kernel_rfl
    have := of_decide_eq_true h
    omega⟩
  unfold keyOf
  rw [Tryz.underlying55]
  simp only [h1, h2, Bool.and_true, if_true, hd]
  show (Tryz.prog.keyLits _ _ [.int .i64 r, .int .i64 k]).map _ = _
  rw [lits_place hr hk]
  rfl
theorem plK_ne {r k r' k' : Int} (hr : i64R r) (hk : i64R k) (hr' : i64R r') (hk' : i64R k') (h : ¬ (r' = r ∧ k' = k)) : plK r' k' ≠ plK r k := fun e => by
  have h1 := plK_of hr hk
  have h2 := plK_of hr' hk'
  rw [e] at h2
  have h3 := placeLaw.inj h2 h1
  unfold plV at h3
  simp at h3
  exact h h3
/-- The map of the first so many scopes. -/
def mapD (sc : List Sc) : Nat → DataW Unit
  | 0 => .map []
  | m + 1 => (mapD sc m).put (plK (sA sc m).r (sA sc m).k) (.lit (.int .i64 m))
theorem mapD_isMap (sc : List Sc) : ∀ m, IsMap (mapD sc m)
  | 0 => isMap_empty
  | m + 1 => (mapD_isMap sc m).put _ _
section
variable {sc : List Sc} (hwf : ∀ x ∈ sc, ScWf x)
include hwf
theorem sA_wf {i : Nat} (hi : i < sc.length) : ScWf (sA sc i) := by rw [sA_eq hi]; exact hwf _ (List.getElem_mem hi)
theorem mapD_miss {r k : Int} (hr : i64R r) (hk : i64R k) : ∀ m, m ≤ sc.length → (∀ j, j < m → ¬ isAt sc r k j) → Maps.has (mapD sc m) (plK r k) = false ∧ ∀ z, (mapD sc m).atKey (plK r k) z = z
  | 0, _, _ => ⟨rfl, fun _ => rfl⟩
  | m + 1, hm, h => by
    have hw := sA_wf hwf (show m < sc.length by omega)
    have hne : plK r k ≠ plK (sA sc m).r (sA sc m).k := plK_ne hw.r hw.k hr hk (fun e => h m (by omega) ⟨e.1.symm, e.2.symm⟩)
    obtain ⟨h1, h2⟩ := mapD_miss hr hk m (by omega) fun j hj => h j (by omega)
    exact ⟨by rw [mapD, has_put_other hne, h1], fun z => by rw [mapD, atKey_put_other hne, h2]⟩
theorem mapD_hit {r k : Int} (hr : i64R r) (hk : i64R k) {j : Nat} (hat : isAt sc r k j) : ∀ m, m ≤ sc.length → j < m → (∀ i, j < i → i < m → ¬ isAt sc r k i) → Maps.has (mapD sc m) (plK r k) = true ∧ ∀ z, (mapD sc m).atKey (plK r k) z = .lit (.int .i64 j)
  | m + 1, hm, hj, h => by
    have hw := sA_wf hwf (show m < sc.length by omega)
    by_cases e : j = m
    · subst e
      obtain ⟨e1, e2⟩ := hat
      have hkl := placeLaw.key (plK_of hr hk)
      rw [mapD, e1, e2]
      exact ⟨has_put_same (mapD_isMap sc _) hkl _, fun z => atKey_put_same (mapD_isMap sc _) hkl _ z⟩
    · have hne : plK r k ≠ plK (sA sc m).r (sA sc m).k := plK_ne hw.r hw.k hr hk (fun e' => h m (by omega) (by omega) ⟨e'.1.symm, e'.2.symm⟩)
      obtain ⟨h1, h2⟩ := mapD_hit hr hk hat m (by omega) (by omega) fun i h3 h4 => h i h3 (by omega)
      exact ⟨by rw [mapD, has_put_other hne, h1], fun z => by rw [mapD, atKey_put_other hne, h2]⟩
end
/-- Block b is the map of all scopes. -/
def MapS (W : World) (b : Nat) (s : Sh) : Prop := ∃ n, W.ownsMap Tryz.prog 55 (plainElem Tryz.prog 3) b n (mapD s.sc s.sc.length)
theorem MapS.of_block {W W' : World} {b : Nat} {s : Sh} (h : MapS W b s) (hb : W'.heap[b]? = W.heap[b]?) : MapS W' b s := by
  obtain ⟨n, es, clock, h1, h2⟩ := h
  exact ⟨n, es, clock, hb.trans h1, h2⟩
theorem MapS.next {W W' : World} {b : Nat} {s : Sh} (h : MapS W b s) (hb : Below W.heap.size W W') : MapS W' b s := by
  obtain ⟨n, h1⟩ := id h
  exact h.of_block (hb.block b h1.lt)
theorem lit_inj {a b : Int} (h : (DataW.lit (.int .i64 a) : DataW Unit) = .lit (.int .i64 b)) : a = b := by
  injection h with h
  injection h
/-- What is found there. -/
theorem MapS.look {W : World} {b : Nat} {s : Sh} (h : MapS W b s) (ht : toldTo s s.sc.length) (hwf : ∀ x ∈ s.sc, ScWf x) {r k : Int} (hr : i64R r) (hk : i64R k) :
    (Instr.lookup 51 (.map (some b)) (.agg #[.int .i64 r, .int .i64 k]) false).run Tryz.prog W = .ok (.int .i64 (((fnd s.sc r k).getD 0 : Nat) : Int)) W ∧
    (Instr.lookup 51 (.map (some b)) (.agg #[.int .i64 r, .int .i64 k]) true).run Tryz.prog W = .ok (.tuple #[.int .i64 (((fnd s.sc r k).getD 0 : Nat) : Int), .bool (fnd s.sc r k).isSome]) W := by
  obtain ⟨n, h1⟩ := h
  obtain ⟨c, hc, hat, -⟩ := h1.lookup_int placeLaw Tryz.underlying51 Tryz.underlying3 (zeroInt W) (plK_of hr hk)
  obtain ⟨v, ps, hv, hR⟩ := h1.look_ok placeLaw Tryz.underlying51 (zeroInt W) (plainElem_int (a := 0) Tryz.underlying3 (by decide)) (plK_of hr hk)
  obtain ⟨c', rfl, hc', -⟩ := plainElem_int_inv Tryz.underlying3 hR
  simp only [Prod.mk.injEq] at hc'
  have hc2 := hc'.1
  unfold plV at hc hv
  cases hf : fnd s.sc r k with
  | none =>
    obtain ⟨m1, m2⟩ := mapD_miss hwf hr hk s.sc.length (Nat.le_refl _) (fnd_none.1 hf)
    rw [m2] at hat hc2
    have hat := lit_inj hat
    have hc2 := lit_inj hc2
    rw [m1] at hv
    subst hat
    subst hc2
    exact ⟨hc, hv⟩
  | some j =>
    obtain ⟨g1, g2, -⟩ := fnd_some hf
    obtain ⟨m1, m2⟩ := mapD_hit hwf hr hk g2 s.sc.length (Nat.le_refl _) g1 (fun i h3 h4 h5 => by have := ht.uniq g1 h4 g2 h5; omega)
    rw [m2] at hat hc2
    have hat := lit_inj hat
    have hc2 := lit_inj hc2
    rw [m1] at hv
    subst hat
    subst hc2
    exact ⟨hc, hv⟩
end P20
end Go.Proofs.YtajbchecjbddgaaGreatDoor
