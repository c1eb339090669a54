/- Merged: Us Uv. -/
import Derived.Test.YtajbchecjbddgaaGreatDoorH3
import Derived.Test.YtajbchecjbddgaaGreatDoorH4
import Derived.Test.YtajbchecjbddgaaGreatDoorUf
import Derived.Test.YtajbchecjbddgaaGreatDoorSrt
import Derived.Test.YtajbchecjbddgaaGreatDoorH1
import Derived.Sort.OwnSortedInts
/- Audit: the map of what the scopes were; whether one was shut. -/
namespace Go.Proofs.YtajbchecjbddgaaGreatDoor
open Go.RowKit
namespace P20
open P7 Go.Maps

/-- How a scope in that map reads. -/
def scDat (x : Sc) : DataW Unit := .agg [.lit (.int .i64 x.r), .lit (.int .i64 x.k), .lit (.int .i64 x.n), .lit (.bool x.a), .lit (.bool x.c), .lit (.int .i64 x.v)]
open Classical in
noncomputable def scR (v : Value) : Option (DataW Unit × List MemPlace) := if h : ∃ x, v = scV x then some (scDat h.choose, []) else none
theorem scV_inj {x y : Sc} (h : scV x = scV y) : x = y := by
  obtain ⟨a, b, c, d, e, f⟩ := x
  obtain ⟨a', b', c', d', e', f'⟩ := y
  unfold scV at h
  simp at h
  simp [h]
theorem scDat_inj {x y : Sc} (h : scDat x = scDat y) : x = y := by
  obtain ⟨a, b, c, d, e, f⟩ := x
  obtain ⟨a', b', c', d', e', f'⟩ := y
  unfold scDat at h
  simp at h
  simp [h]
theorem scR_mk (x : Sc) : scR (scV x) = some (scDat x, []) := by
  unfold scR
  have h : ∃ y, scV x = scV y := ⟨x, rfl⟩
  rw [dif_pos h, scV_inj h.choose_spec.symm]
theorem scR_inv {v : Value} {x : Sc} {ps : List MemPlace} (h : scR v = some (scDat x, ps)) : v = scV x := by
  unfold scR at h
  split at h
  · rename_i he
    simp only [Option.some.injEq, Prod.mk.injEq] at h
    rw [← scDat_inj h.1]
    exact he.choose_spec
  · cases h
theorem intLaw : Keyed Tryz.prog 3 := int_keyed Tryz.underlying3
theorem zeroScope (w : World) : (zeroValue 49).run Tryz.prog w = .ok (scV scD) w := by kernel_rfl
/-- The map behind the first so many scopes. -/
def oldD (a b : Sh) : Nat → DataW Unit
  | 0 => .map []
  | m + 1 => (oldD a b m).put (.int .i64 (((ltN a b m).getD 0 : Nat) : Int)) (scDat (sA a.sc m))
theorem oldD_isMap (a b : Sh) : ∀ m, IsMap (oldD a b m)
  | 0 => isMap_empty
  | m + 1 => (oldD_isMap a b m).put _ _
def oldX (a b : Sh) (m k : Nat) : Sc := match oldN a b m k with
  | none => scD
  | some i => sA a.sc i
theorem key_nat {k : Nat} (h : k ≤ 1000) : keyOf Tryz.prog 3 (.int .i64 (k : Int)) = some (.int .i64 (k : Int)) := keyOf_int_mk Tryz.underlying3 (wf_i64 ⟨by omega, by omega⟩)
theorem oldD_look {a b : Sh} {k : Nat} (hk : k ≤ 1000) : ∀ m, (∀ i, i < m → ltN a b i ≠ none) → Maps.has (oldD a b m) (.int .i64 (k : Int)) = (oldN a b m k).isSome ∧ (oldD a b m).atKey (.int .i64 (k : Int)) (scDat scD) = scDat (oldX a b m k)
  | 0, _ => ⟨rfl, rfl⟩
  | m + 1, h => by
    obtain ⟨h1, h2⟩ := oldD_look hk m fun i hi => h i (by omega)
    cases hl : ltN a b m with
    | none => exact absurd hl (h m (by omega))
    | some j =>
      unfold oldX
      rw [oldD, oldN, hl]
      by_cases e : j = k
      · subst e
        have hkl := intLaw.key (key_nat hk)
        rw [if_pos rfl]
        exact ⟨has_put_same (oldD_isMap a b m) hkl _, atKey_put_same (oldD_isMap a b m) hkl _ _⟩
      · have hne : (Lit.int .i64 (k : Int)) ≠ .int .i64 ((((some j).getD 0 : Nat)) : Int) := fun e' => by
          injection e' with _ e'
          have : (k : Int) = (j : Int) := e'
          omega
        rw [if_neg (fun e' => e (Option.some.inj e'))]
        exact ⟨(has_put_other hne _).trans h1, (atKey_put_other hne _ _).trans h2⟩
/-- Block bo is that map. -/
def MapO (W : World) (bo : Nat) (a b : Sh) (m : Nat) : Prop := W.ownsMap Tryz.prog 3 scR bo m (oldD a b m)
theorem MapO.next {W W' : World} {bo : Nat} {a b : Sh} {m : Nat} (h : MapO W bo a b m) (hb : Below W.heap.size W W') : MapO W' bo a b m := by
  have hl := World.ownsMap.lt h
  obtain ⟨es, clock, h1, h2⟩ := h
  exact ⟨es, clock, (hb.block bo hl).trans h1, h2⟩
theorem MapO.look {W : World} {bo : Nat} {a b : Sh} {m : Nat} (h : MapO W bo a b m) (hs : ∀ i, i < m → ltN a b i ≠ none) {k : Nat} (hk : k ≤ 1000) :
    (Instr.lookup 47 (.map (some bo)) (.int .i64 (k : Int)) false).run Tryz.prog W = .ok (scV (oldX a b m k)) W ∧
    (Instr.lookup 47 (.map (some bo)) (.int .i64 (k : Int)) true).run Tryz.prog W = .ok (.tuple #[scV (oldX a b m k), .bool (oldN a b m k).isSome]) W := by
  obtain ⟨h1, h2⟩ := oldD_look hk m hs
  obtain ⟨v, ps, hv, hR⟩ := World.ownsMap.lookup h intLaw Tryz.underlying47 (zeroScope W) (scR_mk scD) (key_nat hk)
  obtain ⟨v', ps', hv', hR'⟩ := World.ownsMap.look_ok h intLaw Tryz.underlying47 (zeroScope W) (scR_mk scD) (key_nat hk)
  rw [h2] at hR hR'
  rw [h1] at hv'
  rw [scR_inv hR] at hv
  rw [scR_inv hR'] at hv'
  exact ⟨hv, hv'⟩
theorem shutN_X (a b : Sh) (k : Nat) : shutN a b k = (oldX a b a.sc.length k).c := by
  unfold shutN oldX oldS
  split <;> rename_i h <;> rw [h]
  rfl
set_option maxRecDepth 100000 in
set_option maxHeartbeats 4000000 in
theorem was_any {w : World} {bx bo : Nat} {a b : Sh} (hM : MapO w bo a b a.sc.length) (hs : ∀ i, i < a.sc.length → ltN a b i ≠ none) (hx : Boxed w bx 47 (.map (some bo))) (i : Nat) (hi : i ≤ 1000) :
    Calls Tryz.prog 16 #[.int .i64 i, .pointer (some ⟨bx, 0, none⟩)] w fun e w' => e = .returned (.bool (shutN a b i)) ∧ Below w.heap.size w w' := by
  have hL := (hM.look hs hi).1
  rw [shutN_X]
  have cx := hx.cell
  obtain ⟨⟨xr, xk, xn, xa, xc, xv⟩, hx⟩ := name_of (oldX a b a.sc.length i)
  rw [hx] at hL ⊢
  unfold scV at hL
  dsimp only at hL ⊢
  have hfd : ∀ W, (Instr.field 49 (.agg #[.int .i64 xr, .int .i64 xk, .int .i64 xn, .bool xa, .bool xc, .int .i64 xv]) 4).run Tryz.prog W = .ok (.bool xc) W := fun W => by kernel_rfl
  clear hM hs hx hi
  go_enter Tryz.func16, Tryz.ntmps16
  go_wp2_with fail
  go_ret
  exact ⟨rfl, Below.refl _ _⟩
theorem enters_was (args : Array Value) (w : World) : (callFunc 16 args).run Tryz.prog w = .ok (.enter 16 args) w :=
  enters_of Tryz.func16 (by kernel_rfl) rfl args w
end P20
end Go.Proofs.YtajbchecjbddgaaGreatDoor

/- Audit: a row of the call's own sorted, and searched. -/
namespace Go.Proofs.YtajbchecjbddgaaGreatDoor
open Go.RowKit
namespace P20

def sortL (zs : List Int) : List Int := zs.mergeSort fun x y => decide (x ≤ y)
theorem sortL_length (zs : List Int) : (sortL zs).length = zs.length := by simp [sortL]
theorem sortL_mem (zs : List Int) (x : Int) : x ∈ sortL zs ↔ x ∈ zs := (List.mergeSort_perm zs _).mem_iff
theorem sortL_sorted (zs : List Int) : (sortL zs).Pairwise (· ≤ ·) := by
  have h := List.pairwise_mergeSort (le := fun x y : Int => decide (x ≤ y)) (fun a b c h1 h2 => by simp at *; omega) (fun a b => by simp; omega) zs
  exact h.imp fun {a b} hab => by simpa using hab
theorem sortA_any {w : World} {base T n : Nat} {zs : List Int} (hown : w.ownsRow base 3 1 (.slice (some ⟨T, 0, none⟩) n n) n (iv zs)) (hl : zs.length = n) (hn : n ≤ 1000) :
    Calls Tryz.prog 18 #[.slice (some ⟨T, 0, none⟩) n n] w fun e w' => e = .returned (.tuple #[]) ∧ w'.ownsRow base 3 1 (.slice (some ⟨T, 0, none⟩) n n) n (iv (sortL zs)) ∧ w.grownBy w' (some T) := by
  obtain ⟨h1, h2⟩ := hown
  rcases h2 with ⟨h, _⟩ | ⟨g, cap, cur, e, hb, hg, hnc, hc, hs, ht⟩
  · cases h
  injection e with e1 e2 e3
  injection e1 with e1
  injection e1 with e1 _ _
  subst e1 e3
  subst hl
  have hH : Go.Sort.Holds (Value.int .i64) w T 0 zs.toArray := holds_of_blockI hg (by rw [Nat.mul_one] at ht; exact ht)
  refine (Tryz.slices_Sort_int T 0 zs.length zs w hH (lt_of_block hg) (by omega)).mono ?_
  rintro e w' ⟨rfl, m, os, rfl⟩
  exact ⟨rfl, ownsRow_sortedI (sortL_length zs) hb hg (Nat.le_refl _) hc hs, grownBy_sortedI _⟩
theorem searchA_any {w : World} {base T n : Nat} {zs : List Int} (hown : w.ownsRow base 3 1 (.slice (some ⟨T, 0, none⟩) n n) n (iv (sortL zs))) (hl : zs.length = n) (hn : n ≤ 1000) (x : Int) :
    Calls Tryz.prog 19 #[.slice (some ⟨T, 0, none⟩) n n, .int .i64 x] w fun e w' => (∃ k : Int, e = .returned (.tuple #[.int .i64 k, .bool (decide (x ∈ zs))])) ∧ Below w.heap.size w w' := by
  have hln : (sortL zs).length = n := by rw [sortL_length, hl]
  refine (Tryz.slices_BinarySearch_int T 0 n n (sortL zs) x w (by omega) (by omega) (fun j hj => ?_) (by rw [List.take_of_length_le (by omega)]; exact sortL_sorted zs)).mono ?_
  · obtain ⟨g, cap, e, _, _, _, hc, _⟩ := own_open hown (by omega)
    injection e with e1 _ _
    injection e1 with e1
    injection e1 with e1 _ _
    subst e1
    rw [Nat.zero_add]
    refine hc j _ ?_
    simp [iv, List.getD_eq_getElem?_getD, List.getElem?_eq_getElem hj]
  · rintro e w' ⟨rfl, q, rfl⟩
    have hd : (sortL zs).contains x = decide (x ∈ zs) := by
      rw [Bool.eq_iff_iff, List.contains_iff_mem, decide_eq_true_iff, sortL_mem]
    rw [List.take_of_length_le (by omega), hd]
    exact ⟨⟨_, rfl⟩, ⟨rfl, rfl, rfl, Nat.le_refl _, fun _ _ => rfl⟩⟩
end P20
end Go.Proofs.YtajbchecjbddgaaGreatDoor
