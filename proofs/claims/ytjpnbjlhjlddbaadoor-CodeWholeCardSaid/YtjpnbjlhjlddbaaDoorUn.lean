/- Unpacking, plain; the closure take. -/
import Derived.Test.YtjpnbjlhjlddbaaDoorW02
import Derived.Test.YtjpnbjlhjlddbaaDoorQ02
import Derived.OneCell
import Derived.RangeFuncBox
namespace Go.Proofs.YtjpnbjlhjlddbaaDoor
open Go.RowKit
namespace P2

/-! ### What unpacking answers, each loop as it goes -/
def chunk (l : List Int) (a k : Nat) : List Int := (l.drop a).take k
def insGo (l : List Int) : Nat → List Ins → Nat → List Ins × Int × Nat
  | 0, acc, a => (acc, 0, a)
  | m + 1, acc, a => if l.length < a + 8 then (acc, 11, a) else if decE (chunk l a 8) = 0 then insGo l m (acc ++ [decI (chunk l a 8)]) (a + 8) else (acc, decE (chunk l a 8), a + 8)
/-- A function's bytes at a place: the function, the errno, the place behind what was taken. -/
def fnGo (l : List Int) (a : Nat) : Fn × Int × Nat :=
  if l.length < a + 2 then ((0, []), 11, a) else
  if l.getD (a + 1) 0 < 1 ∨ 128 < l.getD (a + 1) 0 then ((0, []), 12, a + 2) else
  ((l.getD a 0, (insGo l (l.getD (a + 1) 0).toNat [] (a + 2)).1), (insGo l (l.getD (a + 1) 0).toNat [] (a + 2)).2.1, (insGo l (l.getD (a + 1) 0).toNat [] (a + 2)).2.2)
def fnPlace (e : Int) (a : Nat) : Nat := if e = 12 then a - 1 else if e = 11 then a else a - 8
def unGo (l : List Int) : Nat → List Fn → Nat → List Fn × Nat × Int
  | 0, acc, a => if a < l.length then ([], a, 11) else (acc, 0, 0)
  | m + 1, acc, a => if (fnGo l a).2.1 = 0 then unGo l m (acc ++ [(fnGo l a).1]) (fnGo l a).2.2 else ([], fnPlace (fnGo l a).2.1 (fnGo l a).2.2, (fnGo l a).2.1)
def un (l : List Int) : List Fn × Nat × Int :=
  if l.length < 1 then ([], 0, 11) else if l.getD 0 0 < 1 ∨ 32 < l.getD 0 0 then ([], 0, 12) else unGo l (l.getD 0 0).toNat [] 1

/-! ### take -/
/-- The boxes of the bytes and of the place, and what the bytes are, below block B. -/
def Taker (w : World) (B ga gb : Nat) (l : List Int) (a : Nat) : Prop :=
  w.heap[ga]? = some (.cells #[.int .i64 a] 3 (0, 0)) ∧ (∃ A n c, w.heap[gb]? = some (.cells #[.slice A n c] 24 (0, 0)) ∧ Sl w B 1 (.slice A n c) (bv l)) ∧ B ≤ ga ∧ B ≤ gb ∧ ga ≠ gb ∧ a ≤ l.length

theorem Taker.grown {w w' : World} {B ga gb : Nat} {l : List Int} {a : Nat} {row : Option Nat} (h : Taker w B ga gb l a) (hg : w.grownBy w' row) (hr : ∀ k, row = some k → B ≤ k ∧ k ≠ ga ∧ k ≠ gb) : Taker w' B ga gb l a := by
  obtain ⟨h1, ⟨A, n, c, h2, h3⟩, h4, h5, h6, h7⟩ := h
  have hlt := lt_of_block h1
  refine ⟨grown_block hg h1 fun e => (hr ga e.symm).2.1 rfl, ⟨A, n, c, grown_block hg h2 fun e => (hr gb e.symm).2.2 rfl, h3.keep fun b o hb => ?_⟩, h4, h5, h6, h7⟩
  exact World.cell?_of_block (a := ⟨b, o, none⟩) (hg.block b (by omega) fun e => by have := (hr b e.symm).1; omega)

def TakePost (w : World) (B ga gb : Nat) (l : List Int) (a k : Nat) (e : Ending) (w' : World) : Prop :=
  if l.length < a + k then e = .returned (.slice none 0 0) ∧ w.grownBy w' none
  else (∃ b off c, e = .returned (.slice (some ⟨b, off, none⟩) k c) ∧ k ≤ c ∧ b < B ∧ w'.rangeAt b off (bv (chunk l a k))) ∧ w.grownBy w' (some ga) ∧ Taker w' B ga gb l (a + k)

theorem take_any {w : World} {B ga gb : Nat} {l : List Int} {a k : Nat} (h : Taker w B ga gb l a) (hk : k ≤ 8) (h0 : 0 < k) (hmax : l.length ≤ 1000000) :
    Calls Tryd.prog 34 #[.int .i64 k, .pointer (some ⟨gb, 0, none⟩), .pointer (some ⟨ga, 0, none⟩)] w (TakePost w B ga gb l a k) := by
  obtain ⟨h1, ⟨A, n, c, h2, h3⟩, h4, h5, h6, h7⟩ := h
  obtain ⟨A', n', c', he, hnc, hn, hA⟩ := h3
  injection he with e1 e2 e3
  subst e1 e2 e3
  simp only [bv_length, Nat.mul_one] at hn
  have c1 := fun j => cell_of_row w ga j _ _ _ h1
  have c2 := fun j => cell_of_row w gb j _ _ _ h2
  have hla := lt_of_block h1
  have hlb := lt_of_block h2
  have f1 := free_of_one h1
  by_cases hs : l.length < a + k
  · have hd : decide ((n : Int) - a < k) = true := by simp; omega
    have HS := Lib.hid hs
    have hnm : n ≤ 1000000 := by omega
    have han : a ≤ n := by omega
    have hw : wrap64 ((n : Int) - a) = (n : Int) - a := by unfold wrap64; omega
    clear hs hn
    go_enter Tryd.func34, Tryd.ntmps34
    go_wp2_with fail
    go_ret
    show TakePost w B ga gb l a k _ _
    rw [TakePost, if_pos HS.out]
    exact ⟨rfl, World.grownBy.refl w _⟩
  · have hd : decide ((n : Int) - a < k) = false := by simp; omega
    obtain ⟨b, off, rfl, hb, hr⟩ := hA (by omega)
    go_enter Tryd.func34, Tryd.ntmps34
    go_wp2_with fail
    go_ret
    show TakePost w B ga gb l a k _ _
    rw [TakePost, if_neg hs]
    have hg := grownBy_setCell' w ga (.int .i64 ((a : Int) + (k : Int)))
    refine ⟨⟨b, off + a, c - a, ?_, by omega, hb, ?_⟩, hg, ?_⟩
    · rw [show a + k - a = k by omega]; rfl
    · intro j u hj
      refine (World.cell?_of_block (a := ⟨b, off + a + j, none⟩) (hg.block b (by omega) fun e => by injection e; omega)).trans ?_
      rw [Nat.add_assoc]
      refine hr (a + j) u ?_
      have hjk : j < (chunk l a k).length := by
        have := (List.getElem?_eq_some_iff.1 hj).1
        simpa using this
      have hjk' : j < k := by simp [chunk] at hjk; omega
      simp only [bv, chunk, List.getElem?_map, List.getElem?_take, List.getElem?_drop, if_pos hjk'] at hj ⊢
      exact hj
    · have h2' := (hg.block gb hlb fun e => by injection e with e; exact h6 e.symm).trans h2
      refine ⟨one_setCell h1, ⟨_, n, c, h2', ?_⟩, h4, h5, h6, by omega⟩
      refine ⟨_, n, c, rfl, hnc, by simp [hn], fun _ => ⟨b, off, rfl, hb, range_keep hr fun o => World.cell?_of_block (a := ⟨b, o, none⟩) (hg.block b (by omega) fun e => by injection e; omega)⟩⟩
end P2
end Go.Proofs.YtjpnbjlhjlddbaaDoor
