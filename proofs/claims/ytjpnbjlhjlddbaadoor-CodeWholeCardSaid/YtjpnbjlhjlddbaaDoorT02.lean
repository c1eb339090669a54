/- Walk: the chapter's examples (awake of the code chapter). -/
import Derived.Test.YtjpnbjlhjlddbaaDoorS02
import Derived.Test.YtjpnbjlhjlddbaaDoorF02
namespace Go.Proofs.YtjpnbjlhjlddbaaDoor
open Go.RowKit
namespace P2

abbrev exI : Ins := (0, 2, 0, 0, -1)
abbrev exP : List Fn := [(0, [(16, 0, 0, 0, 0)])]
theorem exI_ok : chk exI = 0 := by decide
theorem exI_enc : encB exI = [0, 2, 0, 0, 255, 255, 255, 255] := by decide
theorem exP_ok : firstE exP = 0 := by decide
theorem exP_enc : progB exP = [1, 0, 1, 16, 0, 0, 0, 0, 0, 0, 0] := by decide

/-- A program of one function, laid as a literal. -/
theorem fns_lit (W : World) (x : Int) (l : List Ins) (n : Nat) (hn : l.length = n) (ti tf : TypeId) :
    Fns ((W.alloc (.cells (codeC l).toArray ti)).alloc (.cells #[.int .i64 x, .slice (some ⟨W.heap.size, 0, none⟩) n n] tf)) ((W.alloc (.cells (codeC l).toArray ti)).alloc (.cells #[.int .i64 x, .slice (some ⟨W.heap.size, 0, none⟩) n n] tf)).heap.size
      (.slice (some ⟨W.heap.size + 1, 0, none⟩) 1 1) [(x, l)] := by
  subst hn
  refine ⟨[.slice (some ⟨W.heap.size, 0, none⟩) l.length l.length], rfl, Sl.new (W.alloc _) _ _ 1 _ (by simp) rfl rfl, ?_⟩
  intro k hk c hc
  have hk0 : k = 0 := by simpa using hk
  subst hk0
  simp only [List.getElem?_cons_zero, Option.some.injEq] at hc
  subst hc
  have h0 : Sl (W.alloc (.cells (codeC l).toArray ti)) (W.alloc (.cells (codeC l).toArray ti)).heap.size 5 (.slice (some ⟨W.heap.size, 0, none⟩) l.length l.length) (codeC l) :=
    Sl.new W _ _ _ _ rfl (by simp [codeC_length]) rfl
  exact h0.next ((Below.refl _ _).alloc (Nat.le_refl _) _)

set_option maxHeartbeats 1000000 in
theorem awake_any (w : World) : Calls Tryd.prog 13 #[] w fun e w' => e = .returned (.bool true) ∧ Below w.heap.size w w' := by
  go_enter Tryd.func13, Tryd.ntmps13
  go_wp2_with fail
  refine (encode_new exI exI_ok _).mono ?_
  rintro e w1 ⟨g, rfl, hg, hs1, hb1⟩
  rw [exI_enc] at hs1
  go_wp2_with fail
  have hP := fns_lit w1 0 [(16, 0, 0, 0, 0)] 1 rfl 23 52
  have hbl : Below w1.heap.size w1 ((w1.alloc (.cells (codeC [(16, 0, 0, 0, 0)]).toArray 23)).alloc (.cells #[.int .i64 0, .slice (some ⟨w1.heap.size, 0, none⟩) 1 1] 52)) := by go_grown
  refine (packs_any (p := exP) hP (by decide) (by decide) (by intro f hf; simp at hf; subst hf; simp)).mono ?_
  rintro e w2 ⟨⟨v, rfl, hv, -⟩, hb2⟩
  have hs2 := hv exP_ok
  rw [exP_enc] at hs2
  have hb12 : Below w1.heap.size w1 w2 := hbl.next hb2
  have hs1' := hs1.next hb12
  have hB := hb1.next hb12
  rw [exP_ok]
  clear hv hP hbl hb2 hs1 hb12 hb1
  go_wp2_with fail
  refine (bytes_any (la := [0, 2, 0, 0, 255, 255, 255, 255]) (lb := [0, 2, 0, 0, 255, 255, 255, 255]) (hs1'.next ((Below.refl _ _).alloc (Nat.le_refl _) _)) (Sl.new w2 _ _ 8 _ rfl rfl rfl) (by simp)).mono ?_
  rintro e w3 ⟨rfl, q, rfl⟩
  rw [show decide (([0, 2, 0, 0, 255, 255, 255, 255] : List Int) = [0, 2, 0, 0, 255, 255, 255, 255]) = true from by decide]
  go_wp2_with fail
  have hbq : ∀ o o', Below w2.heap.size w2 (((w2.alloc o).drewN q).alloc o') := fun o o' => (below_drewN ((Below.refl _ _).alloc (Nat.le_refl _) o) q).alloc (by simp) o'
  refine (bytes_any (la := [1, 0, 1, 16, 0, 0, 0, 0, 0, 0, 0]) (lb := [1, 0, 1, 16, 0, 0, 0, 0, 0, 0, 0]) (hs2.next (hbq _ _)) (Sl.new ((w2.alloc _).drewN q) _ _ 11 _ (by simp) rfl rfl) (by simp)).mono ?_
  rintro e w4 ⟨rfl, q2, rfl⟩
  rw [show decide (([1, 0, 1, 16, 0, 0, 0, 0, 0, 0, 0] : List Int) = [1, 0, 1, 16, 0, 0, 0, 0, 0, 0, 0]) = true from by decide]
  go_wp2_with fail
  go_ret
  exact ⟨rfl, hB.next (below_drewN (hbq _ _) _)⟩
end P2
end Go.Proofs.YtjpnbjlhjlddbaaDoor
