/- Programs in memory, and the bytes of programs: plain functions, and how a program lies. -/
import Derived.Test.YtggdbceommmllaaDoorN
import Derived.Test.YtggdbceommmllaaDoorG3
namespace Go.Proofs.YtggdbceommmllaaDoor
open Go.RowKit
namespace P2

abbrev Fn := Int × List Ins
def firstBad : List Ins → Int
  | [] => 0
  | i :: r => if chk i = 0 then firstBad r else chk i
def packE (f : Fn) : Int := if f.1 < 0 ∨ 255 < f.1 then 10 else if f.2.length < 1 ∨ 128 < f.2.length then 12 else firstBad f.2
def packB (f : Fn) : List Int := f.1 :: (f.2.length : Int) :: f.2.flatMap encB
def firstE : List Fn → Int
  | [] => 0
  | f :: r => if packE f = 0 then firstE r else packE f
def progE (p : List Fn) : Int := if p.length < 1 ∨ 32 < p.length then 12 else firstE p
def progB (p : List Fn) : List Int := (p.length : Int) :: p.flatMap packB

theorem firstBad_ok : ∀ {l : List Ins}, (∀ i ∈ l, chk i = 0) → firstBad l = 0
  | [], _ => rfl
  | i :: r, h => by rw [firstBad, if_pos (h i (by simp))]; exact firstBad_ok fun j hj => h j (by simp [hj])
theorem firstBad_take : ∀ (l : List Ins) (k : Nat) (hk : k < l.length), (∀ i ∈ l.take k, chk i = 0) → chk l[k] ≠ 0 → firstBad l = chk l[k]
  | i :: r, 0, _, _, h => by
    have h' : chk i ≠ 0 := h
    rw [firstBad, if_neg h']; rfl
  | i :: r, k + 1, hk, h, hb => by
    rw [firstBad, if_pos (h i (by simp))]
    exact firstBad_take r k (by simpa using hk) (fun j hj => h j (by simp [hj])) hb
theorem firstE_ok : ∀ {l : List Fn}, (∀ f ∈ l, packE f = 0) → firstE l = 0
  | [], _ => rfl
  | i :: r, h => by rw [firstE, if_pos (h i (by simp))]; exact firstE_ok fun j hj => h j (by simp [hj])
theorem firstE_take : ∀ (l : List Fn) (k : Nat) (hk : k < l.length), (∀ i ∈ l.take k, packE i = 0) → packE l[k] ≠ 0 → firstE l = packE l[k]
  | i :: r, 0, _, _, h => by
    have h' : packE i ≠ 0 := h
    rw [firstE, if_neg h']; rfl
  | i :: r, k + 1, hk, h, hb => by
    rw [firstE, if_pos (h i (by simp))]
    exact firstE_take r k (by simpa using hk) (fun j hj => h j (by simp [hj])) hb
theorem all_take_succ {α : Type} {p : α → Prop} {l : List α} {k : Nat} (hk : k < l.length) (h : ∀ i ∈ l.take k, p i) (hp : p l[k]) : ∀ i ∈ l.take (k + 1), p i := by
  rw [List.take_succ_eq_append_getElem hk]
  intro i hi
  rcases List.mem_append.1 hi with hi | hi
  · exact h i hi
  · have : i = l[k] := by simpa using hi
    subst this; exact hp
theorem flatMap_take_succ {α β : Type} (g : α → List β) {l : List α} {k : Nat} (hk : k < l.length) : (l.take (k + 1)).flatMap g = (l.take k).flatMap g ++ g l[k] := by
  rw [List.take_succ_eq_append_getElem hk, List.flatMap_append]
  simp
theorem encB_length (i : Ins) : (encB i).length = 8 := rfl
theorem encs_length (l : List Ins) : (l.flatMap encB).length = l.length * 8 := flat_length encB 8 encB_length l
theorem bv_append (l m : List Int) : bv (l ++ m) = bv l ++ bv m := by simp [bv]
theorem bv_one (l : List Int) : ∀ u ∈ bv l, u.oneCell' = true := by
  intro u hu
  obtain ⟨x, _, rfl⟩ := List.mem_map.1 hu
  rfl

/-! ### How they lie in memory -/
def insC (i : Ins) : List Value := [.int .i64 i.1, .int .i64 i.2.1, .int .i64 i.2.2.1, .int .i64 i.2.2.2.1, .int .i64 i.2.2.2.2]
def codeC (l : List Ins) : List Value := l.flatMap insC
theorem insC_length (i : Ins) : (insC i).length = 5 := rfl
theorem codeC_length (l : List Ins) : (codeC l).length = l.length * 5 := flat_length insC 5 insC_length l
/-- Functions' cells: Needs, and the slice of instructions. -/
def fnC (x : Fn × Value) : List Value := [.int .i64 x.1.1, x.2]
theorem fnC_length (x : Fn × Value) : (fnC x).length = 2 := rfl

/-- The slice value v reads as these functions, all below block B. -/
def Fns (w : World) (B : Nat) (v : Value) (p : List Fn) : Prop :=
  ∃ cv : List Value, cv.length = p.length ∧ Sl w B 2 v ((p.zip cv).flatMap fnC) ∧ ∀ (k : Nat) (hk : k < p.length) (c : Value), cv[k]? = some c → Sl w B 5 c (codeC p[k].2)

section
variable {w w' : World} {B B' : Nat} {v : Value} {p : List Fn}
theorem Fns.below (h : Fns w B v p) (hb : Below B w w') : Fns w' B v p := by
  obtain ⟨cv, h1, h2, h3⟩ := h
  exact ⟨cv, h1, h2.below hb, fun k hk c hc => (h3 k hk c hc).below hb⟩
theorem Fns.more (h : Fns w B v p) (hB : B ≤ B') : Fns w B' v p := by
  obtain ⟨cv, h1, h2, h3⟩ := h
  exact ⟨cv, h1, h2.more hB, fun k hk c hc => (h3 k hk c hc).more hB⟩
theorem Fns.next (h : Fns w w.heap.size v p) (hb : Below w.heap.size w w') : Fns w' w'.heap.size v p := (h.below hb).more hb.size
/-- The slice's make, and each function's two cells and instructions. -/
theorem Fns.open_ (h : Fns w B v p) : ∃ A c, v = .slice A p.length c ∧ p.length ≤ c ∧ ∀ (k : Nat) (hk : k < p.length), ∃ b off cv, A = some ⟨b, off, none⟩ ∧ b < B ∧
    w.cell? ⟨b, off + k * 2, none⟩ = some (.int .i64 p[k].1) ∧ w.cell? ⟨b, off + k * 2 + 1, none⟩ = some cv ∧ Sl w B 5 cv (codeC p[k].2) := by
  obtain ⟨cv, h1, ⟨A, n, c, rfl, hnc, hn, hA⟩, h3⟩ := h
  have hl : ((p.zip cv).flatMap fnC).length = p.length * 2 := by rw [flat_length fnC 2 fnC_length, List.length_zip, h1, Nat.min_self]
  have hnp : n = p.length := by omega
  subst hnp
  refine ⟨A, c, rfl, hnc, fun k hk => ?_⟩
  obtain ⟨b, off, rfl, hb, hr⟩ := hA (by omega)
  have hz : (p.zip cv)[k]? = some (p[k], cv[k]'(by omega)) := by
    rw [List.getElem?_eq_getElem (by rw [List.length_zip]; omega), List.getElem_zip]
  refine ⟨b, off, cv[k]'(by omega), rfl, hb, ?_, ?_, h3 k hk _ (List.getElem?_eq_getElem _)⟩
  · have := hr (k * 2 + 0) (.int .i64 p[k].1) (by rw [flat_get fnC 2 fnC_length _ k 0 (by omega), hz]; rfl)
    simpa using this
  · have := hr (k * 2 + 1) (cv[k]'(by omega)) (by rw [flat_get fnC 2 fnC_length _ k 1 (by omega), hz]; rfl)
    simpa [Nat.add_assoc] using this
/-- A row of instructions: each one's five cells. -/
theorem code_open {l : List Ins} (h : Sl w B 5 v (codeC l)) : ∃ A c, v = .slice A l.length c ∧ l.length ≤ c ∧ ∀ (k : Nat) (hk : k < l.length), ∃ b off, A = some ⟨b, off, none⟩ ∧ b < B ∧
    w.cell? ⟨b, off + k * 5, none⟩ = some (.int .i64 l[k].1) ∧ w.cell? ⟨b, off + k * 5 + 1, none⟩ = some (.int .i64 l[k].2.1) ∧ w.cell? ⟨b, off + k * 5 + 2, none⟩ = some (.int .i64 l[k].2.2.1) ∧
    w.cell? ⟨b, off + k * 5 + 3, none⟩ = some (.int .i64 l[k].2.2.2.1) ∧ w.cell? ⟨b, off + k * 5 + 4, none⟩ = some (.int .i64 l[k].2.2.2.2) := by
  obtain ⟨A, n, c, rfl, hnc, hn, hA⟩ := h
  rw [codeC_length] at hn
  have hnl : n = l.length := by omega
  subst hnl
  refine ⟨A, c, rfl, hnc, fun k hk => ?_⟩
  obtain ⟨b, off, rfl, hb, hr⟩ := hA (by omega)
  have hg : ∀ j, j < 5 → (codeC l)[k * 5 + j]? = (insC l[k])[j]? := fun j hj => by
    rw [codeC, flat_get insC 5 insC_length l k j hj, List.getElem?_eq_getElem hk]; rfl
  refine ⟨b, off, rfl, hb, ?_, ?_, ?_, ?_, ?_⟩
  · have := hr (k * 5 + 0) _ (hg 0 (by omega)); simpa using this
  · have := hr (k * 5 + 1) _ (hg 1 (by omega)); simpa [Nat.add_assoc] using this
  · have := hr (k * 5 + 2) _ (hg 2 (by omega)); simpa [Nat.add_assoc] using this
  · have := hr (k * 5 + 3) _ (hg 3 (by omega)); simpa [Nat.add_assoc] using this
  · have := hr (k * 5 + 4) _ (hg 4 (by omega)); simpa [Nat.add_assoc] using this
end
end P2
end Go.Proofs.YtggdbceommmllaaDoor
