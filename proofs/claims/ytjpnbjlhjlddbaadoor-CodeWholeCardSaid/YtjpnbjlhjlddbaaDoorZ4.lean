/- Arguments opened that are arrays of numbers. -/
import Derived.Test.YtjpnbjlhjlddbaaDoorZ3
import Derived.Test.YtjpnbjlhjlddbaaDoorCb
namespace Go.Proofs.YtjpnbjlhjlddbaaDoor
open Go.ChangeShapes Go.WideShapes Go.ChangeAt Go.RowKit Go.Deep

section
variable {H : Type} {enc : TypeId × Value → H} {w : World}

/-- The cells of an array of one-cell elements, each told by R. -/
theorem arr_cells {t e : TypeId} {n fuel : Nat} {cs : List Value} {x : DataW H × List MemPlace} (ht : Tryd.prog.underlying t = some (.array n e)) (he : Tryd.prog.cellsOf e = 1) (hc : Tryd.prog.cellsOf t = n) (R : Value → Prop)
    (hel : ∀ m cs' y, DataW.trod enc Tryd.prog w 0 (fun _ => true) true m e cs' = some y → ∃ u, cs' = [u] ∧ R u)
    (h : DataW.trod enc Tryd.prog w 0 (fun _ => true) true fuel t cs = some x) : cs.length = n ∧ ∀ u ∈ cs, R u := by
  obtain ⟨xs, m, rfl, _, hlen, hxn, hat⟩ := DataW.trod_array ht h
  rw [hc] at hlen
  refine ⟨hlen, fun u hu => ?_⟩
  obtain ⟨k, hk, rfl⟩ := List.getElem_of_mem hu
  have h1 := hat k (by omega)
  rw [he] at h1
  rw [List.getElem?_eq_getElem (by omega)] at h1
  obtain ⟨u, hu', hR⟩ := hel _ _ _ h1
  have e : (cs.drop (k * 1)).take 1 = [cs[k]] := by
    rw [Nat.mul_one, List.drop_eq_getElem_cons hk]; rfl
  rw [e] at hu'
  have : cs[k] = u := by simpa using hu'
  rw [this]; exact hR

theorem ok_array {P : Program} {r : Reach} {b0 n : Nat} {t e : TypeId} {v : Value} (ht : P.underlying t = some (.array n e)) (h : Value.okWide P w r b0 t v) : ∃ cs, v = .agg cs ∧ cs.size = P.cellsOf t := by
  simp only [Value.okWide, ht] at h
  obtain ⟨cs, h1, h2, _⟩ := h
  exact ⟨cs, h1, h2⟩

theorem open_arr8 {r : Reach} {b0 : Nat} {v : Value} {d : DataW H} {p : List MemPlace} (hv : Value.okWide Tryd.prog w r b0 43 v) (h : DataW.Trod enc Tryd.prog w 0 (fun _ => true) true 43 v d p) :
    ∃ b0 b1 b2 b3 b4 b5 b6 b7 : Int, v = .agg (P2.u8C b0 b1 b2 b3 b4 b5 b6 b7) ∧ ∀ z ∈ [b0, b1, b2, b3, b4, b5, b6, b7], 0 ≤ z ∧ z ≤ 255 := by
  obtain ⟨cs, rfl, hsz⟩ := ok_array Tryd.underlying43 hv
  obtain ⟨fuel, hf⟩ := h
  obtain ⟨hl, hR⟩ := arr_cells Tryd.underlying43 cells_u8 (by kernel_rfl) (fun u => ∃ z : Int, u = .int .u8 z ∧ (0 ≤ z ∧ z ≤ 255)) (fun m cs' y hy => by
    obtain ⟨z, hz, h2⟩ := u8_cells hy
    exact ⟨_, hz, z, rfl, h2⟩) hf
  obtain ⟨l⟩ := cs
  simp only [Value.cells] at hl hR
  match l, hl with
  | [c0, c1, c2, c3, c4, c5, c6, c7], _ =>
    obtain ⟨z0, rfl, h0⟩ := hR c0 (by simp)
    obtain ⟨z1, rfl, h1⟩ := hR c1 (by simp)
    obtain ⟨z2, rfl, h2⟩ := hR c2 (by simp)
    obtain ⟨z3, rfl, h3⟩ := hR c3 (by simp)
    obtain ⟨z4, rfl, h4⟩ := hR c4 (by simp)
    obtain ⟨z5, rfl, h5⟩ := hR c5 (by simp)
    obtain ⟨z6, rfl, h6⟩ := hR c6 (by simp)
    obtain ⟨z7, rfl, h7⟩ := hR c7 (by simp)
    refine ⟨z0, z1, z2, z3, z4, z5, z6, z7, rfl, ?_⟩
    intro z hz
    simp only [List.mem_cons, List.not_mem_nil, or_false] at hz
    rcases hz with h | h | h | h | h | h | h | h <;> subst h <;> assumption
end
end Go.Proofs.YtjpnbjlhjlddbaaDoor
