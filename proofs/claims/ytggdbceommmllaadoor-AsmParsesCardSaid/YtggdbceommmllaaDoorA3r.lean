/- Asm: the parser's methods last and head. -/
import Derived.Test.YtggdbceommmllaaDoorA3o
import Derived.Test.YtggdbceommmllaaDoorA3q
namespace Go.Proofs.YtggdbceommmllaaDoor
open Go.RowKit
namespace P3
open P2 PC NumL CutL

theorem lastN_le {p : List Fn} (h : Pf p) : lastN p ≤ 128 := by
  rcases List.eq_nil_or_concat p with rfl | ⟨r, f, rfl⟩
  · decide
  · rw [List.concat_eq_append, lastN_snoc]
    exact (h.head f (by simp)).2.2.1
theorem FnsD.slice {w : World} {B : Nat} {v : Value} {p : List Fn} {cv : List Value} (h : FnsD w B v p cv) : ∃ A c, v = .slice A p.length c := by
  obtain ⟨A, n, c, rfl, _, hn, _⟩ := Sl.own h.row
  rw [flat_length fnC 2 fnC_length, List.length_zip, h.len, Nat.min_self] at hn
  obtain rfl : n = p.length := by omega
  exact ⟨A, c, rfl⟩
set_option maxHeartbeats 2000000 in
theorem last_any {w : World} {B pb : Nat} {v : Value} {p : List Fn} {cv : List Value} (hb : w.heap[pb]? = some (.cells #[v] 48 (0, 0))) (h : FnsD w B v p cv) (hP : Pf p) :
    Calls Tryd.prog 23 #[.pointer (some ⟨pb, 0, none⟩)] w fun e w' => e = .returned (.int .i64 (lastN p)) ∧ ∃ q, w' = w.drewN q := by
  have hc : w.cell? ⟨pb, 0, none⟩ = some v := by rw [cell_of_row _ _ _ _ _ _ hb]; rfl
  have hlen := hP.len
  have hL := lastN_le hP
  rcases List.eq_nil_or_concat p with rfl | ⟨r, f, rfl⟩
  · obtain ⟨A, c, rfl⟩ := h.slice
    rw [List.length_nil] at hc
    clear h hb hlen hL
    go_enter Tryd.func23, Tryd.ntmps23
    go_wp2_with fail
    go_ret
    exact ⟨rfl, 0, rfl⟩
  · rw [List.concat_eq_append] at h hlen hL ⊢
    obtain ⟨cr, c, g, cap, rfl, hcr, rfl, hBg, hgl, hcap, hc0, hc1, hfz, hown⟩ := h.last
    obtain ⟨A, n, c', rfl, _, hn, _⟩ := Sl.own hown
    rw [codeC_length] at hn
    obtain rfl : n = f.2.length := by omega
    rw [lastN_snoc] at hL ⊢
    obtain ⟨m, hm⟩ := name_of r.length
    obtain ⟨N, hN⟩ := name_of (r.length + 1)
    rw [hN] at hc hcap
    rw [List.length_append, List.length_singleton, hN] at hlen
    rw [hm] at hc1
    have hNm : N = m + 1 := by omega
    have z0 : ((N : Int) == 0) = false := by rw [beq_eq_false_iff_ne]; omega
    have hw : IntKind.i64.wrap ((N : Int) - 1) = (m : Int) := (IntWalk.i64_in _ (by omega)).trans (by omega)
    obtain ⟨L, hLL⟩ := name_of f.2.length
    rw [hLL] at hc1 hL ⊢
    have hmN : m < N := by omega
    clear hNm hN hm hc0 hfz hown h hb hcr hLL
    go_enter Tryd.func23, Tryd.ntmps23
    go_wp2_with fail
    go_quiet (fail)
    go_wp2_with fail
    go_ret
    exact ⟨rfl, _, rfl⟩

/-- What a line leaves: an error, or a program that grew. -/
def LinePost (B pb : Nat) (r : Int ⊕ List Fn) (w : World) (e : Ending) (w' : World) : Prop := (match r with
  | .inl c => e = .returned (.int .i64 c)
  | .inr q => e = .returned (.int .i64 0) ∧ ∃ v cv, w'.heap[pb]? = some (.cells #[v] 48 (0, 0)) ∧ FnsD w' B v q cv) ∧ Below B w w'
theorem lp_inl {B pb : Nat} {r : Int ⊕ List Fn} {c : Int} {w w' : World} {e : Ending} (h : r = .inl c) (he : e = .returned (.int .i64 c)) (hb : Below B w w') : LinePost B pb r w e w' := by
  unfold LinePost; rw [h]; exact ⟨he, hb⟩
theorem lp_inr {B pb : Nat} {r : Int ⊕ List Fn} {q : List Fn} {v : Value} {cv : List Value} {w w' : World} {e : Ending} (h : r = .inr q) (he : e = .returned (.int .i64 0)) (h1 : w'.heap[pb]? = some (.cells #[v] 48 (0, 0))) (h2 : FnsD w' B v q cv) (hb : Below B w w') : LinePost B pb r w e w' := by
  unfold LinePost; rw [h]; exact ⟨⟨he, v, cv, h1, h2⟩, hb⟩
/-- What a head line leaves of a program. -/
def headR (ws : List (List UInt8)) (p : List Fn) : Int ⊕ List Fn := match headT ws p with
  | .inl e => .inl e
  | .inr m => .inr (p ++ [(m, [])])
theorem headR_len {ws : List (List UInt8)} {p : List Fn} (h : ws.length ≠ 4) : headR ws p = .inl 11 := by unfold headR headT; rw [if_pos (.inl h)]
theorem headR_four {a b c d : List UInt8} {p : List Fn} : headR [a, b, c, d] p = if c ≠ needsL then .inl 11 else match numA b, numA d with
    | some k, some m => if 32 ≤ p.length ∨ (0 < p.length ∧ lastN p = 0) then .inl 12 else if k ≠ p.length ∨ 255 < m then .inl 10 else .inr (p ++ [(m, [])])
    | _, _ => .inl 11 := by
  unfold headR headT
  simp only [List.length_cons, List.length_nil, List.getD_cons_succ, List.getD_cons_zero]
  by_cases hc : c = needsL
  · rw [if_neg (by simp [hc]), if_neg (by simp [hc])]
    cases numA b with
    | none => rfl
    | some k =>
      cases numA d with
      | none => rfl
      | some m =>
        simp only
        by_cases h1 : 32 ≤ p.length ∨ (0 < p.length ∧ lastN p = 0)
        · rw [if_pos h1, if_pos h1]
        · rw [if_neg h1, if_neg h1]
          by_cases h2 : k ≠ p.length ∨ 255 < m
          · rw [if_pos h2, if_pos h2]
          · rw [if_neg h2, if_neg h2]
  · rw [if_pos (.inr hc), if_pos hc]
theorem parser_ne : (46 : Nat) ≠ 48 ∧ (33 : Nat) ≠ 48 := by decide
end P3
end Go.Proofs.YtggdbceommmllaaDoor
