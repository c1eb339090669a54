/- Walk: code.Pack. -/
import Derived.Test.YtggdbceommmllaaGreatDoorR3
namespace Go.Proofs.YtggdbceommmllaaGreatDoor
open Go.RowKit
namespace P2

theorem pack_long {w : World} {B : Nat} {pv : Value} {p : List Fn} (hp : Fns w B pv p) (h : p.length < 1 ∨ 32 < p.length) (hmax : p.length ≤ 9223372036854775807) :
    Calls Tryz.prog 11 #[.agg #[pv]] w fun e w' => e = .returned (.tuple #[.slice none 0 0, .int .i64 12]) ∧ Below w.heap.size w w' := by
  obtain ⟨A, c, rfl, hc, -⟩ := hp.open_
  have hmax' : ((p.length : Nat) : Int) ≤ 9223372036854775807 := by omega
  clear hp
  generalize p.length = n at *
  rcases h with h | h
  · go_enter Tryz.func11, Tryz.ntmps11
    go_wp2_with fail
    go_ret2
    exact ⟨rfl, by go_grown⟩
  · go_enter Tryz.func11, Tryz.ntmps11
    go_wp2_with fail
    go_ret2
    exact ⟨rfl, by go_grown⟩

def KR (w : World) (p : List Fn) (n B : Nat) (i : Value) (wr : World) : Prop :=
  ∃ k : Nat, k ≤ n ∧ i = .int .i64 k ∧ (∀ f ∈ p.take k, packE f = 0) ∧ IsB B B (outB p k) wr ∧ Below w.heap.size w wr

set_option maxHeartbeats 4000000 in
theorem packs_any {w : World} {pv : Value} {p : List Fn} (hp : Fns w w.heap.size pv p) (h1 : 1 ≤ p.length) (h2 : p.length ≤ 32) (hmax : ∀ f ∈ p, f.2.length ≤ 9223372036854775807) :
    Calls Tryz.prog 11 #[.agg #[pv]] w (RefPost p w) := by
  obtain ⟨A, c, rfl, hc, hf⟩ := hp.open_
  have hF := Lib.hid hf
  have HMAX := Lib.hid hmax
  clear hf hp hmax
  obtain ⟨n, hn⟩ : ∃ n, p.length = n := ⟨_, rfl⟩
  rw [hn] at h1 h2 hc ⊢
  have HN := Lib.hid hn
  clear hn
  go_enter Tryz.func11, Tryz.ntmps11
  go_wp2_with fail
  have hI0 := Lib.fresh_isBuffer 74 5 (w.alloc (.cells #[.slice A n c] 24))
  have hsz : (w.alloc (.cells #[.slice A n c] 24)).heap.size = w.heap.size + 1 := by simp
  rw [hsz] at hI0
  refine (Tryz.Buffer_WriteByte_k (w.heap.size + 1) (w.heap.size + 1) [] n _ hI0 (by simp) (by simp) (by simp)).mono ?_
  rintro e w1 ⟨rfl, hI1, hb1, hk1⟩
  have hB1 : Below w.heap.size w w1 := (by go_grown : Below w.heap.size w _).trans (hb1.mono (by omega))
  have hbox := hk1 w.heap.size _ (heap_alloc2_old w _ _) (by simp) (by intro c fz h; injection h with _ h2; exact absurd h2 (by decide))
  have hpc : w1.cell? ⟨w.heap.size, 0, none⟩ = some (.slice A n c) := by rw [cell_of_row _ _ _ _ _ _ hbox]; rfl
  clear hb1 hk1 hbox hI0 hsz
  have hI1' : IsB (w.heap.size + 1) (w.heap.size + 1) (outB p 0) w1 := by
    have e1 : outB p 0 = [(n : Int)] := by simp [outB, HN.out]
    rw [e1]
    exact hI1
  clear hI1
  go_wp2_with fail
  go_loopw [26] (fun i wr => KR w p n (w.heap.size + 1) i wr) (fun i _ => n - (intOf i).toNat)
  case atStart => exact ⟨0, Nat.zero_le _, rfl, by simp, hI1', hB1⟩
  case round =>
    obtain ⟨k, hk, rfl, hok, hI, hB⟩ := hrel
    clear hI1' hB1 hpc
    have HOK := Lib.hid hok
    have hIlt := hI.lt
    clear hok
    have hlen := outB_length HOK.out (by have := HN.out; omega)
    by_cases hlt : k < n
    · have hkp : k < p.length := by have := HN.out; omega
      obtain ⟨b, off, cv, rfl, hb, hc0, hc1, hcode⟩ := hF.out k hkp
      have hmx := HMAX.out p[k] (List.getElem_mem hkp)
      obtain ⟨f, hfk⟩ : ∃ f, p[k] = f := ⟨_, rfl⟩
      rw [hfk] at hc0 hcode hmx
      have HFK := Lib.hid hfk
      clear hfk
      obtain ⟨x, l⟩ := f
      have hcode2 := hcode.below hB
      obtain ⟨A2, m, c2, rfl, -⟩ := hcode
      have hw0 : wr.cell? ⟨b, off + k * 2, none⟩ = some (.int .i64 x) := (hB.cell (p := ⟨b, _, none⟩) hb).trans hc0
      have hw1 : wr.cell? ⟨b, off + k * 2 + 1, none⟩ = some (.slice A2 m c2) := (hB.cell (p := ⟨b, _, none⟩) hb).trans hc1
      clear hc0 hc1
      go_wp2_with fail
      refine (pack_any (f := (x, l)) (hI.alloc _) (by omega) ((hcode2.below ((Below.refl _ _).alloc (by omega) _)).more (by omega)) hmx).mono ?_
      rintro e w3 ⟨rfl, hok3, hb3⟩
      have hB3 : Below w.heap.size w w3 := hB.trans (((Below.refl _ wr).alloc (by omega) _).trans (hb3.mono (by omega)))
      clear hb3 hcode2 hw0 hw1
      have HOK3 := Lib.hid hok3
      clear hok3
      by_cases hk0 : packE (x, l) = 0
      · have hkne : (packE (x, l) != 0) = false := by simpa using hk0
        have HK0 := Lib.hid hk0
        clear hk0
        go_wp2_with fail
        have hI3 := HOK3.out HK0.out
        exact ⟨⟨k + 1, by omega, by go_num, all_take_succ hkp HOK.out (by rw [HFK.out]; exact HK0.out), by
          have e2 : outB p (k + 1) = outB p k ++ packB (x, l) := by simp only [outB, flatMap_take_succ packB hkp, HFK.out, List.cons_append]
          rw [e2]; exact hI3, hB3⟩, by simp [intOf]; omega⟩
      · have hkne : (packE (x, l) != 0) = true := by simpa using hk0
        have HK0 := Lib.hid hk0
        clear hk0
        go_wp2_with fail
        go_ret2
        have hE : firstE p = packE (x, l) := by rw [firstE_take p k hkp HOK.out (by rw [HFK.out]; exact HK0.out), HFK.out]
        exact ⟨⟨_, by rw [hE]; rfl, fun h0 => absurd (hE.symm.trans h0) HK0.out, fun _ => rfl⟩, hB3⟩
    · have hkn : k = n := by omega
      subst hkn
      go_wp2_with fail
      refine (Tryz.Buffer_Bytes (w.heap.size + 1) (w.heap.size + 1) _ _ hI).mono ?_
      rintro e w3 ⟨v, rfl, hown, q, rfl⟩
      go_wp2_with fail
      go_ret2
      have hE : firstE p = 0 := firstE_ok (by have := HOK.out; rwa [List.take_of_length_le (by have := HN.out; omega)] at this)
      refine ⟨⟨_, by rw [hE]; rfl, fun _ => ?_, fun h0 => absurd hE h0⟩, below_drewN hB _⟩
      rw [show outB p k = progB p by rw [← outB_all p, HN.out]] at hown
      exact Sl.own hown

end P2
end Go.Proofs.YtggdbceommmllaaGreatDoor
