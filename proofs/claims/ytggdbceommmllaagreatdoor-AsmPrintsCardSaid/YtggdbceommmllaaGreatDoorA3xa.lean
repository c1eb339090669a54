/- Asm: what is printed, function by function; a Builder's WriteString leaves blocks of other kinds. -/
import Derived.Test.YtggdbceommmllaaGreatDoorA3u
import Derived.Test.YtggdbceommmllaaGreatDoorPb
namespace Go.Proofs.YtggdbceommmllaaGreatDoor
open Go.RowKit
namespace P3
open P2 PC NumL CutL

def outT (p : List Fn) (k : Nat) : List UInt8 := printL 0 (p.take k)
def inT (p : List Fn) (k : Nat) (m : Int) (l : List Ins) (j : Nat) : List UInt8 := outT p k ++ headL k m ++ [10] ++ codeL (l.take j)
theorem outT_zero (p : List Fn) : outT p 0 = [] := by simp [outT, printL]
theorem outT_all (p : List Fn) : outT p p.length = printL 0 p := by simp [outT]
theorem take_snoc {α : Type} {l : List α} {k : Nat} (h : k < l.length) : l.take (k + 1) = l.take k ++ [l[k]] := List.take_succ_eq_append_getElem h
theorem outT_succ {p : List Fn} {k : Nat} (h : k < p.length) : outT p (k + 1) = inT p k p[k].1 p[k].2 p[k].2.length := by
  unfold outT inT
  rw [take_snoc h, printL_snoc, List.length_take, Nat.min_eq_left (Nat.le_of_lt h), Nat.zero_add, fnT, List.take_length]
  simp [outT, List.append_assoc]
theorem inT_zero (p : List Fn) (k : Nat) (m : Int) (l : List Ins) : inT p k m l 0 = outT p k ++ (headL k m ++ [10]) := by simp [inT, codeL]
theorem inT_succ {p : List Fn} {k : Nat} {m : Int} {l : List Ins} {j : Nat} (h : j < l.length) : inT p k m l (j + 1) = inT p k m l j ++ (lineA l[j] ++ [10]) := by
  unfold inT codeL
  rw [take_snoc h, List.flatMap_append]
  simp [List.append_assoc]
theorem outT_len {p : List Fn} {k : Nat} (hp : p.length ≤ 32) (h : ∀ f ∈ p, packE f = 0) : (outT p k).length ≤ 127552 := by
  have h1 := print_short (p.take k) 0 (by rw [List.length_take]; omega) (fun f hf => h f (List.mem_of_mem_take hf))
  have h2 : (p.take k).length ≤ 32 := by rw [List.length_take]; omega
  unfold outT
  omega
theorem inT_len {p : List Fn} {k : Nat} {m : Int} {l : List Ins} {j : Nat} (hp : p.length ≤ 32) (h : ∀ f ∈ p, packE f = 0) (hk : k < 100) (h0 : 0 ≤ m) (h1 : m ≤ 255) (hl : ∀ i ∈ l, chk i = 0) (hj : j ≤ 128) : (inT p k m l j).length ≤ 140000 := by
  have h2 := outT_len (k := k) hp h
  have h3 := head_short hk h0 h1
  have h4 := code_short (l := l.take j) (fun i hi => hl i (List.mem_of_mem_take hi))
  have h5 : (l.take j).length ≤ 128 := by rw [List.length_take]; omega
  unfold inT
  rw [List.length_append, List.length_append, List.length_append, List.length_singleton]
  omega

/-- Blocks that are neither a Builder's nor a row of bytes are left as they are. -/
def KeepB (w w' : World) : Prop := ∀ (k : Nat) (cs : Array Value) (t : TypeId), w.heap[k]? = some (.cells cs t (0, 0)) → t ≠ 45 → t ≠ 5 → w'.heap[k]? = some (.cells cs t (0, 0))
theorem copyCheck_keep (B b : Nat) (bs : List Value) (w : World) (h : Lib.IsBuilder 45 5 B b bs w) :
    Calls Tryz.prog 30 #[.pointer (some ⟨b, 0, none⟩)] w fun e w' => e = .returned (.tuple #[]) ∧ Lib.BuilderAt 45 5 B b (.pointer (some ⟨b, 0, none⟩)) bs w' ∧ Below B w w' ∧ KeepB w w' := by
  rcases h with h | h
  · refine (copyCheck_fresh b w h.cell0 h.shape h.frozen0).mono ?_
    rintro e w' ⟨rfl, rfl⟩
    refine ⟨rfl, h.used _, (Below.refl B w).setCell (p := ⟨b, 0, none⟩) h.1 _, fun k cs t hk h1 _ => ?_⟩
    refine blk_set_other hk (fun e => ?_) _
    obtain ⟨_, v, hb, _⟩ := h
    rw [e, hb] at hk
    injection hk with hk
    injection hk with _ hk
    exact h1 hk.symm
  · refine (copyCheck_used b w h.cell0).mono ?_
    rintro e w' ⟨rfl, rfl⟩
    exact ⟨rfl, h, Below.refl B _, fun k cs t hk _ _ => hk⟩
set_option maxRecDepth 100000 in
set_option maxHeartbeats 2000000 in
theorem writeString_keep (B b : Nat) (bs : List Value) (s : ByteArray) (w : World) (h : Lib.IsBuilder 45 5 B b bs w) (hlen : bs.length + s.size ≤ 140737488355328) (hBw : B ≤ w.heap.size) :
    Calls Tryz.prog 12 #[.pointer (some ⟨b, 0, none⟩), .string s] w fun e w' => e = .returned (.tuple #[.int .i64 s.size, .nilIface]) ∧ Lib.IsBuilder 45 5 B b (bs ++ Lib.strCells s) w' ∧ Below B w w' ∧ KeepB w w' := by
  obtain ⟨i0, hi, hz0, hz1, hz2⟩ := info_parts PC.info_u8
  go_enter Tryz.func12, Tryz.ntmps12
  go_wp2_with (go_at_call 30; refine (copyCheck_keep B b bs _ h).mono ?_)
  rintro e w1 ⟨rfl, h1, hb1, hkp⟩
  obtain ⟨hB, v, hbk, hown, hne⟩ := h1
  have c0 : w1.cell? ⟨b, 0, none⟩ = some (.pointer (some ⟨b, 0, none⟩)) := by rw [Lib.cell_of_heap hbk]; rfl
  have c1 : w1.cell? ⟨b, 1, none⟩ = some v := by rw [Lib.cell_of_heap hbk]; rfl
  go_wp2_with (at_builtin; refine Lib.wpList_append_own_string _ rfl _ _ 40 9 rfl B 5 i0 Tryz.underlying40 Tryz.underlying9 hi hz0 hz1 hz2 _ _ _ rfl hown s rfl ?c3 ?c4 ?c5 ?_)
  case c3 => unfold maxLen; omega
  case c4 => omega
  case c5 => have := hb1.size; omega
  intro v' w2 hown' hgrow _
  have hlt : b < w1.heap.size := lt_of_block hbk
  have hb2 : w2.heap[b]? = some (.cells #[.pointer (some ⟨b, 0, none⟩), v] 45 (0, 0)) := by
    rw [hgrow.block b hlt (fun e => hne e.symm)]
    exact hbk
  have d0 : w2.cell? ⟨b, 0, none⟩ = some (.pointer (some ⟨b, 0, none⟩)) := by rw [Lib.cell_of_heap hb2]; rfl
  have d1 : w2.cell? ⟨b, 1, none⟩ = some v := by rw [Lib.cell_of_heap hb2]; rfl
  have f1 : w2.frozen? ⟨b, 1, none⟩ = false := Lib.frozen_of_heap hb2 1
  have hkp2 : KeepB w w2 := fun k cs t hk h1 h2 => grown_block hgrow (hkp k cs t hk h1 h2) (own_ne hown (hkp k cs t hk h1 h2) (fun e => h2 e.symm))
  have HKP := Lib.hid hkp2
  clear hkp hkp2
  obtain ⟨ao, n', cap, rfl⟩ : ∃ ao n' cap, v' = .slice ao n' cap := by
    rcases hown'.2 with ⟨hv, _⟩ | ⟨g, cap, cur, hv, _⟩
    · exact ⟨_, _, _, hv⟩
    · exact ⟨_, _, _, hv⟩
  go_wp2
  go_ret2
  refine ⟨rfl, .inr ?_, ?_, fun k cs t hk h1 h2 => ?_⟩
  · exact Lib.BuilderAt.put (T := 45) (e := 5) hB hb2 (bs' := bs ++ Lib.strCells s) (by simpa [Lib.strCells_length] using hown') (by decide)
  · exact (hb1.grown hgrow (by have := hb1.size; omega) (fun k hk => (hown.lt k hk).1)).setCell (p := ⟨b, 1, none⟩) hB _
  · refine blk_set_other (HKP.out k cs t hk h1 h2) (fun e => ?_) _
    have hk2 := HKP.out k cs t hk h1 h2
    rw [e, hb2] at hk2
    injection hk2 with hk2
    injection hk2 with _ hk2
    exact h1 hk2.symm
end P3
end Go.Proofs.YtggdbceommmllaaGreatDoor
