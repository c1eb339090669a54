/- Merged: A3xa A3x A4p. -/
import Derived.Test.YtggdbceommmllaaDoorA3u
import Derived.Test.YtggdbceommmllaaDoorPb
import Derived.Test.YtggdbceommmllaaDoorW2
import Derived.Deep.RegionHeld3
/- Asm: what is printed, function by function; a Builder's WriteString leaves blocks of other kinds. -/
namespace Go.Proofs.YtggdbceommmllaaDoor
open Go.RowKit
namespace P3
open P2 PC NumL CutL

def outT (p : List Fn) (k : Nat) : List UInt8 := printL 0 (p.take k)
def inT (p : List Fn) (k : Nat) (m : Int) (l : List Ins) (j : Nat) : List UInt8 := outT p k ++ headL k m ++ [10] ++ codeL (l.take j)
theorem outT_zero (p : List Fn) : outT p 0 = [] := by simp [outT, printL]
theorem outT_all (p : List Fn) : outT p p.length = printL 0 p := by simp [outT]
theorem take_snoc {α : Type} {l : List α} {k : Nat} (h : k < l.length) : l.take (k + 1) = l.take k ++ [l[k]] := List.take_succ_eq_append_getElem h
theorem outT_succ {p : List Fn} {k : Nat} (h : k < p.length) : outT p (k + 1) = inT p k p[k].1 p[k].2 p[k].2.length := by
  unfold outT inT
  rw [take_snoc h, printL_snoc, List.length_take, Nat.min_eq_left (Nat.le_of_lt h), Nat.zero_add, fnT, List.take_length]
  simp [outT, List.append_assoc]
theorem inT_zero (p : List Fn) (k : Nat) (m : Int) (l : List Ins) : inT p k m l 0 = outT p k ++ (headL k m ++ [10]) := by simp [inT, codeL]
theorem inT_succ {p : List Fn} {k : Nat} {m : Int} {l : List Ins} {j : Nat} (h : j < l.length) : inT p k m l (j + 1) = inT p k m l j ++ (lineA l[j] ++ [10]) := by
  unfold inT codeL
  rw [take_snoc h, List.flatMap_append]
  simp [List.append_assoc]
theorem outT_len {p : List Fn} {k : Nat} (hp : p.length ≤ 32) (h : ∀ f ∈ p, packE f = 0) : (outT p k).length ≤ 127552 := by
  have h1 := print_short (p.take k) 0 (by rw [List.length_take]; omega) (fun f hf => h f (List.mem_of_mem_take hf))
  have h2 : (p.take k).length ≤ 32 := by rw [List.length_take]; omega
  unfold outT
  omega
theorem inT_len {p : List Fn} {k : Nat} {m : Int} {l : List Ins} {j : Nat} (hp : p.length ≤ 32) (h : ∀ f ∈ p, packE f = 0) (hk : k < 100) (h0 : 0 ≤ m) (h1 : m ≤ 255) (hl : ∀ i ∈ l, chk i = 0) (hj : j ≤ 128) : (inT p k m l j).length ≤ 140000 := by
  have h2 := outT_len (k := k) hp h
  have h3 := head_short hk h0 h1
  have h4 := code_short (l := l.take j) (fun i hi => hl i (List.mem_of_mem_take hi))
  have h5 : (l.take j).length ≤ 128 := by rw [List.length_take]; omega
  unfold inT
  rw [List.length_append, List.length_append, List.length_append, List.length_singleton]
  omega

/-- Blocks that are neither a Builder's nor a row of bytes are left as they are. -/
def KeepB (w w' : World) : Prop := ∀ (k : Nat) (cs : Array Value) (t : TypeId), w.heap[k]? = some (.cells cs t (0, 0)) → t ≠ 58 → t ≠ 5 → w'.heap[k]? = some (.cells cs t (0, 0))
theorem copyCheck_keep (B b : Nat) (bs : List Value) (w : World) (h : Lib.IsBuilder 58 5 B b bs w) :
    Calls Tryd.prog 47 #[.pointer (some ⟨b, 0, none⟩)] w fun e w' => e = .returned (.tuple #[]) ∧ Lib.BuilderAt 58 5 B b (.pointer (some ⟨b, 0, none⟩)) bs w' ∧ Below B w w' ∧ KeepB w w' := by
  rcases h with h | h
  · refine (copyCheck_fresh b w h.cell0 h.shape h.frozen0).mono ?_
    rintro e w' ⟨rfl, rfl⟩
    refine ⟨rfl, h.used _, (Below.refl B w).setCell (p := ⟨b, 0, none⟩) h.1 _, fun k cs t hk h1 _ => ?_⟩
    refine blk_set_other hk (fun e => ?_) _
    obtain ⟨_, v, hb, _⟩ := h
    rw [e, hb] at hk
    injection hk with hk
    injection hk with _ hk
    exact h1 hk.symm
  · refine (copyCheck_used b w h.cell0).mono ?_
    rintro e w' ⟨rfl, rfl⟩
    exact ⟨rfl, h, Below.refl B _, fun k cs t hk _ _ => hk⟩
set_option maxRecDepth 100000 in
set_option maxHeartbeats 2000000 in
theorem writeString_keep (B b : Nat) (bs : List Value) (s : ByteArray) (w : World) (h : Lib.IsBuilder 58 5 B b bs w) (hlen : bs.length + s.size ≤ 140737488355328) (hBw : B ≤ w.heap.size) :
    Calls Tryd.prog 25 #[.pointer (some ⟨b, 0, none⟩), .string s] w fun e w' => e = .returned (.tuple #[.int .i64 s.size, .nilIface]) ∧ Lib.IsBuilder 58 5 B b (bs ++ Lib.strCells s) w' ∧ Below B w w' ∧ KeepB w w' := by
  obtain ⟨i0, hi, hz0, hz1, hz2⟩ := info_parts PC.info_u8
  go_enter Tryd.func25, Tryd.ntmps25
  go_wp2_with (go_at_call 47; refine (copyCheck_keep B b bs _ h).mono ?_)
  rintro e w1 ⟨rfl, h1, hb1, hkp⟩
  obtain ⟨hB, v, hbk, hown, hne⟩ := h1
  have c0 : w1.cell? ⟨b, 0, none⟩ = some (.pointer (some ⟨b, 0, none⟩)) := by rw [Lib.cell_of_heap hbk]; rfl
  have c1 : w1.cell? ⟨b, 1, none⟩ = some v := by rw [Lib.cell_of_heap hbk]; rfl
  go_wp2_with (at_builtin; refine Lib.wpList_append_own_string _ rfl _ _ 53 9 rfl B 5 i0 Tryd.underlying53 Tryd.underlying9 hi hz0 hz1 hz2 _ _ _ rfl hown s rfl ?c3 ?c4 ?c5 ?_)
  case c3 => unfold maxLen; omega
  case c4 => omega
  case c5 => have := hb1.size; omega
  intro v' w2 hown' hgrow _
  have hlt : b < w1.heap.size := lt_of_block hbk
  have hb2 : w2.heap[b]? = some (.cells #[.pointer (some ⟨b, 0, none⟩), v] 58 (0, 0)) := by
    rw [hgrow.block b hlt (fun e => hne e.symm)]
    exact hbk
  have d0 : w2.cell? ⟨b, 0, none⟩ = some (.pointer (some ⟨b, 0, none⟩)) := by rw [Lib.cell_of_heap hb2]; rfl
  have d1 : w2.cell? ⟨b, 1, none⟩ = some v := by rw [Lib.cell_of_heap hb2]; rfl
  have f1 : w2.frozen? ⟨b, 1, none⟩ = false := Lib.frozen_of_heap hb2 1
  have hkp2 : KeepB w w2 := fun k cs t hk h1 h2 => grown_block hgrow (hkp k cs t hk h1 h2) (own_ne hown (hkp k cs t hk h1 h2) (fun e => h2 e.symm))
  have HKP := Lib.hid hkp2
  clear hkp hkp2
  obtain ⟨ao, n', cap, rfl⟩ : ∃ ao n' cap, v' = .slice ao n' cap := by
    rcases hown'.2 with ⟨hv, _⟩ | ⟨g, cap, cur, hv, _⟩
    · exact ⟨_, _, _, hv⟩
    · exact ⟨_, _, _, hv⟩
  go_wp2
  go_ret2
  refine ⟨rfl, .inr ?_, ?_, fun k cs t hk h1 h2 => ?_⟩
  · exact Lib.BuilderAt.put (T := 58) (e := 5) hB hb2 (bs' := bs ++ Lib.strCells s) (by simpa [Lib.strCells_length] using hown') (by decide)
  · exact (hb1.grown hgrow (by have := hb1.size; omega) (fun k hk => (hown.lt k hk).1)).setCell (p := ⟨b, 1, none⟩) hB _
  · refine blk_set_other (HKP.out k cs t hk h1 h2) (fun e => ?_) _
    have hk2 := HKP.out k cs t hk h1 h2
    rw [e, hb2] at hk2
    injection hk2 with hk2
    injection hk2 with _ hk2
    exact h1 hk2.symm
end P3
end Go.Proofs.YtggdbceommmllaaDoor

/- Asm: Print. -/
namespace Go.Proofs.YtggdbceommmllaaDoor
open Go.RowKit
namespace P3
open P2 PC NumL CutL

theorem join4 (a b : List UInt8) (ha : a.length ≤ 30) (hb : b.length ≤ 30) (W : World) :
    Calls Tryd.prog 26 #[.slice (some ⟨W.heap.size, 0, none⟩) 4 4] (W.alloc (.cells #[.string ⟨#[102, 117, 110, 99]⟩, .string ⟨a.toArray⟩, .string ⟨#[110, 101, 101, 100, 115]⟩, .string ⟨b.toArray⟩] 9)) fun e w' => e = .returned (.string ⟨(joinC 32 [fnL, a, needsL, b]).toArray⟩) ∧ Below (W.alloc (.cells #[.string ⟨#[102, 117, 110, 99]⟩, .string ⟨a.toArray⟩, .string ⟨#[110, 101, 101, 100, 115]⟩, .string ⟨b.toArray⟩] 9)).heap.size (W.alloc (.cells #[.string ⟨#[102, 117, 110, 99]⟩, .string ⟨a.toArray⟩, .string ⟨#[110, 101, 101, 100, 115]⟩, .string ⟨b.toArray⟩] 9)) w' := by
  have h := join_any (w := W.alloc (.cells #[.string ⟨#[102, 117, 110, 99]⟩, .string ⟨a.toArray⟩, .string ⟨#[110, 101, 101, 100, 115]⟩, .string ⟨b.toArray⟩] 9)) (g := W.heap.size) (c := 4) (ws := [fnL, a, needsL, b]) (Sl.new W #[.string ⟨#[102, 117, 110, 99]⟩, .string ⟨a.toArray⟩, .string ⟨#[110, 101, 101, 100, 115]⟩, .string ⟨b.toArray⟩] 9 4 W.heap.size rfl rfl rfl) (by simp) (by simp) (by simp [joinC, fnL, needsL]; omega)
  exact h
theorem print_bad {w : World} {v : Value} {p : List Fn} (hp : Prog w v p) (h : progE p ≠ 0) : Calls Tryd.prog 12 #[.agg #[v]] w fun e w' => e = .returned (.tuple #[.string ⟨#[]⟩, .int .i64 (progE p)]) ∧ Below w.heap.size w w' := by
  have hv := hp.1
  obtain ⟨A, c, rfl, -, -⟩ := hv.open_
  have hb0 : Below w.heap.size w (w.alloc (.cells #[.slice A p.length c] 25)) := by go_grown
  have hP := packAll (hp.next hb0)
  have hne : (progE p != 0) = true := bne_iff_ne.2 h
  have HPE := Lib.hid h
  obtain ⟨E, hE⟩ := name_of (progE p)
  obtain ⟨n, hn⟩ := name_of p.length
  have hP2 : Calls Tryd.prog 24 #[.agg #[.slice A n c]] (w.alloc (.cells #[.slice A n c] 25)) fun e w' => e = .returned (.tuple #[.slice none 0 0, .int .i64 E]) ∧ Below w.heap.size w w' := by
    rw [← hn, ← hE]
    refine hP.mono ?_
    rintro e w' ⟨v, rfl, -, h2, hb⟩
    rw [h2 HPE.out]
    exact ⟨rfl, hb0.next hb⟩
  rw [hE] at hne ⊢
  rw [hn]
  clear hP hp hv hb0 hE hn h HPE
  go_enter Tryd.func12, Tryd.ntmps12
  go_wp2_with fail
  refine hP2.mono ?_
  rintro e w1 ⟨rfl, hb1⟩
  clear hP2
  go_wp2_with fail
  go_ret2
  exact ⟨rfl, hb1⟩
/-- What holds where the outer loop begins a round. -/
def PrR (B : Nat) (w1 : World) (p : List Fn) (n : Nat) (i : Value) (wr : World) : Prop :=
  ∃ k : Nat, k ≤ n ∧ i = .int .i64 k ∧ Lib.IsBuilder 58 5 B B (Lib.byteCells (outT p k)) wr ∧ Below B w1 wr ∧ B < wr.heap.size
def InR (B : Nat) (w1 : World) (p : List Fn) (k : Nat) (m : Int) (l : List Ins) (n : Nat) (i : Value) (wr : World) : Prop :=
  ∃ j : Nat, j ≤ n ∧ i = .int .i64 j ∧ Lib.IsBuilder 58 5 B B (Lib.byteCells (inT p k m l j)) wr ∧ Below B w1 wr ∧ B < wr.heap.size
abbrev HeadS (B b : Nat) (m : Int) (cv : Value) (w1 W : World) : Prop := W.cell? ⟨b, 0, none⟩ = some (.int .i64 m) ∧ W.heap[b]? = some (.cells #[.int .i64 m, cv] 46 (0, 0)) ∧ Below B w1 W ∧ B < W.heap.size
theorem HeadS.nx {B b : Nat} {m : Int} {cv : Value} {w1 W W' : World} (hb : Below W.heap.size W W') (h : HeadS B b m cv w1 W) : HeadS B b m cv w1 W' :=
  ⟨by rw [cell_of_row _ _ _ _ _ _ (blk_next h.2.1 hb)]; rfl, blk_next h.2.1 hb, h.2.2.1.trans (hb.mono (Nat.le_of_lt h.2.2.2)), Nat.lt_of_lt_of_le h.2.2.2 hb.size⟩
theorem HeadS.al {B b : Nat} {m : Int} {cv : Value} {w1 W : World} {o : Obj} (h : HeadS B b m cv w1 W) : HeadS B b m cv w1 (W.alloc o) := HeadS.nx ((Below.refl _ _).alloc (Nat.le_refl _) o) h
theorem HeadS.kp {B b : Nat} {m : Int} {cv : Value} {w1 W W' : World} (hb : Below B W W') (hk : KeepB W W') (h : HeadS B b m cv w1 W) : HeadS B b m cv w1 W' :=
  have hc := hk _ _ _ h.2.1 (by decide) (by decide)
  ⟨by rw [cell_of_row _ _ _ _ _ _ hc]; rfl, hc, h.2.2.1.trans hb, Nat.lt_of_lt_of_le h.2.2.2 hb.size⟩
theorem print_ne {p : List Fn} (h : 1 ≤ p.length) : printL 0 p ≠ [] := by
  cases p with
  | nil => simp at h
  | cons f r => simp [printL, fnT]
theorem bcells (x : List UInt8) (s : ByteArray) : Lib.byteCells x ++ Lib.strCells s = Lib.byteCells (x ++ s.data.toList) := by simp [Lib.byteCells, Lib.strCells]
set_option maxRecDepth 10000 in
set_option maxHeartbeats 8000000 in
theorem print_ok {w : World} {v : Value} {p : List Fn} (hp : Prog w v p) (h : progE p = 0) (hl : Lb w) : Calls Tryd.prog 12 #[.agg #[v]] w fun e w' => e = .returned (.tuple #[.string ⟨(printL 0 p).toArray⟩, .int .i64 0]) ∧ Below w.heap.size w w' := by
  obtain ⟨h1, h2, h3⟩ := progE_ok h
  obtain ⟨A, c, rfl, hc, hf⟩ := hp.1.open_
  have HF := Lib.hid hf
  have HE := Lib.hid h3
  have HLB := Lib.hid hl
  have hb0 : Below w.heap.size w (w.alloc (.cells #[.slice A p.length c] 25)) := by go_grown
  have hP := packAll (hp.next hb0)
  obtain ⟨n, hn⟩ := name_of p.length
  have HN := Lib.hid hn
  have hP2 : Calls Tryd.prog 24 #[.agg #[.slice A n c]] (w.alloc (.cells #[.slice A n c] 25)) fun e w' => (∃ v, e = .returned (.tuple #[v, .int .i64 0])) ∧ Below w.heap.size w w' ∧ w'.cell? ⟨w.heap.size, 0, none⟩ = some (.slice A n c) := by
    rw [← hn]
    refine hP.mono ?_
    rintro e w' ⟨v, rfl, -, -, hb⟩
    exact ⟨⟨v, by rw [h]⟩, hb0.next hb, (hb.cell (p := ⟨w.heap.size, 0, none⟩) (by simp)).trans (by simp)⟩
  rw [hn] at h1 h2 hc ⊢
  clear hP hp hf h3 hl hb0 hn h
  go_enter Tryd.func12, Tryd.ntmps12
  go_wp2_with fail
  refine hP2.mono ?_
  rintro e w1 ⟨⟨v1, rfl⟩, hb1, hc1⟩
  clear hP2
  have hcA : (w1.alloc (.cells #[.pointer none, .slice none 0 0] 58)).cell? ⟨w.heap.size, 0, none⟩ = some (.slice A n c) := (((Below.refl w1.heap.size w1).alloc (Nat.le_refl _) (.cells #[.pointer none, .slice none 0 0] 58)).cell (p := ⟨w.heap.size, 0, none⟩) (World.block_lt_of_cell? _ _ hc1)).trans hc1
  go_wp2_with fail
  have hld0 := Lib.fresh_isBuilder 58 5 w1
  have hbA : Below w1.heap.size w1 (w1.alloc (.cells #[.pointer none, .slice none 0 0] 58)) := by go_grown
  have hsA : w1.heap.size < (w1.alloc (.cells #[.pointer none, .slice none 0 0] 58)).heap.size := by simp
  obtain ⟨B, hB⟩ := name_of w1.heap.size
  have hwB : w.heap.size < B := by rw [← hB]; exact World.block_lt_of_cell? _ _ hc1
  rw [hB] at hld0 hbA hsA ⊢
  have HB := Lib.hid hB
  obtain ⟨W2, hW2⟩ := name_of (w1.alloc (.cells #[.pointer none, .slice none 0 0] 58))
  rw [hW2] at hld0 hbA hsA ⊢
  clear hW2 hB hc1 hcA
  go_loopw [24] (fun i wr => PrR B w1 p n i wr) (fun i _ => n - (intOf i).toNat)
  case atStart => exact ⟨0, Nat.zero_le _, rfl, by rw [outT_zero]; exact hld0, hbA, hsA⟩
  case round =>
    clear hld0 hbA hsA
    obtain ⟨k, hk, rfl, hbld, hBl, hBs⟩ := hrel
    have hBw : Below w.heap.size w wr := hb1.trans (hBl.mono (Nat.le_of_lt hwB))
    by_cases hlt : k < n
    · have hkp : k < p.length := by have := HN.out; omega
      obtain ⟨b, off, cv, rfl, hb, hc0, hc1, hcode⟩ := HF.out k hkp
      have hpe := packE_ok (HE.out p[k] (List.getElem_mem hkp))
      have HOS := Lib.hid (outT_succ hkp)
      have hol := outT_len (k := k) (by have := HN.out; omega) HE.out
      obtain ⟨f, hfk⟩ := name_of p[k]
      rw [hfk] at hc0 hcode hpe
      have HFK := Lib.hid hfk
      rw [hfk] at HOS
      clear hfk
      obtain ⟨m, l⟩ := f
      simp only at hc0 hcode hpe HOS
      obtain ⟨hm0, hm1, hl1, hl2, hlc⟩ := hpe
      have hcode2 := hcode
      obtain ⟨A2, nc, c2, rfl, -⟩ := hcode
      have hw0 : wr.cell? ⟨b, off + k * 2, none⟩ = some (.int .i64 m) := (hBw.cell (p := ⟨b, _, none⟩) hb).trans hc0
      have hw1 : wr.cell? ⟨b, off + k * 2 + 1, none⟩ = some (.slice A2 nc c2) := (hBw.cell (p := ⟨b, _, none⟩) hb).trans hc1
      obtain ⟨A3, c3, e3, hcc, hcd⟩ := code_open hcode2
      injection e3 with e31 e32 e33
      subst e31 e33
      have HNC : Hid (l.length = nc) := Lib.hid e32.symm
      obtain ⟨b3, o3, rfl, hb3, -⟩ := hcd 0 (by omega)
      have HCD : Hid (∀ (j : Nat) (hj : j < l.length), w.cell? ⟨b3, o3 + j * 5, none⟩ = some (.int .i64 l[j].1) ∧ w.cell? ⟨b3, o3 + j * 5 + 1, none⟩ = some (.int .i64 l[j].2.1) ∧ w.cell? ⟨b3, o3 + j * 5 + 2, none⟩ = some (.int .i64 l[j].2.2.1) ∧ w.cell? ⟨b3, o3 + j * 5 + 3, none⟩ = some (.int .i64 l[j].2.2.2.1) ∧ w.cell? ⟨b3, o3 + j * 5 + 4, none⟩ = some (.int .i64 l[j].2.2.2.2)) := Lib.hid fun j hj => by
        obtain ⟨b', o', e, _, r⟩ := hcd j hj
        injection e with e
        injection e with e1 e2
        subst e1 e2
        exact r
      have HLC := Lib.hid hlc
      have hnc : nc ≤ 128 := by omega
      have hla : (Lib.itoa (k : Int)).length ≤ 30 := by have := itoa_short (x := (k : Int)) (by omega) (by omega); omega
      have hlb : (Lib.itoa m).length ≤ 30 := by have := itoa_short (x := m) (by omega) (by omega); omega
      have HH := Lib.hid (inT_zero p k m l)
      have hhs := head_short (k := k) (by omega) hm0 hm1
      clear hc0 hc1 hcode2 hl1 hl2 e32 hcd hlc
      obtain ⟨K, hK⟩ := name_of (⟨(Lib.itoa (k : Int)).toArray⟩ : ByteArray)
      obtain ⟨M, hM⟩ := name_of (⟨(Lib.itoa m).toArray⟩ : ByteArray)
      have hIk := fun W (hW : Below w.heap.size w W) => itoa_any (k : Int) (by omega) (by omega) W (HLB.out.next hW)
      have hIm := fun W (hW : Below w.heap.size w W) => itoa_any m (by omega) (by omega) W (HLB.out.next hW)
      have hJ := fun W => join4 (Lib.itoa (k : Int)) (Lib.itoa m) hla hlb W
      rw [show joinC 32 [fnL, Lib.itoa (k : Int), needsL, Lib.itoa m] = headL k m from rfl] at hJ
      obtain ⟨hd, hhd⟩ := name_of (headL k m)
      rw [hhd] at hJ HH hhs
      rw [hK] at hIk hJ
      rw [hM] at hIm hJ
      obtain ⟨H, hH, hHs⟩ := let_ hd 17 hhs
      have HHD : Hid (H.data.toList = hd) := Lib.hid (by rw [← hH])
      rw [hH] at hJ
      obtain ⟨H1, hH1, hH1s⟩ := cat_ H ⟨#[10]⟩ 17 1 hHs (by decide)
      have HH1 : Hid (H1.data.toList = hd ++ [10]) := Lib.hid (by rw [← hH1, ByteArray.data_append, Array.toList_append, HHD.out])
      have n1 : ¬ (9223372036854775807 < H.size + 1) := by omega
      clear hK hM hla hlb hhd hhs hH
      have hS0 : HeadS B wr.heap.size m (.slice (some ⟨b3, o3, none⟩) nc c2) w1 (wr.alloc (.cells #[.int .i64 m, .slice (some ⟨b3, o3, none⟩) nc c2] 46)) := ⟨by simp, heap_alloc_last wr _, hBl.alloc (Nat.le_of_lt hBs) _, by simp; omega⟩
      have hbldA := bld_next hbld ((Below.refl _ _).alloc (Nat.le_refl _) (.cells #[.int .i64 m, .slice (some ⟨b3, o3, none⟩) nc c2] 46))
      clear hbld
      go_wp2_with fail
      have hS1 := HeadS.nx below_drew' hS0
      have hbldD := bld_next hbldA below_drew'
      clear hbldA
      go_region_held3 (fun W => HeadS B wr.heap.size m (.slice (some ⟨b3, o3, none⟩) nc c2) w1 W) (first | assumption | exact HeadS.nx (by assumption) (by assumption) | exact HeadS.al (by assumption) | exact HeadS.al (HeadS.nx (by assumption) (by assumption)) | exact HeadS.nx (by assumption) (HeadS.al (by assumption)))
        (first
          | (go_at_call 27; refine (hIk _ (hb1.trans ((‹HeadS _ _ _ _ _ _›).2.2.1.mono (Nat.le_of_lt hwB)))).mono ?_; rintro e W1 ⟨rfl, hbk⟩; have hldK := bld_next hbldD hbk; have hSK := HeadS.nx hbk hS1)
          | (go_at_call 27; refine (hIm _ (hb1.trans ((‹HeadS _ _ _ _ _ _›).2.2.1.mono (Nat.le_of_lt hwB)))).mono ?_; rintro e W3 ⟨rfl, hbm⟩; have hldM := bld_next hldK hbm; have hSM := HeadS.nx hbm hSK)
          | (go_at_call 26; refine (hJ _).mono ?_; rintro e W5 ⟨rfl, hbj⟩; have hldJ := bld_next (bld_next hldM ((Below.refl _ _).alloc (Nat.le_refl _) _)) hbj; have hS5 := HeadS.nx hbj (HeadS.al hSM))
          | (go_at_call 25; go_loud (refine (writeString_keep B B _ H1 _ hldJ (by rw [Lib.byteCells_length]; omega) (Nat.le_of_lt hS5.2.2.2)).mono ?_; rintro e W7 ⟨rfl, hld7, hb7, hkp7⟩; have hb7s := hb7.size; have hS7 := HeadS.kp hb7 hkp7 hS5)))
      clear hb HFK hkp hw0 hw1 hIk hIm hJ hbk hbm hbj hldK hldM hldJ hSK hSM hS5 hS0 hS1 hbldD hb7 hkp7 hb7s
      have hldI : Lib.IsBuilder 58 5 B B (Lib.byteCells (inT p k m l 0)) W7 := by
        rw [HH.out, ← HH1.out, ← bcells]
        exact hld7
      have d1 : W7.cell? ⟨wr.heap.size, 1, none⟩ = some (.slice (some ⟨b3, o3, none⟩) nc c2) := by rw [cell_of_row _ _ _ _ _ _ hS7.2.1]; rfl
      clear hld7
      go_wp2_with fail
      go_loopw [41] (fun i wr => InR B w1 p k m l nc i wr) (fun i _ => nc - (intOf i).toNat)
      case atStart => exact ⟨0, Nat.zero_le _, rfl, hldI, hS7.2.2.1, hS7.2.2.2⟩
      case round =>
        clear hldI d1 hS7
        obtain ⟨j, hj, rfl, hbj, hBj, hBsj⟩ := hrel
        have hBwj : Below w.heap.size w wr := hb1.trans (hBj.mono (Nat.le_of_lt hwB))
        by_cases hjl : j < nc
        · have hjp : j < l.length := by have := HNC.out; omega
          obtain ⟨t0, t1, t2, t3, t4⟩ := HCD.out j hjp
          have hck := HLC.out l[j] (List.getElem_mem hjp)
          have HIS := Lib.hid (inT_succ (p := p) (k := k) (m := m) hjp)
          have hlen := inT_len (p := p) (k := k) (m := m) (j := j) (by have := HN.out; omega) HE.out (by omega) hm0 hm1 HLC.out (by omega)
          have hsh := line_short hck
          obtain ⟨x, hx⟩ := name_of l[j]
          rw [hx] at t0 t1 t2 t3 t4 hck HIS hsh
          clear hx
          have hL := fun W (hW : Below w.heap.size w W) => line_any x W (HLB.out.next hW)
          rw [hck, if_pos rfl] at hL
          obtain ⟨y, hy⟩ := name_of (lineA x)
          rw [hy] at hL HIS hsh
          obtain ⟨Y, hY, hYs⟩ := let_ y 30 hsh
          have HYD : Hid (Y.data.toList = y) := Lib.hid (by rw [← hY])
          rw [hY] at hL
          obtain ⟨Z, hZ, hZs⟩ := cat_ Y ⟨#[10]⟩ 30 1 hYs (by decide)
          have HZD : Hid (Z.data.toList = y ++ [10]) := Lib.hid (by rw [← hZ, ByteArray.data_append, Array.toList_append, HYD.out])
          have n2 : ¬ (9223372036854775807 < Y.size + 1) := by omega
          obtain ⟨io, ia, ib, ic, id⟩ := x
          unfold insV at hL
          simp only at t0 t1 t2 t3 t4 hL
          have s0 := (hBwj.cell (p := ⟨b3, _, none⟩) hb3).trans t0
          have s1 := (hBwj.cell (p := ⟨b3, _, none⟩) hb3).trans t1
          have s2 := (hBwj.cell (p := ⟨b3, _, none⟩) hb3).trans t2
          have s3 := (hBwj.cell (p := ⟨b3, _, none⟩) hb3).trans t3
          have s4 := (hBwj.cell (p := ⟨b3, _, none⟩) hb3).trans t4
          have hbA : Below wr.heap.size wr (wr.alloc (.cells #[.int .i64 io, .int .i64 ia, .int .i64 ib, .int .i64 ic, .int .i64 id] 33)) := by go_grown
          have hbjA := bld_next hbj hbA
          have hL2 := hL _ (hBwj.next hbA)
          clear t0 t1 t2 t3 t4 hck hsh hy hY hL hbj
          go_wp2_with fail
          refine hL2.mono ?_
          rintro e w5 ⟨rfl, hb5⟩
          have hbj5 := bld_next hbjA hb5
          have hB5 := hBj.trans ((hbA.next hb5).mono (Nat.le_of_lt hBsj))
          have hs5 : B < w5.heap.size := Nat.lt_of_lt_of_le hBsj (hbA.next hb5).size
          have hWS := writeString_any B B _ Z w5 hbj5 (by rw [Lib.byteCells_length]; omega) (Nat.le_of_lt hs5)
          rw [bcells, HZD.out, ← HIS.out] at hWS
          clear hL2 hb5 hbjA hbj5 hbA s0 s1 s2 s3 s4
          go_wp2_with fail
          refine hWS.mono ?_
          rintro e w6 ⟨rfl, hbj6, hb6⟩
          clear hWS
          go_wp2_with fail
          exact ⟨⟨j + 1, by omega, by go_num, hbj6, hB5.trans hb6, Nat.lt_of_lt_of_le hs5 hb6.size⟩, by simp [intOf]; omega⟩
        · obtain rfl : j = nc := by omega
          rw [← HNC.out, ← HOS.out] at hbj
          go_wp2_with fail
          exact ⟨⟨k + 1, by omega, by go_num, hbj, hBj, hBsj⟩, by simp [intOf]; omega⟩
    · obtain rfl : k = n := by omega
      have hall : outT p k = printL 0 p := by rw [← HN.out]; exact outT_all p
      rw [hall] at hbld
      have hS := Tryd.Builder_String _ _ _ wr hbld (print_ne (by have := HN.out; omega))
      clear hbld hall
      go_wp2_with fail
      refine hS.mono ?_
      rintro e w6 ⟨rfl, hb6⟩
      go_wp2_with fail
      go_ret2
      exact ⟨rfl, hBw.trans (hb6.mono (Nat.le_of_lt hwB))⟩
/-- What Print answers. -/
theorem print_any {w : World} {v : Value} {p : List Fn} (hp : Prog w v p) (hl : Lb w) : Calls Tryd.prog 12 #[.agg #[v]] w fun e w' => e = .returned (.tuple #[.string ⟨(if progE p = 0 then printL 0 p else []).toArray⟩, .int .i64 (progE p)]) ∧ Below w.heap.size w w' := by
  by_cases h : progE p = 0
  · rw [h, if_pos rfl]
    exact print_ok hp h hl
  · rw [if_neg h]
    exact print_bad hp h
end P3
end Go.Proofs.YtggdbceommmllaaDoor

/- Asm: plain laws of parses, in the form that the laws' walks take. -/
namespace Go.Proofs.YtggdbceommmllaaDoor
open Go.RowKit
namespace P3
open P2 PC NumL CutL

theorem parseL_idx : ∀ (ls : List (List UInt8)) (n : Nat) (p q : List Fn) (k : Nat) (e : Int), parseL ls n p = (q, k, e) → k ≤ n + ls.length
  | [], n, p, q, k, e, h => by injection h with _ h; injection h with h _; simp; omega
  | [x], n, p, q, k, e, h => by
    rw [parseL] at h
    split at h
    · injection h with _ h; injection h with h _; simp; omega
    · split at h
      · injection h with _ h; injection h with h _; simp; omega
      · injection h with _ h; injection h with h _; simp; omega
  | x :: y :: r, n, p, q, k, e, h => by
    rw [parseL] at h
    cases ht : lineT x p with
    | inl e' => rw [ht] at h; injection h with _ h; injection h with h _; simp; omega
    | inr p' => rw [ht] at h; have := parseL_idx (y :: r) (n + 1) p' q k e h; simp at this ⊢; omega
theorem parse_bd (s : List UInt8) : (parseA s).1.length ≤ 9223372036854775807 ∧ ∀ f ∈ (parseA s).1, f.2.length ≤ 9223372036854775807 := by
  unfold parseA
  split
  · exact ⟨by simp, fun f hf => by cases hf⟩
  · obtain ⟨⟨q, k, e⟩, h⟩ := name_of (parseL (splitC 10 s) 0 [])
    rw [h]
    by_cases he : e = 0
    · subst he
      obtain ⟨-, hE, -⟩ := print_parse h
      obtain ⟨h1, h2, h3⟩ := progE_ok hE
      exact ⟨by simp only; omega, fun f hf => by have := (packE_ok (h3 f hf)).2.2.2.1; omega⟩
    · have := parse_err _ _ _ _ _ _ h he
      subst this
      exact ⟨by simp, fun f hf => by cases hf⟩
/-- A text that is parsed as p. -/
theorem parse_ok {s : ByteArray} {p : List Fn} (hs : s.size ≤ 200000) (h : parseA s.data.toList = (p, 0, 0)) (w : World) (hl : Lb w) :
    Calls Tryd.prog 11 #[.string s] w fun e w' => ∃ A c, e = .returned (.tuple #[.agg #[.slice A p.length c], .int .i64 0, .int .i64 0]) ∧ Fns w' w'.heap.size (.slice A p.length c) p ∧ Below w.heap.size w w' :=
  (parse_any s hs w hl).mono fun e w' hP => by
    rw [h] at hP
    obtain ⟨v, he, hf, hb⟩ := hP
    obtain ⟨A, c, rfl, -, -⟩ := hf.open_
    exact ⟨A, c, he, hf, hb⟩
/-- A text that is none. -/
theorem parse_no {s : ByteArray} {k : Nat} {E : Int} (hs : s.size ≤ 200000) (h : parseA s.data.toList = ([], k, E)) (w : World) (hl : Lb w) :
    Calls Tryd.prog 11 #[.string s] w fun e w' => ∃ A c, e = .returned (.tuple #[.agg #[.slice A 0 c], .int .i64 k, .int .i64 E]) ∧ Below w.heap.size w w' :=
  (parse_any s hs w hl).mono fun e w' hP => by
    rw [h] at hP
    obtain ⟨v, he, hf, hb⟩ := hP
    obtain ⟨A, c, rfl, -, -⟩ := hf.open_
    exact ⟨A, c, he, hb⟩
theorem parseA_small {s : List UInt8} (h : s.length ≤ 131072) : parseA s = parseL (splitC 10 s) 0 [] := by
  unfold parseA
  rw [if_neg (by omega)]
theorem parseA_print {p : List Fn} (h : progE p = 0) : parseA (printL 0 p) = (p, 0, 0) := by
  rw [parseA_small (print_size h), parse_print h]
theorem below_size {w w' : World} {o : Obj} (hb : Below (w.alloc o).heap.size (w.alloc o) w') : w.heap.size < w'.heap.size := by
  have := hb.size
  simp at this
  omega
theorem Fns.box {w : World} {A : Option Addr} {n c : Nat} {p : List Fn} (hp : Fns w w.heap.size (.slice A n c) p) : n = p.length := by
  obtain ⟨A', c', e, -, -⟩ := hp.open_
  injection e
end P3
end Go.Proofs.YtggdbceommmllaaDoor
