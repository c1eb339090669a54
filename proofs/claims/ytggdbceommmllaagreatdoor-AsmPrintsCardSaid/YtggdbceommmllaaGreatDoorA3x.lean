/- Asm: Print. -/
import Derived.Test.YtggdbceommmllaaGreatDoorA3xa
import Derived.Test.YtggdbceommmllaaGreatDoorJ3
import Derived.Deep.RegionHeld3
namespace Go.Proofs.YtggdbceommmllaaGreatDoor
open Go.RowKit
namespace P3
open P2 PC NumL CutL

theorem join4 (a b : List UInt8) (ha : a.length ≤ 30) (hb : b.length ≤ 30) (W : World) :
    Calls Tryz.prog 13 #[.slice (some ⟨W.heap.size, 0, none⟩) 4 4] (W.alloc (.cells #[.string ⟨#[102, 117, 110, 99]⟩, .string ⟨a.toArray⟩, .string ⟨#[110, 101, 101, 100, 115]⟩, .string ⟨b.toArray⟩] 9)) fun e w' => e = .returned (.string ⟨(joinC 32 [fnL, a, needsL, b]).toArray⟩) ∧ Below (W.alloc (.cells #[.string ⟨#[102, 117, 110, 99]⟩, .string ⟨a.toArray⟩, .string ⟨#[110, 101, 101, 100, 115]⟩, .string ⟨b.toArray⟩] 9)).heap.size (W.alloc (.cells #[.string ⟨#[102, 117, 110, 99]⟩, .string ⟨a.toArray⟩, .string ⟨#[110, 101, 101, 100, 115]⟩, .string ⟨b.toArray⟩] 9)) w' := by
  have h := join_any (w := W.alloc (.cells #[.string ⟨#[102, 117, 110, 99]⟩, .string ⟨a.toArray⟩, .string ⟨#[110, 101, 101, 100, 115]⟩, .string ⟨b.toArray⟩] 9)) (g := W.heap.size) (c := 4) (ws := [fnL, a, needsL, b]) (Sl.new W #[.string ⟨#[102, 117, 110, 99]⟩, .string ⟨a.toArray⟩, .string ⟨#[110, 101, 101, 100, 115]⟩, .string ⟨b.toArray⟩] 9 4 W.heap.size rfl rfl rfl) (by simp) (by simp) (by simp [joinC, fnL, needsL]; omega)
  exact h
theorem print_bad {w : World} {v : Value} {p : List Fn} (hp : Prog w v p) (h : progE p ≠ 0) : Calls Tryz.prog 6 #[.agg #[v]] w fun e w' => e = .returned (.tuple #[.string ⟨#[]⟩, .int .i64 (progE p)]) ∧ Below w.heap.size w w' := by
  have hv := hp.1
  obtain ⟨A, c, rfl, -, -⟩ := hv.open_
  have hb0 : Below w.heap.size w (w.alloc (.cells #[.slice A p.length c] 24)) := by go_grown
  have hP := packAll (hp.next hb0)
  have hne : (progE p != 0) = true := bne_iff_ne.2 h
  have HPE := Lib.hid h
  obtain ⟨E, hE⟩ := name_of (progE p)
  obtain ⟨n, hn⟩ := name_of p.length
  have hP2 : Calls Tryz.prog 11 #[.agg #[.slice A n c]] (w.alloc (.cells #[.slice A n c] 24)) fun e w' => e = .returned (.tuple #[.slice none 0 0, .int .i64 E]) ∧ Below w.heap.size w w' := by
    rw [← hn, ← hE]
    refine hP.mono ?_
    rintro e w' ⟨v, rfl, -, h2, hb⟩
    rw [h2 HPE.out]
    exact ⟨rfl, hb0.next hb⟩
  rw [hE] at hne ⊢
  rw [hn]
  clear hP hp hv hb0 hE hn h HPE
  go_enter Tryz.func6, Tryz.ntmps6
  go_wp2_with fail
  refine hP2.mono ?_
  rintro e w1 ⟨rfl, hb1⟩
  clear hP2
  go_wp2_with fail
  go_ret2
  exact ⟨rfl, hb1⟩
/-- What holds where the outer loop begins a round. -/
def PrR (B : Nat) (w1 : World) (p : List Fn) (n : Nat) (i : Value) (wr : World) : Prop :=
  ∃ k : Nat, k ≤ n ∧ i = .int .i64 k ∧ Lib.IsBuilder 45 5 B B (Lib.byteCells (outT p k)) wr ∧ Below B w1 wr ∧ B < wr.heap.size
def InR (B : Nat) (w1 : World) (p : List Fn) (k : Nat) (m : Int) (l : List Ins) (n : Nat) (i : Value) (wr : World) : Prop :=
  ∃ j : Nat, j ≤ n ∧ i = .int .i64 j ∧ Lib.IsBuilder 45 5 B B (Lib.byteCells (inT p k m l j)) wr ∧ Below B w1 wr ∧ B < wr.heap.size
abbrev HeadS (B b : Nat) (m : Int) (cv : Value) (w1 W : World) : Prop := W.cell? ⟨b, 0, none⟩ = some (.int .i64 m) ∧ W.heap[b]? = some (.cells #[.int .i64 m, cv] 32 (0, 0)) ∧ Below B w1 W ∧ B < W.heap.size
theorem HeadS.nx {B b : Nat} {m : Int} {cv : Value} {w1 W W' : World} (hb : Below W.heap.size W W') (h : HeadS B b m cv w1 W) : HeadS B b m cv w1 W' :=
  ⟨by rw [cell_of_row _ _ _ _ _ _ (blk_next h.2.1 hb)]; rfl, blk_next h.2.1 hb, h.2.2.1.trans (hb.mono (Nat.le_of_lt h.2.2.2)), Nat.lt_of_lt_of_le h.2.2.2 hb.size⟩
theorem HeadS.al {B b : Nat} {m : Int} {cv : Value} {w1 W : World} {o : Obj} (h : HeadS B b m cv w1 W) : HeadS B b m cv w1 (W.alloc o) := HeadS.nx ((Below.refl _ _).alloc (Nat.le_refl _) o) h
theorem HeadS.kp {B b : Nat} {m : Int} {cv : Value} {w1 W W' : World} (hb : Below B W W') (hk : KeepB W W') (h : HeadS B b m cv w1 W) : HeadS B b m cv w1 W' :=
  have hc := hk _ _ _ h.2.1 (by decide) (by decide)
  ⟨by rw [cell_of_row _ _ _ _ _ _ hc]; rfl, hc, h.2.2.1.trans hb, Nat.lt_of_lt_of_le h.2.2.2 hb.size⟩
theorem print_ne {p : List Fn} (h : 1 ≤ p.length) : printL 0 p ≠ [] := by
  cases p with
  | nil => simp at h
  | cons f r => simp [printL, fnT]
theorem bcells (x : List UInt8) (s : ByteArray) : Lib.byteCells x ++ Lib.strCells s = Lib.byteCells (x ++ s.data.toList) := by simp [Lib.byteCells, Lib.strCells]
set_option maxRecDepth 10000 in
set_option maxHeartbeats 8000000 in
theorem print_ok {w : World} {v : Value} {p : List Fn} (hp : Prog w v p) (h : progE p = 0) (hl : Lb w) : Calls Tryz.prog 6 #[.agg #[v]] w fun e w' => e = .returned (.tuple #[.string ⟨(printL 0 p).toArray⟩, .int .i64 0]) ∧ Below w.heap.size w w' := by
  obtain ⟨h1, h2, h3⟩ := progE_ok h
  obtain ⟨A, c, rfl, hc, hf⟩ := hp.1.open_
  have HF := Lib.hid hf
  have HE := Lib.hid h3
  have HLB := Lib.hid hl
  have hb0 : Below w.heap.size w (w.alloc (.cells #[.slice A p.length c] 24)) := by go_grown
  have hP := packAll (hp.next hb0)
  obtain ⟨n, hn⟩ := name_of p.length
  have HN := Lib.hid hn
  have hP2 : Calls Tryz.prog 11 #[.agg #[.slice A n c]] (w.alloc (.cells #[.slice A n c] 24)) fun e w' => (∃ v, e = .returned (.tuple #[v, .int .i64 0])) ∧ Below w.heap.size w w' ∧ w'.cell? ⟨w.heap.size, 0, none⟩ = some (.slice A n c) := by
    rw [← hn]
    refine hP.mono ?_
    rintro e w' ⟨v, rfl, -, -, hb⟩
    exact ⟨⟨v, by rw [h]⟩, hb0.next hb, (hb.cell (p := ⟨w.heap.size, 0, none⟩) (by simp)).trans (by simp)⟩
  rw [hn] at h1 h2 hc ⊢
  clear hP hp hf h3 hl hb0 hn h
  go_enter Tryz.func6, Tryz.ntmps6
  go_wp2_with fail
  refine hP2.mono ?_
  rintro e w1 ⟨⟨v1, rfl⟩, hb1, hc1⟩
  clear hP2
  have hcA : (w1.alloc (.cells #[.pointer none, .slice none 0 0] 45)).cell? ⟨w.heap.size, 0, none⟩ = some (.slice A n c) := (((Below.refl w1.heap.size w1).alloc (Nat.le_refl _) (.cells #[.pointer none, .slice none 0 0] 45)).cell (p := ⟨w.heap.size, 0, none⟩) (World.block_lt_of_cell? _ _ hc1)).trans hc1
  go_wp2_with fail
  have hld0 := Lib.fresh_isBuilder 45 5 w1
  have hbA : Below w1.heap.size w1 (w1.alloc (.cells #[.pointer none, .slice none 0 0] 45)) := by go_grown
  have hsA : w1.heap.size < (w1.alloc (.cells #[.pointer none, .slice none 0 0] 45)).heap.size := by simp
  obtain ⟨B, hB⟩ := name_of w1.heap.size
  have hwB : w.heap.size < B := by rw [← hB]; exact World.block_lt_of_cell? _ _ hc1
  rw [hB] at hld0 hbA hsA ⊢
  have HB := Lib.hid hB
  obtain ⟨W2, hW2⟩ := name_of (w1.alloc (.cells #[.pointer none, .slice none 0 0] 45))
  rw [hW2] at hld0 hbA hsA ⊢
  clear hW2 hB hc1 hcA
  go_loopw [24] (fun i wr => PrR B w1 p n i wr) (fun i _ => n - (intOf i).toNat)
  case atStart => exact ⟨0, Nat.zero_le _, rfl, by rw [outT_zero]; exact hld0, hbA, hsA⟩
  case round =>
    clear hld0 hbA hsA
    obtain ⟨k, hk, rfl, hbld, hBl, hBs⟩ := hrel
    have hBw : Below w.heap.size w wr := hb1.trans (hBl.mono (Nat.le_of_lt hwB))
    by_cases hlt : k < n
    · have hkp : k < p.length := by have := HN.out; omega
      obtain ⟨b, off, cv, rfl, hb, hc0, hc1, hcode⟩ := HF.out k hkp
      have hpe := packE_ok (HE.out p[k] (List.getElem_mem hkp))
      have HOS := Lib.hid (outT_succ hkp)
      have hol := outT_len (k := k) (by have := HN.out; omega) HE.out
      obtain ⟨f, hfk⟩ := name_of p[k]
      rw [hfk] at hc0 hcode hpe
      have HFK := Lib.hid hfk
      rw [hfk] at HOS
      clear hfk
      obtain ⟨m, l⟩ := f
      simp only at hc0 hcode hpe HOS
      obtain ⟨hm0, hm1, hl1, hl2, hlc⟩ := hpe
      have hcode2 := hcode
      obtain ⟨A2, nc, c2, rfl, -⟩ := hcode
      have hw0 : wr.cell? ⟨b, off + k * 2, none⟩ = some (.int .i64 m) := (hBw.cell (p := ⟨b, _, none⟩) hb).trans hc0
      have hw1 : wr.cell? ⟨b, off + k * 2 + 1, none⟩ = some (.slice A2 nc c2) := (hBw.cell (p := ⟨b, _, none⟩) hb).trans hc1
      obtain ⟨A3, c3, e3, hcc, hcd⟩ := code_open hcode2
      injection e3 with e31 e32 e33
      subst e31 e33
      have HNC : Hid (l.length = nc) := Lib.hid e32.symm
      obtain ⟨b3, o3, rfl, hb3, -⟩ := hcd 0 (by omega)
      have HCD : Hid (∀ (j : Nat) (hj : j < l.length), w.cell? ⟨b3, o3 + j * 5, none⟩ = some (.int .i64 l[j].1) ∧ w.cell? ⟨b3, o3 + j * 5 + 1, none⟩ = some (.int .i64 l[j].2.1) ∧ w.cell? ⟨b3, o3 + j * 5 + 2, none⟩ = some (.int .i64 l[j].2.2.1) ∧ w.cell? ⟨b3, o3 + j * 5 + 3, none⟩ = some (.int .i64 l[j].2.2.2.1) ∧ w.cell? ⟨b3, o3 + j * 5 + 4, none⟩ = some (.int .i64 l[j].2.2.2.2)) := Lib.hid fun j hj => by
        obtain ⟨b', o', e, _, r⟩ := hcd j hj
        injection e with e
        injection e with e1 e2
        subst e1 e2
        exact r
      have HLC := Lib.hid hlc
      have hnc : nc ≤ 128 := by omega
      have hla : (Lib.itoa (k : Int)).length ≤ 30 := by have := itoa_short (x := (k : Int)) (by omega) (by omega); omega
      have hlb : (Lib.itoa m).length ≤ 30 := by have := itoa_short (x := m) (by omega) (by omega); omega
      have HH := Lib.hid (inT_zero p k m l)
      have hhs := head_short (k := k) (by omega) hm0 hm1
      clear hc0 hc1 hcode2 hl1 hl2 e32 hcd hlc
      obtain ⟨K, hK⟩ := name_of (⟨(Lib.itoa (k : Int)).toArray⟩ : ByteArray)
      obtain ⟨M, hM⟩ := name_of (⟨(Lib.itoa m).toArray⟩ : ByteArray)
      have hIk := fun W (hW : Below w.heap.size w W) => itoa_any (k : Int) (by omega) (by omega) W (HLB.out.next hW)
      have hIm := fun W (hW : Below w.heap.size w W) => itoa_any m (by omega) (by omega) W (HLB.out.next hW)
      have hJ := fun W => join4 (Lib.itoa (k : Int)) (Lib.itoa m) hla hlb W
      rw [show joinC 32 [fnL, Lib.itoa (k : Int), needsL, Lib.itoa m] = headL k m from rfl] at hJ
      obtain ⟨hd, hhd⟩ := name_of (headL k m)
      rw [hhd] at hJ HH hhs
      rw [hK] at hIk hJ
      rw [hM] at hIm hJ
      obtain ⟨H, hH, hHs⟩ := let_ hd 17 hhs
      have HHD : Hid (H.data.toList = hd) := Lib.hid (by rw [← hH])
      rw [hH] at hJ
      obtain ⟨H1, hH1, hH1s⟩ := cat_ H ⟨#[10]⟩ 17 1 hHs (by decide)
      have HH1 : Hid (H1.data.toList = hd ++ [10]) := Lib.hid (by rw [← hH1, ByteArray.data_append, Array.toList_append, HHD.out])
      have n1 : ¬ (9223372036854775807 < H.size + 1) := by omega
      clear hK hM hla hlb hhd hhs hH
      have hS0 : HeadS B wr.heap.size m (.slice (some ⟨b3, o3, none⟩) nc c2) w1 (wr.alloc (.cells #[.int .i64 m, .slice (some ⟨b3, o3, none⟩) nc c2] 32)) := ⟨by simp, heap_alloc_last wr _, hBl.alloc (Nat.le_of_lt hBs) _, by simp; omega⟩
      have hbldA := bld_next hbld ((Below.refl _ _).alloc (Nat.le_refl _) (.cells #[.int .i64 m, .slice (some ⟨b3, o3, none⟩) nc c2] 32))
      clear hbld
      go_wp2_with fail
      have hS1 := HeadS.nx below_drew' hS0
      have hbldD := bld_next hbldA below_drew'
      clear hbldA
      go_region_held3 (fun W => HeadS B wr.heap.size m (.slice (some ⟨b3, o3, none⟩) nc c2) w1 W) (first | assumption | exact HeadS.nx (by assumption) (by assumption) | exact HeadS.al (by assumption) | exact HeadS.al (HeadS.nx (by assumption) (by assumption)) | exact HeadS.nx (by assumption) (HeadS.al (by assumption)))
        (first
          | (go_at_call 14; refine (hIk _ (hb1.trans ((‹HeadS _ _ _ _ _ _›).2.2.1.mono (Nat.le_of_lt hwB)))).mono ?_; rintro e W1 ⟨rfl, hbk⟩; have hldK := bld_next hbldD hbk; have hSK := HeadS.nx hbk hS1)
          | (go_at_call 14; refine (hIm _ (hb1.trans ((‹HeadS _ _ _ _ _ _›).2.2.1.mono (Nat.le_of_lt hwB)))).mono ?_; rintro e W3 ⟨rfl, hbm⟩; have hldM := bld_next hldK hbm; have hSM := HeadS.nx hbm hSK)
          | (go_at_call 13; refine (hJ _).mono ?_; rintro e W5 ⟨rfl, hbj⟩; have hldJ := bld_next (bld_next hldM ((Below.refl _ _).alloc (Nat.le_refl _) _)) hbj; have hS5 := HeadS.nx hbj (HeadS.al hSM))
          | (go_at_call 12; go_loud (refine (writeString_keep B B _ H1 _ hldJ (by rw [Lib.byteCells_length]; omega) (Nat.le_of_lt hS5.2.2.2)).mono ?_; rintro e W7 ⟨rfl, hld7, hb7, hkp7⟩; have hb7s := hb7.size; have hS7 := HeadS.kp hb7 hkp7 hS5)))
      clear hb HFK hkp hw0 hw1 hIk hIm hJ hbk hbm hbj hldK hldM hldJ hSK hSM hS5 hS0 hS1 hbldD hb7 hkp7 hb7s
      have hldI : Lib.IsBuilder 45 5 B B (Lib.byteCells (inT p k m l 0)) W7 := by
        rw [HH.out, ← HH1.out, ← bcells]
        exact hld7
      have d1 : W7.cell? ⟨wr.heap.size, 1, none⟩ = some (.slice (some ⟨b3, o3, none⟩) nc c2) := by rw [cell_of_row _ _ _ _ _ _ hS7.2.1]; rfl
      clear hld7
      go_wp2_with fail
      go_loopw [41] (fun i wr => InR B w1 p k m l nc i wr) (fun i _ => nc - (intOf i).toNat)
      case atStart => exact ⟨0, Nat.zero_le _, rfl, hldI, hS7.2.2.1, hS7.2.2.2⟩
      case round =>
        clear hldI d1 hS7
        obtain ⟨j, hj, rfl, hbj, hBj, hBsj⟩ := hrel
        have hBwj : Below w.heap.size w wr := hb1.trans (hBj.mono (Nat.le_of_lt hwB))
        by_cases hjl : j < nc
        · have hjp : j < l.length := by have := HNC.out; omega
          obtain ⟨t0, t1, t2, t3, t4⟩ := HCD.out j hjp
          have hck := HLC.out l[j] (List.getElem_mem hjp)
          have HIS := Lib.hid (inT_succ (p := p) (k := k) (m := m) hjp)
          have hlen := inT_len (p := p) (k := k) (m := m) (j := j) (by have := HN.out; omega) HE.out (by omega) hm0 hm1 HLC.out (by omega)
          have hsh := line_short hck
          obtain ⟨x, hx⟩ := name_of l[j]
          rw [hx] at t0 t1 t2 t3 t4 hck HIS hsh
          clear hx
          have hL := fun W (hW : Below w.heap.size w W) => line_any x W (HLB.out.next hW)
          rw [hck, if_pos rfl] at hL
          obtain ⟨y, hy⟩ := name_of (lineA x)
          rw [hy] at hL HIS hsh
          obtain ⟨Y, hY, hYs⟩ := let_ y 30 hsh
          have HYD : Hid (Y.data.toList = y) := Lib.hid (by rw [← hY])
          rw [hY] at hL
          obtain ⟨Z, hZ, hZs⟩ := cat_ Y ⟨#[10]⟩ 30 1 hYs (by decide)
          have HZD : Hid (Z.data.toList = y ++ [10]) := Lib.hid (by rw [← hZ, ByteArray.data_append, Array.toList_append, HYD.out])
          have n2 : ¬ (9223372036854775807 < Y.size + 1) := by omega
          obtain ⟨io, ia, ib, ic, id⟩ := x
          unfold insV at hL
          simp only at t0 t1 t2 t3 t4 hL
          have s0 := (hBwj.cell (p := ⟨b3, _, none⟩) hb3).trans t0
          have s1 := (hBwj.cell (p := ⟨b3, _, none⟩) hb3).trans t1
          have s2 := (hBwj.cell (p := ⟨b3, _, none⟩) hb3).trans t2
          have s3 := (hBwj.cell (p := ⟨b3, _, none⟩) hb3).trans t3
          have s4 := (hBwj.cell (p := ⟨b3, _, none⟩) hb3).trans t4
          have hbA : Below wr.heap.size wr (wr.alloc (.cells #[.int .i64 io, .int .i64 ia, .int .i64 ib, .int .i64 ic, .int .i64 id] 35)) := by go_grown
          have hbjA := bld_next hbj hbA
          have hL2 := hL _ (hBwj.next hbA)
          clear t0 t1 t2 t3 t4 hck hsh hy hY hL hbj
          go_wp2_with fail
          refine hL2.mono ?_
          rintro e w5 ⟨rfl, hb5⟩
          have hbj5 := bld_next hbjA hb5
          have hB5 := hBj.trans ((hbA.next hb5).mono (Nat.le_of_lt hBsj))
          have hs5 : B < w5.heap.size := Nat.lt_of_lt_of_le hBsj (hbA.next hb5).size
          have hWS := writeString_any B B _ Z w5 hbj5 (by rw [Lib.byteCells_length]; omega) (Nat.le_of_lt hs5)
          rw [bcells, HZD.out, ← HIS.out] at hWS
          clear hL2 hb5 hbjA hbj5 hbA s0 s1 s2 s3 s4
          go_wp2_with fail
          refine hWS.mono ?_
          rintro e w6 ⟨rfl, hbj6, hb6⟩
          clear hWS
          go_wp2_with fail
          exact ⟨⟨j + 1, by omega, by go_num, hbj6, hB5.trans hb6, Nat.lt_of_lt_of_le hs5 hb6.size⟩, by simp [intOf]; omega⟩
        · obtain rfl : j = nc := by omega
          rw [← HNC.out, ← HOS.out] at hbj
          go_wp2_with fail
          exact ⟨⟨k + 1, by omega, by go_num, hbj, hBj, hBsj⟩, by simp [intOf]; omega⟩
    · obtain rfl : k = n := by omega
      have hall : outT p k = printL 0 p := by rw [← HN.out]; exact outT_all p
      rw [hall] at hbld
      have hS := Tryz.Builder_String _ _ _ wr hbld (print_ne (by have := HN.out; omega))
      clear hbld hall
      go_wp2_with fail
      refine hS.mono ?_
      rintro e w6 ⟨rfl, hb6⟩
      go_wp2_with fail
      go_ret2
      exact ⟨rfl, hBw.trans (hb6.mono (Nat.le_of_lt hwB))⟩
/-- What Print answers. -/
theorem print_any {w : World} {v : Value} {p : List Fn} (hp : Prog w v p) (hl : Lb w) : Calls Tryz.prog 6 #[.agg #[v]] w fun e w' => e = .returned (.tuple #[.string ⟨(if progE p = 0 then printL 0 p else []).toArray⟩, .int .i64 (progE p)]) ∧ Below w.heap.size w w' := by
  by_cases h : progE p = 0
  · rw [h, if_pos rfl]
    exact print_ok hp h hl
  · rw [if_neg h]
    exact print_bad hp h
end P3
end Go.Proofs.YtggdbceommmllaaGreatDoor
