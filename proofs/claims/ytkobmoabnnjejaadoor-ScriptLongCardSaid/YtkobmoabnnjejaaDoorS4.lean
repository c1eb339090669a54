/- Script: event. -/
import Derived.Test.YtkobmoabnnjejaaDoorS4a
import Derived.Test.YtkobmoabnnjejaaDoorV
namespace Go.Proofs.YtkobmoabnnjejaaDoor
open Go.RowKit
namespace P21
open PC NumL

theorem bs_toList (l : List UInt8) : (⟨l.toArray⟩ : ByteArray).toList = l := by rw [ByteArray.toList_eq]
theorem numT_ok {l : List UInt8} {n : Int} (h : Lib.parseIntB 64 l = .ok n) : numT l = if Lib.itoa n = l then some n else none := by unfold numT; rw [h]
theorem numT_syn {l : List UInt8} (h : Lib.parseIntB 64 l = Lib.NumEnd.syntax) : numT l = none := by unfold numT; rw [h]
theorem numT_rng {l : List UInt8} (h : Lib.parseIntB 64 l = .range) : numT l = none := by unfold numT; rw [h]
def broken (line : Int) (c : Int) : List PanicEntry := [{ v := .iface 68 (.agg #[.int .i64 line, .int .i64 c]), recovered := false }]
def EvPost (t : List UInt8) (whole : Bool) (line : Int) (w : World) (e : Ending) (w' : World) : Prop := (match evT t whole with
  | .inr x => e = .returned (evV x)
  | .inl c => e = .panicked (broken line c)) ∧ Below w.heap.size w w'
theorem ev_bad {t : List UInt8} {whole : Bool} {line : Int} {w w' : World} {c : Int} (h : evT t whole = .inl c) (hb : Below w.heap.size w w') {e : Ending} (he : e = .panicked (broken line c)) : EvPost t whole line w e w' := by
  unfold EvPost; rw [h]; exact ⟨he, hb⟩
theorem ev_good {t : List UInt8} {whole : Bool} {line : Int} {w w' : World} {x : Ev} (h : evT t whole = .inr x) (hb : Below w.heap.size w w') {e : Ending} (he : e = .returned (evV x)) : EvPost t whole line w e w' := by
  unfold EvPost; rw [h]; exact ⟨he, hb⟩

set_option maxRecDepth 10000 in
set_option maxHeartbeats 4000000 in
theorem event_any (t : ByteArray) (ht : t.size ≤ 200000) (whole : Bool) (line : Int) (w : World) (hp : Lab w) : Calls Tryd.prog 35 #[.string t, .bool whole, .int .i64 line] w (EvPost t.data.toList whole line w) := by
  have hB0 : Below w.heap.size w (w.alloc (.cells #[.int .i64 0, .int .i64 0] 24)) := by go_grown
  have hp0 := hp.next hB0
  obtain ⟨m, hm⟩ := hp0.max
  have hC := Tryd.strings_Cut t ⟨#[32]⟩ m (w.alloc (.cells #[.int .i64 0, .int .i64 0] 24)) (by omega) hm
  rw [show (⟨#[32]⟩ : ByteArray).data.toList = [32] from rfl, cut_cutB] at hC
  have hlen := cutB_len 32 t.data.toList
  rw [bs_len] at hlen
  have HEV : Hid (∀ v, (match kindT (cutB 32 t.data.toList).1 with
    | none => .inl 14
    | some k => match numT (cutB 32 t.data.toList).2.1 with
      | none => .inl 11
      | some n => if (cutB 32 t.data.toList).2.2 = true ∧ whole = true then .inr ⟨k, n⟩ else .inl 11) = v → evT t.data.toList whole = v) := Lib.hid (fun v h => h)
  obtain ⟨⟨f, r, bl⟩, hx⟩ := name_of (cutB 32 t.data.toList)
  rw [hx] at hC HEV hlen
  dsimp only at hC HEV hlen
  have hr := hlen.2.1
  have HP := Lib.hid hp
  have HB0 := Lib.hid hB0
  clear hx hm hp0 hp hlen
  go_enter Tryd.func35, Tryd.ntmps35
  go_wp2_with fail
  refine hC.mono ?_
  rintro e w1 ⟨rfl, q, rfl⟩
  have hBq := HB0.out.next (below_drewn q)
  clear hC
  go_wp2_with fail
  go_loop [10] (fun k => ∃ j : Nat, j ≤ 4 ∧ k = .int .i64 j ∧ ∀ i : Nat, i < j → wordL i ≠ f) (fun k => 4 - (intOf k).toNat)
  case atStart => exact ⟨0, by omega, rfl, fun i hi => by omega⟩
  case round =>
    obtain ⟨j, hj, rfl, hno⟩ := hrel
    have HNO := Lib.hid hno
    clear hno
    by_cases h3 : j ≤ 3
    · have f1 : decide ((j : Int) ≤ 3) = true := by simp; omega
      have hW := fun W => word_any (j : Int) W
      by_cases hf : wordL j = f
      · have HF := Lib.hid hf
        have hs : wordS j = ⟨f.toArray⟩ := by unfold wordS; rw [hf]
        rw [hs] at hW
        have hbe := str_beq (⟨f.toArray⟩ : ByteArray)
        clear hf hs
        go_wp2_with fail
        refine (hW _).mono ?_
        rintro e w2 ⟨rfl, rfl⟩
        have HK : Hid (kindT f = some (j : Int)) := Lib.hid (kindT_some ⟨by omega, by omega⟩ HF.out)
        obtain ⟨W, hW2⟩ := name_of ((w.alloc (.cells #[.int .i64 0, .int .i64 0] 24)).drewN q)
        have hBW : Below w.heap.size w W := by rw [← hW2]; exact hBq
        have hpW := HP.out.next hBW
        have hblk : W.heap[w.heap.size]? = some (.cells #[.int .i64 0, .int .i64 0] 24 (0, 0)) := by rw [← hW2]; exact blk_next (heap_alloc_last w _) (below_drewn q)
        have hWs : w.heap.size < W.heap.size := lt_of_block hblk
        rw [hW2]
        clear hBq HB0 hW2 HNO
        cases hpi : Lib.parseIntB 64 r with
        | ok n =>
          have hrange := parse_range hpi
          have hPI := Tryd.strconv_ParseInt_10_at64_ok ⟨r.toArray⟩ (by show r.length ≤ _; omega) n hpi W
          have HNT := Lib.hid (numT_ok hpi)
          clear hpi
          go_wp2_with fail
          refine hPI.mono ?_
          rintro e w2 ⟨rfl, hw2⟩
          have hb2 : Below W.heap.size W w2 := by
            rcases hw2 with rfl | ⟨tt, rfl⟩
            · exact Below.refl _ _
            · exact Lib.bytesWorld_below _ _ _
          have hB2 := hBW.next hb2
          have hblk2 := blk_next hblk hb2
          have hF := format_any n hrange.1 hrange.2 w2 (hpW.next hb2)
          clear hPI hw2 hW
          cases bl
          · have HR : Hid (evT t.data.toList whole = .inl 11) := Lib.hid (HEV.out _ (by
              rw [HK.out]
              dsimp only
              cases numT r <;> rfl))
            go_wp2_with fail
            exact ⟨rfl, ev_bad HR.out hB2 rfl⟩
          · cases whole
            · have HR : Hid (evT t.data.toList false = .inl 11) := Lib.hid (HEV.out _ (by
                rw [HK.out]
                dsimp only
                cases numT r <;> rfl))
              go_wp2_with fail
              exact ⟨rfl, ev_bad HR.out hB2 rfl⟩
            · by_cases hit : Lib.itoa n = r
              · have HR : Hid (evT t.data.toList true = .inr ⟨j, n⟩) := Lib.hid (HEV.out _ (by
                  rw [HK.out, HNT.out, if_pos hit]
                  rfl))
                rw [hit] at hF
                have hbr := str_beq (⟨r.toArray⟩ : ByteArray)
                clear hit
                go_wp2_with fail
                refine hF.mono ?_
                rintro e w3 ⟨rfl, hb3⟩
                have hB3 := hB2.next hb3
                have hblk3 := blk_next hblk2 hb3
                clear hF
                go_wp2_with (refine wpList_store_blk rfl 24 24 (.tmp 6) (.tmp 60) rfl w.heap.size rfl #[.int .i64 j, .int .i64 n] rfl #[.int .i64 0, .int .i64 0] hblk3 (by kernel_rfl) rfl (by kernel_rfl) ?_; intro w4 hb4 hk4 hs4 hbel4)
                exact bodyPost_ret (results_cell_one rfl _ _ w.heap.size 24 #[.int .i64 j, .int .i64 n] (0, 0) _ rfl hb4 Tryd.underlying24 rfl (by kernel_rfl)) rfl (ev_good HR.out (hB3.trans hbel4) rfl)
              · have HR : Hid (evT t.data.toList true = .inl 11) := Lib.hid (HEV.out _ (by
                  rw [HK.out, HNT.out, if_neg hit]))
                have hbr : (Lib.itoa n == r) = false := by rw [beq_eq_false_iff_ne]; exact hit
                obtain ⟨y, hy⟩ := name_of (Lib.itoa n)
                rw [hy] at hF hbr
                clear hit hy
                go_wp2_with fail
                refine hF.mono ?_
                rintro e w3 ⟨rfl, hb3⟩
                have hB3 := hB2.next hb3
                clear hF
                go_wp2_with fail
                exact ⟨rfl, ev_bad HR.out hB3 rfl⟩
        | range =>
          obtain ⟨ev, hev, hev2⟩ := hpW.rng
          have hPI := Tryd.strconv_ParseInt_10_at64_range ⟨r.toArray⟩ (by show r.length ≤ _; omega) hpi ev W hev hev2
          have HR : Hid (evT t.data.toList whole = .inl 11) := Lib.hid (HEV.out _ (by
            rw [HK.out, numT_rng hpi]))
          obtain ⟨sat, hsat⟩ := name_of (Lib.intSat 64 r)
          rw [show (⟨r.toArray⟩ : ByteArray).data.toList = r from rfl, hsat] at hPI
          clear hpi hsat
          go_wp2_with fail
          refine hPI.mono ?_
          rintro e w2 ⟨N, rfl, -, -, hb2⟩
          have hB2 := hBW.next hb2
          clear hPI hW
          go_wp2_with fail
          exact ⟨rfl, ev_bad HR.out hB2 rfl⟩
        | _ =>
          obtain ⟨ev, hev, hev2⟩ := hpW.syn
          have hPI := Tryd.strconv_ParseInt_10_at64_syntax ⟨r.toArray⟩ (by show r.length ≤ _; omega) hpi ev W hev hev2
          have HR : Hid (evT t.data.toList whole = .inl 11) := Lib.hid (HEV.out _ (by
            rw [HK.out, numT_syn hpi]))
          clear hpi
          go_wp2_with fail
          refine hPI.mono ?_
          rintro e w2 ⟨N, rfl, -, -, hb2⟩
          have hB2 := hBW.next hb2
          clear hPI hW
          go_wp2_with fail
          exact ⟨rfl, ev_bad HR.out hB2 rfl⟩
      · have HF := Lib.hid hf
        have hbn : ((wordS j).toList == f) = false := by
          have := str_bne (s := wordS j) (t := ⟨f.toArray⟩) (fun e => hf (bs_inj e))
          rwa [bs_toList f] at this
        obtain ⟨x, hx⟩ := name_of (wordS j)
        rw [hx] at hW hbn
        clear hf hx
        go_wp2_with fail
        refine (hW _).mono ?_
        rintro e w2 ⟨rfl, rfl⟩
        go_wp2_with fail
        refine ⟨⟨j + 1, by omega, by go_num, fun i hi => ?_⟩, by simp [intOf]; omega⟩
        by_cases e : i = j
        · subst e; exact HF.out
        · exact HNO.out i (by omega)
    · have hj4 : j = 4 := by omega
      subst hj4
      have HK : Hid (evT t.data.toList whole = .inl 14) := Lib.hid (HEV.out _ (by rw [kindT_none (fun i hi => HNO.out i hi)]))
      go_wp2_with fail
      exact ⟨rfl, ev_bad HK.out hBq rfl⟩
end P21
end Go.Proofs.YtkobmoabnnjejaaDoor
