/- Table: number, walked. -/
import Derived.Test.YthpfoegmoldkgaaGreatDoorTb3
namespace Go.Proofs.YthpfoegmoldkgaaGreatDoor
open Go.RowKit
namespace P7
open CutL NumL PC

/-- What TableBack asks of the library's variables. -/
structure TL (w : World) : Prop where
  pow : Pow w
  max : ∃ m : Int, w.cell? ⟨1, 0, none⟩ = some (.int .i64 m)
  rng : ∃ ev, w.cell? ⟨5, 0, none⟩ = some ev ∧ (ev = .nilIface ∨ ∃ te pe, ev = .iface te pe)
theorem TL.next {w w' : World} (h : TL w) (hb : Below w.heap.size w w') : TL w' := by
  obtain ⟨h1, ⟨m, h2⟩, ⟨e', h4, h4'⟩⟩ := h
  exact ⟨h1.next hb, ⟨m, (hb.cell (World.block_lt_of_cell? _ _ h2)).trans h2⟩, ⟨e', (hb.cell (World.block_lt_of_cell? _ _ h4)).trans h4, h4'⟩⟩
theorem bsl_len (s : ByteArray) : s.data.toList.length = s.size := by simp
theorem bsl_head {s : ByteArray} (h : 0 < s.size) : s.data.toList.head? = some s[0] := by
  cases hl : s.data.toList with
  | nil => have : s.data.toList.length = s.size := bsl_len s
           rw [hl] at this; simp at this; omega
  | cons c r =>
    have : s.data.toList[0]'(by rw [hl]; simp) = s[0] := rfl
    rw [← this]
    simp [hl]
def digsB : ByteArray := ⟨#[48, 49, 50, 51, 52, 53, 54, 55, 56, 57]⟩
theorem dig_trim (s : ByteArray) : (Lib.trimS s.data.toList [48, 49, 50, 51, 52, 53, 54, 55, 56, 57] = []) ↔ s.data.toList.all isDig = true := by
  rw [trim_nil, List.all_eq_true]
  have hd : ∀ b : UInt8, isDig b = true ↔ b ∈ ([48, 49, 50, 51, 52, 53, 54, 55, 56, 57] : List UInt8) := by
    intro b
    have hall : ∀ n, n < 256 → (isDig (UInt8.ofNat n) = true ↔ UInt8.ofNat n ∈ ([48, 49, 50, 51, 52, 53, 54, 55, 56, 57] : List UInt8)) := by decide +kernel
    have := hall b.toNat b.toNat_lt
    rwa [UInt8.ofNat_toNat] at this
  constructor
  · intro h b hb
    have := h b hb
    rw [hd]
    simpa using this
  · intro h b hb
    have := (hd b).1 (h b hb)
    simpa using this
/-- What number answers: the number, or a code that is not 0. -/
def NumberPost (r : Option Int) (w : World) (e : Ending) (w' : World) : Prop := (match r with
  | some v => e = .returned (.tuple #[.int .i64 v, .int .i64 0])
  | none => ∃ c : Int, c ≠ 0 ∧ e = .returned (.tuple #[.int .i64 0, .int .i64 c])) ∧ Below w.heap.size w w'
theorem nu_none {r : Option Int} {c : Int} {w w' : World} {e : Ending} (h : r = none) (hc : c ≠ 0) (he : e = .returned (.tuple #[.int .i64 0, .int .i64 c])) (hb : Below w.heap.size w w') : NumberPost r w e w' := by
  unfold NumberPost; rw [h]; exact ⟨⟨c, hc, he⟩, hb⟩
theorem nu_some {r : Option Int} {v : Int} {w w' : World} {e : Ending} (h : r = some v) (he : e = .returned (.tuple #[.int .i64 v, .int .i64 0])) (hb : Below w.heap.size w w') : NumberPost r w e w' := by
  unfold NumberPost; rw [h]; exact ⟨he, hb⟩
theorem numT_ill {l : List UInt8} (h : ¬ wellN l) : numT l = none := by
  cases hn : numT l with
  | none => rfl
  | some n => exact absurd (numT_well hn) h
set_option maxRecDepth 10000 in
set_option maxHeartbeats 4000000 in
theorem number_walk (s : ByteArray) (hs : s.size ≤ 200000) (w : World) (hp : TL w) : Calls Tryz.prog 33 #[.string s] w (NumberPost (numT s.data.toList) w) := by
  obtain ⟨D, hD, hDs⟩ : ∃ D : ByteArray, (⟨(dropM s.data.toList).toArray⟩ : ByteArray) = D ∧ D.size ≤ 200000 := ⟨_, rfl, by
    show (dropM s.data.toList).length ≤ 200000
    have := bsl_len s
    unfold dropM Lib.trimPrefix
    split
    · rw [List.length_drop]; omega
    · omega⟩
  have hDl : D.data.toList = dropM s.data.toList := by rw [← hD]
  have hTP : ∀ W, Calls Tryz.prog 49 #[.string s, .string ⟨#[45]⟩] W fun e w' => e = .returned (.string D) ∧ w' = W := fun W => by
    rw [← hD]
    exact Tryz.strings_TrimPrefix s ⟨#[45]⟩ W
  have HP := Lib.hid hp
  rcases Nat.eq_zero_or_pos D.size with h0 | h0
  · have HR : Hid (numT s.data.toList = none) := Lib.hid (numT_ill fun h => h.1 (by rw [← hDl]; exact List.eq_nil_of_length_eq_zero (by rw [bsl_len]; exact h0)))
    have e0 := str_empty' h0
    have hbe : (D.toList == (⟨#[]⟩ : ByteArray).toList) = true := by rw [e0, str_empty' (c := ⟨#[]⟩) rfl]; rfl
    have hie : D.toList.isEmpty = true := by rw [e0]; rfl
    clear h0 hs e0 hD hDl hDs hp
    go_enter Tryz.func33, Tryz.ntmps33
    go_wp2_with fail
    refine (hTP _).mono ?_
    rintro e w1 ⟨rfl, rfl⟩
    go_wp2_with fail
    go_ret2
    exact nu_none HR.out (by decide) rfl (Below.refl _ _)
  · have hne : (D.toList == (⟨#[]⟩ : ByteArray).toList) = false := str_bne (fun h => by rw [h] at h0; exact absurd h0 (by decide))
    have hne2 := str_full' (c := D) (by omega)
    have hhd := bsl_head h0
    rw [hDl] at hhd
    obtain ⟨t, ht⟩ := name_of (Lib.trimS D.data.toList [48, 49, 50, 51, 52, 53, 54, 55, 56, 57])
    have hT : ∀ W, Calls Tryz.prog 50 #[.string D, .string ⟨#[48, 49, 50, 51, 52, 53, 54, 55, 56, 57]⟩] W fun e w' => e = .returned (.string ⟨t.toArray⟩) ∧ Below W.heap.size W w' := fun W => by
      rw [← ht]
      exact Any.strings_Trim_laid Tryz.lays160 (by kernel_rfl) D ⟨#[48, 49, 50, 51, 52, 53, 54, 55, 56, 57]⟩ W (by omega) (by decide) (ascii_of_all (by decide))
    have hdt := dig_trim D
    rw [ht, hDl] at hdt
    by_cases hz : D[0].toNat = 48 ∧ 1 < s.size
    · obtain ⟨hz1, hz2⟩ := hz
      have HR : Hid (numT s.data.toList = none) := Lib.hid (numT_ill fun h => h.2.1 ⟨by rw [hhd, ← UInt8.ofNat_toNat (x := D[0]), hz1]; rfl, by rw [bsl_len]; exact hz2⟩)
      have e1 : ((D[0].toNat : Int) == 48) = true := by rw [beq_iff_eq]; omega
      have e2 : decide (1 < (s.size : Int)) = true := by simp; omega
      clear hz1 hs hD hDl hDs hp hhd ht hT hdt
      go_enter Tryz.func33, Tryz.ntmps33
      go_wp2_with fail
      refine (hTP _).mono ?_
      rintro e w1 ⟨rfl, rfl⟩
      go_wp2_with fail
      go_ret2
      exact nu_none HR.out (by decide) rfl (Below.refl _ _)
    · have hwell : (dropM s.data.toList).all isDig = true → wellN s.data.toList := fun h => ⟨fun e => (by rw [e] at hhd; cases hhd), fun h2 => hz ⟨by
        have h3 := h2.1
        rw [hhd] at h3
        rw [Option.some.inj h3]; rfl, by have := h2.2; rwa [bsl_len] at this⟩, h⟩
      have key : ∀ b1 b2 : Bool, (b1 && b2) = false → ((D[0].toNat : Int) == 48) = b1 → decide (1 < (s.size : Int)) = b2 →
          Calls Tryz.prog 33 #[.string s] w (NumberPost (numT s.data.toList) w) := by
        intro b1 b2 hb e1 e2
        by_cases hall : (dropM s.data.toList).all isDig = true
        · have ht0 : t = [] := hdt.2 hall
          subst ht0
          have hb1 : ((⟨#[]⟩ : ByteArray).toList == (⟨#[]⟩ : ByteArray).toList) = true := str_beq _
          have hb0 : (⟨#[]⟩ : ByteArray).toList.isEmpty = true := by rw [str_empty' (c := ⟨#[]⟩) rfl]; rfl
          have hw := well_parse (hwell hall)
          cases hpi : Lib.parseIntB 64 s.data.toList with
          | ok v =>
            have hrange := parse_range hpi
            have HR : Hid (numT s.data.toList = some v) := Lib.hid (numT_iff.2 ⟨hw.2 v hpi, hrange⟩)
            have hPI := fun W => Tryz.strconv_ParseInt_10_at64_ok s (by omega) v hpi W
            clear hz hwell hall hdt ht hw hpi hhd hDl hD hDs hs hp
            cases b1 <;> cases b2 <;> first | cases hb | skip
            all_goals
              try clear hb
              go_enter Tryz.func33, Tryz.ntmps33
              go_wp2_with fail
              refine (hTP _).mono ?_
              rintro e w1 ⟨rfl, rfl⟩
              go_wp2_with fail
              refine (hT _).mono ?_
              rintro e w2 ⟨rfl, hb2⟩
              go_wp2_with fail
              refine (hPI _).mono ?_
              rintro e w3 ⟨rfl, hw3⟩
              have hb3 : Below w2.heap.size w2 w3 := by
                rcases hw3 with rfl | ⟨tt, rfl⟩
                · exact Below.refl _ _
                · exact Lib.bytesWorld_below _ _ _
              clear hw3
              go_wp2_with fail
              go_ret2
              exact nu_some HR.out rfl (hb2.next hb3)
          | range =>
            have HR : Hid (numT s.data.toList = none) := Lib.hid (by unfold numT; rw [hpi])
            have hPI : ∀ W, Below w.heap.size w W → Calls Tryz.prog 51 #[.string s, .int .i64 10, .int .i64 64] W fun e w' => ∃ N tp, e = .returned (.tuple #[.int .i64 (Lib.intSat 64 s.data.toList), .iface tp (.pointer (some ⟨N, 0, none⟩))]) ∧ Below W.heap.size W w' := fun W hW => by
              obtain ⟨ev, hev, hev2⟩ := (HP.out.next hW).rng
              refine (Tryz.strconv_ParseInt_10_at64_range s (by omega) hpi ev W hev hev2).mono ?_
              rintro e w' ⟨N, he, -, -, hb⟩
              exact ⟨N, _, he, hb⟩
            obtain ⟨sat, hsat⟩ := name_of (Lib.intSat 64 s.data.toList)
            rw [hsat] at hPI
            clear hz hwell hall hdt ht hw hpi hhd hDl hD hDs hs hp hsat
            cases b1 <;> cases b2 <;> first | cases hb | skip
            all_goals
              try clear hb
              go_enter Tryz.func33, Tryz.ntmps33
              go_wp2_with fail
              refine (hTP _).mono ?_
              rintro e w1 ⟨rfl, rfl⟩
              go_wp2_with fail
              refine (hT _).mono ?_
              rintro e w2 ⟨rfl, hb2⟩
              have hP2 := hPI _ hb2
              clear hPI
              go_wp2_with fail
              refine hP2.mono ?_
              rintro e w3 ⟨N, tp, rfl, hb3⟩
              go_wp2_with fail
              go_ret2
              exact nu_none HR.out (by decide) rfl (hb2.next hb3)
          | _ => exact absurd hpi hw.1
        · have HR : Hid (numT s.data.toList = none) := Lib.hid (numT_ill fun h => hall h.2.2)
          have ht0 : t ≠ [] := fun e => hall (hdt.1 e)
          have hsz : 0 < (⟨t.toArray⟩ : ByteArray).size := List.length_pos_iff.2 ht0
          obtain ⟨T, hTT⟩ := name_of (⟨t.toArray⟩ : ByteArray)
          rw [hTT] at hT hsz
          have hb1 : (T.toList == (⟨#[]⟩ : ByteArray).toList) = false := str_bne (fun h => by rw [h] at hsz; exact absurd hsz (by decide))
          have hb2 := str_full' (c := T) (by omega)
          clear hz hwell hall hdt ht hhd hDl hD hDs hs hp hTT ht0 hsz
          cases b1 <;> cases b2 <;> first | cases hb | skip
          all_goals
            try clear hb
            go_enter Tryz.func33, Tryz.ntmps33
            go_wp2_with fail
            refine (hTP _).mono ?_
            rintro e w1 ⟨rfl, rfl⟩
            go_wp2_with fail
            refine (hT _).mono ?_
            rintro e w2 ⟨rfl, hb2⟩
            go_wp2_with fail
            go_ret2
            exact nu_none HR.out (by decide) rfl hb2
      refine key _ _ ?_ rfl rfl
      by_cases h48 : D[0].toNat = 48
      · rw [decide_eq_false (p := 1 < (s.size : Int)) (by omega), Bool.and_false]
      · rw [show ((D[0].toNat : Int) == 48) = false from by rw [beq_eq_false_iff_ne]; omega, Bool.false_and]
end P7
end Go.Proofs.YthpfoegmoldkgaaGreatDoor
