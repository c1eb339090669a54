/- Asm: the reference's Line. -/
import Derived.Test.YtggdbceommmllaaDoorA3g
namespace Go.Proofs.YtggdbceommmllaaDoor
open Go.RowKit
namespace P3
open P2 PC NumL CutL

section
variable {P : Program} {ops : Array Oper} {Q : Exit → Act → World → Prop} {md : Region.Mode} {S S' : World → Prop}
/-- A stronger condition for the rest of a region. -/
theorem wpAnyH_strong (h : ∀ w, S' w → S w) : ∀ (fuel : Nat) (listed : Array Bool) (a : Act) (w : World), wpAnyH P md ops Q S' fuel listed a w → wpAnyH P md ops Q S fuel listed a w
  | 0, _, _, _, k => k
  | fuel + 1, _, _, _, k => ⟨k.1, fun i hi => wpOp_mono (fun a' w' h' => ⟨h w' h'.1, wpAnyH_strong h fuel _ a' w' h'.2⟩) (k.2 i hi)⟩
end
/-- What stands at a place of an operand's forms. -/
def fc (op k : Nat) : Nat := if form op k = 0 then 32 else form op k
theorem fc_256 {op k : Nat} (ho : op ≤ 16) (hk : k < 4) : fc op k < 256 := by
  have hall : ∀ o, o < 17 → ∀ k, k < 4 → fc o k < 256 := by decide
  exact hall op (by omega) k hk
theorem fc_110 {op k : Nat} (ho : op ≤ 16) (hk : k < 4) : (fc op k = 110 ↔ form op k = 110) ∧ (fc op k = 32 ↔ form op k = 0) := by
  have hall : ∀ o, o < 17 → ∀ k, k < 4 → (fc o k = 110 ↔ form o k = 110) ∧ (fc o k = 32 ↔ form o k = 0) := by decide
  exact hall op (by omega) k hk
theorem fs_size {op : Nat} (ho : op ≤ 16) : (fsS op).size = 4 := by
  have hall : ∀ o, o < 17 → (fsS o).size = 4 := by decide
  exact hall op (by omega)
theorem fs_at {op k : Nat} (ho : op ≤ 16) (hk : k < 4) (h : k < (fsS op).size) : ((fsS op)[k]).toNat = fc op k ∧ (fsS op).extract k (k + 1) = ⟨#[UInt8.ofNat (fc op k)]⟩ := by
  have hall : ∀ o, o < 17 → ∀ k, k < 4 → ∀ h : k < (fsS o).size, ((fsS o)[k]).toNat = fc o k ∧ (fsS o).extract k (k + 1) = ⟨#[UInt8.ofNat (fc o k)]⟩ := by decide +kernel
  exact hall op (by omega) k hk h
abbrev RlS (B op : Nat) (w1 W : World) : Prop := Below w1.heap.size w1 W ∧ W.cell? ⟨B, 0, none⟩ = some (.int .i64 op)
theorem RlS.nx {B op : Nat} {w1 W W' : World} (hb : Below W.heap.size W W') (h : RlS B op w1 W) (hlt : B < w1.heap.size) : RlS B op w1 W' :=
  ⟨h.1.next hb, (hb.cell (p := ⟨B, 0, none⟩) (Nat.lt_of_lt_of_le hlt h.1.size)).trans h.2⟩
theorem RlS.al {B op : Nat} {w1 W : World} {o : Obj} (h : RlS B op w1 W) (hlt : B < w1.heap.size) : RlS B op w1 (W.alloc o) := RlS.nx ((Below.refl _ _).alloc (Nat.le_refl _) o) h hlt
theorem RlS.al2 {B op : Nat} {w1 : World} {o : Obj} (h : RlS B op w1 w1.drew) (hlt : B < w1.heap.size) : RlS B op w1 (w1.alloc o).drew := RlS.al (W := w1.drew) (o := o) h hlt
set_option maxRecDepth 10000 in
set_option maxHeartbeats 8000000 in
theorem refLine_any (op : Nat) (ho : op ≤ 16) (a b c n : Int) (hwf : InsWf ((op : Int), a, b, c, n)) (hlo : ∀ k, k < 4 → -9223372036854775807 ≤ fl ((op : Int), a, b, c, n) k) (hpos : ∀ k, k < 4 → form op k ≠ 110 → 0 ≤ fl ((op : Int), a, b, c, n) k) (w : World) :
    Calls Tryd.prog 15 #[insV ((op : Int), a, b, c, n)] w fun e w' => e = .returned (.string ⟨(lineA ((op : Int), a, b, c, n)).toArray⟩) ∧ Below w.heap.size w w' := by
  rw [lineA_wTo (i := ((op : Int), a, b, c, n)) (op := op) rfl]
  have HWF := Lib.hid hwf
  have HLO := Lib.hid hlo
  have HPO := Lib.hid hpos
  unfold insV
  dsimp only
  clear hwf hlo hpos
  have hS : RlS w.heap.size op (w.alloc (.cells #[.int .i64 op, .int .i64 a, .int .i64 b, .int .i64 c, .int .i64 n] 33)) (w.alloc (.cells #[.int .i64 op, .int .i64 a, .int .i64 b, .int .i64 c, .int .i64 n] 33)).drew := ⟨below_drew', by simp⟩
  go_enter Tryd.func15, Tryd.ntmps15
  go_wp2_with fail
  have hna : ∀ W : World, (W.alloc (.cells namesC 9)).cell? ⟨W.heap.size, op, none⟩ = some (.string (nameS op)) := fun W => by rw [World.cell?_alloc_at _ _ _ _ rfl]; exact names_at op ho
  obtain ⟨W0, hW0⟩ := name_of (w.alloc (.cells #[.int .i64 op, .int .i64 a, .int .i64 b, .int .i64 c, .int .i64 n] 33))
  have hlt0 : w.heap.size < W0.heap.size := by rw [← hW0]; simp
  have hB0 : Below w.heap.size w W0 := by rw [← hW0]; go_grown
  rw [hW0] at hS ⊢
  refine wp_region_held_drew (S := (fun W => RlS w.heap.size op W0 W)) (by kernel_rfl) hS (fun hH => ?_)
  refine wpAnyH_take (i := 1) (v := .pointer (some ⟨w.heap.size, 0, none⟩)) rfl (by kernel_rfl) (by kernel_rfl) (by kernel_rfl) (fun _ _ _ h => h) (Or.inl ⟨by rfl, fun W hS => ?_⟩) hH ?_
  · clear hS
    go_simp
  try simp only [Act.put]
  try simp only [List.setIfInBounds_toArray]
  refine wpAnyH_take (i := 2) (v := .int .i64 op) rfl (by kernel_rfl) (by kernel_rfl) (by kernel_rfl) (fun _ _ _ h => h) (Or.inl ⟨by rfl, fun W hS => ?_⟩) hH ?_
  · obtain ⟨-, hS⟩ := hS
    go_simp
  try simp only [Act.put]
  try simp only [List.setIfInBounds_toArray]
  refine wpAnyH_ready (rs := [0]) (by kernel_rfl) (by simp) (AllReadyH.cons rfl (fun K hK => ?_) AllReadyH.nil)
  go_simp
  refine (refNames_any _).mono ?_
  rintro e w3 ⟨rfl, rfl⟩
  refine hK.out _ _ (RlS.al hH hlt0) (fun hH => ?_)
  clear hK K
  try simp only [Act.put]
  try simp only [List.setIfInBounds_toArray]
  have hH2 := And.intro hH (show (W0.drew.alloc (.cells namesC 9)).cell? ⟨W0.heap.size, op, none⟩ = some (.string (nameS op)) from hna W0.drew)
  refine wpAnyH_strong (S' := fun W => RlS w.heap.size op W0 W ∧ W.cell? ⟨W0.heap.size, op, none⟩ = some (.string (nameS op))) (fun _ h => h.1) _ _ _ _ ?_
  clear hH
  have hH := hH2
  clear hH2
  refine wpAnyH_take (i := 3) (v := .pointer (some ⟨W0.heap.size, op, none⟩)) rfl (by kernel_rfl) (by kernel_rfl) (by kernel_rfl) (fun _ _ _ h => h) (Or.inl ⟨by rfl, fun W hS => ?_⟩) hH ?_
  · clear hS
    go_simp
    intro h5
    omega
  try simp only [Act.put]
  try simp only [List.setIfInBounds_toArray]
  refine wpAnyH_take (i := 4) (v := .string (nameS op)) rfl (by kernel_rfl) (by kernel_rfl) (by kernel_rfl) (fun _ _ _ h => h) (Or.inl ⟨by rfl, fun W hS => ?_⟩) hH ?_
  · obtain ⟨-, hS⟩ := hS
    go_simp
  try simp only [Act.put]
  try simp only [List.setIfInBounds_toArray]
  refine wpAnyH_take (i := 5) (v := .string (nameS op)) rfl (by kernel_rfl) (by kernel_rfl) (by kernel_rfl) (fun _ _ _ h => h) (Or.inl ⟨by rfl, fun W hS => ?_⟩) hH ?_
  · clear hS
    go_simp
  try simp only [Act.put]
  try simp only [List.setIfInBounds_toArray]
  refine wpAnyH_done (by kernel_rfl) ?_ _
  obtain ⟨W1, hW1⟩ := name_of (W0.drew.alloc (.cells namesC 9))
  have hb1 : Below W0.heap.size W0 W1 := by rw [← hW1]; exact hH.1.1
  have hB1 := hB0.next hb1
  have e1 : W0.cell? ⟨w.heap.size, 1, none⟩ = some (.int .i64 a) := by rw [← hW0]; simp
  have e2 : W0.cell? ⟨w.heap.size, 2, none⟩ = some (.int .i64 b) := by rw [← hW0]; simp
  have e3 : W0.cell? ⟨w.heap.size, 3, none⟩ = some (.int .i64 c) := by rw [← hW0]; simp
  have e4 : W0.cell? ⟨w.heap.size, 4, none⟩ = some (.int .i64 n) := by rw [← hW0]; simp
  have e0 : W0.cell? ⟨w.heap.size, 0, none⟩ = some (.int .i64 op) := by rw [← hW0]; simp
  have c0 := (hb1.cell (p := ⟨w.heap.size, 0, none⟩) hlt0).trans e0
  have c1 := (hb1.cell (p := ⟨w.heap.size, 1, none⟩) hlt0).trans e1
  have c2 := (hb1.cell (p := ⟨w.heap.size, 2, none⟩) hlt0).trans e2
  have c3 := (hb1.cell (p := ⟨w.heap.size, 3, none⟩) hlt0).trans e3
  have c4 := (hb1.cell (p := ⟨w.heap.size, 4, none⟩) hlt0).trans e4
  rw [hW1]
  clear e0 e1 e2 e3 e4 hH hna hW1 hW0 hS
  have hFo := refForms_any op ho W1
  have hfz := fs_size ho
  have HFA := Lib.hid (fun k hk h => fs_at (op := op) (k := k) ho hk h)
  obtain ⟨F, hF⟩ := name_of (fsS op)
  have HFS := Lib.hid hF
  rw [hF] at hFo hfz
  clear hF
  obtain ⟨i, hi⟩ := name_of ((op : Int), a, b, c, n)
  rw [hi] at HWF HLO HPO
  have HI := Lib.hid hi
  clear hi
  go_wp2_with fail
  refine hFo.mono ?_
  rintro e w2 ⟨rfl, rfl⟩
  clear hFo
  go_wp2_with fail
  have hsz1 : w.heap.size < w2.heap.size := Nat.lt_of_lt_of_le hlt0 hb1.size
  have hB2 := hB1.alloc hB1.size (.cells #[.int .i64 a, .int .i64 b, .int .i64 c, .int .i64 n] 73)
  obtain ⟨W4, hW4⟩ := name_of (w2.alloc (.cells #[.int .i64 a, .int .i64 b, .int .i64 c, .int .i64 n] 73))
  have HX : Hid (∀ k, k < 4 → W4.cell? ⟨w2.heap.size, k, none⟩ = some (.int .i64 (fl i k))) := Lib.hid (by
    rw [← hW4]
    refine four ?_ ?_ ?_ ?_
    all_goals (rw [World.cell?_alloc_at _ _ _ _ rfl, ← HI.out]; rfl)
    )
  rw [hW4] at hB2 ⊢
  clear hW4 c0 c1 c2 c3 c4 hB1 hb1
  go_loopw [3, 6] (fun o x wr => ∃ k q : Nat, k ≤ 4 ∧ x = .int .i64 k ∧ o = .string ⟨(joinC 32 (wTo op i k)).toArray⟩ ∧ wr = W4.drewN q) (fun _ x _ => 4 - (intOf x).toNat)
  case atStart => exact ⟨0, 0, by omega, rfl, rfl, rfl⟩
  case round =>
    obtain ⟨k, q, hk, rfl, rfl, hwr⟩ := hrel
    have HWR := Lib.hid hwr
    have hcx : ∀ v, W4.cell? ⟨w2.heap.size, k, none⟩ = some v → wr.cell? ⟨w2.heap.size, k, none⟩ = some v := fun v h => by rw [hwr]; exact h
    have hBr : Below W4.heap.size W4 wr := by rw [hwr]; exact below_drewn q
    clear hwr
    have hjl := joinC_len 32 (wTo op i k) (wTo_words op HWF.out k)
    have hjw := wTo_len op i k
    have hj2 : (joinC 32 (wTo op i k)).length ≤ 115 := by
      have := Nat.mul_le_mul_right 23 hjw.2
      omega
    obtain ⟨o, ho1, ho2⟩ := let_ (joinC 32 (wTo op i k)) 115 hj2
    have HO := Lib.hid ho1
    rw [ho1]
    clear ho1 hjl hj2
    by_cases hlt : k < 4
    · have hx := hcx _ (HX.out k hlt)
      have HSU := Lib.hid (wTo_succ op i k)
      obtain ⟨fk1, fk2⟩ := HFA.out k hlt (by rw [HFS.out]; omega)
      have hfc := fc_256 ho hlt
      obtain ⟨g1, g2⟩ := fc_110 ho hlt
      have hxb := HWF.out.f k
      have hxl := HLO.out k hlt
      have hxp := HPO.out k hlt
      obtain ⟨x, hxx⟩ := name_of (fl i k)
      rw [hxx] at hx HSU hxb hxl hxp
      obtain ⟨f, hf⟩ := name_of (form op k)
      have hff := Lib.hid hf
      rw [hf] at HSU g1 g2 hxp
      have hkF : k < F.size := by omega
      have hFk : F[k].toNat = fc op k := by
        have := HFS.out
        subst this
        exact fk1
      have hFe : F.extract k (k + 1) = ⟨#[UInt8.ofNat (fc op k)]⟩ := by rw [← HFS.out]; exact fk2
      obtain ⟨cc, hcc⟩ := name_of (fc op k)
      have hcc0 := Lib.hid hcc.symm
      rw [hcc] at hfc g1 g2 hFk hFe
      clear hxx hf hcc fk1 fk2 hcx
      by_cases h110 : cc = 110
      · have hf110 : f = 110 := g1.1 h110
        have z0 : ((F[k].toNat : Int) == 110) = true := by rw [beq_iff_eq]; omega
        have hN := fun W => refNumber_any x hxl hxb.2 W
        have hl := Lib.itoa_length_le x hxb.1 hxb.2
        obtain ⟨y, hy, hys⟩ := let_ (Lib.itoa x) 21 hl
        obtain ⟨s1, a1, y1⟩ := cat_ o ⟨#[32]⟩ 115 1 ho2 (by decide)
        obtain ⟨s2, a2⟩ := name_of (s1 ++ y)
        have n1 : ¬ (9223372036854775807 < o.size + 1) := by omega
        have n2 : ¬ (9223372036854775807 < s1.size + y.size) := by omega
        have HNX : Hid (s2 = ⟨(joinC 32 (wTo op i (k + 1))).toArray⟩) := Lib.hid (by
          rw [HSU.out, if_neg (by omega), joinC_snoc _ _ _ (fun e => by have := hjw.1; rw [e] at this; simp at this), ← a2, ← a1, ← HO.out, ← hy, hf110]
          unfold writeF
          rw [if_pos rfl, show (⟨#[32]⟩ : ByteArray) = ⟨[(32 : UInt8)].toArray⟩ from rfl, bs_append, bs_append]
          simp)
        rw [hy] at hN
        clear hy hl g1 g2 h110 hf110 hFe hFk
        go_wp2_with fail
        refine (hN _).mono ?_
        rintro e w5 ⟨rfl, q5, hw5⟩
        go_wp2_with fail
        exact ⟨⟨k + 1, q + q5, by omega, by go_num, by rw [HNX.out], by rw [HWR.out]; exact World.drewN_drewN _ _ _⟩, by simp [intOf]; omega⟩
      · have z0 : ((F[k].toNat : Int) == 110) = false := by rw [beq_eq_false_iff_ne]; omega
        by_cases h32 : cc = 32
        · have hf0 : f = 0 := g2.1 h32
          have z1 : ((F[k].toNat : Int) == 32) = true := by rw [beq_iff_eq]; omega
          have HNX : Hid (o = ⟨(joinC 32 (wTo op i (k + 1))).toArray⟩) := Lib.hid (by rw [HSU.out, if_pos hf0, List.append_nil, HO.out])
          clear g1 g2 h110 h32 hf0 hFe hFk
          go_wp2_with fail
          exact ⟨⟨k + 1, q, by omega, by go_num, by rw [HNX.out], HWR.out⟩, by simp [intOf]; omega⟩
        · have z1 : ((F[k].toNat : Int) == 32) = false := by rw [beq_eq_false_iff_ne]; omega
          have hf0 : f ≠ 0 := fun e => h32 (g2.2 e)
          have hf110 : f ≠ 110 := fun e => h110 (g1.2 e)
          have hx0 := hxp hf110
          obtain ⟨X, rfl⟩ := Int.eq_ofNat_of_zero_le hx0
          have hX : X ≤ 9223372036854775807 := by have := hxb.2; omega
          have hcf : cc = f := by rw [hcc0.out]; unfold fc; rw [if_neg (by rw [hff.out]; exact hf0), hff.out]
          have hN := fun W => refNumeral_any X hX W
          have hl := dec_len X hX
          have hni := Lib.itoa_nonneg X
          obtain ⟨y, hy, hys⟩ := let_ (Lib.decDigits X) 21 hl
          obtain ⟨s1, a1, y1⟩ := cat_ o ⟨#[32]⟩ 115 1 ho2 (by decide)
          obtain ⟨s2, a2, y2⟩ := cat_ s1 ⟨#[UInt8.ofNat cc]⟩ 116 1 (by omega) (Nat.le_refl 1)
          obtain ⟨s3, a3⟩ := name_of (s2 ++ y)
          have n1 : ¬ (9223372036854775807 < o.size + 1) := by omega
          have n2 : ¬ (9223372036854775807 < s1.size + 1) := by omega
          have n3 : ¬ (9223372036854775807 < s2.size + y.size) := by omega
          have HNX : Hid (s3 = ⟨(joinC 32 (wTo op i (k + 1))).toArray⟩) := Lib.hid (by
            rw [HSU.out, if_neg (by omega), joinC_snoc _ _ _ (fun e => by have := hjw.1; rw [e] at this; simp at this), ← a3, ← a2, ← a1, ← HO.out, ← hy, hcf]
            unfold writeF
            rw [if_neg hf110, show (⟨#[32]⟩ : ByteArray) = ⟨[(32 : UInt8)].toArray⟩ from rfl, show (⟨#[UInt8.ofNat f]⟩ : ByteArray) = ⟨[UInt8.ofNat f].toArray⟩ from rfl, bs_append, bs_append, bs_append]
            simp [hni])
          rw [hy] at hN
          obtain ⟨sc, hsc⟩ := name_of (⟨#[UInt8.ofNat cc]⟩ : ByteArray)
          rw [hsc] at hFe a2
          have hscz : sc.size = 1 := by rw [← hsc]; rfl
          clear hy hl g1 g2 h110 hf110 hf0 hcf hsc hni
          go_wp2_with fail
          go_quiet ((go_at_call 36; exact Calls.quiet_of (hN _)))
          go_wp2_with fail
          refine ⟨⟨k + 1, ?_, ?_, ?_, ?_, ?_⟩, ?_⟩
          rotate_left
          · omega
          · go_num
          · rw [HNX.out]
          · rw [HWR.out]; exact World.drewN_drewN _ _ _
          · simp [intOf]; omega
    · obtain rfl : k = 4 := by omega
      go_wp2_with fail
      go_ret
      exact ⟨ret_bs (by rw [← HO.out, HI.out]), hB2.next hBr⟩
end P3
end Go.Proofs.YtggdbceommmllaaDoor
