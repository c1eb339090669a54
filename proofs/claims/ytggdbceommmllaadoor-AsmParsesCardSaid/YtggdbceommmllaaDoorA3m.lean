/- Asm, plain: what is written is read, and what is read was written so; a blank more. No walk. -/
import Derived.Test.YtggdbceommmllaaDoorA3lo
namespace Go.Proofs.YtggdbceommmllaaDoor
namespace P3
open P2 PC NumL CutL

theorem dec_short : ∀ (n a : Nat), 0 < n → a < 10 ^ n → (Lib.decDigits a).length ≤ n
  | 0, _, h, _ => absurd h (by omega)
  | n + 1, a, _, ha => by
    by_cases h10 : a < 10
    · rw [dec_one h10]; simp
    · rw [dec_more (by omega), List.length_append, List.length_singleton]
      have hn : 0 < n := by
        rcases Nat.eq_zero_or_pos n with h | h
        · subst h; simp at ha; omega
        · exact h
      have := dec_short n (a / 10) hn (by rw [Nat.pow_succ] at ha; omega)
      omega
theorem num_dec {a : Nat} (h : a < 1000000000000) : numA (Lib.decDigits a) = some (a : Int) := by
  obtain ⟨v1, v2, v3, v4⟩ := dec_val a
  have hl := dec_short 12 a (by omega) h
  rw [num_good v3 ?_ v2, if_neg (by omega), v1]
  rintro ⟨h1, h2⟩
  rw [v4 h1, dec_one (by omega)] at h2
  simp at h2
theorem num_inv {l : List UInt8} {v : Int} (h : numA l = some v) (hv : v < 1000000000000) : ∃ a : Nat, v = a ∧ Lib.decDigits a = l := by
  unfold numA at h
  split at h
  · cases h
  · rename_i hn
    have h0 : l ≠ [] := fun e => hn (.inl e)
    have hz : ¬ (l.head? = some 48 ∧ 1 < l.length) := fun e => hn (.inr (.inl e))
    have ha : l.all isDig = true := by
      cases he : l.all isDig with
      | true => rfl
      | false => exact absurd (.inr (.inr he)) hn
    split at h
    · injection h with h; omega
    · injection h with h
      refine ⟨valF 0 l, h.symm, dec_of _ l rfl h0 ha fun e => ?_⟩
      have : l.length ≠ 0 := fun e => h0 (List.eq_nil_of_length_eq_zero e)
      have : ¬ 1 < l.length := fun e2 => hz ⟨e, e2⟩
      omega
theorem kind_five {op k : Nat} (ho : op ≤ 16) (hk : k < 4) (h : form op k ≠ 110) : lo (kind op k) = 0 := by
  have hall : ∀ o, o < 17 → ∀ k, k < 4 → form o k ≠ 110 → lo (kind (o : Nat) k) = 0 := by decide
  exact hall op (by omega) k hk h
theorem kind_hi {op k : Nat} (ho : op ≤ 16) (hk : k < 4) : hi (kind op k) ≤ 2147483647 ∧ -2147483648 ≤ lo (kind op k) := by
  have hall : ∀ o, o < 17 → ∀ k, k < 4 → hi (kind (o : Nat) k) ≤ 2147483647 ∧ -2147483648 ≤ lo (kind (o : Nat) k) := by decide
  exact hall op (by omega) k hk
theorem kind_none {op k : Nat} (ho : op ≤ 16) (hk : k < 4) (h : form op k = 0) : lo (kind op k) = 0 ∧ hi (kind op k) = 0 := by
  have hall : ∀ o, o < 17 → ∀ k, k < 4 → form o k = 0 → lo (kind (o : Nat) k) = 0 ∧ hi (kind (o : Nat) k) = 0 := by decide
  exact hall op (by omega) k hk h
theorem form_256 {op k : Nat} (ho : op ≤ 16) (hk : k < 4) : form op k < 256 := by
  have hall : ∀ o, o < 17 → ∀ k, k < 4 → form o k < 256 := by decide
  exact hall op (by omega) k hk
theorem inR_iff {k x : Int} : inR k x = true ↔ lo k ≤ x ∧ x ≤ hi k := by unfold inR; exact decide_eq_true_iff
/-- An operand that is written is read. -/
theorem read_write {op k : Nat} (ho : op ≤ 16) (hk : k < 4) {x : Int} (hx : inR (kind op k) x = true) : readF (form op k) (writeF (form op k) x) = some x := by
  obtain ⟨h1, h2⟩ := inR_iff.1 hx
  have hh := kind_hi ho hk
  unfold readF writeF
  by_cases h110 : form op k = 110
  · rw [if_pos h110, if_pos h110]
    rcases itoa_parts x with ⟨a, rfl, e⟩ | ⟨a, ha, rfl, e⟩
    · rw [e, if_neg (dec_no45 a), num_dec (by omega)]
    · rw [e, List.head?_cons, if_pos rfl, List.tail_cons, num_dec (by omega)]
      exact if_neg (by omega)
  · rw [if_neg h110, if_neg h110, List.head?_cons, if_pos rfl, List.tail_cons]
    have h0 := kind_five ho hk h110
    obtain ⟨a, rfl⟩ := Int.eq_ofNat_of_zero_le (show 0 ≤ x by omega)
    rw [Lib.itoa_nonneg, num_dec (by omega)]
/-- What is read was written so. -/
theorem write_read {op k : Nat} (ho : op ≤ 16) (hk : k < 4) {w : List UInt8} {x : Int} (h : readF (form op k) w = some x) (hx : inR (kind op k) x = true) : w = writeF (form op k) x := by
  obtain ⟨h1, h2⟩ := inR_iff.1 hx
  have hh := kind_hi ho hk
  unfold readF at h
  unfold writeF
  by_cases h110 : form op k = 110
  · rw [if_pos h110] at h ⊢
    split at h
    · rename_i h45
      obtain ⟨r, rfl⟩ : ∃ r, w = 45 :: r := by
        cases w with
        | nil => cases h45
        | cons c r => simp only [List.head?_cons, Option.some.injEq] at h45; exact ⟨r, by rw [h45]⟩
      rw [List.tail_cons] at h
      cases hn : numA r with
      | none => rw [hn] at h; cases h
      | some v =>
        rw [hn] at h
        simp only at h
        split at h
        · cases h
        · injection h with h
          obtain ⟨a, rfl, e⟩ := num_inv hn (by omega)
          rw [← h, Lib.itoa_neg a (by omega), e]
    · obtain ⟨a, rfl, e⟩ := num_inv h (by omega)
      rw [Lib.itoa_nonneg, e]
  · rw [if_neg h110] at h ⊢
    split at h
    · rename_i hc
      obtain ⟨r, rfl⟩ : ∃ r, w = UInt8.ofNat (form op k) :: r := by
        cases w with
        | nil => cases hc
        | cons c r => simp only [List.head?_cons, Option.some.injEq] at hc; exact ⟨r, by rw [hc]⟩
      obtain ⟨a, rfl, e⟩ := num_inv h (by omega)
      rw [Lib.itoa_nonneg, e, List.tail_cons]
    · cases h

/-! ### No blank in words -/
theorem dig_no {c : UInt8} (h : isDig c = true) : c ≠ 32 ∧ c ≠ 10 := by
  have h := of_decide_eq_true h
  constructor <;> (rintro rfl; revert h; decide)
theorem dec_no (a : Nat) : ∀ c ∈ Lib.decDigits a, c ≠ 32 ∧ c ≠ 10 := fun c hc => dig_no (List.all_eq_true.1 (dec_val a).2.1 c hc)
theorem itoa_no (x : Int) : ∀ c ∈ Lib.itoa x, c ≠ 32 ∧ c ≠ 10 := by
  rcases itoa_parts x with ⟨a, rfl, e⟩ | ⟨a, ha, rfl, e⟩
  · rw [e]; exact dec_no a
  · rw [e]
    intro c hc
    rcases List.mem_cons.1 hc with rfl | hc
    · decide
    · exact dec_no a c hc
theorem form_no {op k : Nat} (ho : op ≤ 16) (hk : k < 4) : UInt8.ofNat (form op k) ≠ 32 ∧ UInt8.ofNat (form op k) ≠ 10 := by
  have hall : ∀ o, o < 17 → ∀ k, k < 4 → UInt8.ofNat (form o k) ≠ 32 ∧ UInt8.ofNat (form o k) ≠ 10 := by decide
  exact hall op (by omega) k hk
theorem write_no {op k : Nat} (ho : op ≤ 16) (hk : k < 4) (x : Int) : ∀ c ∈ writeF (form op k) x, c ≠ 32 ∧ c ≠ 10 := by
  unfold writeF
  split
  · exact itoa_no x
  · intro c hc
    rcases List.mem_cons.1 hc with rfl | hc
    · exact form_no ho hk
    · exact itoa_no x c hc
theorem name_no {op : Nat} (ho : op ≤ 16) : ∀ c ∈ nameL op, c ≠ 32 ∧ c ≠ 10 := by
  have hall : ∀ o, o < 17 → ∀ c ∈ nameL o, c ≠ 32 ∧ c ≠ 10 := by decide
  exact hall op (by omega)
theorem opers_no {op : Nat} (ho : op ≤ 16) (i : Ins) {ks : List Nat} (hk : ∀ k ∈ ks, k < 4) : ∀ w ∈ opersL op i ks, ∀ c ∈ w, c ≠ 32 ∧ c ≠ 10 := by
  intro w hw
  unfold opersL at hw
  obtain ⟨k, hk', hm⟩ := List.mem_flatMap.1 hw
  split at hm
  · cases hm
  · rw [List.mem_singleton] at hm
    subst hm
    exact write_no ho (hk k hk') _
theorem words_no {i : Ins} (ho : i.1.toNat ≤ 16) : ∀ w ∈ wordsL i, ∀ c ∈ w, c ≠ 32 ∧ c ≠ 10 := by
  intro w hw
  unfold wordsL at hw
  rcases List.mem_cons.1 hw with rfl | hw
  · exact name_no ho
  · exact opers_no ho i (by decide) w hw
theorem joinC_mem (c : UInt8) : ∀ (ws : List (List UInt8)) (x : UInt8), x ∈ joinC c ws → x = c ∨ ∃ w ∈ ws, x ∈ w
  | [], x, h => by cases h
  | [y], x, h => .inr ⟨y, by simp, h⟩
  | y :: z :: r, x, h => by
    rw [joinC] at h
    rcases List.mem_append.1 h with h | h
    · exact .inr ⟨y, by simp, h⟩
    · rcases List.mem_cons.1 h with h | h
      · exact .inl h
      · rcases joinC_mem c (z :: r) x h with h | ⟨w, hw, hx⟩
        · exact .inl h
        · exact .inr ⟨w, by simp only [List.mem_cons] at hw ⊢; exact .inr hw, hx⟩
theorem line_no {i : Ins} (ho : i.1.toNat ≤ 16) : (10 : UInt8) ∉ lineA i := by
  intro h
  rcases joinC_mem 32 _ _ h with h | ⟨w, hw, hx⟩
  · cases h
  · exact (words_no ho w hw 10 hx).2 rfl
theorem split_line {i : Ins} (ho : i.1.toNat ≤ 16) : splitC 32 (lineA i) = wordsL i :=
  split_join 32 _ (by unfold wordsL; simp) fun w hw h => (words_no ho w hw 32 h).1 rfl

/-! ### An instruction's text is read as it -/
theorem opers_len (op : Nat) (i : Ins) : (opersL op i [0, 1, 2, 3]).length = cntTo op 4 := by
  simp only [opersL, cntTo, List.flatMap_cons, List.flatMap_nil, List.append_nil, List.length_append]
  repeat' split
  all_goals simp
def part (i : Ins) (k : Nat) : Ins := (i.1, if 0 < k then i.2.1 else 0, if 1 < k then i.2.2.1 else 0, if 2 < k then i.2.2.2.1 else 0, if 3 < k then i.2.2.2.2 else 0)
theorem part_next (i : Ins) {k : Nat} (hk : k < 4) : setF (part i k) k (fl i k) = part i (k + 1) := by
  have h : k = 0 ∨ k = 1 ∨ k = 2 ∨ k = 3 := by omega
  rcases h with rfl | rfl | rfl | rfl <;> rfl
theorem part_same {i : Ins} {k : Nat} (hk : k < 4) (h : fl i k = 0) : part i k = part i (k + 1) := by
  rw [← part_next i hk, h]
  have hc : k = 0 ∨ k = 1 ∨ k = 2 ∨ k = 3 := by omega
  rcases hc with rfl | rfl | rfl | rfl <;> rfl
theorem opers_at (op : Nat) (i : Ins) {k : Nat} (hk : k < 4) : opersL op i ([0, 1, 2, 3].drop k) = (if form op k = 0 then [] else [writeF (form op k) (fl i k)]) ++ opersL op i ([0, 1, 2, 3].drop (k + 1)) := by
  have hc : k = 0 ∨ k = 1 ∨ k = 2 ∨ k = 3 := by omega
  rcases hc with rfl | rfl | rfl | rfl <;> rfl
theorem ops_step {op : Nat} (ho : op ≤ 16) {i : Ins} (h : ∀ k, k < 4 → inR (kind op k) (fl i k) = true) {k : Nat} (hk : k < 4) :
    opsR op ([0, 1, 2, 3].drop k) (opersL op i ([0, 1, 2, 3].drop k)) (part i k) = opsR op ([0, 1, 2, 3].drop (k + 1)) (opersL op i ([0, 1, 2, 3].drop (k + 1))) (part i (k + 1)) := by
  rw [opsR_at hk, opers_at op i hk]
  by_cases hf : form op k = 0
  · rw [if_pos hf, if_pos hf, List.nil_append]
    have := kind_none ho hk hf
    have := inR_iff.1 (h k hk)
    rw [part_same hk (by omega)]
  · rw [if_neg hf, if_neg hf, List.singleton_append, List.headD_cons, List.tail_cons, read_write ho hk (h k hk)]
    simp only
    rw [if_pos (h k hk), part_next i hk]
theorem read_line {i : Ins} (h : chk i = 0) : readA (lineA i) = .inr i := by
  obtain ⟨h1, h2⟩ := chk_zero h
  obtain ⟨op, hop, ho⟩ := op_nat h1
  have ht : i.1.toNat = op := by omega
  rw [hop] at h2
  unfold readA
  rw [split_line (by omega)]
  unfold readW wordsL
  rw [List.headD_cons, ht, opOf_some ho rfl]
  refine (if_pos (show (nameL op :: opersL op i [0, 1, 2, 3]).tail.length = countF op by rw [List.tail_cons, opers_len, cntF_to ho])).trans ?_
  rw [List.tail_cons]
  have e0 : ((op : Int), 0, 0, 0, 0) = part i 0 := by rw [← hop]; rfl
  have s0 := ops_step ho h2 (k := 0) (by omega)
  have s1 := ops_step ho h2 (k := 1) (by omega)
  have s2 := ops_step ho h2 (k := 2) (by omega)
  have s3 := ops_step ho h2 (k := 3) (by omega)
  rw [e0]
  refine s0.trans (s1.trans (s2.trans (s3.trans ?_)))
  rfl

/-! ### A text that is read is that instruction's -/
theorem fl_set (i : Ins) {k j : Nat} (hk : k < 4) (hj : j < 4) (v : Int) : fl (setF i k v) j = if j = k then v else fl i j := by
  have hc : k = 0 ∨ k = 1 ∨ k = 2 ∨ k = 3 := by omega
  have hd : j = 0 ∨ j = 1 ∨ j = 2 ∨ j = 3 := by omega
  rcases hc with rfl | rfl | rfl | rfl <;> rcases hd with rfl | rfl | rfl | rfl <;> rfl
theorem cnt_split (op k : Nat) : cntTo op (k + 1) = cntTo op k + if form op k = 0 then 0 else 1 := rfl
theorem ops_inv {op : Nat} (ho : op ≤ 16) : ∀ (n : Nat) (k : Nat) (ws : List (List UInt8)) (i j : Ins), n + k = 4 → ws.length + cntTo op k = cntTo op 4 → chk i = 0 → i.1 = op → opsR op ([0, 1, 2, 3].drop k) ws i = .inr j →
    chk j = 0 ∧ j.1 = op ∧ ws = opersL op j ([0, 1, 2, 3].drop k) ∧ ∀ m, m < k → fl j m = fl i m := by
  intro n
  induction n with
  | zero =>
    intro k ws i j hk hl hc hi h
    obtain rfl : k = 4 := by omega
    rw [opsR_end] at h
    injection h with h
    subst h
    exact ⟨hc, hi, List.eq_nil_of_length_eq_zero (by omega), fun _ _ => rfl⟩
  | succ n ih =>
    intro k ws i j hk hl hc hi h
    have hk4 : k < 4 := by omega
    rw [opsR_at hk4] at h
    have hct := cnt_split op k
    by_cases hf : form op k = 0
    · rw [if_pos hf] at h hct
      obtain ⟨r1, r2, r3, r4⟩ := ih (k + 1) ws i j (by omega) (by omega) hc hi h
      refine ⟨r1, r2, ?_, fun m hm => r4 m (by omega)⟩
      rw [opers_at op j hk4, if_pos hf, List.nil_append]
      exact r3
    · rw [if_neg hf] at h hct
      cases ws with
      | nil =>
        have := cntTo_mono op (j := k + 1) 4 (by omega)
        simp at hl
        omega
      | cons w ws =>
        rw [List.headD_cons, List.tail_cons] at h
        cases hr : readF (form op k) w with
        | none => rw [hr] at h; cases h
        | some v =>
          rw [hr] at h
          simp only at h
          by_cases hv : inR (kind op k) v = true
          · rw [if_pos hv] at h
            have hc2 := chk_set hc hi hk4 v
            rw [if_pos hv] at hc2
            obtain ⟨r1, r2, r3, r4⟩ := ih (k + 1) ws (setF i k v) j (by omega) (by simp at hl; omega) hc2 ((setF_op i k v).trans hi) h
            have hjk : fl j k = v := by rw [r4 k (by omega), fl_set i hk4 hk4, if_pos rfl]
            refine ⟨r1, r2, ?_, fun m hm => ?_⟩
            · rw [opers_at op j hk4, if_neg hf, List.singleton_append, ← r3, hjk, write_read ho hk4 hr hv]
            · rw [r4 m (by omega), fl_set i hk4 (by omega), if_neg (by omega)]
          · rw [if_neg hv] at h; cases h
theorem line_read {s : List UInt8} {j : Ins} (h : readA s = .inr j) : chk j = 0 ∧ lineA j = s := by
  unfold readA readW at h
  cases ho : opOf ((splitC 32 s).headD []) with
  | none => rw [ho] at h; cases h
  | some op =>
    rw [ho] at h
    simp only at h
    obtain ⟨ho1, ho2⟩ := opOf_ok ho
    split at h
    · rename_i hl
      rw [cntF_to ho1] at hl
      obtain ⟨r1, r2, r3, -⟩ := ops_inv ho1 4 0 (splitC 32 s).tail _ j rfl (by simpa [cntTo] using hl) (chk_start ho1) rfl h
      refine ⟨r1, ?_⟩
      unfold lineA wordsL
      rw [r2, Int.toNat_natCast]
      have e : nameL op :: opersL op j [0, 1, 2, 3] = splitC 32 s := by
        cases hs : splitC 32 s with
        | nil => exact absurd hs (splitC_ne 32 s)
        | cons x r =>
          rw [hs] at ho2 r3
          rw [show opersL op j [0, 1, 2, 3] = opersL op j ([0, 1, 2, 3].drop 0) from rfl, ← r3, ho2]
          rfl
      rw [e, join_split]
    · cases h

/-! ### A blank more -/
theorem split_head (c : UInt8) (a b : List UInt8) (h : c ∉ a) : (splitC c (a ++ c :: b)).headD [] = a := by rw [splitC_hit c a b h]; rfl
theorem count_line {i : Ins} (ho : i.1.toNat ≤ 16) : (lineA i).count 32 = cntTo i.1.toNat 4 := by
  have h := splitC_len 32 (lineA i)
  rw [split_line ho] at h
  unfold wordsL at h
  rw [List.length_cons, opers_len] at h
  omega
theorem line_start {i : Ins} : lineA i = nameL i.1.toNat ∨ ∃ t, lineA i = nameL i.1.toNat ++ 32 :: t := by
  unfold lineA wordsL
  cases opersL i.1.toNat i [0, 1, 2, 3] with
  | nil => exact .inl rfl
  | cons x r => exact .inr ⟨_, rfl⟩
theorem name_part {op at_ : Nat} (ho : op ≤ 16) (h : at_ < (nameL op).length) : opOf ((nameL op).take at_) = none := by
  have hall : ∀ o, o < 17 → ∀ k, k < 6 → k < (nameL o).length → opOf ((nameL o).take k) = none := by decide
  have := name_len op
  exact hall op (by omega) at_ (by omega) h
theorem readW_words {ws : List (List UInt8)} {op : Nat} (h1 : opOf (ws.headD []) = some op) (h2 : ws.tail.length ≠ countF op) : readW ws = .inl 11 := by
  unfold readW
  rw [h1]
  simp only
  rw [if_neg h2]
/-- With a blank put in, anywhere, an instruction's text is read no more. -/
theorem blank_line {i : Ins} (h : chk i = 0) (at_ : Nat) (ha : at_ ≤ (lineA i).length) : readA ((lineA i).take at_ ++ 32 :: (lineA i).drop at_) = .inl 14 ∨ readA ((lineA i).take at_ ++ 32 :: (lineA i).drop at_) = .inl 11 := by
  obtain ⟨h1, h2⟩ := chk_zero h
  obtain ⟨op, hop, ho⟩ := op_nat h1
  have ht : i.1.toNat = op := by omega
  have hc := count_line (i := i) (by omega)
  have hs := line_start (i := i)
  rw [ht] at hc hs
  have hno : (32 : UInt8) ∉ nameL op := fun e => (name_no ho 32 e).1 rfl
  have hle : (nameL op).length ≤ (lineA i).length := by
    rcases hs with e | ⟨t, e⟩ <;> rw [e] <;> simp
  have htk : ∀ n, n ≤ (nameL op).length → (lineA i).take n = (nameL op).take n := by
    intro n hn
    rcases hs with e | ⟨t, e⟩
    · rw [e]
    · rw [e, List.take_append_of_le_length hn]
  by_cases hlt : at_ < (nameL op).length
  · left
    unfold readA readW
    rw [split_head, htk at_ (by omega), name_part ho hlt]
    rw [htk at_ (by omega)]
    exact fun e => hno (List.mem_of_mem_take e)
  · right
    have hhead : (splitC 32 ((lineA i).take at_ ++ 32 :: (lineA i).drop at_)).headD [] = nameL op := by
      obtain ⟨m, rfl⟩ : ∃ m, at_ = (nameL op).length + m := ⟨at_ - (nameL op).length, by omega⟩
      rcases hs with e | ⟨t, e⟩
      · rw [e] at ha ⊢
        obtain rfl : m = 0 := by omega
        rw [Nat.add_zero, List.take_length, split_head 32 _ _ hno]
      · rw [e, List.take_append, List.take_of_length_le (Nat.le_add_right _ _), Nat.add_sub_cancel_left]
        cases m with
        | zero => rw [List.take_zero, List.append_nil, split_head 32 _ _ hno]
        | succ m => rw [List.take_succ_cons, List.append_assoc, List.cons_append, split_head 32 _ _ hno]
    have hlen : (splitC 32 ((lineA i).take at_ ++ 32 :: (lineA i).drop at_)).length = cntTo op 4 + 2 := by
      rw [splitC_len, List.count_append, List.count_cons_self]
      have := List.count_append (a := (32 : UInt8)) (l₁ := (lineA i).take at_) (l₂ := (lineA i).drop at_)
      rw [List.take_append_drop, hc] at this
      omega
    unfold readA
    refine readW_words (op := op) (by rw [hhead]; exact opOf_some ho rfl) ?_
    rw [List.length_tail, hlen, cntF_to ho]
    omega
end P3
end Go.Proofs.YtggdbceommmllaaDoor
