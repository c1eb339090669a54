/- Asm, plain: a program's text, and the program of a text. No walk. -/
import Derived.Test.YtggdbceommmllaaDoorA3m
import Derived.Test.YtggdbceommmllaaDoorP3
namespace Go.Proofs.YtggdbceommmllaaDoor
namespace P3
open P2 PC NumL CutL

abbrev Fn := P2.Fn
def fnL : List UInt8 := [102, 117, 110, 99]
def needsL : List UInt8 := [110, 101, 101, 100, 115]
def headL (k : Nat) (m : Int) : List UInt8 := joinC 32 [fnL, Lib.itoa k, needsL, Lib.itoa m]
def codeL (l : List Ins) : List UInt8 := l.flatMap fun i => lineA i ++ [10]
def fnT (k : Nat) (f : Fn) : List UInt8 := headL k f.1 ++ [10] ++ codeL f.2
/-- A program's text, from its function k on. -/
def printL : Nat → List Fn → List UInt8
  | _, [] => []
  | k, f :: r => fnT k f ++ printL (k + 1) r
/-- How many instructions the last function has. -/
def lastN (p : List Fn) : Nat := ((p.getLast?).map fun f => f.2.length).getD 0
def headT (ws : List (List UInt8)) (p : List Fn) : Int ⊕ Int :=
  if ws.length ≠ 4 ∨ ws.getD 2 [] ≠ needsL then .inl 11 else match numA (ws.getD 1 []), numA (ws.getD 3 []) with
  | some k, some m => if 32 ≤ p.length ∨ (0 < p.length ∧ lastN p = 0) then .inl 12 else if k ≠ p.length ∨ 255 < m then .inl 10 else .inr m
  | _, _ => .inl 11
def pushL (p : List Fn) (i : Ins) : List Fn := match p.getLast? with
  | none => p
  | some f => p.dropLast ++ [(f.1, f.2 ++ [i])]
def lineT (x : List UInt8) (p : List Fn) : Int ⊕ List Fn :=
  if (splitC 32 x).headD [] = fnL then (match headT (splitC 32 x) p with
    | .inl e => .inl e
    | .inr m => .inr (p ++ [(m, [])]))
  else if p = [] then .inl 11 else match readA x with
    | .inl e => .inl e
    | .inr i => if 128 ≤ lastN p then .inl 12 else .inr (pushL p i)
def parseL : List (List UInt8) → Nat → List Fn → List Fn × Nat × Int
  | [], n, _ => ([], n, 11)
  | [x], n, p => if x ≠ [] then ([], n + 1, 11) else if lastN p = 0 then ([], n + 1, 12) else (p, 0, 0)
  | x :: y :: r, n, p => match lineT x p with
    | .inl e => ([], n + 1, e)
    | .inr q => parseL (y :: r) (n + 1) q
def parseA (s : List UInt8) : List Fn × Nat × Int := if 131072 < s.length then ([], 0, 12) else parseL (splitC 10 s) 0 []

/-! ### Words of heads -/
theorem fn_no : ∀ c ∈ fnL, c ≠ 32 ∧ c ≠ 10 := by decide
theorem needs_no : ∀ c ∈ needsL, c ≠ 32 ∧ c ≠ 10 := by decide
theorem head_words (k : Nat) (m : Int) : ∀ w ∈ [fnL, Lib.itoa k, needsL, Lib.itoa m], ∀ c ∈ w, c ≠ 32 ∧ c ≠ 10 := by
  intro w hw
  simp only [List.mem_cons, List.not_mem_nil, or_false] at hw
  rcases hw with rfl | rfl | rfl | rfl
  · exact fn_no
  · exact itoa_no _
  · exact needs_no
  · exact itoa_no _
theorem split_headL (k : Nat) (m : Int) : splitC 32 (headL k m) = [fnL, Lib.itoa k, needsL, Lib.itoa m] :=
  split_join 32 _ (by simp) fun w hw h => (head_words k m w hw 32 h).1 rfl
theorem headL_no (k : Nat) (m : Int) : (10 : UInt8) ∉ headL k m := by
  intro h
  rcases joinC_mem 32 _ _ h with h | ⟨w, hw, hx⟩
  · cases h
  · exact (head_words k m w hw 10 hx).2 rfl
theorem name_fn {op : Nat} (ho : op ≤ 16) : nameL op ≠ fnL := by
  have hall : ∀ o, o < 17 → nameL o ≠ fnL := by decide
  exact hall op (by omega)
theorem opOf_fn : opOf fnL = none := by decide

/-! ### What one line does -/
theorem line_head {p : List Fn} {m : Int} (h0 : 0 ≤ m) (h1 : m ≤ 255) (hp : p.length < 32) (hl : p = [] ∨ lastN p ≠ 0) : lineT (headL p.length m) p = .inr (p ++ [(m, [])]) := by
  have hh : headT [fnL, Lib.itoa p.length, needsL, Lib.itoa m] p = .inr m := by
    obtain ⟨a, rfl⟩ := Int.eq_ofNat_of_zero_le h0
    unfold headT
    rw [if_neg (by simp)]
    simp only [List.getD_cons_succ, List.getD_cons_zero]
    rw [Lib.itoa_nonneg, Lib.itoa_nonneg, num_dec (by omega), num_dec (by omega)]
    simp only
    rw [if_neg ?_, if_neg (by omega)]
    rintro (h | ⟨h, h2⟩)
    · omega
    · rcases hl with rfl | hl
      · simp at h
      · exact hl h2
  unfold lineT
  rw [split_headL, List.headD_cons, if_pos rfl, hh]
theorem line_ins {p : List Fn} {i : Ins} (hi : chk i = 0) (hp : p ≠ []) (hl : lastN p < 128) : lineT (lineA i) p = .inr (pushL p i) := by
  obtain ⟨h1, h2⟩ := chk_zero hi
  obtain ⟨op, hop, ho⟩ := op_nat h1
  unfold lineT
  rw [split_line (by omega)]
  unfold wordsL
  rw [List.headD_cons, if_neg (name_fn (by omega)), if_neg hp, read_line hi]
  simp only
  rw [if_neg (by omega)]
theorem lastN_snoc (p : List Fn) (f : Fn) : lastN (p ++ [f]) = f.2.length := by simp [lastN]
theorem pushL_snoc (p : List Fn) (f : Fn) (i : Ins) : pushL (p ++ [f]) i = p ++ [(f.1, f.2 ++ [i])] := by simp [pushL]
/-- What a line that is taken leaves. -/
theorem line_inv {x : List UInt8} {p q : List Fn} (h : lineT x p = .inr q) :
    (∃ m : Int, x = headL p.length m ∧ 0 ≤ m ∧ m ≤ 255 ∧ p.length < 32 ∧ (p = [] ∨ lastN p ≠ 0) ∧ q = p ++ [(m, [])]) ∨
    (∃ r f i, p = r ++ [f] ∧ x = lineA i ∧ chk i = 0 ∧ f.2.length < 128 ∧ q = r ++ [(f.1, f.2 ++ [i])]) := by
  unfold lineT at h
  split at h
  · rename_i hf
    left
    cases hh : headT (splitC 32 x) p with
    | inl e => rw [hh] at h; cases h
    | inr m =>
      rw [hh] at h
      injection h with h
      subst h
      unfold headT at hh
      split at hh
      · cases hh
      · rename_i hn
        have hl4 : (splitC 32 x).length = 4 := by
          rcases Nat.decEq (splitC 32 x).length 4 with h | h
          · exact absurd (.inl h) hn
          · exact h
        have hne : (splitC 32 x).getD 2 [] = needsL := by
          by_cases he : (splitC 32 x).getD 2 [] = needsL
          · exact he
          · exact absurd (.inr he) hn
        match hs : splitC 32 x, hl4 with
        | [a, b, c, d], _ =>
          rw [hs] at hf hh hne
          simp only [List.headD_cons, List.getD_cons_succ, List.getD_cons_zero] at hf hh hne
          split at hh
          · rename_i k m' hk hm
            split at hh
            · cases hh
            · rename_i hnl
              split at hh
              · cases hh
              · rename_i hnr
                injection hh with hh
                subst hh
                obtain ⟨k', rfl, ek⟩ := num_inv hk (by omega)
                obtain ⟨m'', rfl, em⟩ := num_inv hm (by omega)
                obtain rfl : k' = p.length := by omega
                refine ⟨m'', ?_, by omega, by omega, by omega, ?_, rfl⟩
                · rw [← join_split 32 x, hs, hf, hne]
                  unfold headL
                  rw [Lib.itoa_nonneg, Lib.itoa_nonneg, ek, em]
                · by_cases h0 : p = []
                  · exact .inl h0
                  · right
                    intro e
                    have : p.length ≠ 0 := fun e => h0 (List.eq_nil_of_length_eq_zero e)
                    exact hnl (.inr ⟨by omega, e⟩)
          · cases hh
  · split at h
    · cases h
    · rename_i hp
      right
      cases hr : readA x with
      | inl e => rw [hr] at h; cases h
      | inr i =>
        rw [hr] at h
        simp only at h
        split at h
        · cases h
        · rename_i hl
          injection h with h
          subst h
          obtain ⟨r, f, rfl⟩ : ∃ r f, p = r ++ [f] := ⟨p.dropLast, p.getLast hp, (List.dropLast_concat_getLast hp).symm⟩
          obtain ⟨c1, c2⟩ := line_read hr
          rw [lastN_snoc] at hl
          exact ⟨r, f, i, rfl, c2.symm, c1, by omega, pushL_snoc r f i⟩

/-! ### A program's text is parsed as it -/
theorem parse_step {x : List UInt8} {p q : List Fn} (hx : (10 : UInt8) ∉ x) (h : lineT x p = .inr q) (n : Nat) (s : List UInt8) : parseL (splitC 10 (x ++ 10 :: s)) n p = parseL (splitC 10 s) (n + 1) q := by
  rw [splitC_hit 10 x s hx]
  cases hs : splitC 10 s with
  | nil => exact absurd hs (splitC_ne 10 s)
  | cons y r => rw [parseL, h]
theorem parse_code (m : Int) : ∀ (l acc : List Ins) (p : List Fn) (n : Nat) (s : List UInt8), (∀ i ∈ l, chk i = 0) → acc.length + l.length ≤ 128 →
    parseL (splitC 10 (codeL l ++ s)) n (p ++ [(m, acc)]) = parseL (splitC 10 s) (n + l.length) (p ++ [(m, acc ++ l)])
  | [], acc, p, n, s, _, _ => by simp [codeL]
  | i :: l, acc, p, n, s, hc, hl => by
    have hi := hc i List.mem_cons_self
    obtain ⟨op, hop, ho⟩ := op_nat (chk_zero hi).1
    rw [List.length_cons] at hl
    have e : codeL (i :: l) ++ s = lineA i ++ 10 :: (codeL l ++ s) := by simp [codeL]
    rw [e, parse_step (line_no (by omega)) (line_ins hi (by simp) (by rw [lastN_snoc]; show acc.length < 128; omega)), pushL_snoc]
    show parseL (splitC 10 (codeL l ++ s)) (n + 1) (p ++ [(m, acc ++ [i])]) = _
    rw [parse_code m l (acc ++ [i]) p (n + 1) s (fun j hj => hc j (by simp [hj])) (by rw [List.length_append, List.length_singleton]; omega)]
    rw [List.append_assoc, List.singleton_append, List.length_cons, show n + 1 + l.length = n + (l.length + 1) by omega]
theorem packE_ok {f : Fn} (h : packE f = 0) : 0 ≤ f.1 ∧ f.1 ≤ 255 ∧ 1 ≤ f.2.length ∧ f.2.length ≤ 128 ∧ ∀ i ∈ f.2, chk i = 0 := by
  unfold packE at h
  split at h
  · cases h
  · split at h
    · cases h
    · refine ⟨by omega, by omega, by omega, by omega, ?_⟩
      generalize f.2 = l at h
      induction l with
      | nil => simp
      | cons i l ih =>
        rw [firstBad] at h
        split at h
        · rename_i h0
          intro j hj
          rcases List.mem_cons.1 hj with rfl | hj
          · exact h0
          · exact ih h j hj
        · rename_i h0
          exact absurd h h0
theorem firstE_all {p : List Fn} (h : firstE p = 0) : ∀ f ∈ p, packE f = 0 := by
  induction p with
  | nil => simp
  | cons f p ih =>
    rw [firstE] at h
    split at h
    · rename_i h0
      intro j hj
      rcases List.mem_cons.1 hj with rfl | hj
      · exact h0
      · exact ih h j hj
    · rename_i h0
      exact absurd h h0
theorem progE_ok {p : List Fn} (h : progE p = 0) : 1 ≤ p.length ∧ p.length ≤ 32 ∧ ∀ f ∈ p, packE f = 0 := by
  unfold progE at h
  split at h
  · cases h
  · exact ⟨by omega, by omega, firstE_all h⟩
theorem parse_fns : ∀ (l p : List Fn) (n : Nat), p.length + l.length ≤ 32 → (p = [] ∨ lastN p ≠ 0) → (∀ f ∈ l, packE f = 0) → p ++ l ≠ [] → parseL (splitC 10 (printL p.length l)) n p = (p ++ l, 0, 0)
  | [], p, n, _, hp, _, h0 => by
    have hl : lastN p ≠ 0 := by
      rcases hp with rfl | h
      · exact absurd rfl h0
      · exact h
    show parseL [[]] n p = _
    rw [parseL, if_neg (by simp), if_neg hl, List.append_nil]
  | f :: l, p, n, hl, hp, hf, _ => by
    obtain ⟨f1, f2, f3, f4, f5⟩ := packE_ok (hf f List.mem_cons_self)
    rw [List.length_cons] at hl
    rw [printL, fnT, List.append_assoc, List.append_assoc, List.singleton_append,
      parse_step (headL_no _ _) (line_head f1 f2 (by omega) hp), parse_code f.1 f.2 [] p _ _ f5 (by simpa using f4), List.nil_append]
    have e : (f.1, f.2) = f := rfl
    rw [e]
    have := parse_fns l (p ++ [f]) (n + 1 + f.2.length) (by rw [List.length_append, List.length_singleton]; omega) (.inr (by rw [lastN_snoc]; omega)) (fun g hg => hf g (by simp [hg])) (by simp)
    rw [List.length_append, List.length_singleton] at this
    rw [this, List.append_assoc, List.singleton_append]
theorem parse_print {p : List Fn} (h : progE p = 0) : parseL (splitC 10 (printL 0 p)) 0 [] = (p, 0, 0) := by
  obtain ⟨h1, h2, h3⟩ := progE_ok h
  have := parse_fns p [] 0 (by simpa using h2) (.inl rfl) h3 (by rw [List.nil_append]; intro e; rw [e] at h1; simp at h1)
  simpa using this

/-! ### A text that is parsed is its program's -/
theorem printL_snoc : ∀ (p : List Fn) (k : Nat) (f : Fn), printL k (p ++ [f]) = printL k p ++ fnT (k + p.length) f
  | [], k, f => by simp [printL]
  | g :: p, k, f => by
    rw [List.cons_append, printL, printL_snoc p (k + 1) f, printL, List.append_assoc, List.length_cons, show k + 1 + p.length = k + (p.length + 1) by omega]
/-- What holds while a text is parsed. -/
structure Pf (p : List Fn) : Prop where
  len : p.length ≤ 32
  head : ∀ f ∈ p, 0 ≤ f.1 ∧ f.1 ≤ 255 ∧ f.2.length ≤ 128 ∧ ∀ i ∈ f.2, chk i = 0
  init : ∀ r f, p = r ++ [f] → ∀ g ∈ r, 1 ≤ g.2.length
theorem Pf.nil : Pf [] := ⟨by simp, by simp, fun r f h => by simp at h⟩
theorem pf_line {x : List UInt8} {p q : List Fn} (hp : Pf p) (h : lineT x p = .inr q) : Pf q ∧ printL 0 q = printL 0 p ++ x ++ [10] ∧ (10 : UInt8) ∉ x ∧ x ≠ [] ∧ q ≠ [] := by
  rcases line_inv h with ⟨m, rfl, h0, h1, h2, h3, rfl⟩ | ⟨r, f, i, rfl, rfl, hc, hl, rfl⟩
  · refine ⟨⟨by rw [List.length_append, List.length_singleton]; omega, fun f hf => ?_, fun r f e => ?_⟩, ?_, headL_no _ _, by simp [headL, joinC, fnL], by simp⟩
    · rcases List.mem_append.1 hf with hf | hf
      · exact hp.head f hf
      · rw [List.mem_singleton] at hf
        subst hf
        exact ⟨h0, h1, by simp, by simp⟩
    · obtain ⟨e1, e2⟩ := List.append_inj' e rfl
      subst e1
      intro g hg
      rcases h3 with rfl | h3
      · simp at hg
      · have hne : p ≠ [] := List.ne_nil_of_mem hg
        obtain ⟨r', f', rfl⟩ : ∃ r f, p = r ++ [f] := ⟨p.dropLast, p.getLast hne, (List.dropLast_concat_getLast hne).symm⟩
        rcases List.mem_append.1 hg with hg | hg
        · exact hp.init r' f' rfl g hg
        · rw [List.mem_singleton] at hg
          subst hg
          rw [lastN_snoc] at h3
          omega
    · rw [printL_snoc, Nat.zero_add]
      simp [fnT, codeL]
  · obtain ⟨op, hop, ho⟩ := op_nat (chk_zero hc).1
    have hf := hp.head f (by simp)
    refine ⟨⟨by have := hp.len; simpa using this, fun g hg => ?_, fun r' f' e => ?_⟩, ?_, line_no (by omega), ?_, by simp⟩
    · rcases List.mem_append.1 hg with hg | hg
      · exact hp.head g (by simp [hg])
      · rw [List.mem_singleton] at hg
        subst hg
        refine ⟨hf.1, hf.2.1, by rw [List.length_append, List.length_singleton]; omega, fun j hj => ?_⟩
        rcases List.mem_append.1 hj with hj | hj
        · exact hf.2.2.2 j hj
        · rw [List.mem_singleton] at hj
          subst hj
          exact hc
    · obtain ⟨e1, e2⟩ := List.append_inj' e rfl
      subst e1
      exact hp.init r f rfl
    · rw [printL_snoc, printL_snoc]
      simp [fnT, codeL]
    · rcases line_start (i := i) with e | ⟨t, e⟩
      · rw [e]
        have hall : ∀ o, o < 17 → nameL o ≠ [] := by decide
        exact hall _ (by omega)
      · rw [e]
        simp
theorem parse_inv : ∀ (ls : List (List UInt8)) (n : Nat) (p q : List Fn) (k : Nat), Pf p → parseL ls n p = (q, k, 0) → k = 0 ∧ Pf q ∧ lastN q ≠ 0 ∧ printL 0 q = printL 0 p ++ joinC 10 ls
  | [], n, p, q, k, _, h => by cases h
  | [x], n, p, q, k, hp, h => by
    rw [parseL] at h
    split at h
    · cases h
    · rename_i hx
      split at h
      · cases h
      · rename_i hl
        injection h with h1 h2
        injection h2 with h2 _
        subst h1
        have hx : x = [] := by simpa using hx
        exact ⟨h2.symm, hp, hl, by rw [hx]; simp [joinC]⟩
  | x :: y :: r, n, p, q, k, hp, h => by
    rw [parseL] at h
    cases ht : lineT x p with
    | inl e =>
      rw [ht] at h
      injection h with _ h2
      injection h2 with _ h3
      exfalso
      subst h3
      exact lineT_ne ht
    | inr p' =>
      rw [ht] at h
      obtain ⟨a1, a2, -, -, -⟩ := pf_line hp ht
      obtain ⟨b1, b2, b3, b4⟩ := parse_inv (y :: r) (n + 1) p' q k a1 h
      refine ⟨b1, b2, b3, ?_⟩
      rw [b4, a2, joinC]
      simp
where
  lineT_ne {x : List UInt8} {p : List Fn} (h : lineT x p = .inl 0) : False := by
    unfold lineT at h
    split at h
    · cases hh : headT (splitC 32 x) p with
      | inr m => rw [hh] at h; cases h
      | inl e =>
        rw [hh] at h
        injection h with h
        subst h
        unfold headT at hh
        split at hh
        · cases hh
        · split at hh
          · split at hh
            · cases hh
            · split at hh <;> cases hh
          · cases hh
    · split at h
      · cases h
      · cases hr : readA x with
        | inl e =>
          rw [hr] at h
          injection h with h
          subst h
          exact readA_ne hr
        | inr i =>
          rw [hr] at h
          simp only at h
          split at h <;> cases h
  readA_ne {x : List UInt8} (h : readA x = .inl 0) : False := by
    unfold readA readW at h
    cases ho : opOf ((splitC 32 x).headD []) with
    | none => rw [ho] at h; cases h
    | some op =>
      rw [ho] at h
      simp only at h
      split at h
      · exact opsR_ne op _ _ _ h
      · cases h
  opsR_ne (op : Nat) : ∀ (ks : List Nat) (ws : List (List UInt8)) (i : Ins), opsR op ks ws i = .inl 0 → False
    | [], ws, i, h => by cases h
    | k :: ks, ws, i, h => by
      rw [opsR] at h
      split at h
      · exact opsR_ne op ks ws i h
      · split at h
        · cases h
        · split at h
          · exact opsR_ne op ks _ _ h
          · cases h
theorem firstBad_zero {l : List Ins} (h : ∀ i ∈ l, chk i = 0) : firstBad l = 0 := firstBad_ok h
theorem pf_prog {p : List Fn} (h : Pf p) (hl : lastN p ≠ 0) : progE p = 0 := by
  have hne : p ≠ [] := by rintro rfl; exact hl rfl
  obtain ⟨r, f, rfl⟩ : ∃ r f, p = r ++ [f] := ⟨p.dropLast, p.getLast hne, (List.dropLast_concat_getLast hne).symm⟩
  rw [lastN_snoc] at hl
  have hlen := h.len
  rw [List.length_append, List.length_singleton] at hlen
  unfold progE
  rw [if_neg (by rw [List.length_append, List.length_singleton]; omega)]
  refine firstE_ok fun g hg => ?_
  obtain ⟨g1, g2, g3, g4⟩ := h.head g hg
  have hg1 : 1 ≤ g.2.length := by
    rcases List.mem_append.1 hg with hg | hg
    · exact h.init r f rfl g hg
    · rw [List.mem_singleton] at hg
      subst hg
      omega
  unfold packE
  rw [if_neg (by omega), if_neg (by omega)]
  exact firstBad_ok g4
theorem print_parse {s : List UInt8} {q : List Fn} {k : Nat} (h : parseL (splitC 10 s) 0 [] = (q, k, 0)) : k = 0 ∧ progE q = 0 ∧ printL 0 q = s := by
  obtain ⟨a1, a2, a3, a4⟩ := parse_inv _ 0 [] q k Pf.nil h
  refine ⟨a1, pf_prog a2 a3, ?_⟩
  rw [a4, join_split]
  rfl
theorem parse_err : ∀ (ls : List (List UInt8)) (n : Nat) (p q : List Fn) (k : Nat) (e : Int), parseL ls n p = (q, k, e) → e ≠ 0 → q = []
  | [], n, p, q, k, e, h, _ => by injection h with h; exact h.symm
  | [x], n, p, q, k, e, h, he => by
    rw [parseL] at h
    split at h
    · injection h with h; exact h.symm
    · split at h
      · injection h with h; exact h.symm
      · injection h with _ h; injection h with _ h; exact absurd h.symm he
  | x :: y :: r, n, p, q, k, e, h, he => by
    rw [parseL] at h
    cases ht : lineT x p with
    | inl e => rw [ht] at h; injection h with h; exact h.symm
    | inr p' => rw [ht] at h; exact parse_err (y :: r) (n + 1) p' q k e h he

/-! ### The last byte left out, a line feed more -/
theorem parse_cut : ∀ (ls : List (List UInt8)) (n : Nat) (p q : List Fn), Pf p → parseL (ls ++ [[]]) n p = (q, 0, 0) → (∀ x, ls = [x] → True) → ls ≠ [] →
    parseL ls n p = ([], n + ls.length, 11) ∧ parseL (ls ++ [[], []]) n p = ([], n + ls.length + 1, 14)
  | [], n, p, q, _, _, _, h => absurd rfl h
  | [x], n, p, q, hp, h, _, _ => by
    rw [List.singleton_append, parseL] at h
    cases ht : lineT x p with
    | inl e => rw [ht] at h; injection h with _ h; injection h with h; omega
    | inr p' =>
      obtain ⟨a1, a2, a3, a4, a5⟩ := pf_line hp ht
      refine ⟨by rw [parseL, if_pos a4]; rfl, ?_⟩
      rw [List.singleton_append, parseL, ht]
      simp only
      rw [parseL]
      have hz : lineT [] p' = .inl 14 := by
        unfold lineT
        rw [if_neg (by decide), if_neg a5]
        rfl
      rw [hz]
      rfl
  | x :: y :: r, n, p, q, hp, h, _, _ => by
    rw [List.cons_append, List.cons_append, parseL] at h
    cases ht : lineT x p with
    | inl e => rw [ht] at h; injection h with _ h; injection h with h; omega
    | inr p' =>
      rw [ht] at h
      obtain ⟨a1, -⟩ := pf_line hp ht
      obtain ⟨b1, b2⟩ := parse_cut (y :: r) (n + 1) p' q a1 h (fun _ _ => trivial) (by simp)
      rw [List.length_cons] at b1 b2 ⊢
      refine ⟨?_, ?_⟩
      · rw [parseL, ht]
        simp only
        rw [b1, List.length_cons, show n + 1 + (r.length + 1) = n + (r.length + 1 + 1) by omega]
      · rw [List.cons_append, List.cons_append, parseL, ht]
        simp only
        rw [List.cons_append] at b2
        rw [b2, List.length_cons, show n + 1 + (r.length + 1) + 1 = n + (r.length + 1 + 1) + 1 by omega]
theorem splitC_snoc (c : UInt8) : ∀ (n : Nat) (s : List UInt8), s.length = n → splitC c (s ++ [c]) = splitC c s ++ [[]] := by
  intro n
  induction n using Nat.strongRecOn with
  | ind n ih =>
    intro s hs
    rcases first_of c s with h | ⟨a, b, rfl, h⟩
    · rw [splitC_miss c s h, splitC_hit c s [] h]
      rfl
    · rw [List.append_assoc, List.cons_append, splitC_hit c a _ h, splitC_hit c a b h, ih b.length (by rw [← hs]; simp; omega) b rfl]
      rfl
theorem splitC_last (c : UInt8) (s : List UInt8) (ls : List (List UInt8)) (h : splitC c s = ls ++ [[]]) (h0 : ls ≠ []) : ∃ t, s = t ++ [c] ∧ splitC c t = ls := by
  have hno : ∀ w ∈ ls, c ∉ w := fun w hw => splitC_no c s w (by rw [h]; simp [hw])
  refine ⟨joinC c ls, ?_, split_join c ls h0 hno⟩
  rw [← join_split c s, h, joinC_snoc c ls [] h0]
theorem parse_last : ∀ (ls : List (List UInt8)) (n : Nat) (p q : List Fn) (k : Nat), parseL ls n p = (q, k, 0) → ∃ m, ls = m ++ [[]]
  | [], n, p, q, k, h => by cases h
  | [x], n, p, q, k, h => by
    rw [parseL] at h
    split at h
    · cases h
    · rename_i hx
      have hx : x = [] := by simpa using hx
      exact ⟨[], by rw [hx]; rfl⟩
  | x :: y :: r, n, p, q, k, h => by
    rw [parseL] at h
    cases ht : lineT x p with
    | inl e =>
      rw [ht] at h
      injection h with _ h2
      injection h2 with _ h3
      subst h3
      exact absurd ht (fun h => parse_inv.lineT_ne h)
    | inr p' =>
      rw [ht] at h
      obtain ⟨m, hm⟩ := parse_last (y :: r) (n + 1) p' q k h
      exact ⟨x :: m, by rw [hm]; rfl⟩
/-- A text that is parsed: with its last byte left out, or a line feed put behind, it is none. -/
theorem parse_only {s : List UInt8} {q : List Fn} {k : Nat} (h : parseL (splitC 10 s) 0 [] = (q, k, 0)) : s ≠ [] ∧ ∃ a : Nat, parseL (splitC 10 s.dropLast) 0 [] = ([], a, 11) ∧ parseL (splitC 10 (s ++ [10])) 0 [] = ([], a + 1, 14) := by
  obtain ⟨rfl, hE, hP⟩ := print_parse h
  obtain ⟨m, hm⟩ := parse_last _ 0 [] q 0 h
  have hm0 : m ≠ [] := by
    rintro rfl
    rw [hm, List.nil_append, parseL, if_neg (by simp)] at h
    have h : (([], 0 + 1, 12) : List Fn × Nat × Int) = (q, 0, 0) := h
    injection h with _ h
    injection h with h
    omega
  obtain ⟨t, rfl, ht⟩ := splitC_last 10 s m hm hm0
  rw [hm] at h
  obtain ⟨c1, c2⟩ := parse_cut m 0 [] q Pf.nil h (fun _ _ => trivial) hm0
  refine ⟨by simp, 0 + m.length, ?_, ?_⟩
  · rw [List.dropLast_concat, ht, c1]
  · rw [splitC_snoc 10 _ _ rfl, hm, List.append_assoc]
    exact c2

/-! ### How long a text is -/
theorem dec_len_le {a n : Nat} (hn : 0 < n) (h : a < 10 ^ n) : (Lib.decDigits a).length ≤ n := dec_short n a hn h
theorem itoa_short {x : Int} (h0 : -2147483648 ≤ x) (h1 : x ≤ 2147483647) : (Lib.itoa x).length ≤ 11 := by
  rcases itoa_parts x with ⟨a, rfl, e⟩ | ⟨a, ha, rfl, e⟩
  · rw [e]; have := dec_len_le (n := 10) (a := a) (by omega) (by omega); omega
  · rw [e, List.length_cons]; have := dec_len_le (n := 10) (a := a) (by omega) (by omega); omega
theorem write_len3 {op k : Nat} (ho : op ≤ 16) (hk : k < 4) {x : Int} (hx : inR (kind op k) x = true) : (writeF (form op k) x).length ≤ if form op k = 110 then 11 else 3 := by
  obtain ⟨h1, h2⟩ := inR_iff.1 hx
  have hh := kind_hi ho hk
  unfold writeF
  by_cases h110 : form op k = 110
  · rw [if_pos h110, if_pos h110]
    exact itoa_short (by omega) (by omega)
  · rw [if_neg h110, if_neg h110, List.length_cons]
    have h0 := kind_five ho hk h110
    have hb : hi (kind op k) ≤ 31 := by
      have hall : ∀ o, o < 17 → ∀ k, k < 4 → form o k ≠ 110 → hi (kind (o : Nat) k) ≤ 31 := by decide
      exact hall op (by omega) k hk h110
    obtain ⟨a, rfl⟩ := Int.eq_ofNat_of_zero_le (show 0 ≤ x by omega)
    rw [Lib.itoa_nonneg]
    have := dec_len_le (n := 2) (a := a) (by omega) (by omega)
    omega
def costN (op : Nat) : Nat := (nameL op).length + (if form op 0 = 0 then 0 else 1 + if form op 0 = 110 then 11 else 3) + (if form op 1 = 0 then 0 else 1 + if form op 1 = 110 then 11 else 3) + (if form op 2 = 0 then 0 else 1 + if form op 2 = 110 then 11 else 3) + (if form op 3 = 0 then 0 else 1 + if form op 3 = 110 then 11 else 3)
theorem joinC_sum (c : UInt8) (x : List UInt8) : ∀ ws : List (List UInt8), (joinC c (x :: ws)).length = x.length + (ws.map fun w => 1 + w.length).sum
  | [] => by simp [joinC]
  | y :: r => by
    rw [joinC, List.length_append, List.length_cons, joinC_sum c y r, List.map_cons, List.sum_cons]
    omega
theorem opers_sum {op : Nat} (ho : op ≤ 16) {i : Ins} (h : ∀ k, k < 4 → inR (kind op k) (fl i k) = true) {k : Nat} (hk : k < 4) :
    (((if form op k = 0 then [] else [writeF (form op k) (fl i k)]) : List (List UInt8)).map fun w => 1 + w.length).sum ≤ if form op k = 0 then 0 else 1 + if form op k = 110 then 11 else 3 := by
  by_cases hf : form op k = 0
  · rw [if_pos hf, if_pos hf]; simp
  · rw [if_neg hf, if_neg hf]
    have := write_len3 ho hk (h k hk)
    simp only [List.map_cons, List.map_nil, List.sum_cons, List.sum_nil]
    omega
theorem line_short {i : Ins} (h : chk i = 0) : (lineA i).length ≤ 30 := by
  obtain ⟨h1, h2⟩ := chk_zero h
  obtain ⟨op, hop, ho⟩ := op_nat h1
  have ht : i.1.toNat = op := by omega
  rw [hop] at h2
  have hc : costN op ≤ 30 := by
    have hall : ∀ o, o < 17 → costN o ≤ 30 := by decide
    exact hall op (by omega)
  unfold lineA wordsL
  rw [joinC_sum, ht]
  have s0 := opers_sum ho h2 (k := 0) (by omega)
  have s1 := opers_sum ho h2 (k := 1) (by omega)
  have s2 := opers_sum ho h2 (k := 2) (by omega)
  have s3 := opers_sum ho h2 (k := 3) (by omega)
  simp only [opersL, List.flatMap_cons, List.flatMap_nil, List.append_nil, List.map_append, List.sum_append]
  unfold costN at hc
  omega
theorem code_short : ∀ {l : List Ins}, (∀ i ∈ l, chk i = 0) → (codeL l).length ≤ l.length * 31
  | [], _ => by simp [codeL]
  | i :: l, h => by
    have h1 := line_short (h i List.mem_cons_self)
    have h2 := code_short (l := l) fun j hj => h j (by simp [hj])
    have e : codeL (i :: l) = lineA i ++ [10] ++ codeL l := by simp [codeL]
    rw [e, List.length_append, List.length_append, List.length_singleton, List.length_cons]
    omega
theorem head_short {k : Nat} {m : Int} (hk : k < 100) (h0 : 0 ≤ m) (h1 : m ≤ 255) : (headL k m).length ≤ 17 := by
  obtain ⟨a, rfl⟩ := Int.eq_ofNat_of_zero_le h0
  unfold headL
  rw [joinC_sum, Lib.itoa_nonneg, Lib.itoa_nonneg]
  have := dec_len_le (n := 2) (a := k) (by omega) (by omega)
  have := dec_len_le (n := 3) (a := a) (by omega) (by omega)
  simp only [List.map_cons, List.map_nil, List.sum_cons, List.sum_nil, fnL, needsL, List.length_cons, List.length_nil]
  omega
theorem fn_short {k : Nat} {f : Fn} (hk : k < 100) (h : packE f = 0) : (fnT k f).length ≤ 18 + 128 * 31 := by
  obtain ⟨f1, f2, f3, f4, f5⟩ := packE_ok h
  have h1 := head_short hk f1 f2
  have h2 := code_short f5
  have h3 := Nat.mul_le_mul_right 31 f4
  unfold fnT
  rw [List.length_append, List.length_append, List.length_singleton]
  omega
theorem print_short : ∀ (p : List Fn) (k : Nat), k + p.length ≤ 100 → (∀ f ∈ p, packE f = 0) → (printL k p).length ≤ p.length * 3986
  | [], k, _, _ => by simp [printL]
  | f :: p, k, hk, h => by
    rw [List.length_cons] at hk
    have h1 := fn_short (k := k) (by omega) (h f List.mem_cons_self)
    have h2 := print_short p (k + 1) (by omega) fun g hg => h g (by simp [hg])
    rw [printL, List.length_append, List.length_cons]
    omega
theorem print_size {p : List Fn} (h : progE p = 0) : (printL 0 p).length ≤ 131072 := by
  obtain ⟨h1, h2, h3⟩ := progE_ok h
  have := print_short p 0 (by omega) h3
  omega
end P3
end Go.Proofs.YtggdbceommmllaaDoor
