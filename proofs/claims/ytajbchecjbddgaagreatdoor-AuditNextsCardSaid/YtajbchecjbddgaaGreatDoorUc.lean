/- Audit: a loop over an iterator that reads what the loop leaves, and writes one boxed variable of its own. -/
import Derived.RangeFuncBox
import Derived.RangeFuncLeaves
import Derived.RangeFuncWrites
namespace Go.Proofs.YtajbchecjbddgaaGreatDoor
open Go.RowKit

/-- The iterator's contract: it hands on xs, one by one; its box Bs holds v0 when it begins; a round keeps the box. It may lean on V, which the caller keeps; whatever the caller says abides its stores into the box and what leaves all old blocks as they lay. -/
def SeqBoxV {α : Type} (F : Fence) (n : Nat) (P : Program) (g : Nat) (lb : Array Value) (encs : α → Array Value) (Bs : Nat) (t : TypeId) (v0 : Value) (xs : List α) (V : World → Prop) : Prop :=
  ∀ (l : Nat) (J Jx : List α → World → Prop) (W : World),
    (∀ pre W v, J pre W → Boxed W Bs t v → ∀ v', J pre (W.setCell ⟨Bs, 0, none⟩ v')) →
    (∀ pre W W', J pre W → Below W.heap.size W W' → J pre W') →
    (∀ pre W, J pre W → V W) →
    (∀ pre x W, J pre W → (∃ v, Boxed W Bs t v) → pre ++ [x] <+: xs → YieldAt F (n - 1) P l (encs x) W fun e W' =>
      (e = .returned (.bool true) ∧ J (pre ++ [x]) W' ∧ W'.heap[Bs]? = W.heap[Bs]?) ∨ (e = .returned (.bool false) ∧ Jx (pre ++ [x]) W')) →
    Boxed W Bs t v0 → J [] W →
    CallsIn F n P g (#[.func (.yield l) #[] #[]] ++ lb) W fun e W' => (∃ v, e = .returned v) ∧ ((∃ ys, ys = xs ∧ J ys W') ∨ (∃ pre, pre <+: xs ∧ Jx pre W'))

variable {F : Fence} {n : Nat} {P : Program}

theorem setCell_block_other (W : World) (b : Nat) (v : Value) {k : Nat} (h : k ≠ b) : (W.setCell ⟨b, 0, none⟩ v).heap[k]? = W.heap[k]? :=
  Below.heap_setCell _ _ _ k (fun e => h e)

/-- **The statement 'for .. := range seq' over such an iterator.** -/
theorem wpIn_rangeBoxV {α : Type} {g : Operand} {ps : Array Tmp} {assign body : Code} {Q : Exit → Act → World → Prop} {a : Act} {w : World}
    (hro : F.round = none) (h1 : 1 ≤ n) {gf : Nat} {lb : Array Value} (hg : a.eval g = .func (.func gf) #[] lb) (hFg : F.fn gf) (eg : ∀ args w, (callFunc gf args).run P w = .ok (.enter gf args) w)
    {encs : α → Array Value} {Bs : Nat} {t : TypeId} {v0 : Value} {xs : List α} {V : World → Prop} (hseq : SeqBoxV F (n - 1) P gf lb encs Bs t v0 xs V) (hB : Boxed w Bs t v0) (hps : ∀ x, (encs x).size = ps.size)
    (I : List α → World → Prop) (Ix : Code → List α → World → Prop) (hI : OwnFrom w.heap.size I) (hIx : ∀ c, OwnFrom w.heap.size (Ix c))
    (hIs : ∀ pre W v, I pre W → Boxed W Bs t v → ∀ v', I pre (W.setCell ⟨Bs, 0, none⟩ v')) (hIb : ∀ pre W W', I pre W → Below W.heap.size W W' → I pre W') (hIV : ∀ pre W, I pre W → V W) (h0 : I [] w) (a₁ : α → Act)
    (hassign : ∀ (l : Nat) (x : α) (W : World) (K : Act → World → Prop), K (a₁ x) W →
      assign.wpIn (F.inRound l) (n - 1 - 1) P (Exit.then K (fun _ _ _ => False)) { tmps := (ps.zip (encs x)).foldl (fun t (p, v) => t.setIfInBounds p v) a.tmps, defers := [] } W)
    (hbody : ∀ (l : Nat) (pre : List α) (x : α) (W : World), I pre W → (∃ v, Boxed W Bs t v) → pre ++ [x] <+: xs →
      body.wpIn (F.inRound l) (n - 1 - 1) P (ownPostG w.heap.size (fun A B => B.heap[Bs]? = A.heap[Bs]?) I Ix (pre ++ [x]) W) (a₁ x) W)
    (hdone : ∀ (D : Nat) (W : World), w.heap.size ≤ D → I xs W → W.heap[D]? = some (.deferred (some [])) → Q .normal { a with defers := { target := .collected D, args := #[] } :: a.defers } W)
    (hstop : ∀ (D : Nat) (c : Code) (pre : List α) (W : World), w.heap.size ≤ D → pre <+: xs → Ix c pre W → W.heap[D]? = some (.deferred (some [])) →
      c.wpIn F n P Q { a with defers := { target := .collected D, args := #[] } :: a.defers } W) :
    (Code.rangeFunc g ps assign body).wpIn F n P Q a w := by
  have hlt := hB.lt
  refine wpIn_rangeFunc fun fn hfn => ?_
  rw [hro]
  obtain ⟨D, hD⟩ : ∃ D, D = w.heap.size := ⟨_, rfl⟩
  obtain ⟨rec, hrec⟩ : ∃ rec : LoopState → Option Code → Loop, rec = fun st pe => { state := st, pending := pe, fn, tmps := a.tmps, params := ps, assign, body, defers := D } := ⟨_, rfl⟩
  obtain ⟨W1, hW1⟩ : ∃ W1, (w.alloc (.deferred (some []))).alloc (.loop (rec .ready none)) = W1 := ⟨_, rfl⟩
  have hL1 : W1.heap[D + 1]? = some (.loop (rec .ready none)) := by
    have h := World.alloc_heap_new (w.alloc (.deferred (some []))) (.loop (rec .ready none))
    rw [World.size_alloc, hW1, ← hD] at h
    exact h
  have hK1 : W1.heap[D]? = some (.deferred (some [])) := by
    rw [← hW1, hD]; exact (Below.heap_alloc _ _ _ (by simp)).trans (World.alloc_heap_new w _)
  have hI1 : I [] W1 := by rw [← hW1]; exact hI.alloc _ (hI.alloc _ h0)
  have hB1 : Boxed W1 Bs t v0 := by rw [← hW1]; exact (hB.alloc _).alloc _
  have hBD : Bs < D := by rw [hD]; exact hlt
  refine ⟨D + 1, [{ target := .collected D, args := #[] }], W1, { target := .fn (.func gf) lb, args := #[.func (.yield (D + 1)) #[] #[]] }, W1, gf,
    #[.func (.yield (D + 1)) #[] #[]] ++ lb, W1, ?_, ?_, ?_, ?_, fun _ => h1, ?_⟩
  · rw [← hW1, hrec, hD]; exact run_enterLoop_outer _ _ _ _ _
  · simp only [resolve, hg]
    simp [go_sem]
  · intro f' hf'
    simp [Target.leads] at hf'
    subst hf'
    exact hFg
  · simp [invoke, go_sem, eg]
  · have keepB : ∀ {X Y : World} {k : Nat} {o : Obj}, X.heap[k]? = some o → Below X.heap.size X Y → Y.heap[k]? = some o := fun hk hb => (hb.block _ (Array.getElem?_eq_some_iff.1 hk).1).trans hk
    refine (hseq (D + 1)
      (fun pre W => I pre W ∧ W.heap[D + 1]? = some (.loop (rec .ready none)) ∧ W.heap[D]? = some (.deferred (some [])))
      (fun pre W => ∃ c, Ix c pre W ∧ W.heap[D + 1]? = some (.loop (rec .done (some c))) ∧ W.heap[D]? = some (.deferred (some [])))
      W1 (fun pre W v hs hb v' => ⟨hIs _ _ _ hs.1 hb _, (setCell_block_other _ _ _ (by omega)).trans hs.2.1, (setCell_block_other _ _ _ (by omega)).trans hs.2.2⟩)
      (fun pre W W' hs hb => ⟨hIb _ _ _ hs.1 hb, keepB hs.2.1 hb, keepB hs.2.2 hb⟩) (fun pre W hs => hIV _ _ hs.1) ?_ hB1 ⟨hI1, hL1, hK1⟩).mono ?_
    · rintro pre x W ⟨hi, hl, hk⟩ ⟨bv, hbv⟩ hpx
      have hlw : D + 1 < W.heap.size := (Array.getElem?_eq_some_iff.1 hl).1
      have hy := run_yield (P := P) (args := encs x) hl (by rw [hrec]; exact hps x)
      rw [hrec] at hy
      refine ⟨fn, _, assign, body, hy, roundIn_of_wpIn hfn (hassign _ x W _ ⟨_, run_beginRound hl (by rw [hrec]), ?_⟩)⟩
      obtain ⟨W2, hW2⟩ : ∃ W2, W.putObj (D + 1) (.loop { rec .ready none with state := .busy }) = W2 := ⟨_, rfl⟩
      have hl2 : W2.heap[D + 1]? = some (.loop { rec .ready none with state := .busy }) := by rw [← hW2]; exact World.putObj_heap_same hlw
      have hk2 : W2.heap[D]? = some (.deferred (some [])) := by rw [← hW2]; exact (World.putObj_heap_other (by omega)).trans hk
      have hs2 : W2.heap[Bs]? = W.heap[Bs]? := by rw [← hW2]; exact World.putObj_heap_other (by omega)
      have hi2 : I pre W2 := by rw [← hW2]; exact hI.putObj _ hi (by omega) hl rfl
      rw [hW2]
      refine wpIn_mono (hbody _ pre x W2 hi2 ⟨bv, hs2.trans hbv⟩ hpx) ?_
      have fin : ∀ (jump : Option Code) (W3 : World), KeepsFrom w.heap.size W2 W3 →
          (Instr.endRound (D + 1) jump).run P W3 = .ok (.bool jump.isNone) (W3.putObj (D + 1) (.loop (rec (if jump.isNone then .ready else .done) jump))) ∧
          W3.heap[D + 1]? = some (.loop { rec .ready none with state := .busy }) ∧
          (W3.putObj (D + 1) (.loop (rec (if jump.isNone then .ready else .done) jump))).heap[D + 1]? = some (.loop (rec (if jump.isNone then .ready else .done) jump)) ∧
          (W3.putObj (D + 1) (.loop (rec (if jump.isNone then .ready else .done) jump))).heap[D]? = some (.deferred (some [])) := by
        intro jump W3 hk3
        have hl3 := hk3.same (D + 1) _ (by omega) hl2 rfl
        have he := run_endRound (P := P) jump hl3
        rw [hrec] at he hl3 ⊢
        exact ⟨he, hl3, World.putObj_heap_same (Array.getElem?_eq_some_iff.1 hl3).1, (World.putObj_heap_other (by omega)).trans (hk3.same D _ (by omega) hk2 rfl)⟩
      have out : ∀ (c : Code) (W3 : World), KeepsFrom w.heap.size W2 W3 → Ix c (pre ++ [x]) W3 →
          ∃ v w', (Instr.endRound (D + 1) (some c)).run P W3 = .ok v w' ∧
            ((Ending.returned v = .returned (.bool true) ∧ (I (pre ++ [x]) w' ∧ w'.heap[D + 1]? = some (.loop (rec .ready none)) ∧ w'.heap[D]? = some (.deferred (some []))) ∧ w'.heap[Bs]? = W.heap[Bs]?) ∨
             (Ending.returned v = .returned (.bool false) ∧ ∃ c, Ix c (pre ++ [x]) w' ∧ w'.heap[D + 1]? = some (.loop (rec .done (some c))) ∧ w'.heap[D]? = some (.deferred (some [])))) := by
        intro c W3 hk3 hi3
        obtain ⟨hr, hl3, hl4, hk4⟩ := fin (some c) W3 hk3
        exact ⟨_, _, hr, .inr ⟨rfl, c, (hIx c).putObj _ hi3 (by omega) hl3 rfl, hl4, hk4⟩⟩
      rintro e a3 W3 hp
      cases e with
      | normal =>
        obtain ⟨hk3, hs3, hi3⟩ := hp
        obtain ⟨hr, hl3, hl4, hk4⟩ := fin none W3 hk3
        exact ⟨_, _, hr, .inl ⟨rfl, ⟨hI.putObj _ hi3 (by omega) hl3 rfl, hl4, hk4⟩, (World.putObj_heap_other (by omega)).trans (hs3.trans hs2)⟩⟩
      | ret => exact out .ret W3 hp.1 hp.2
      | exit id => exact out (.exit id) W3 hp.1 hp.2
      | goto t => exact out (.goto t) W3 hp.1 hp.2
      | panic ch => exact hp.elim
      | outgrown => exact hp.elim
    · have stop : ∀ (jump : Option Code) (st : LoopState) (W2 : World), st ≠ .busy → W2.heap[D + 1]? = some (.loop (rec st jump)) →
          ∃ w', (Instr.endLoop (D + 1)).run P W2 = .ok jump w' ∧ ∃ o, w' = W2.putObj (D + 1) o := by
        intro jump st W2 hst hl
        have h := run_endLoop (P := P) hl (by rw [hrec]; exact hst)
        rw [hrec] at h
        exact ⟨_, h, _, rfl⟩
      rintro e W2 ⟨⟨v, rfl⟩, (⟨ys, rfl, hi, hl, hk⟩ | ⟨pre, hpre, c, hi, hl, hk⟩)⟩
      · obtain ⟨w', hr, o, rfl⟩ := stop none .ready W2 (by simp) hl
        exact ⟨none, _, hr, hdone D _ (by omega) (hI.putObj _ hi (by omega) hl rfl) ((World.putObj_heap_other (by omega)).trans hk)⟩
      · obtain ⟨w', hr, o, rfl⟩ := stop (some c) .done W2 (by simp) hl
        exact ⟨some c, _, hr, hstop D c pre _ (by omega) hpre ((hIx c).putObj _ hi (by omega) hl rfl) ((World.putObj_heap_other (by omega)).trans hk)⟩
end Go.Proofs.YtajbchecjbddgaaGreatDoor
