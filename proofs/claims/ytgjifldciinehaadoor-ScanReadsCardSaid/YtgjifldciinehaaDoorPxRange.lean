/-
  A range over a function, where the iterator keeps state in cells of its own: what a round may turn is named by blocks.
-/
import Derived.Test.YtgjifldciinehaaDoorPxOwn
import Derived.RangeFuncFrom
namespace Go.Px
open Go.RowKit

/-- An iterator's contract: 'gf', with what it has captured, yields words. Blocks from B on, of those that were there, may be turned by a round. -/
def SeqC {α : Type} (P : Program) (gf : Nat) (lb : Array Value) (encs : α → Array Value) (B kb : Nat) (S Sp Ok : List α → Prop) (w0 : World) : Prop :=
  ∀ (l : Nat) (J Jx : List α → World → Prop) (W : World), Chg (fun _ => False) w0 W →
    (∀ s A A', W.heap.size ≤ A.heap.size → J s A → Chg (fun i => W.heap.size ≤ i ∧ i < W.heap.size + kb) A A' → J s A') →
    (∀ s A A', W.heap.size ≤ A.heap.size → Jx s A → Chg (fun i => W.heap.size ≤ i ∧ i < W.heap.size + kb) A A' → Jx s A') →
    (∀ pre x W1, W.heap.size + kb ≤ W1.heap.size → J pre W1 → Ok (pre ++ [x]) → YieldAt Fence.wide 0 P l (encs x) W1 fun e W' =>
      (e = .returned (.bool true) ∧ J (pre ++ [x]) W' ∧ Chg (fun i => B ≤ i ∧ ¬ (W.heap.size ≤ i ∧ i < W.heap.size + kb)) W1 W') ∨ (e = .returned (.bool false) ∧ Jx (pre ++ [x]) W' ∧ Chg (fun i => B ≤ i ∧ ¬ (W.heap.size ≤ i ∧ i < W.heap.size + kb)) W1 W')) →
    J [] W →
    Calls P gf (#[.func (.yield l) #[] #[]] ++ lb) W fun e W' => (∃ v, e = .returned v) ∧ W.heap.size ≤ W'.heap.size ∧ ((∃ xs, S xs ∧ J xs W') ∨ (∃ pre, Sp pre ∧ Jx pre W'))

/-- How a round's body may be left. -/
def postC {α : Type} (B kb n : Nat) (I : List α → World → Prop) (Ix : Code → List α → World → Prop) (xs : List α) (W : World) : Exit → Act → World → Prop
  | .normal, _, W' => Chg (fun i => B ≤ i ∧ ¬ (n ≤ i ∧ i < n + 2 + kb)) W W' ∧ I xs W'
  | .ret, _, W' => Chg (fun i => B ≤ i ∧ ¬ (n ≤ i ∧ i < n + 2 + kb)) W W' ∧ Ix .ret xs W'
  | .exit id, _, W' => Chg (fun i => B ≤ i ∧ ¬ (n ≤ i ∧ i < n + 2 + kb)) W W' ∧ Ix (.exit id) xs W'
  | .goto t, _, W' => Chg (fun i => B ≤ i ∧ ¬ (n ≤ i ∧ i < n + 2 + kb)) W W' ∧ Ix (.goto t) xs W'
  | .panic _, _, _ => False
  | .outgrown, _, _ => False

theorem chg_putObj {F : Nat → Prop} {W : World} {l : Nat} (o : Obj) (hF : F l) : Chg F W (W.putObj l o) := grown_chg (grownBy_putObj' W l o) fun k e => by cases e; exact hF

theorem rangeC {α : Type} {P : Program} {g : Operand} {ps : Array Tmp} {assign body : Code} {Q : Exit → Act → World → Prop} {a : Act} {w : World}
    {gf : Nat} {lb : Array Value} (hg : a.eval g = .func (.func gf) #[] lb) (eg : ∀ args w, (callFunc gf args).run P w = .ok (.enter gf args) w)
    {encs : α → Array Value} {B kb : Nat} {S Sp Ok : List α → Prop} (hseq : SeqC P gf lb encs B kb S Sp Ok w) (hB : B ≤ w.heap.size) (hps : ∀ x, (encs x).size = ps.size)
    (I : List α → World → Prop) (Ix : Code → List α → World → Prop) (hI : ∀ s A A', w.heap.size ≤ A.heap.size → I s A → Chg (fun i => w.heap.size ≤ i ∧ i < w.heap.size + 2 + kb) A A' → I s A')
    (hIx : ∀ c s A A', w.heap.size ≤ A.heap.size → Ix c s A → Chg (fun i => w.heap.size ≤ i ∧ i < w.heap.size + 2 + kb) A A' → Ix c s A') (h0 : I [] w) (A : List α → α → Act → World → Prop) (hA : ∀ pre x a s s', w.heap.size ≤ s.heap.size → A pre x a s → Chg (fun i => w.heap.size ≤ i ∧ i < w.heap.size + 2 + kb) s s' → A pre x a s')
    (hassign : ∀ (l : Nat) (pre : List α) (x : α) (W : World) (K : Act → World → Prop), w.heap.size + 2 + kb ≤ W.heap.size → I pre W → Ok (pre ++ [x]) → (∀ a₁ W₁, Chg (fun i => B ≤ i ∧ ¬ (w.heap.size ≤ i ∧ i < w.heap.size + 2 + kb)) W W₁ → A pre x a₁ W₁ → K a₁ W₁) →
      assign.wpIn (Fence.wide.inRound l) 0 P (Exit.then K (fun _ _ _ => False)) { tmps := (ps.zip (encs x)).foldl (fun t (p, v) => t.setIfInBounds p v) a.tmps, defers := [] } W)
    (hbody : ∀ (l : Nat) (pre : List α) (x : α) (a₁ : Act) (W : World), w.heap.size + 2 + kb ≤ W.heap.size → A pre x a₁ W → Ok (pre ++ [x]) → body.wpIn (Fence.wide.inRound l) 0 P (postC B kb w.heap.size I Ix (pre ++ [x]) W) a₁ W)
    (hdone : ∀ (D : Nat) (xs : List α) (W : World), w.heap.size ≤ D → w.heap.size ≤ W.heap.size → S xs → I xs W → W.heap[D]? = some (.deferred (some [])) → Q .normal { a with defers := { target := .collected D, args := #[] } :: a.defers } W)
    (hstop : ∀ (D : Nat) (c : Code) (pre : List α) (W : World), w.heap.size ≤ D → w.heap.size ≤ W.heap.size → Sp pre → Ix c pre W → W.heap[D]? = some (.deferred (some [])) → c.wp P Q { a with defers := { target := .collected D, args := #[] } :: a.defers } W) :
    (Code.rangeFunc g ps assign body).wp P Q a w := by
  refine wpIn_wide (n := 0).1 (wpIn_rangeFunc ?_)
  intro fn hfn
  obtain ⟨rec, hrec⟩ : ∃ rec : LoopState → Option Code → Loop, rec = fun st pe => { state := st, pending := pe, fn, tmps := a.tmps, params := ps, assign, body, defers := w.heap.size } := ⟨_, rfl⟩
  obtain ⟨W1, hW1⟩ : ∃ W1, (w.alloc (.deferred (some []))).alloc (.loop (rec .ready none)) = W1 := ⟨_, rfl⟩
  have hL1 : W1.heap[w.heap.size + 1]? = some (.loop (rec .ready none)) := by
    rw [← hW1]; have := World.alloc_heap_new (w.alloc (.deferred (some []))) (.loop (rec .ready none)); rwa [World.size_alloc] at this
  have hK1 : W1.heap[w.heap.size]? = some (.deferred (some [])) := by
    rw [← hW1]; exact (Below.heap_alloc _ _ _ (by simp)).trans (World.alloc_heap_new w _)
  have hc1 : Chg (fun _ => False) w W1 := by rw [← hW1]; exact ((Chg.refl _ _).alloc _).alloc _
  have hI1 : I [] W1 := hI _ _ _ (Nat.le_refl _) h0 (hc1.mono fun _ _ h => h.elim)
  have hs1 : W1.heap.size = w.heap.size + 2 := by rw [← hW1]; simp
  refine ⟨w.heap.size + 1, [{ target := .collected w.heap.size, args := #[] }], W1, { target := .fn (.func gf) lb, args := #[.func (.yield (w.heap.size + 1)) #[] #[]] }, W1, gf,
    #[.func (.yield (w.heap.size + 1)) #[] #[]] ++ lb, W1, ?_, ?_, ?_, ?_, fun h => by simp [Fence.wide] at h, ?_⟩
  · rw [← hW1, hrec]; exact run_enterLoop_outer _ _ _ _ _
  · simp only [resolve, hg]
    simp [go_sem]
  · intro f' hf'; exact trivial
  · simp [invoke, go_sem, eg]
  · have keep : ∀ {A A' : World} {i : Nat} {o : Obj}, Chg (fun i => W1.heap.size ≤ i ∧ i < W1.heap.size + kb) A A' → i < W1.heap.size → A.heap[i]? = some o → A'.heap[i]? = some o := fun hc hi ho =>
      (hc.block _ (Array.getElem?_eq_some_iff.1 ho).1 (by omega)).trans ho
    refine callsIn_wide.2 ((hseq (w.heap.size + 1)
      (fun pre W => I pre W ∧ W.heap[w.heap.size + 1]? = some (.loop (rec .ready none)) ∧ W.heap[w.heap.size]? = some (.deferred (some [])))
      (fun pre W => ∃ c, Ix c pre W ∧ W.heap[w.heap.size + 1]? = some (.loop (rec .done (some c))) ∧ W.heap[w.heap.size]? = some (.deferred (some [])))
      W1 hc1
      (fun s A A' hA hs hc => ⟨hI s A A' (by omega) hs.1 (hc.mono fun i _ h => by omega), keep hc (by omega) hs.2.1, keep hc (by omega) hs.2.2⟩)
      (fun s A A' hA hs hc => by
        obtain ⟨c, h1, hl, hk⟩ := hs
        exact ⟨c, hIx c s A A' (by omega) h1 (hc.mono fun i _ h => by omega), keep hc (by omega) hl, keep hc (by omega) hk⟩)
      ?_ ⟨hI1, hL1, hK1⟩).mono ?_)
    · rintro pre x W hsW ⟨hi, hl, hk⟩ hlen
      have hlt : w.heap.size + 1 < W.heap.size := (Array.getElem?_eq_some_iff.1 hl).1
      have hy := run_yield (P := P) (args := encs x) hl (by rw [hrec]; exact hps x)
      rw [hrec] at hy
      refine ⟨fn, _, assign, body, hy, roundIn_of_wpIn hfn (hassign _ pre x W _ (by omega) hi hlen fun a₁ W' hcA hA1 => ?_)⟩
      have hl' : W'.heap[w.heap.size + 1]? = some (.loop (rec .ready none)) := (hcA.block _ (by omega) (by omega)).trans hl
      have hk' : W'.heap[w.heap.size]? = some (.deferred (some [])) := (hcA.block _ (by omega) (by omega)).trans hk
      have hcA' : Chg (fun i => B ≤ i ∧ ¬ (W1.heap.size ≤ i ∧ i < W1.heap.size + kb)) W W' := hcA.mono fun i _ h => ⟨h.1, by omega⟩
      have hsW' := hcA.size
      refine ⟨_, run_beginRound hl' (by rw [hrec]), ?_⟩
      clear hi hl hk
      replace hl := hl'
      replace hk := hk'
      have hlt : w.heap.size + 1 < W'.heap.size := by omega
      have hl2 : (W'.putObj (w.heap.size + 1) (.loop { rec .ready none with state := .busy })).heap[w.heap.size + 1]? = some (.loop { rec .ready none with state := .busy }) := World.putObj_heap_same hlt
      have hk2 : (W'.putObj (w.heap.size + 1) (.loop { rec .ready none with state := .busy })).heap[w.heap.size]? = some (.deferred (some [])) := (World.putObj_heap_other (by omega)).trans hk
      have hw2 : Chg (fun i => B ≤ i ∧ ¬ (W1.heap.size ≤ i ∧ i < W1.heap.size + kb)) W (W'.putObj (w.heap.size + 1) (.loop { rec .ready none with state := .busy })) := hcA'.trans (chg_putObj _ ⟨by omega, by omega⟩)
      have hw2s := hw2.size
      refine wpIn_mono (hbody _ pre x a₁ _ (by simp; omega) (hA _ _ _ _ _ (by omega) hA1 (chg_putObj _ (by omega))) hlen) ?_
      have fin : ∀ (jump : Option Code) (W3 : World), Chg (fun i => B ≤ i ∧ ¬ (w.heap.size ≤ i ∧ i < w.heap.size + 2 + kb)) (W'.putObj (w.heap.size + 1) (.loop { rec .ready none with state := .busy })) W3 →
          (Instr.endRound (w.heap.size + 1) jump).run P W3 = .ok (.bool jump.isNone) (W3.putObj (w.heap.size + 1) (.loop (rec (if jump.isNone then .ready else .done) jump))) ∧
          W3.heap[w.heap.size + 1]? = some (.loop { rec .ready none with state := .busy }) ∧
          (W3.putObj (w.heap.size + 1) (.loop (rec (if jump.isNone then .ready else .done) jump))).heap[w.heap.size + 1]? = some (.loop (rec (if jump.isNone then .ready else .done) jump)) ∧
          (W3.putObj (w.heap.size + 1) (.loop (rec (if jump.isNone then .ready else .done) jump))).heap[w.heap.size]? = some (.deferred (some [])) ∧
          Chg (fun i => B ≤ i ∧ ¬ (W1.heap.size ≤ i ∧ i < W1.heap.size + kb)) W (W3.putObj (w.heap.size + 1) (.loop (rec (if jump.isNone then .ready else .done) jump))) ∧ w.heap.size ≤ W3.heap.size := fun jump W3 hk3 => by
        have hl3 := (hk3.block _ (by omega) (by omega)).trans hl2
        have hkk := (hk3.block _ (by omega) (by omega)).trans hk2
        have := run_endRound (P := P) jump hl3
        rw [hrec] at this ⊢
        exact ⟨this, by rw [hrec] at hl3; exact hl3, World.putObj_heap_same (Array.getElem?_eq_some_iff.1 hl3).1, (World.putObj_heap_other (by omega)).trans hkk, (hw2.trans' hk3 (fun i _ h => ⟨h.1, by omega⟩)).trans (chg_putObj _ ⟨by omega, by omega⟩), by have := hk3.size; omega⟩
      rintro e a3 W3 hp
      cases e with
      | normal =>
        obtain ⟨hk3, hi3⟩ := hp
        obtain ⟨hr, hl3, hl4, hk4, hc4, hs3⟩ := fin none W3 hk3
        exact ⟨_, _, hr, .inl ⟨rfl, ⟨hI _ _ _ hs3 hi3 (chg_putObj _ (by omega)), hl4, hk4⟩, hc4⟩⟩
      | ret =>
        obtain ⟨hk3, hi3⟩ := hp
        obtain ⟨hr, hl3, hl4, hk4, hc4, hs3⟩ := fin (some .ret) W3 hk3
        exact ⟨_, _, hr, .inr ⟨rfl, ⟨.ret, hIx _ _ _ _ hs3 hi3 (chg_putObj _ (by omega)), hl4, hk4⟩, hc4⟩⟩
      | exit id =>
        obtain ⟨hk3, hi3⟩ := hp
        obtain ⟨hr, hl3, hl4, hk4, hc4, hs3⟩ := fin (some (.exit id)) W3 hk3
        exact ⟨_, _, hr, .inr ⟨rfl, ⟨.exit id, hIx _ _ _ _ hs3 hi3 (chg_putObj _ (by omega)), hl4, hk4⟩, hc4⟩⟩
      | goto t =>
        obtain ⟨hk3, hi3⟩ := hp
        obtain ⟨hr, hl3, hl4, hk4, hc4, hs3⟩ := fin (some (.goto t)) W3 hk3
        exact ⟨_, _, hr, .inr ⟨rfl, ⟨.goto t, hIx _ _ _ _ hs3 hi3 (chg_putObj _ (by omega)), hl4, hk4⟩, hc4⟩⟩
      | panic ch => exact hp.elim
      | outgrown => exact hp.elim
    · rintro e W2 ⟨⟨v, rfl⟩, hs2, (⟨xs, hS, hi, hl, hk⟩ | ⟨pre, hSp, c, hi, hl, hk⟩)⟩
      · exact ⟨none, _, by have := run_endLoop (P := P) hl (by rw [hrec]; simp); rw [hrec] at this; exact this, hdone _ xs _ (Nat.le_refl _) (by simp; omega) hS (hI _ _ _ (by omega) hi (chg_putObj _ (by omega))) ((World.putObj_heap_other (by omega)).trans hk)⟩
      · exact ⟨some c, _, by have := run_endLoop (P := P) hl (by rw [hrec]; simp); rw [hrec] at this; exact this, wpIn_wide.2 (hstop _ c pre _ (Nat.le_refl _) (by simp; omega) hSp (hIx c _ _ _ (by omega) hi (chg_putObj _ (by omega))) ((World.putObj_heap_other (by omega)).trans hk))⟩
end Go.Px
