/-
  A builder as a piece of memory; its calls.
-/
import Derived.Test.YtmhebgebfjnfjaaGb2
namespace Go.Px.Scan
open Go.Px
theorem BSwf.zero : BSwf ⟨[], [], [], [], 0⟩ := ⟨by simp, by simp, by simp, by simp, by simp, by simp, by simp⟩
theorem BSwf.mono {S S' : BS} (h : BSwf S) (ht : S.terms.length ≤ S'.terms.length) (hn : S.nons.length ≤ S'.nons.length) (hl : S'.levels = S.levels) (hr : S'.rules = S.rules) (hs : S'.start = S.start) (hu : ∀ t ∈ S.terms, t ∈ S'.terms) : BSwf S' := by
  refine ⟨fun r h1 => ?_, fun r h1 x hx => ?_, fun r h1 => ?_, ?_, fun s hs' => ?_, fun r h1 => ?_, fun i hi => ?_⟩
  · rw [hr] at h1; have := h.left r h1; omega
  · rw [hr] at h1; have := h.right r h1 x hx; omega
  · rw [hr] at h1; rw [hl]; exact h.lev r h1
  · rw [hs]; have := h.start; omega
  · rw [hl] at hs'; exact h.sides s hs'
  · rw [hr] at h1; exact h.fit r h1
  · rw [hl] at hi; obtain ⟨t, h1, h2⟩ := h.used i hi; exact ⟨t, hu t h1, h2⟩
end Go.Px.Scan

namespace Go.Proofs.Ytmhebgebfjnfjaa
open Go.Px Go.Px.Scan Go.RowKit
set_option maxHeartbeats 1000000
set_option linter.unusedSimpArgs false
set_option linter.unusedVariables false
set_option maxRecDepth 100000
attribute [-go_sem] Builtin.append_

theorem termA_wf {S : BS} (h : BSwf S) (s : ByteArray) : BSwf (termA S s).2.2 := by
  unfold termA
  split
  · exact h
  · split
    · exact h
    · split
      · exact h
      · exact h.mono (by simp) (Nat.le_refl _) rfl rfl rfl (fun t ht => by simp [ht])
theorem nonA_wf {S : BS} (h : BSwf S) (s : ByteArray) : BSwf (nonA S s).2.2 := by
  unfold nonA
  split
  · exact h
  · split
    · exact h
    · split
      · exact h
      · exact h.mono (Nat.le_refl _) (by simp) rfl rfl rfl (fun t ht => ht)
theorem startA_wf {S : BS} (h : BSwf S) (x : Int) : BSwf (if isN S x then { S with start := x } else S) := by
  split
  · rename_i hx
    have hx' : x < 0 ∧ -(S.nons.length : Int) ≤ x := by simpa [isN] using hx
    exact ⟨h.left, h.right, h.lev, by show _ ∧ _; simp only; omega, h.sides, h.fit, h.used⟩
  · exact h
theorem ruleA_wf {S : BS} (ok : BSok S) (h : BSwf S) (left : Int) {right : List Int} (hn : right.length * 8 ≤ maxBytes) : BSwf (ruleA S left right).2.2 := by
  unfold ruleA
  split
  · exact h
  · rename_i hb
    split
    · exact h
    · have hN : isN S left = true := by
        cases e : isN S left with
        | true => rfl
        | false => exact absurd (Or.inl e) hb
      have hany : right.any (badH S) = false := by
        cases e : right.any (badH S) with
        | false => rfl
        | true => exact absurd (Or.inr e) hb
      have hl : left < 0 ∧ -(S.nons.length : Int) ≤ left := by simpa [isN] using hN
      have hlev := ruleL_in ok right
      have mem : ∀ r, r ∈ S.rules ++ [(left, right, ruleL S right)] → r ∈ S.rules ∨ r = (left, right, ruleL S right) := fun r hr => by simpa using hr
      refine ⟨fun r hr => ?_, fun r hr x hx => ?_, fun r hr => ?_, h.start, h.sides, fun r hr => ?_, h.used⟩
      · rcases mem r hr with hr | rfl
        · exact h.left r hr
        · exact ⟨hl.2, hl.1⟩
      · rcases mem r hr with hr | rfl
        · exact h.right r hr x hx
        · have h1 := any_false hany x hx
          unfold badH isT isN at h1
          simp only [Bool.and_eq_false_imp, Bool.not_eq_true', decide_eq_false_iff_not, Bool.not_eq_false', decide_eq_true_eq] at h1
          show -(S.nons.length : Int) ≤ x ∧ x ≤ S.terms.length ∧ x ≠ 0
          omega
      · rcases mem r hr with hr | rfl
        · exact h.lev r hr
        · exact hlev
      · rcases mem r hr with hr | rfl
        · exact h.fit r hr
        · exact hn

/-- A builder. -/
def bldC (b : Nat) (S : BS) : Ch where
  ok w F := BSwf S ∧ ∃ T V, Bld w T b V S ∧ ∀ i, T i ≠ 0 → F i
  keep h hc hX hF := by
    obtain ⟨hwf, T, V, hb, hT⟩ := h
    exact ⟨hwf, T, V, hb.keep hc fun i hi => hX i (hb.lt i hi) (hT i hi), fun i hi => hF i (hb.lt i hi) (hT i hi)⟩

theorem After.step {w w' : World} {T : Nat → Nat} {b : Nat} {V : BV} {S S' : BS} {F : Nat → Prop} (h : After w T b S' w') (hwf : BSwf S') (hT : ∀ i, T i ≠ 0 → F i) : Chg F w w' ∧ (bldC b S').ok w' (fun i => F i ∨ (w.heap.size ≤ i ∧ i < w'.heap.size)) := by
  obtain ⟨⟨T', V', hb, ho⟩, hc⟩ := h
  refine ⟨hc.mono fun i _ hi => hT i hi, hwf, T', V', hb, fun i hi => ?_⟩
  by_cases hlt : i < w.heap.size
  · rw [ho i hlt] at hi; exact Or.inl (hT i hi)
  · exact Or.inr ⟨by omega, hb.lt i hi⟩

section
variable {G : Nat → Prop} {W w : World} {L : List Ch} {X : Pan} {K : Value → World → Prop} {b : Nat} {S : BS}

theorem CALL_New (h : St G W w L) (hK : ∀ w' b, St G W w' (L ++ [bldC b S0]) → K (.pointer (some ⟨b, 0, none⟩)) w') : CALL Try.prog X gram_New.id #[] w K := by
  refine CALL_of (New_ct w) ?_
  rintro _ _ ⟨rfl, rfl⟩
  refine hK _ _ (h.seq ⟨(Chg.refl _ _).alloc _, fun i => if i = w.heap.size then 1 else 0, fun i hi => ?_, fun k d hk => ?_⟩)
  · by_cases e : i = w.heap.size
    · subst e; exact ⟨fun h => absurd h (Nat.lt_irrefl _), by simp⟩
    · dsimp only at hi; rw [if_neg e] at hi; exact absurd rfl hi
  · match k, hk with
    | 0, hk =>
      injection hk with hk; subst hk
      exact ⟨BSwf.zero, _, _, Bld.zero w rfl, fun i hi => by simp [T0_ne hi]⟩
    | k + 1, hk => simp at hk

theorem CALL_Term (h : St G W w L) (k : Nat) (hk : L[k]? = some (bldC b S)) {s : ByteArray} (hs : s.size ≤ maxLen)
    (hK : ∀ w', St G W w' (L.set k (bldC b (termA S s).2.2)) → K (.tuple #[.int .i64 (termA S s).1, .int .i64 (termA S s).2.1]) w') : CALL Try.prog X gram_Builder_Term.id #[.pointer (some ⟨b, 0, none⟩), .string s] w K := by
  obtain ⟨F, ⟨hwf, T, V, hb, hT⟩, _, hs'⟩ := h.opn hk
  refine CALL_of (Term_ct hb hs) ?_
  rintro _ w' ⟨rfl, hA⟩
  obtain ⟨h1, h2⟩ := hA.step (V := V) (S := S) (termA_wf hwf s) hT
  exact hK _ (hs' _ _ h1 h2)

theorem CALL_Non (h : St G W w L) (k : Nat) (hk : L[k]? = some (bldC b S)) {s : ByteArray} (hs : s.size ≤ maxLen)
    (hK : ∀ w', St G W w' (L.set k (bldC b (nonA S s).2.2)) → K (.tuple #[.int .i64 (nonA S s).1, .int .i64 (nonA S s).2.1]) w') : CALL Try.prog X gram_Builder_Non.id #[.pointer (some ⟨b, 0, none⟩), .string s] w K := by
  obtain ⟨F, ⟨hwf, T, V, hb, hT⟩, _, hs'⟩ := h.opn hk
  refine CALL_of (Non_ct hb hs) ?_
  rintro _ w' ⟨rfl, hA⟩
  obtain ⟨h1, h2⟩ := hA.step (V := V) (S := S) (nonA_wf hwf s) hT
  exact hK _ (hs' _ _ h1 h2)

theorem CALL_Start (h : St G W w L) (k : Nat) (hk : L[k]? = some (bldC b S)) {x : Int} (hx : inI64 x)
    (hK : ∀ w', St G W w' (L.set k (bldC b (if isN S x then { S with start := x } else S))) → K (.int .i64 (if isN S x then 0 else 1)) w') : CALL Try.prog X gram_Builder_Start.id #[.pointer (some ⟨b, 0, none⟩), .int .i64 x] w K := by
  obtain ⟨F, ⟨hwf, T, V, hb, hT⟩, _, hs'⟩ := h.opn hk
  refine CALL_of (Start_ct hb hx) ?_
  rintro _ w' ⟨rfl, hA⟩
  obtain ⟨h1, h2⟩ := hA.step (V := V) (S := S) (startA_wf hwf x) hT
  exact hK _ (hs' _ _ h1 h2)

theorem CALL_Rule (h : St G W w L) (k : Nat) (hk : L[k]? = some (bldC b S)) {left : Int} (hx : inI64 left) {u : Value} {right : List Int} (hu : (rSlice rInt).at1 w w.heap.size u right) (hn : right.length * 8 ≤ maxBytes)
    (hK : ∀ w', St G W w' (L.set k (bldC b (ruleA S left right).2.2)) → K (.tuple #[.int .i64 (ruleA S left right).1, .int .i64 (ruleA S left right).2.1]) w') : CALL Try.prog X gram_Builder_Rule.id #[.pointer (some ⟨b, 0, none⟩), .int .i64 left, u] w K := by
  obtain ⟨F, ⟨hwf, T, V, hb, hT⟩, _, hs'⟩ := h.opn hk
  refine CALL_of (Rule_ct hb hx hu (Nat.le_refl _) hn) ?_
  rintro _ w' ⟨rfl, hA⟩
  obtain ⟨h1, h2⟩ := hA.step (V := V) (S := S) (ruleA_wf hb.ok hwf left hn) hT
  exact hK _ (hs' _ _ h1 h2)

theorem CALL_Sizes (h : St G W w L) (k : Nat) (hk : L[k]? = some (bldC b S))
    (hK : ∀ w', St G W w' L → K (.tuple #[.int .i64 S.terms.length, .int .i64 S.nons.length, .int .i64 S.levels.length, .int .i64 S.rules.length]) w') : CALL Try.prog X gram_Builder_Sizes.id #[.pointer (some ⟨b, 0, none⟩)] w K := by
  obtain ⟨F, ⟨hwf, T, V, hb, hT⟩, _⟩ := h.get hk
  refine CALL_of (Sizes_ct hb) ?_
  rintro _ w' ⟨rfl, hc⟩
  exact hK _ (h.old hc)

theorem CALL_Grammar (h : St G W w L) (k : Nat) (hk : L[k]? = some (bldC b S)) (hK : ∀ v w', BSok S → BSwf S → St G W w' L → GrAns S w v w' → K v w') : CALL Try.prog X gram_Builder_Grammar.id #[.pointer (some ⟨b, 0, none⟩)] w K := by
  obtain ⟨F, ⟨hwf, T, V, hb, hT⟩, _⟩ := h.get hk
  refine CALL_of (Grammar_ct hb hwf) ?_
  intro v w' hA
  exact hK v w' hb.ok hwf (h.old hA.1) hA
end
end Go.Proofs.Ytmhebgebfjnfjaa
