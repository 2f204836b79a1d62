/-
  Texts of this claim: Gp1, Gp2, Gp3.
-/
import Derived.Test.YtmhebgebfjnfjaaMf
import Derived.Test.YtmhebgebfjnfjaaMe
import Derived.Test.YtmhebgebfjnfjaaGf
/-
  The document's builder: Term, Non, term, non, Start.
-/
namespace Go.Proofs.Ytmhebgebfjnfjaa
open Go.Px Go.Px.Scan Go.RowKit
set_option maxHeartbeats 1000000
set_option linter.unusedSimpArgs false
set_option linter.unusedVariables false
set_option maxRecDepth 100000
attribute [-go_sem] Builtin.append_

theorem uRules : Try.prog.underlying 64 = some (.slice 116) := Try.underlying64
theorem iRule : (Try.prog.info? 116).map (fun i => (i.zero, i.size, i.bytes)) = some (some (.agg #[.int .i64 0, .slice none 0 0, .int .i64 0]), 3, 40) := by kernel_rfl

/-- The document's builder, in its pieces. -/
def refL (p : Nat) (S : BS) (a1 : Option Addr) (c1 : Nat) (a2 : Option Addr) (c2 : Nat) (a3 : Option Addr) (c3 : Nat) (a4 : Option Addr) (c4 : Nat) (vs : List Value) : List Ch :=
  [boxC p 66 [.slice a1 S.terms.length c1, .slice a2 S.nons.length c2, .slice a3 S.levels.length c3, .slice a4 S.rules.length c4, .int .i64 S.start],
    rowC 56 2 a1 S.terms.length c1 (S.terms.flatMap termE), rowC 9 1 a2 S.nons.length c2 (S.nons.map Value.string), rowC 3 1 a3 S.levels.length c3 (S.levels.map (.int .i64 ·)),
    rowC 116 3 a4 S.rules.length c4 ((S.rules.zip vs).flatMap fun x => ruleC x.1 x.2), rowsC 3 1 vs (S.rules.map fun r => r.2.1.map (.int .i64 ·))]

/-- The document's builder. -/
def refC (p : Nat) (S : BS) : Ch where
  ok w F := ∃ a1 c1 a2 c2 a3 c3 a4 c4 vs, allOk (refL p S a1 c1 a2 c2 a3 c3 a4 c4 vs) w F
  keep h hc hX hF := by
    obtain ⟨a1, c1, a2, c2, a3, c3, a4, c4, vs, h⟩ := h
    exact ⟨a1, c1, a2, c2, a3, c3, a4, c4, vs, h.keep hc hX hF⟩

/-- What a call may do to it. -/
def DoneR (F : Nat → Prop) (w : World) (p : Nat) (S' : BS) (w' : World) : Prop := Chg F w w' ∧ (refC p S').ok w' (fun i => F i ∨ (w.heap.size ≤ i ∧ i < w'.heap.size))

theorem refC_leave {F : Nat → Prop} {w w' : World} {p : Nat} {S : BS} {a1 : Option Addr} {c1 : Nat} {a2 : Option Addr} {c2 : Nat} {a3 : Option Addr} {c3 : Nat} {a4 : Option Addr} {c4 : Nat} {vs : List Value} {X : List Ch}
    (h : St F w w' (refL p S a1 c1 a2 c2 a3 c3 a4 c4 vs ++ X)) : DoneR F w p S w' := by
  have h9 := h.take 6
  rw [show (refL p S a1 c1 a2 c2 a3 c3 a4 c4 vs ++ X).take 6 = refL p S a1 c1 a2 c2 a3 c3 a4 c4 vs from rfl] at h9
  exact ⟨h.chg, a1, c1, a2, c2, a3, c3, a4, c4, vs, h9.leave⟩
theorem refC_leave' {F : Nat → Prop} {w w' : World} {p : Nat} {S : BS} {a1 : Option Addr} {c1 : Nat} {a2 : Option Addr} {c2 : Nat} {a3 : Option Addr} {c3 : Nat} {a4 : Option Addr} {c4 : Nat} {vs : List Value}
    (h : St F w w' (refL p S a1 c1 a2 c2 a3 c3 a4 c4 vs)) : DoneR F w p S w' := refC_leave (X := []) (by simpa using h)

theorem posH_at {l : List ByteArray} {k : Nat} (hk : k < l.length) (hnd : l.Nodup) : posH l l[k] = (k : Int) + 1 := by
  obtain ⟨h1, h2⟩ := posN_in (List.getElem_mem hk)
  have h3 : posN l l[k] = k := by
    rw [List.getElem?_eq_getElem h1] at h2
    injection h2 with h2
    exact (List.getElem_inj hnd).1 h2
  unfold posH
  rw [if_pos h1, h3]

section
variable {w : World} {F : Nat → Prop} {p : Nat} {S : BS}
theorem rterm_ct (h : (refC p S).ok w F) (ok : BSok S) {x : Int} (hx : inI64 x) : Ct Try.prog ref02_Builder_term.id #[.pointer (some ⟨p, 0, none⟩), .int .i64 x] w fun v w' => v = .bool (isT S x) ∧ Chg noB w w' := by
  refine ref02_Builder_term.ct fun R hR => ?_
  obtain ⟨a1, c1, a2, c2, a3, c3, a4, c4, vs, hp⟩ := h
  have s0 := St.enter hp
  have k0 := s0.box 0 rfl
  simp [boxAt] at k0
  unfold ref02_Builder_term.run
  simp -dsimp [go_sem]
  refine SPL_intro (fun q1 => ?_) (fun q1 => ?_) <;> simp at q1
  · simp -dsimp [go_sem, k0]
    refine hR _ _ ⟨?_, Chg.refl _ _⟩
    simp [isT, q1]
  · refine hR _ _ ⟨?_, Chg.refl _ _⟩
    rw [show isT S x = false by simp [isT]; omega]
theorem rnon_ct (h : (refC p S).ok w F) (ok : BSok S) {x : Int} (hx : inI64 x) : Ct Try.prog ref02_Builder_non.id #[.pointer (some ⟨p, 0, none⟩), .int .i64 x] w fun v w' => v = .bool (isN S x) ∧ Chg noB w w' := by
  refine ref02_Builder_non.ct fun R hR => ?_
  obtain ⟨a1, c1, a2, c2, a3, c3, a4, c4, vs, hp⟩ := h
  have s0 := St.enter hp
  have k0 := s0.box 0 rfl
  have hsy := ok.syms
  simp [boxAt] at k0
  unfold ref02_Builder_non.run
  have ws : IntKind.i64.wrap (-(S.nons.length : Int)) = -(S.nons.length : Int) := IntWalk.i64_in _ (by omega)
  simp -dsimp [go_sem]
  refine SPL_intro (fun q1 => ?_) (fun q1 => ?_) <;> simp at q1
  · simp -dsimp [go_sem, k0, ws]
    refine hR _ _ ⟨?_, Chg.refl _ _⟩
    rw [show isN S x = decide (-(S.nons.length : Int) ≤ x) by unfold isN; apply decide_eq_decide.2; omega]
  · refine hR _ _ ⟨?_, Chg.refl _ _⟩
    rw [show isN S x = false by simp [isN]; omega]

theorem rStart_ct (h : (refC p S).ok w F) (ok : BSok S) {x : Int} (hx : inI64 x) : Ct Try.prog ref02_Builder_Start.id #[.pointer (some ⟨p, 0, none⟩), .int .i64 x] w fun v w' => v = .int .i64 (if isN S x then 0 else 1) ∧ DoneR F w p (if isN S x then { S with start := x } else S) w' := by
  refine ref02_Builder_Start.ct fun R hR => ?_
  unfold ref02_Builder_Start.run
  simp -dsimp [go_sem]
  refine CALL_of (rnon_ct h ok hx) ?_
  rintro _ w1 ⟨rfl, hc1⟩
  obtain ⟨a1, c1, a2, c2, a3, c3, a4, c4, vs, hp⟩ := h
  have s1 := (St.enter hp).old hc1
  have k1 := s1.box 0 rfl
  simp [boxAt] at k1
  cases hn : isN S x with
  | false =>
    simp -dsimp [go_sem]
    refine hR _ _ ⟨by rw [hn]; rfl, ?_⟩
    rw [hn]
    exact refC_leave' s1
  | true =>
    simp -dsimp [go_sem, k1]
    refine hR _ _ ⟨by rw [hn]; rfl, ?_⟩
    rw [hn]
    exact refC_leave' (S := { S with start := x }) (s1.set 0 rfl 4 (.int .i64 x))

theorem rTerm_ct (h : (refC p S).ok w F) (ok : BSok S) {s : ByteArray} (hs : s.size ≤ maxLen) : Ct Try.prog ref02_Builder_Term.id #[.pointer (some ⟨p, 0, none⟩), .string s] w fun v w' => v = .tuple #[.int .i64 (termA S s).1, .int .i64 (termA S s).2.1] ∧ DoneR F w p (termA S s).2.2 w' := by
  refine ref02_Builder_Term.ct fun R hR => ?_
  obtain ⟨a1, c1, a2, c2, a3, c3, a4, c4, vs, hp⟩ := h
  have s0 := St.enter hp
  have hsy := ok.syms
  unfold ref02_Builder_Term.run
  simp -dsimp [go_sem]
  refine CALL_of (ref02_IsTerm_ct hs w) ?_
  rintro _ _ ⟨rfl, rfl⟩
  cases ht : tmB s with
  | false =>
    simp -dsimp [go_sem]
    have e : termA S s = (0, 1, S) := by unfold termA; rw [if_pos ht]
    rw [e] at hR
    exact hR _ _ ⟨rfl, refC_leave' s0⟩
  | true =>
    simp -dsimp [go_sem]
    refine ref02_Builder_Term.l6_intro _ _ _ _ _ (fun y w' => ∃ k : Nat, y = .int .i64 k ∧ k ≤ S.terms.length ∧ Chg noB w w' ∧ ∀ t ∈ S.terms.take k, t.1 ≠ s) (fun y _ => S.terms.length - iv y) ⟨0, rfl, by omega, Chg.refl _ _, by simp⟩ ?_
    rintro _ w1 ⟨k, rfl, hk, hc1, hno⟩ C hC
    have s1 := s0.old hc1
    have k1 := s1.box 0 rfl
    simp [boxAt] at k1
    simp -dsimp [go_sem, k1]
    refine SPL_intro (fun p1 => ?_) (fun p1 => ?_) <;> simp at p1
    · obtain ⟨F1, o1, _⟩ := s1.get (k := 1) rfl
      obtain ⟨g, rfl, d1, d2, _⟩ := row_elem o1 (fun _ _ => rfl) (by omega) (List.getElem?_eq_getElem p1)
      have e0 := d1 0 _ rfl
      have wk : IntKind.i64.wrap ((k : Int) + 1) = (k : Int) + 1 := IntWalk.i64_in _ (by omega)
      simp at e0
      simp -dsimp [go_sem, p1, k1, e0]
      refine SPL_intro (fun p2 => ?_) (fun p2 => ?_) <;> simp [toList_inj'] at p2
      · have hpos : posH (S.terms.map (·.1)) s = (k : Int) + 1 := by
          rw [← p2]
          have := posH_at (l := S.terms.map (·.1)) (k := k) (by simpa using p1) ok.tnd
          simpa using this
        have e : termA S s = ((k : Int) + 1, 0, S) := by unfold termA; rw [if_neg (by simp [ht]), if_pos (by omega), hpos]
        rw [e] at hR
        simp -dsimp [go_sem, wk]
        exact hR _ _ ⟨rfl, refC_leave' s1⟩
      · simp -dsimp [go_sem, wk]
        refine hC _ _ ⟨k + 1, by simp, by omega, hc1, fun t h9 => ?_⟩ (by simp [iv]; omega)
        rw [List.take_succ_eq_append_getElem p1, List.mem_append] at h9
        rcases h9 with h9 | h9
        · exact hno t h9
        · simp at h9; rw [h9]; exact p2
    · have hka : k = S.terms.length := by omega
      subst hka
      have hno' : s ∉ S.terms.map (·.1) := fun hm => by
        obtain ⟨t, h8, h9⟩ := List.mem_map.1 hm
        exact hno t (by rw [List.take_length]; exact h8) h9
      have hz := posH_zero.2 hno'
      have s2 := s1.old (Chg.refl noB w1).drew
      have ws : IntKind.i64.wrap ((S.terms.length : Int) + S.nons.length) = (S.terms.length : Int) + S.nons.length := IntWalk.i64_in _ (by omega)
      simp -dsimp [go_sem, k1, ws]
      refine SPL_intro (fun p2 => ?_) (fun p2 => ?_) <;> simp at p2
      · have e : termA S s = (0, 11, S) := by unfold termA; rw [if_neg (by simp [ht]), if_neg (by simp [hz]), if_pos (by omega)]
        rw [e] at hR
        exact hR _ _ ⟨rfl, refC_leave' s2⟩
      · have e : termA S s = ((S.terms.length : Int) + 1, 0, { S with terms := S.terms ++ [(s, 0)] }) := by unfold termA; rw [if_neg (by simp [ht]), if_neg (by simp [hz]), if_neg (by omega)]
        rw [e] at hR
        have k2 := s2.box 0 rfl
        simp [boxAt] at k2
        simp -dsimp [go_sem, k2]
        refine s2.append1 1 rfl uTerms iTerm rfl (by omega) (news := [.string s, .int .i64 0]) rfl (by simp [Value.oneCell']) (by unfold maxLen; omega) (by unfold maxBytes; omega) ?_
        intro g cap w3 s3
        have k3 := s3.box 0 rfl
        simp [boxAt] at k3
        have s4 := s3.set 0 rfl 0 (.slice (some ⟨g, 0, none⟩) (S.terms.length + 1) cap)
        simp -dsimp [go_sem, k3]
        refine hR _ _ ⟨rfl, ?_⟩
        refine refC_leave' (S := { S with terms := S.terms ++ [(s, 0)] }) (a1 := some ⟨g, 0, none⟩) (c1 := cap) (a2 := a2) (c2 := c2) (a3 := a3) (c3 := c3) (a4 := a4) (c4 := c4) (vs := vs) ?_
        have e9 : (S.terms.flatMap termE) ++ [.string s, .int .i64 0] = (S.terms ++ [(s, 0)]).flatMap termE := by simp [termE]
        simp only [e9] at s4
        simpa only [refL, List.length_append, List.length_singleton, List.set_cons_zero, List.set_cons_succ] using s4

theorem rNon_ct (h : (refC p S).ok w F) (ok : BSok S) {s : ByteArray} (hs : s.size ≤ maxLen) : Ct Try.prog ref02_Builder_Non.id #[.pointer (some ⟨p, 0, none⟩), .string s] w fun v w' => v = .tuple #[.int .i64 (nonA S s).1, .int .i64 (nonA S s).2.1] ∧ DoneR F w p (nonA S s).2.2 w' := by
  refine ref02_Builder_Non.ct fun R hR => ?_
  obtain ⟨a1, c1, a2, c2, a3, c3, a4, c4, vs, hp⟩ := h
  have s0 := St.enter hp
  have hsy := ok.syms
  unfold ref02_Builder_Non.run
  simp -dsimp [go_sem]
  refine CALL_of (ref02_IsName_ct hs w) ?_
  rintro _ _ ⟨rfl, rfl⟩
  cases ht : nmB s with
  | false =>
    simp -dsimp [go_sem]
    have e : nonA S s = (0, 1, S) := by unfold nonA; rw [if_pos ht]
    rw [e] at hR
    exact hR _ _ ⟨rfl, refC_leave' s0⟩
  | true =>
    simp -dsimp [go_sem]
    refine ref02_Builder_Non.l6_intro _ _ _ _ _ (fun y w' => ∃ k : Nat, y = .int .i64 k ∧ k ≤ S.nons.length ∧ Chg noB w w' ∧ ∀ t ∈ S.nons.take k, t ≠ s) (fun y _ => S.nons.length - iv y) ⟨0, rfl, by omega, Chg.refl _ _, by simp⟩ ?_
    rintro _ w1 ⟨k, rfl, hk, hc1, hno⟩ C hC
    have s1 := s0.old hc1
    have k1 := s1.box 0 rfl
    simp [boxAt] at k1
    simp -dsimp [go_sem, k1]
    refine SPL_intro (fun p1 => ?_) (fun p1 => ?_) <;> simp at p1
    · obtain ⟨g, rfl, e0, _⟩ := s1.rowAt 2 rfl (j := k) (by simpa using p1)
      have wk : IntKind.i64.wrap ((k : Int) + 1) = (k : Int) + 1 := IntWalk.i64_in _ (by omega)
      have wk2 : IntKind.i64.wrap (-1 - (k : Int)) = -1 - (k : Int) := IntWalk.i64_in _ (by omega)
      simp at e0
      simp -dsimp [go_sem, p1, k1, e0]
      refine SPL_intro (fun p2 => ?_) (fun p2 => ?_) <;> simp [toList_inj'] at p2
      · have hpos : posH S.nons s = (k : Int) + 1 := by
          rw [← p2]; exact posH_at p1 ok.nnd
        have e : nonA S s = (-1 - (k : Int), 0, S) := by unfold nonA; rw [if_neg (by simp [ht]), if_pos (by omega), hpos]; congr 1; omega
        rw [e] at hR
        simp -dsimp [go_sem, wk2]
        exact hR _ _ ⟨rfl, refC_leave' s1⟩
      · simp -dsimp [go_sem, wk]
        refine hC _ _ ⟨k + 1, by simp, by omega, hc1, fun t h9 => ?_⟩ (by simp [iv]; omega)
        rw [List.take_succ_eq_append_getElem p1, List.mem_append] at h9
        rcases h9 with h9 | h9
        · exact hno t h9
        · simp at h9; rw [h9]; exact p2
    · have hka : k = S.nons.length := by omega
      subst hka
      have hno' : s ∉ S.nons := fun hm => hno s (by rw [List.take_length]; exact hm) rfl
      have hz := posH_zero.2 hno'
      have s2 := s1.old (Chg.refl noB w1).drew
      have ws : IntKind.i64.wrap ((S.terms.length : Int) + S.nons.length) = (S.terms.length : Int) + S.nons.length := IntWalk.i64_in _ (by omega)
      simp -dsimp [go_sem, k1, ws]
      refine SPL_intro (fun p2 => ?_) (fun p2 => ?_) <;> simp at p2
      · have e : nonA S s = (0, 11, S) := by unfold nonA; rw [if_neg (by simp [ht]), if_neg (by simp [hz]), if_pos (by omega)]
        rw [e] at hR
        exact hR _ _ ⟨rfl, refC_leave' s2⟩
      · have e : nonA S s = (-((S.nons.length : Int) + 1), 0, { S with nons := S.nons ++ [s] }) := by unfold nonA; rw [if_neg (by simp [ht]), if_neg (by simp [hz]), if_neg (by omega)]
        rw [e] at hR
        have k2 := s2.box 0 rfl
        simp [boxAt] at k2
        simp -dsimp [go_sem, k2]
        refine s2.append1 2 rfl uStrs iStr rfl (by omega) (news := [.string s]) rfl (by simp [Value.oneCell']) (by unfold maxLen; omega) (by unfold maxBytes; omega) ?_
        intro g cap w3 s3
        have k3 := s3.box 0 rfl
        simp [boxAt] at k3
        have s4 := s3.set 0 rfl 1 (.slice (some ⟨g, 0, none⟩) (S.nons.length + 1) cap)
        have ws : IntKind.i64.wrap (-((S.nons.length : Int) + 1)) = -((S.nons.length : Int) + 1) := IntWalk.i64_in _ (by omega)
        simp -dsimp [go_sem, k3, ws]
        refine hR _ _ ⟨rfl, ?_⟩
        refine refC_leave' (S := { S with nons := S.nons ++ [s] }) (a1 := a1) (c1 := c1) (a2 := some ⟨g, 0, none⟩) (c2 := cap) (a3 := a3) (c3 := c3) (a4 := a4) (c4 := c4) (vs := vs) ?_
        have e9 : (S.nons.map Value.string) ++ [.string s] = (S.nons ++ [s]).map Value.string := by simp
        simp only [e9] at s4
        simpa only [refL, List.length_append, List.length_singleton, List.set_cons_zero, List.set_cons_succ] using s4
end
end Go.Proofs.Ytmhebgebfjnfjaa

/-
  The document's builder: Level.
-/
namespace Go.Px.Scan
open Go.Px
end Go.Px.Scan
namespace Go.Proofs.Ytmhebgebfjnfjaa
open Go.Px Go.Px.Scan Go.RowKit
set_option maxHeartbeats 1000000
set_option linter.unusedSimpArgs false
set_option linter.unusedVariables false
set_option maxRecDepth 100000
attribute [-go_sem] Builtin.append_
attribute [-go_sem] ref02_Builder_Level.b4 ref02_Builder_Level.b7 ref02_Builder_Level.b6

theorem term_cells (n : Int) : ∀ (ts : List (ByteArray × Int)) (j : Nat), j < ts.length → (ts.flatMap termE).set (j * 2 + 1) (.int .i64 n) = (ts.modify j fun t => (t.1, n)).flatMap termE
  | [], j, h => absurd h (Nat.not_lt_zero _)
  | t :: ts, 0, _ => by simp [termE]
  | t :: ts, j + 1, h => by
    have := term_cells n ts j (by simpa using h)
    rw [List.flatMap_cons, show (j + 1) * 2 + 1 = j * 2 + 1 + 2 by omega]
    simp [termE, this]

section
variable {w : World} {F : Nat → Prop} {p : Nat} {S : BS}
theorem rLevel_ct {B : Nat} (h : (refC p S).ok w F) (ok : BSok S) (hwf : BSwf S) {side : Int} (hs : inI64 side) {u : Value} {l : List Int} (hu : ∀ w', Chg F w w' → (rSlice rInt).at1 w' B u l) :
    Ct Try.prog ref02_Builder_Level.id #[.pointer (some ⟨p, 0, none⟩), .int .i64 side, u] w fun v w' => v = .tuple #[.int .i64 (levelA S side l).1, .int .i64 (levelA S side l).2.1] ∧ DoneR F w p (levelA S side l).2.2 w' := by
  refine ref02_Builder_Level.ct fun R hR => ?_
  obtain ⟨a1, c1, a2, c2, a3, c3, a4, c4, vs, hp⟩ := h
  have s0 := St.enter hp
  have hsy := ok.syms
  obtain ⟨A, c, rfl, hl1, hl2, _⟩ := slice_form (hu w (Chg.refl _ _))
  have no : ∀ w', Chg noB w w' → ¬ LvP S side l → R (.returned (.tuple #[.int .i64 0, .int .i64 1])) w' := fun w' hc hn => by
    rw [levelA_no hn] at hR
    exact hR _ _ ⟨rfl, refC_leave' (s0.old hc)⟩
  unfold ref02_Builder_Level.run
  simp -dsimp [go_sem]
  refine SPL_intro (fun q1 => ?_) (fun q1 => ?_) <;> simp at q1
  · simp -dsimp [go_sem]
    exact no _ (Chg.refl _ _) fun hv => by have := hv.s0; omega
  simp -dsimp [go_sem]
  refine SPL_intro (fun q2 => ?_) (fun q2 => ?_) <;> simp at q2
  · simp -dsimp [go_sem]
    exact no _ (Chg.refl _ _) fun hv => by have := hv.s1; omega
  simp -dsimp [go_sem]
  refine SPL_intro (fun q3 => ?_) (fun q3 => ?_) <;> simp at q3
  · exact no _ (Chg.refl _ _) fun hv => hv.ne q3
  simp -dsimp [go_sem]
  refine ref02_Builder_Level.l13_intro _ _ _ _ _ _ (fun y w' => ∃ k : Nat, y = .int .i64 k ∧ k ≤ l.length ∧ Chg noB w w' ∧
    (∀ h ∈ l.take k, 1 ≤ h ∧ h ≤ S.terms.length ∧ gradeOf S h = 0) ∧ (l.take k).Nodup) (fun y _ => l.length - iv y) ⟨0, rfl, by omega, Chg.refl _ _, by simp, by simp⟩ ?_
  rintro _ w1 ⟨k, rfl, hk, hc1, hall, hnd⟩ C hC
  have s1 := s0.old hc1
  simp -dsimp [go_sem]
  refine SPL_intro (fun p1 => ?_) (fun p1 => ?_) <;> simp at p1
  · obtain ⟨b1, o1, rfl, hb1, x1, x2⟩ := Go.Px.ints_at (hu _ s1.chg) p1
    have wk := wrap_succ p1 (Nat.le_trans hl1 hl2)
    have htk : l.take (k + 1) = l.take k ++ [l[k]] := List.take_succ_eq_append_getElem p1
    have hmem : l[k] ∈ l := List.getElem_mem p1
    simp -dsimp [go_sem, p1, x1]
    refine CALL_of (rterm_ct ⟨a1, c1, a2, c2, a3, c3, a4, c4, vs, s1.leave⟩ ok x2) ?_
    rintro _ w2 ⟨rfl, hc2⟩
    have hc12 := hc1.trans hc2
    have s2 := s0.old hc12
    cases hT3 : isT S l[k] with
    | false =>
      simp -dsimp [go_sem]
      refine no _ hc12 fun hv => ?_
      have := hv.terms _ hmem
      rw [show isT S l[k] = true by simp [isT]; omega] at hT3; cases hT3
    | true =>
      have hrg : 1 ≤ l[k] ∧ l[k] ≤ S.terms.length := by simpa [isT] using hT3
      obtain ⟨j, hj⟩ : ∃ j : Nat, l[k] = (j : Int) + 1 := ⟨(l[k] - 1).toNat, by omega⟩
      have hjl : j < S.terms.length := by omega
      have ws : IntKind.i64.wrap (l[k] - 1) = (j : Int) := by rw [hj, show (j : Int) + 1 - 1 = j by omega]; exact IntWalk.i64_in _ (by omega)
      have hgr : gradeOf S l[k] = S.terms[j].2 := by
        unfold gradeOf
        rw [show (l[k] - 1).toNat = j by omega, List.getElem?_eq_getElem hjl]; rfl
      have hc3 := hc12.trans (Chg.refl noB w2).drew
      have s3 := s0.old hc3
      have k3 := s3.box 0 rfl
      simp [boxAt] at k3
      obtain ⟨F1, o1', _⟩ := s3.get (k := 1) rfl
      obtain ⟨g, rfl, d1, d2, _⟩ := row_elem o1' (fun _ _ => rfl) (by omega) (List.getElem?_eq_getElem hjl)
      have e1 := d1 1 _ rfl
      simp at e1
      obtain ⟨_, _, e9, _, x3, _⟩ := Go.Px.ints_at (hu _ s3.chg) p1
      injection e9 with e9; injection e9 with e9 e10; subst e9 e10
      simp at x3
      simp -dsimp [go_sem, k3, p1, x3, ws, hjl, e1]
      refine SPL_intro (fun p2 => ?_) (fun p2 => ?_) <;> simp at p2
      · refine no _ hc3 fun hv => ?_
        have := (hv.terms _ hmem).2.2
        have h8 : gradeOf S l[k] = 0 := this
        omega
      refine ref02_Builder_Level.l20_intro _ _ _ _ _ _ (fun y w' => ∃ i : Nat, y = .int .i64 i ∧ i ≤ k ∧ Chg noB w w' ∧ ∀ x ∈ l.take i, x ≠ l[k]) (fun y _ => k - iv y) ⟨0, rfl, by omega, hc3, by simp⟩ ?_
      rintro _ w4 ⟨i, rfl, hi, hc4, hne⟩ C' hC'
      have s4 := s0.old hc4
      simp -dsimp [go_sem]
      refine SPL_intro (fun p3 => ?_) (fun p3 => ?_) <;> simp at p3
      · have hil : i < l.length := by omega
        have hc5 := hc4.trans (Chg.refl noB w4).drew
        have s5 := s0.old hc5
        obtain ⟨_, _, e9, _, x5, _⟩ := Go.Px.ints_at (hu _ s5.chg) p1
        injection e9 with e9; injection e9 with e9 e10; subst e9 e10
        obtain ⟨_, _, e9, _, x6, _⟩ := Go.Px.ints_at (hu _ s5.chg) hil
        injection e9 with e9; injection e9 with e9 e10; subst e9 e10
        have wi := wrap_succ p3 (show k ≤ maxLen by omega)
        simp at x5 x6
        simp -dsimp [go_sem, p1, hil, x5, x6]
        refine SPL_intro (fun p4 => ?_) (fun p4 => ?_) <;> simp at p4
        · refine no _ hc5 fun hv => ?_
          exact List.pairwise_iff_getElem.1 hv.nd i k hil p1 p3 p4
        · simp -dsimp [go_sem, wi]
          refine hC' _ _ ⟨i + 1, by simp, by omega, hc5, fun x hx => ?_⟩ (by simp [iv]; omega)
          rw [List.take_succ_eq_append_getElem hil, List.mem_append, List.mem_singleton] at hx
          rcases hx with hx | rfl
          · exact hne x hx
          · exact p4
      · have hik : i = k := by omega
        subst hik
        simp -dsimp [go_sem, wk]
        refine hC _ _ ⟨i + 1, by simp, by omega, hc4, fun x hx => ?_, ?_⟩ (by simp [iv]; omega)
        · rw [htk, List.mem_append, List.mem_singleton] at hx
          rcases hx with hx | rfl
          · exact hall x hx
          · exact ⟨hrg.1, hrg.2, by omega⟩
        · rw [htk]
          refine List.nodup_append.2 ⟨hnd, by simp, fun a ha b' hb' => ?_⟩
          rw [List.mem_singleton.1 hb']
          exact hne a ha
  · have hka : k = l.length := by omega
    subst hka
    rw [List.take_length] at hall hnd
    have hv : LvP S side l := ⟨by omega, by omega, q3, fun h hh => hall h hh, hnd⟩
    rw [levelA_yes hv] at hR
    clear hC C
    have lev1 := hv.lev hwf
    have k1 := s1.box 0 rfl
    simp [boxAt] at k1
    unfold ref02_Builder_Level.b4
    simp -dsimp [go_sem, k1]
    refine s1.append1 3 rfl uInts iInt rfl (by omega) (news := [.int .i64 side]) rfl (by simp [Value.oneCell']) (by unfold maxLen; omega) (by unfold maxBytes; omega) ?_
    intro g' cap w3 s3
    have k3 := s3.box 0 rfl
    simp [boxAt] at k3
    have s4 := s3.set 0 rfl 2 (.slice (some ⟨g', 0, none⟩) (S.levels.length + 1) cap)
    simp -dsimp [go_sem, k3]
    generalize w3.setCell ⟨p, 2, none⟩ (.slice (some ⟨g', 0, none⟩) (S.levels.length + 1) cap) = w4 at s4 ⊢
    have e8 : (S.levels.map (Value.int .i64 ·)) ++ [.int .i64 side] = (S.levels ++ [side]).map (Value.int .i64 ·) := by simp
    simp only [e8] at s4
    unfold ref02_Builder_Level.b7
    refine ref02_Builder_Level.l9_intro _ _ _ _ _ (fun y w' => ∃ k : Nat, y = .int .i64 k ∧ k ≤ l.length ∧
      St F w w' (refL p { S with levels := S.levels ++ [side], terms := setLv ((S.levels.length : Int) + 1) S.terms (l.take k) } a1 c1 a2 c2 (some ⟨g', 0, none⟩) cap a4 c4 vs)) (fun y _ => l.length - iv y) ⟨0, rfl, by omega, by
        have h0 : setLv ((S.levels.length : Int) + 1) S.terms (l.take 0) = S.terms := by simp [setLv]
        rw [h0]
        simpa only [refL, List.length_append, List.length_singleton, List.set_cons_zero, List.set_cons_succ] using s4⟩ ?_
    rintro _ w5 ⟨k, rfl, hk, s5⟩ C hC
    simp -dsimp [go_sem]
    refine SPL_intro (fun p1 => ?_) (fun p1 => ?_) <;> simp at p1
    · have s6 := s5.old ((Chg.refl noB w5).drew)
      obtain ⟨b1, o1, rfl, hb1, x1, x2⟩ := Go.Px.ints_at (hu _ s6.chg) p1
      have wk := wrap_succ p1 (Nat.le_trans hl1 hl2)
      have hrg := hall l[k] (List.getElem_mem p1)
      obtain ⟨j, hj⟩ : ∃ j : Nat, l[k] = (j : Int) + 1 := ⟨(l[k] - 1).toNat, by omega⟩
      have hjl : j < S.terms.length := by omega
      have ws : IntKind.i64.wrap (l[k] - 1) = (j : Int) := by rw [hj, show (j : Int) + 1 - 1 = j by omega]; exact IntWalk.i64_in _ (by omega)
      have k6 := s6.box 0 rfl
      simp [boxAt, setLv_length] at k6
      obtain ⟨F1, o1', _⟩ := s6.get (k := 1) rfl
      obtain ⟨g, rfl, d1, d2, _⟩ := row_elem o1' (fun _ _ => rfl) (by omega) (List.getElem?_eq_getElem (i := j) (by simpa [setLv_length] using hjl))
      have e1 := d1 1 _ rfl
      have f1 := d2 (j * 2 + 1)
      simp at e1 x1
      have s7 := (s5.setRow 1 rfl (j * 2 + 1) (.int .i64 ((S.levels.length : Int) + 1))).old (Chg.refl noB _).drew
      have htk : l.take (k + 1) = l.take k ++ [l[k]] := List.take_succ_eq_append_getElem p1
      have em : ((setLv ((S.levels.length : Int) + 1) S.terms (l.take k)).flatMap termE).set (j * 2 + 1) (.int .i64 ((S.levels.length : Int) + 1)) = (setLv ((S.levels.length : Int) + 1) S.terms (l.take (k + 1))).flatMap termE := by
        rw [htk, setLv_snoc, show (l[k] - 1).toNat = j by omega, term_cells _ _ _ (by simpa [setLv_length] using hjl)]
      rw [em] at s7
      simp -dsimp [go_sem, p1, x1, k6, ws, hjl, e1, f1, wk]
      refine hC _ _ ⟨k + 1, by simp, by omega, ?_⟩ (by simp [iv]; omega)
      simpa only [refL, setLv_length, List.set_cons_zero, List.set_cons_succ] using s7
    · have hka : k = l.length := by omega
      subst hka
      rw [List.take_length] at s5
      have k5 := s5.box 0 rfl
      simp [boxAt] at k5
      unfold ref02_Builder_Level.b6
      simp -dsimp [go_sem, k5]
      exact hR _ _ ⟨rfl, refC_leave' s5⟩
end
end Go.Proofs.Ytmhebgebfjnfjaa

/-
  The document's builder: Rule, Grade.
-/
namespace Go.Proofs.Ytmhebgebfjnfjaa
open Go.Px Go.Px.Scan Go.RowKit
set_option maxHeartbeats 1000000
set_option linter.unusedSimpArgs false
set_option linter.unusedVariables false
set_option maxRecDepth 100000
attribute [-go_sem] Builtin.append_
attribute [-go_sem] ref02_Builder_Rule.b3 ref02_Builder_Rule.b5 ref02_Builder_Rule.b6 ref02_Builder_Rule.b10 ref02_Builder_Grade.b6 ref02_Builder_Grade.b15

theorem bRule0 (x : Int) (w : World) : (Instr.build 116 #[(0, .int .i64 x)]).run Try.prog w = .ok (.agg #[.int .i64 x, .slice none 0 0, .int .i64 0]) w := by simp [go_sem]
attribute [go_sem ↓] bRule0

section
variable {w : World} {F : Nat → Prop} {p : Nat} {S : BS}
theorem rRule_ct {B : Nat} (h : (refC p S).ok w F) (ok : BSok S) {left : Int} (hs : inI64 left) {u : Value} {l : List Int} (hu : ∀ w', Chg F w w' → (rSlice rInt).at1 w' B u l) (hn : l.length * 8 ≤ maxBytes) :
    Ct Try.prog ref02_Builder_Rule.id #[.pointer (some ⟨p, 0, none⟩), .int .i64 left, u] w fun v w' => v = .tuple #[.int .i64 (ruleA S left l).1, .int .i64 (ruleA S left l).2.1] ∧ DoneR F w p (ruleA S left l).2.2 w' := by
  refine ref02_Builder_Rule.ct fun R hR => ?_
  have h0 := h
  obtain ⟨a1, c1, a2, c2, a3, c3, a4, c4, vs, hp⟩ := h
  have s0 := St.enter hp
  have hsy := ok.syms
  have hpr := ok.prods
  obtain ⟨A, c, rfl, hl1, hl2, _⟩ := slice_form (hu w (Chg.refl _ _))
  unfold ref02_Builder_Rule.run
  simp -dsimp [go_sem]
  refine CALL_of (rnon_ct h0 ok hs) ?_
  rintro _ w1 ⟨rfl, hc1⟩
  simp -dsimp [go_sem]
  refine ref02_Builder_Rule.l13_intro _ _ _ _ _ _ _ (fun y z w' => ∃ k : Nat, y = .bool (isN S left && !(l.take k).any (badH S)) ∧ z = .int .i64 k ∧ k ≤ l.length ∧ Chg noB w w') (fun _ z _ => l.length - iv z) ⟨0, by simp, rfl, by omega, hc1⟩ ?_
  rintro _ _ w2 ⟨k, rfl, rfl, hk, hc2⟩ C hC
  have s2 := s0.old hc2
  have hend : k = l.length ∨ (isN S left && !(l.take k).any (badH S)) = false → ref02_Builder_Rule.b3 R (.pointer (some ⟨p, 0, none⟩)) (.int .i64 left) (.slice A l.length c) (.bool (isN S left && !(l.take k).any (badH S))) w2 := by
    intro hE
    clear hC C
    unfold ref02_Builder_Rule.b3
    have no : (isN S left && !(l.take k).any (badH S)) = false → ruleA S left l = (0, 1, S) := fun e => by
      unfold ruleA
      rw [if_pos]
      cases e1 : isN S left with
      | false => exact Or.inl rfl
      | true =>
        rw [e1] at e
        simp at e
        obtain ⟨x, hx, h9⟩ := e
        exact Or.inr (List.any_eq_true.2 ⟨x, List.mem_of_mem_take hx, h9⟩)
    cases hb : (isN S left && !(l.take k).any (badH S)) with
    | false =>
      simp -dsimp [go_sem]
      rw [no hb] at hR
      exact hR _ _ ⟨rfl, refC_leave' s2⟩
    | true =>
      have hka : k = l.length := hE.resolve_right (by rw [hb]; simp)
      rw [hka, List.take_length] at hb
      have hb1 : isN S left = true ∧ l.any (badH S) = false := by simpa using hb
      have hsyk : ∀ x ∈ l, badH S x = false := any_false hb1.2
      have k2 := s2.box 0 rfl
      simp [boxAt] at k2
      simp -dsimp [go_sem, k2]
      refine SPL_intro (fun q1 => ?_) (fun q1 => ?_) <;> simp at q1
      · have e : ruleA S left l = (0, 11, S) := by unfold ruleA; rw [if_neg (by simp [hb1]), if_pos (by omega)]
        rw [e] at hR
        exact hR _ _ ⟨rfl, refC_leave' s2⟩
      have e : ruleA S left l = ((S.rules.length : Int), 0, { S with rules := S.rules ++ [(left, l, ruleL S l)] }) := by unfold ruleA; rw [if_neg (by simp [hb1]), if_neg (by omega)]
      rw [e] at hR
      clear e no hE
      have s3 := (s2.alloc #[.int .i64 left, .slice none 0 0, .int .i64 0] 116).nilRow 3 1
      simp -dsimp [go_sem]
      generalize w2.alloc (.cells #[.int .i64 left, .slice none 0 0, .int .i64 0] 116) = w3 at s3 ⊢
      generalize w2.heap.size = q at s3 ⊢
      unfold ref02_Builder_Rule.b6
      refine ref02_Builder_Rule.l8_intro _ _ _ _ _ _ (fun y w' => ∃ (k : Nat) (ar : Option Addr) (cr : Nat), y = .int .i64 k ∧ k ≤ l.length ∧
        St F w w' (refL p S a1 c1 a2 c2 a3 c3 a4 c4 vs ++ [boxC q 116 [.int .i64 left, .slice ar k cr, .int .i64 (ruleL S (l.take k))], rowC 3 1 ar k cr ((l.take k).map (.int .i64 ·))])) (fun y _ => l.length - iv y) ⟨0, none, 0, rfl, by omega, s3⟩ ?_
      rintro _ w4 ⟨k, ar, cr, rfl, hk, s4⟩ C hC
      simp -dsimp [go_sem]
      refine SPL_intro (fun p1 => ?_) (fun p1 => ?_) <;> simp at p1
      · have s5 := s4.old (Chg.refl noB w4).drew
        obtain ⟨b1, o1, rfl, hb1, x1, x2⟩ := Go.Px.ints_at (hu _ s5.chg) p1
        have wk := wrap_succ p1 (Nat.le_trans hl1 hl2)
        have htk : l.take (k + 1) = l.take k ++ [l[k]] := List.take_succ_eq_append_getElem p1
        have k5 := s5.box 6 rfl
        have k5' := (s5.old ((Chg.refl noB _).alloc (.cells #[.int .i64 l[k]] 3))).box 6 rfl
        simp [boxAt] at k5 k5' x1
        simp -dsimp [go_sem, k5, k5', p1, x1]
        refine s5.append1 7 rfl uInts iInt rfl (by omega) (news := [.int .i64 l[k]]) rfl (by simp [Value.oneCell']) (by omega) (by omega) ?_
        intro g cap w6 s6
        have k6 := s6.box 6 rfl
        simp [boxAt] at k6
        have s7 := s6.set 6 rfl 1 (.slice (some ⟨g, 0, none⟩) (k + 1) cap)
        simp -dsimp [go_sem, k6]
        generalize w6.setCell ⟨q, 1, none⟩ (.slice (some ⟨g, 0, none⟩) (k + 1) cap) = w7 at s7 ⊢
        obtain ⟨_, _, e9, _, x7, _⟩ := Go.Px.ints_at (hu _ s7.chg) p1
        injection e9 with e9; injection e9 with e9 e10; subst e9 e10
        have hrl : ruleL S (l.take (k + 1)) = if 0 < l[k] then gradeOf S l[k] else ruleL S (l.take k) := by rw [htk, ruleL_snoc]
        have hmap : (l.take k).map (Value.int .i64 ·) ++ [.int .i64 l[k]] = (l.take (k + 1)).map (Value.int .i64 ·) := by rw [htk, List.map_append]; rfl
        simp only [hmap] at s7
        simp -dsimp [go_sem, x7, p1]
        refine SPL_intro (fun p2 => ?_) (fun p2 => ?_) <;> simp at p2
        · have hT : isT S l[k] = true := by
            have h4 := hsyk _ (List.getElem_mem p1)
            unfold badH at h4
            cases hT : isT S l[k] with
            | true => rfl
            | false =>
              have hN : isN S l[k] = false := by unfold isN; simp; intro; omega
              rw [hT, hN] at h4
              cases h4
          have hrg : 1 ≤ l[k] ∧ l[k] ≤ S.terms.length := by simpa [isT] using hT
          obtain ⟨j, hj⟩ : ∃ j : Nat, l[k] = (j : Int) + 1 := ⟨(l[k] - 1).toNat, by omega⟩
          have hjl : j < S.terms.length := by omega
          have ws : IntKind.i64.wrap (l[k] - 1) = (j : Int) := by rw [hj, show (j : Int) + 1 - 1 = j by omega]; exact IntWalk.i64_in _ (by omega)
          have hgr : gradeOf S l[k] = S.terms[j].2 := by
            unfold gradeOf
            rw [show (l[k] - 1).toNat = j by omega, List.getElem?_eq_getElem hjl]; rfl
          have s8 := s7.old (Chg.refl noB w7).drew
          have k8 := s8.box 0 rfl
          have q8 := s8.box 6 rfl
          simp [boxAt] at k8 q8
          obtain ⟨F1, o1', _⟩ := s8.get (k := 1) rfl
          obtain ⟨g4, rfl, d1, d2, _⟩ := row_elem o1' (fun _ _ => rfl) (by omega) (List.getElem?_eq_getElem hjl)
          have e1 := d1 1 _ rfl
          obtain ⟨_, _, e9, _, x8, _⟩ := Go.Px.ints_at (hu _ s8.chg) p1
          injection e9 with e9; injection e9 with e9 e10; subst e9 e10
          simp at x8 e1
          have s9 := (s7.set 6 rfl 2 (.int .i64 S.terms[j].2)).old (Chg.refl noB _).drew
          simp -dsimp [go_sem, k8, q8, p1, x8, ws, hjl, e1]
          unfold ref02_Builder_Rule.b10
          simp -dsimp [go_sem, wk]
          refine hC _ _ ⟨k + 1, some ⟨g, 0, none⟩, cap, by simp, by omega, ?_⟩ (by simp [iv]; omega)
          rw [hrl, if_pos p2, hgr]
          exact s9
        · unfold ref02_Builder_Rule.b10
          simp -dsimp [go_sem, wk]
          refine hC _ _ ⟨k + 1, some ⟨g, 0, none⟩, cap, by simp, by omega, ?_⟩ (by simp [iv]; omega)
          rw [hrl, if_neg (by omega)]
          exact s7
      · have hka : k = l.length := by omega
        subst hka
        rw [List.take_length] at s4
        clear hC C
        have s5 := s4.old (Chg.refl noB w4).drew
        have k5 := s5.box 0 rfl
        have q5 := s5.box 6 rfl
        simp [boxAt] at k5 q5
        have k5' := (s5.old ((Chg.refl noB _).alloc (.cells #[.int .i64 left, .slice ar l.length cr, .int .i64 (ruleL S l)] 116))).box 0 rfl
        simp [boxAt] at k5'
        unfold ref02_Builder_Rule.b5
        simp -dsimp [go_sem, k5, q5, k5']
        refine s5.append1 4 rfl uRules iRule rfl (by omega) (news := [.int .i64 left, .slice ar l.length cr, .int .i64 (ruleL S l)]) rfl (by simp [Value.oneCell']) (by unfold maxLen; omega) (by unfold maxBytes; omega) ?_
        intro g cap w6 s6
        have k6 := s6.box 0 rfl
        simp [boxAt] at k6
        have s7 := s6.set 0 rfl 3 (.slice (some ⟨g, 0, none⟩) (S.rules.length + 1) cap)
        have ws : IntKind.i64.wrap (S.rules.length : Int) = (S.rules.length : Int) := IntWalk.i64_in _ (by omega)
        simp -dsimp [go_sem, k6, ws]
        refine hR _ _ ⟨rfl, ?_⟩
        have s8 := s7.merge (j := 7) (k := 5) rfl rfl (by omega) fun F F' h1 h2 => rowsC_snoc h1 h2
        obtain ⟨F5, o5, _⟩ := s7.get (k := 5) rfl
        have hvl : vs.length = S.rules.length := by have := o5.1; simpa using this
        have e1 : ((S.rules.zip vs).flatMap fun x => ruleC x.1 x.2) ++ [.int .i64 left, .slice ar l.length cr, .int .i64 (ruleL S l)] = (((S.rules ++ [(left, l, ruleL S l)]).zip (vs ++ [.slice ar l.length cr])).flatMap fun x => ruleC x.1 x.2) := by
          rw [List.zip_append hvl.symm]
          simp [ruleC]
        have e2 : (S.rules.map fun r => r.2.1.map (Value.int .i64 ·)) ++ [l.map (Value.int .i64 ·)] = (S.rules ++ [(left, l, ruleL S l)]).map fun r => r.2.1.map (Value.int .i64 ·) := by simp
        simp only [e1, e2] at s8
        have s9 := s8.take 6
        refine refC_leave' (S := { S with rules := S.rules ++ [(left, l, ruleL S l)] }) (a1 := a1) (c1 := c1) (a2 := a2) (c2 := c2) (a3 := a3) (c3 := c3) (a4 := some ⟨g, 0, none⟩) (c4 := cap) (vs := vs ++ [.slice ar l.length cr]) ?_
        simpa only [refL, List.length_append, List.length_singleton, List.set_cons_zero, List.set_cons_succ, List.cons_append, List.nil_append, List.take_succ_cons, List.take_zero] using s9
  simp -dsimp [go_sem]
  refine SPL_intro (fun p1 => ?_) (fun p1 => ?_) <;> simp at p1
  · simp -dsimp [go_sem]
    cases hb : (isN S left && !(l.take k).any (badH S)) with
    | false =>
      have := hend (Or.inr hb)
      rw [hb] at this
      simpa -dsimp [go_sem] using this
    | true =>
      obtain ⟨b1, o1, rfl, hb1, x1, x2⟩ := Go.Px.ints_at (hu _ s2.chg) p1
      have wk := wrap_succ p1 (Nat.le_trans hl1 hl2)
      have htk : l.take (k + 1) = l.take k ++ [l[k]] := List.take_succ_eq_append_getElem p1
      simp -dsimp [go_sem, p1, x1]
      refine CALL_of (rterm_ct ⟨a1, c1, a2, c2, a3, c3, a4, c4, vs, s2.leave⟩ ok x2) ?_
      rintro _ w3 ⟨rfl, hc3⟩
      have s3 := s2.old hc3
      obtain ⟨_, _, e9, _, x3, _⟩ := Go.Px.ints_at (hu _ s3.chg) p1
      injection e9 with e9; injection e9 with e9 e10; subst e9 e10
      simp -dsimp [go_sem, p1, x3]
      refine CALL_of (rnon_ct ⟨a1, c1, a2, c2, a3, c3, a4, c4, vs, s3.leave⟩ ok x2) ?_
      rintro _ w4 ⟨rfl, hc4⟩
      have hfin : (isN S left && !(l.take (k + 1)).any (badH S)) = (isT S l[k] || isN S l[k]) := by
        rw [htk, List.any_append]
        rw [Bool.not_or, ← Bool.and_assoc, hb]
        simp [badH]
      cases hT : isT S l[k] with
      | true =>
        rw [hT] at hfin
        simp -dsimp [go_sem, wk]
        exact hC _ _ _ ⟨k + 1, by rw [hfin]; rfl, by simp, by omega, (hc2.trans hc3).trans hc4⟩ (by simp [iv]; omega)
      | false =>
        rw [hT] at hfin
        simp -dsimp [go_sem, wk]
        exact hC _ _ _ ⟨k + 1, by rw [hfin]; simp, by simp, by omega, (hc2.trans hc3).trans hc4⟩ (by simp [iv]; omega)
  · simp -dsimp [go_sem]
    exact hend (Or.inl (by omega))

theorem rGrade_ct {B : Nat} (h : (refC p S).ok w F) (ok : BSok S) {level : Int} (hs : inI64 level) {u : Value} {l : List Int} (hu : ∀ w', Chg F w w' → (rSlice rInt).at1 w' B u l) :
    Ct Try.prog ref02_Builder_Grade.id #[.pointer (some ⟨p, 0, none⟩), .int .i64 level, u] w fun v w' => v = .int .i64 (gradeA S level l).1 ∧ DoneR F w p (gradeA S level l).2 w' := by
  refine ref02_Builder_Grade.ct fun R hR => ?_
  obtain ⟨a1, c1, a2, c2, a3, c3, a4, c4, vs, hp⟩ := h
  have s0 := St.enter hp
  have hsy := ok.syms
  have hpr := ok.prods
  obtain ⟨A, c, rfl, hl1, hl2, _⟩ := slice_form (hu w (Chg.refl _ _))
  have no : ∀ w', Chg noB w w' → ¬ ((0 ≤ level ∧ level ≤ S.levels.length) ∧ ∀ p ∈ l, 0 ≤ p ∧ p < S.rules.length) → R (.returned (.int .i64 1)) w' := fun w' hc hn => by
    have : gradeA S level l = (1, S) := if_neg hn
    rw [this] at hR
    exact hR _ _ ⟨rfl, refC_leave' (s0.old hc)⟩
  have k0 := s0.box 0 rfl
  simp [boxAt] at k0
  unfold ref02_Builder_Grade.run
  simp -dsimp [go_sem]
  refine SPL_intro (fun q1 => ?_) (fun q1 => ?_) <;> simp at q1
  · simp -dsimp [go_sem]
    exact no _ (Chg.refl _ _) fun hv => by omega
  simp -dsimp [go_sem, k0]
  refine SPL_intro (fun q2 => ?_) (fun q2 => ?_) <;> simp at q2
  · exact no _ (Chg.refl _ _) fun hv => by omega
  simp -dsimp [go_sem]
  refine ref02_Builder_Grade.l12_intro _ _ _ _ _ _ (fun y w' => ∃ k : Nat, y = .int .i64 k ∧ k ≤ l.length ∧ Chg noB w w' ∧ ∀ p ∈ l.take k, 0 ≤ p ∧ p < S.rules.length) (fun y _ => l.length - iv y) ⟨0, rfl, by omega, Chg.refl _ _, by simp⟩ ?_
  rintro _ w1 ⟨k, rfl, hk, hc1, hall⟩ C hC
  simp -dsimp [go_sem]
  refine SPL_intro (fun p1 => ?_) (fun p1 => ?_) <;> simp at p1
  · have hc2 := hc1.trans (Chg.refl noB w1).drew
    have s2 := s0.old hc2
    obtain ⟨b1, o1, rfl, hb1, x1, x2⟩ := Go.Px.ints_at (hu _ s2.chg) p1
    have wk := wrap_succ p1 (Nat.le_trans hl1 hl2)
    have htk : l.take (k + 1) = l.take k ++ [l[k]] := List.take_succ_eq_append_getElem p1
    have k2 := s2.box 0 rfl
    simp [boxAt] at k2 x1
    simp -dsimp [go_sem, p1, x1]
    refine SPL_intro (fun p2 => ?_) (fun p2 => ?_) <;> simp at p2
    · simp -dsimp [go_sem]
      exact no _ hc2 fun hv => by have := hv.2 _ (List.getElem_mem p1); omega
    simp -dsimp [go_sem, k2, x1, p1]
    refine SPL_intro (fun p3 => ?_) (fun p3 => ?_) <;> simp at p3
    · exact no _ hc2 fun hv => by have := hv.2 _ (List.getElem_mem p1); omega
    unfold ref02_Builder_Grade.b15
    simp -dsimp [go_sem, wk]
    refine hC _ _ ⟨k + 1, by simp, by omega, hc2, fun x hx => ?_⟩ (by simp [iv]; omega)
    rw [htk, List.mem_append, List.mem_singleton] at hx
    rcases hx with hx | rfl
    · exact hall x hx
    · omega
  · have hka : k = l.length := by omega
    subst hka
    rw [List.take_length] at hall
    clear hC C
    have hya : gradeA S level l = (0, { S with rules := l.foldl (fun rs p => rs.modify p.toNat fun r => (r.1, r.2.1, level)) S.rules }) := if_pos ⟨by omega, hall⟩
    rw [hya] at hR
    have s1 := s0.old hc1
    obtain ⟨F5, o5, _⟩ := s1.get (k := 5) rfl
    have hvl : vs.length = S.rules.length := by have := o5.1; simpa using this
    unfold ref02_Builder_Grade.b6
    refine ref02_Builder_Grade.l8_intro _ _ _ _ _ _ (fun y w' => ∃ k : Nat, y = .int .i64 k ∧ k ≤ l.length ∧ St F w w' (refL p { S with rules := (l.take k).foldl (fun rs p => rs.modify p.toNat fun r => (r.1, r.2.1, level)) S.rules } a1 c1 a2 c2 a3 c3 a4 c4 vs)) (fun y _ => l.length - iv y) ⟨0, rfl, by omega, s1⟩ ?_
    rintro _ w5 ⟨k, rfl, hk, s5⟩ C hC
    have hlen : ((l.take k).foldl (fun rs p => rs.modify p.toNat fun r => (r.1, r.2.1, level)) S.rules).length = S.rules.length := gradeA_len _ _ _
    simp -dsimp [go_sem]
    refine SPL_intro (fun p1 => ?_) (fun p1 => ?_) <;> simp at p1
    · have s6 := s5.old (Chg.refl noB w5).drew
      obtain ⟨b1, o1, rfl, hb1, x1, x2⟩ := Go.Px.ints_at (hu _ s6.chg) p1
      have wk := wrap_succ p1 (Nat.le_trans hl1 hl2)
      have hrg := hall l[k] (List.getElem_mem p1)
      obtain ⟨j, hj⟩ : ∃ j : Nat, l[k] = (j : Int) := ⟨l[k].toNat, by omega⟩
      have hjl : j < S.rules.length := by omega
      have k6 := s6.box 0 rfl
      simp [boxAt, hlen] at k6
      have hsz := (s6.rowSize 4 rfl).1
      obtain ⟨g6, rfl, y7, yf7⟩ := s6.rowAt 4 rfl (j := j * 3 + 2) (by rw [hsz]; simp only [hlen]; omega)
      have s7 := (s5.setRow 4 rfl (j * 3 + 2) (.int .i64 level)).old (Chg.refl noB _).drew
      have htk : l.take (k + 1) = l.take k ++ [l[k]] := List.take_succ_eq_append_getElem p1
      have em : ((((l.take k).foldl (fun rs p => rs.modify p.toNat fun r => (r.1, r.2.1, level)) S.rules).zip vs).flatMap fun x => ruleC x.1 x.2).set (j * 3 + 2) (.int .i64 level) = (((l.take (k + 1)).foldl (fun rs p => rs.modify p.toNat fun r => (r.1, r.2.1, level)) S.rules).zip vs).flatMap fun x => ruleC x.1 x.2 := by
        rw [htk, grade_snoc, show l[k].toNat = j by omega, grade_cells level _ vs j (by rw [hlen]; exact hvl) (by rw [hlen]; exact hjl)]
      rw [em] at s7
      rw [hj] at x1
      simp at x1
      simp -dsimp [go_sem, p1, x1, k6, hjl, y7, yf7, wk]
      refine hC _ _ ⟨k + 1, by simp, by omega, ?_⟩ (by simp [iv]; omega)
      have hlen' : ((l.take (k + 1)).foldl (fun rs p => rs.modify p.toNat fun r => (r.1, r.2.1, level)) S.rules).length = S.rules.length := gradeA_len _ _ _
      have hri := grade_rights' level (l.take k) S.rules
      have hri' := grade_rights' level (l.take (k + 1)) S.rules
      have hm : ∀ rs : List (Int × List Int × Int), (rs.map fun r => r.2.1.map (Value.int .i64 ·)) = (rs.map (·.2.1)).map fun l => l.map (Value.int .i64 ·) := fun rs => by rw [List.map_map]; rfl
      simp only [refL, hlen, hm, hri, List.set_cons_zero, List.set_cons_succ] at s7
      simp only [refL, hlen', hm, hri']
      exact s7
    · have hka : k = l.length := by omega
      subst hka
      rw [List.take_length] at s5
      simp -dsimp [go_sem]
      exact hR _ _ ⟨rfl, refC_leave' s5⟩
end
end Go.Proofs.Ytmhebgebfjnfjaa

