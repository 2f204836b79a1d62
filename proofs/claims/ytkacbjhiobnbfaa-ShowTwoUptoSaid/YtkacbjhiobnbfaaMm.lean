/-
  ShowTwo.
-/
import Derived.Test.YtkacbjhiobnbfaaMi
import Derived.Test.YtkacbjhiobnbfaaMl
namespace Go.Px.Scan
open Go.Px
theorem two_texts {g h : Gr} (vg : validB g = true) (vh : validB h = true) (eg : textE g = 0) (eh : textE h = 0) : (textA g == textA h) = sameB g h := by
  have eg1 : eitherB g = true := by unfold eitherB; rw [vg]; rfl
  have eh1 : eitherB h = true := by unfold eitherB; rw [vh]; rfl
  unfold textE at eg eh
  rw [eg1] at eg
  rw [eh1] at eh
  unfold textA
  rw [eg1, eh1]
  cases hg : textO g with
  | none => rw [hg] at eg; cases eg
  | some t =>
    cases hh : textO h with
    | none => rw [hh] at eh; cases eh
    | some t' =>
      apply Bool.eq_iff_iff.2
      rw [sameB_iff, beq_iff_eq]
      constructor
      · intro e
        have e : t = t' := e
        subst e
        exact text_one (validB_iff.1 vg) (validB_iff.1 vh) hg hh
      · rintro rfl
        rw [hg] at hh
        injection hh with hh
end Go.Px.Scan
namespace Go.Proofs.Ytkacbjhiobnbfaa
open Go.Px Go.Px.Scan Go.RowKit
set_option maxHeartbeats 1000000
set_option linter.unusedSimpArgs false
set_option linter.unusedVariables false
set_option maxRecDepth 100000
attribute [-go_sem] Builtin.append_ law05_ShowTwo.b3 law05_ShowTwo.b4 law05_ShowTwo.b5

theorem ShowTwo_ct {w : World} {B : Nat} {vg vh : Value} {g h : Gr} (hg : rGram.atN w B vg g) (hh : rGram.atN w B vh h) (hB : B ≤ w.heap.size) (hfit : GFit g) (hfit' : GFit h) (hsm : ∀ p ∈ g.prods, p.2.1.length ≤ 1000000000000) (hsm' : ∀ p ∈ h.prods, p.2.1.length ≤ 1000000000000) :
    Ct Try.prog law05_ShowTwo.id #[vg, vh] w fun v w' => v = .bool true ∧ Chg noB w w' := by
  refine law05_ShowTwo.ct fun R hR => ?_
  obtain ⟨A1, c1, A2, c2, A3, c3, A4, c4, rfl, _⟩ := (rGram_open hg).ex
  obtain ⟨B1, d1, B2, d2, B3, d3, B4, d4, rfl, _⟩ := (rGram_open hh).ex
  have s0 := ((St.refl noB w).alloc #[.slice A1 g.terms.length c1, .slice A2 g.nons.length c2, .slice A3 g.levels.length c3, .int .i64 g.start, .slice A4 g.prods.length c4] 27).alloc #[.slice B1 h.terms.length d1, .slice B2 h.nons.length d2, .slice B3 h.levels.length d3, .int .i64 h.start, .slice B4 h.prods.length d4] 27
  have rdg : ∀ w', Chg noB w w' → rGram.atN w' B (.agg #[.slice A1 g.terms.length c1, .slice A2 g.nons.length c2, .slice A3 g.levels.length c3, .int .i64 g.start, .slice A4 g.prods.length c4]) g ∧ B ≤ w'.heap.size := fun w' hc => ⟨rGram_below hg (hc.below hB fun _ _ => id), by have := hc.size; omega⟩
  have rdh : ∀ w', Chg noB w w' → rGram.atN w' B (.agg #[.slice B1 h.terms.length d1, .slice B2 h.nons.length d2, .slice B3 h.levels.length d3, .int .i64 h.start, .slice B4 h.prods.length d4]) h ∧ B ≤ w'.heap.size := fun w' hc => ⟨rGram_below hh (hc.below hB fun _ _ => id), by have := hc.size; omega⟩
  unfold law05_ShowTwo.run
  simp -dsimp [go_sem]
  have hs1 : (w.alloc (.cells #[.slice A1 g.terms.length c1, .slice A2 g.nons.length c2, .slice A3 g.levels.length c3, .int .i64 g.start, .slice A4 g.prods.length c4] 27)).heap.size = w.heap.size + 1 := by simp
  rw [hs1] at s0
  generalize w.heap.size + 1 = qx at s0 ⊢
  generalize w.heap.size = q at s0 ⊢
  generalize ((w.alloc (.cells #[.slice A1 g.terms.length c1, .slice A2 g.nons.length c2, .slice A3 g.levels.length c3, .int .i64 g.start, .slice A4 g.prods.length c4] 27)).alloc (.cells #[.slice B1 h.terms.length d1, .slice B2 h.nons.length d2, .slice B3 h.levels.length d3, .int .i64 h.start, .slice B4 h.prods.length d4] 27)) = w1 at s0 ⊢
  refine CALL_of (Copy_ct (rdg _ s0.chg).1 (rdg _ s0.chg).2 hfit) ?_
  rintro v2 w2 ⟨hr2, hc2⟩
  have s2 := s0.old hc2
  refine CALL_of (Text_ct hr2 (Nat.le_refl _) hsm) ?_
  rintro _ w3 ⟨rfl, hc3⟩
  have s3 := s2.old hc3
  have z3 := s3.box 1 rfl
  simp [boxAt] at z3
  obtain ⟨tg, htg⟩ : ∃ t, textA g = t := ⟨_, rfl⟩
  obtain ⟨eg, heg⟩ : ∃ t, textE g = t := ⟨_, rfl⟩
  rw [htg, heg]
  simp -dsimp [go_sem, z3]
  refine CALL_of (Copy_ct (rdh _ s3.chg).1 (rdh _ s3.chg).2 hfit') ?_
  rintro v4 w4 ⟨hr4, hc4⟩
  have s4 := s3.old hc4
  refine CALL_of (Text_ct hr4 (Nat.le_refl _) hsm') ?_
  rintro _ w5 ⟨rfl, hc5⟩
  have s5 := s4.old hc5
  have y5 := s5.box 0 rfl
  simp [boxAt] at y5
  obtain ⟨th, hth⟩ : ∃ t, textA h = t := ⟨_, rfl⟩
  obtain ⟨eh, heh⟩ : ∃ t, textE h = t := ⟨_, rfl⟩
  rw [hth, heh]
  have wake : ∀ w' s t, Chg noB w w' → law05_ShowTwo.b5 R (.pointer (some ⟨q, 0, none⟩)) (.pointer (some ⟨qx, 0, none⟩)) s t (.bool true) w' := by
    intro w' s t hc
    unfold law05_ShowTwo.b5
    simp -dsimp [go_sem]
    refine CALL_of (awake_ct w') ?_
    rintro _ w7 ⟨rfl, hc7⟩
    exact hR _ _ ⟨rfl, hc.trans hc7⟩
  simp -dsimp [go_sem]
  unfold law05_ShowTwo.b4
  simp -dsimp [go_sem, y5]
  refine CALL_of (refValid_ct (rdg _ s5.chg).1 (rdg _ s5.chg).2) ?_
  rintro _ w6 ⟨rfl, hc6⟩
  have s6 := s5.old hc6
  cases vg : validB g with
  | false =>
    simp -dsimp [go_sem]
    exact wake _ _ _ s6.chg
  | true =>
    have z6 := s6.box 1 rfl
    simp [boxAt] at z6
    simp -dsimp [go_sem, z6]
    refine CALL_of (refValid_ct (rdh _ s6.chg).1 (rdh _ s6.chg).2) ?_
    rintro _ w7 ⟨rfl, hc7⟩
    have s7 := s6.old hc7
    cases vh : validB h with
    | false =>
      simp -dsimp [go_sem]
      exact wake _ _ _ s7.chg
    | true =>
      simp -dsimp [go_sem]
      refine SPL_intro (fun p => ?_) (fun p => ?_) <;> simp at p
      · exact wake _ _ _ s7.chg
      simp -dsimp [go_sem]
      by_cases p2 : eh = 0
      · have y7 := s7.box 0 rfl
        have z7 := s7.box 1 rfl
        simp [boxAt] at y7 z7
        subst p2
        unfold law05_ShowTwo.b5 law05_ShowTwo.b3
        simp -dsimp [go_sem, y7, z7]
        have hb7 := s7.chg.size
        refine CALL_of (refSame_ct (rdg _ s7.chg).1 (rdh _ s7.chg).1 (rdh _ s7.chg).2) ?_
        rintro _ w8 ⟨rfl, hc8⟩
        have e9 := two_texts vg vh (by rw [heg]; exact p) heh
        rw [htg, hth] at e9
        rw [← e9]
        have ba : ∀ l : Txt, (BA l).toList = l := ba_toList
        simp -dsimp [go_sem, ba]
        refine CALL_of (awake_ct w8) ?_
        rintro _ w9 ⟨rfl, hc9⟩
        exact hR _ _ ⟨rfl, (s7.chg.trans hc8).trans hc9⟩
      · have p2' : (eh != 0) = true := by simp [p2]
        rw [p2']
        exact wake _ _ _ s7.chg
end Go.Proofs.Ytkacbjhiobnbfaa

