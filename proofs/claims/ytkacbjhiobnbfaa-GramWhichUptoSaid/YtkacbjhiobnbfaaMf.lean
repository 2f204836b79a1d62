/-
  Texts of this claim: Gr1, Gr2, Gr3, Gr4.
-/
import Derived.Test.YtkacbjhiobnbfaaMa
import Derived.Test.YtkacbjhiobnbfaaGc
import Derived.Test.YtkacbjhiobnbfaaMb
import Derived.Test.YtkacbjhiobnbfaaMd
/-
  The document's answer: terminals, levels, nonterminals that fit.
-/
namespace Go.Proofs.Ytkacbjhiobnbfaa
open Go.Px Go.Px.Scan Go.RowKit
set_option maxHeartbeats 1000000
set_option linter.unusedSimpArgs false
set_option linter.unusedVariables false
set_option maxRecDepth 100000
attribute [-go_sem] Builtin.append_

/-- A grammar that was put into a box: what is read of it, as long as nothing old turns. -/
structure GRd (w : World) (B q : Nat) (g : Gr) (A1 : Option Addr) (c1 : Nat) (A2 : Option Addr) (c2 : Nat) (A3 : Option Addr) (c3 : Nat) (A4 : Option Addr) (c4 : Nat) : Prop where
  k : (w.cell? ⟨q, 0, none⟩ = some (.slice A1 g.terms.length c1) ∧ w.cell? ⟨q, 1, none⟩ = some (.slice A2 g.nons.length c2) ∧ w.cell? ⟨q, 2, none⟩ = some (.slice A3 g.levels.length c3) ∧ w.cell? ⟨q, 3, none⟩ = some (.int .i64 g.start) ∧ w.cell? ⟨q, 4, none⟩ = some (.slice A4 g.prods.length c4))
  r1 : (rSlice rTerm).at1 w B (.slice A1 g.terms.length c1) g.terms
  r2 : (rSlice rStr).at1 w B (.slice A2 g.nons.length c2) g.nons
  r3 : (rSlice rInt).at1 w B (.slice A3 g.levels.length c3) g.levels
  r4 : (rSlice rPr).at1 w B (.slice A4 g.prods.length c4) g.prods
  sz : B ≤ w.heap.size

theorem box_all {w : World} {B : Nat} {v : Value} {g : Gr} (h : rGram.atN w B v g) (hB : B ≤ w.heap.size) : ∃ A1 c1 A2 c2 A3 c3 A4 c4, v = .agg #[.slice A1 g.terms.length c1, .slice A2 g.nons.length c2, .slice A3 g.levels.length c3, .int .i64 g.start, .slice A4 g.prods.length c4] ∧
    (g.terms.length ≤ maxLen ∧ g.nons.length ≤ maxLen ∧ g.levels.length ≤ maxLen ∧ g.prods.length ≤ maxLen) ∧ inI64 g.start ∧ Chg noB w (w.alloc (.cells #[.slice A1 g.terms.length c1, .slice A2 g.nons.length c2, .slice A3 g.levels.length c3, .int .i64 g.start, .slice A4 g.prods.length c4] 27)) ∧
    ∀ w', Chg noB (w.alloc (.cells #[.slice A1 g.terms.length c1, .slice A2 g.nons.length c2, .slice A3 g.levels.length c3, .int .i64 g.start, .slice A4 g.prods.length c4] 27)) w' → GRd w' B w.heap.size g A1 c1 A2 c2 A3 c3 A4 c4 := by
  obtain ⟨A1, c1, A2, c2, A3, c3, A4, c4, rfl, h1, h2, h3, h4, h5, ⟨l1, m1⟩, ⟨l2, m2⟩, ⟨l3, m3⟩, ⟨l4, m4⟩⟩ := (rGram_open h).ex
  have h0 := (St.refl noB w).alloc #[.slice A1 g.terms.length c1, .slice A2 g.nons.length c2, .slice A3 g.levels.length c3, .int .i64 g.start, .slice A4 g.prods.length c4] 27
  refine ⟨A1, c1, A2, c2, A3, c3, A4, c4, rfl, ⟨by omega, by omega, by omega, by omega⟩, h4, h0.chg, fun w' hc => ?_⟩
  have h1' := h0.old hc
  have k0 := h1'.box 0 rfl
  simp [boxAt] at k0
  have hbl := h1'.chg.below hB fun _ _ => id
  exact ⟨k0.1, Rep.below h1 hbl, Rep.below h2 hbl, Rep.below h3 hbl, Rep.below h5 hbl, by have := h1'.chg.size; omega⟩

theorem Symbols_ct {w : World} {B : Nat} {v : Value} {g : Gr} (h : rGram.atN w B v g) (hB : B ≤ w.heap.size) (hs : g.terms.length + g.nons.length ≤ 1000) : Ct Try.prog ref02_Symbols.id #[v] w fun r w' => r = .int .i64 ((g.terms.length : Int) + g.nons.length) ∧ Chg noB w w' := by
  refine ref02_Symbols.ct fun R hR => ?_
  obtain ⟨A1, c1, A2, c2, A3, c3, A4, c4, rfl, _, _, hc0, hg⟩ := box_all h hB
  unfold ref02_Symbols.run
  have ws : IntKind.i64.wrap ((g.terms.length : Int) + g.nons.length) = (g.terms.length : Int) + g.nons.length := IntWalk.i64_in _ (by omega)
  simp -dsimp [go_sem, ws]
  exact hR _ _ ⟨rfl, hc0⟩

theorem toList_inj' {a b : ByteArray} : a.toList = b.toList ↔ a = b := by
  constructor
  · intro h; rw [ByteArray.toList_eq, ByteArray.toList_eq] at h; exact bs_ext h
  · rintro rfl; rfl

/-- The document's terminals. -/
def TermsP (g : Gr) : Prop := g.terms.head? = some (⟨#[]⟩, 0) ∧ (∀ t ∈ g.terms.tail, TermOk g t) ∧ (g.terms.tail.map (·.1)).Nodup
open Classical in
noncomputable def termsB (g : Gr) : Bool := decide (TermsP g)
theorem termsB_iff {g : Gr} : termsB g = true ↔ TermsP g := @decide_eq_true_iff _ (_)

theorem termsFit_ct {w : World} {B : Nat} {v : Value} {g : Gr} (h : rGram.atN w B v g) (hB : B ≤ w.heap.size) : Ct Try.prog ref02_termsFit.id #[v] w fun r w' => r = .bool (termsB g) ∧ Chg noB w w' := by
  refine ref02_termsFit.ct fun R hR => ?_
  obtain ⟨A1, c1, A2, c2, A3, c3, A4, c4, rfl, ⟨m1, m2, m3, m4⟩, _, hc0, hg⟩ := box_all h hB
  have no : ∀ w', Chg noB w w' → ¬ TermsP g → R (.returned (.bool false)) w' := fun w' hc hn => hR _ _ ⟨by rw [bool_no termsB_iff hn], hc⟩
  unfold ref02_termsFit.run
  simp -dsimp [go_sem]
  generalize w.alloc (.cells #[.slice A1 g.terms.length c1, .slice A2 g.nons.length c2, .slice A3 g.levels.length c3, .int .i64 g.start, .slice A4 g.prods.length c4] 27) = w1 at hc0 hg ⊢
  generalize w.heap.size = q at hg ⊢
  have z1 := hg w1 (Chg.refl _ _)
  refine SPL_intro (fun q1 => ?_) (fun q1 => ?_) <;> simp at q1
  · simp -dsimp [go_sem]
    exact no _ hc0 fun hs => by have := hs.1; rw [q1] at this; cases this
  have q1' : 0 < g.terms.length := List.length_pos_iff.2 q1
  obtain ⟨b1, o1, rfl, hb1, d1, d2, _, _⟩ := terms_at z1.r1 q1'
  simp at d1 d2
  have hh : g.terms.head? = some g.terms[0] := by rw [List.head?_eq_getElem?, List.getElem?_eq_getElem q1']
  simp -dsimp [go_sem, z1.k, q1', d1, d2]
  refine SPL_intro (fun q2 => ?_) (fun q2 => ?_) <;> simp at q2
  · simp -dsimp [go_sem]
    refine no _ hc0 fun hs => q2 ?_
    have := hs.1; rw [hh] at this; injection this with this; rw [this, ByteArray.toList_eq]
  simp -dsimp [go_sem, z1.k, q1', d1, d2]
  refine SPL_intro (fun q3 => ?_) (fun q3 => ?_) <;> simp at q3
  · refine no _ hc0 fun hs => q3 ?_
    have := hs.1; rw [hh] at this; injection this with this; rw [this]
  have ht0 : g.terms.head? = some (⟨#[]⟩, 0) := by
    rw [hh]; congr 1
    exact Prod.ext (bs_ext (by rw [← ByteArray.toList_eq]; exact q2)) q3
  obtain ⟨t0, tl, hE⟩ : ∃ t tl, g.terms = t :: tl := by
    cases e : g.terms with
    | nil => exact absurd e q1
    | cons t r => exact ⟨t, r, rfl⟩
  have hlen : g.terms.length = tl.length + 1 := by rw [hE]; rfl
  have htl : g.terms.tail = tl := by rw [hE]; rfl
  have hel : ∀ i (hi : i < tl.length), g.terms[i + 1]'(by omega) = tl[i] := fun i hi => by simp [hE]
  simp -dsimp [go_sem]
  refine ref02_termsFit.l7_intro _ _ _ _ (fun y w' => ∃ j k : Nat, y = .int .i64 j ∧ j = k + 1 ∧ k ≤ tl.length ∧ Chg noB w1 w' ∧ (∀ t ∈ tl.take k, TermOk g t) ∧ ((tl.take k).map (·.1)).Nodup) (fun y _ => tl.length + 1 - iv y) ⟨1, 0, rfl, rfl, by omega, Chg.refl _ _, by simp, by simp⟩ ?_
  rintro _ w2 ⟨j, k, rfl, hj, hk, hcw, hall, hnd⟩ C hC
  have z2 := hg w2 hcw
  simp -dsimp [go_sem, z2.k]
  refine SPL_intro (fun p1 => ?_) (fun p1 => ?_) <;> simp at p1
  · have hk1 : k < tl.length := by omega
    obtain ⟨b2, o2, e2, hb2, f1, f2, f3, f4⟩ := terms_at z2.r1 p1
    injection e2 with e2; injection e2 with e2 e3; subst e2 e3
    have hej : g.terms[j] = tl[k] := by subst hj; exact hel k hk1
    rw [hej] at f1 f2 f3 f4
    have bad : ¬ TermOk g tl[k] → ¬ TermsP g := fun hn hs => hn (hs.2.1 _ (by rw [htl]; exact List.getElem_mem hk1))
    simp -dsimp [go_sem, z2.k, p1, f1]
    refine CALL_of (ref02_IsTerm_ct f3 w2) ?_
    rintro _ _ ⟨rfl, rfl⟩
    have hcd := hcw.drew
    have zd := hg _ hcd
    obtain ⟨b3, o3, e3, hb3, f1', f2', _, _⟩ := terms_at zd.r1 p1
    injection e3 with e3; injection e3 with e3 e4; subst e3 e4
    rw [hej] at f1' f2'
    cases hT : tmB tl[k].1 with
    | false =>
      simp -dsimp [go_sem]
      exact no _ (hc0.trans hcd) (bad fun hs => by rw [tmB_iff.2 hs.name] at hT; cases hT)
    | true =>
      simp -dsimp [go_sem, zd.k, p1, f1', f2']
      refine SPL_intro (fun p2 => ?_) (fun p2 => ?_) <;> simp at p2
      · simp -dsimp [go_sem]
        exact no _ (hc0.trans hcd) (bad fun hs => by have := hs.lo; omega)
      simp -dsimp [go_sem, zd.k, p1, f1', f2']
      refine SPL_intro (fun p3 => ?_) (fun p3 => ?_) <;> simp at p3
      · exact no _ (hc0.trans hcd) (bad fun hs => by have := hs.hi; omega)
      simp -dsimp [go_sem]
      refine ref02_termsFit.l16_intro _ _ _ _ _ _ (fun y w' => ∃ i n : Nat, y = .int .i64 i ∧ i = n + 1 ∧ n ≤ k ∧ Chg noB w1 w' ∧ ∀ t ∈ tl.take n, t.1 ≠ tl[k].1) (fun y _ => k + 1 - iv y) ⟨1, 0, rfl, rfl, by omega, hcd, by simp⟩ ?_
      rintro _ w3 ⟨i, n, rfl, hi, hn, hc3, hne⟩ C' hC'
      simp -dsimp [go_sem]
      refine SPL_intro (fun p4 => ?_) (fun p4 => ?_) <;> simp at p4
      · have hn1 : n < tl.length := by omega
        have hil : i < g.terms.length := by omega
        have z3 := hg _ hc3.drew
        obtain ⟨b4, o4, e4, hb4, x1, _⟩ := terms_at z3.r1 p1
        injection e4 with e4; injection e4 with e4 e5; subst e4 e5
        obtain ⟨b5, o5, e5, hb5, y1, _⟩ := terms_at z3.r1 hil
        injection e5 with e5; injection e5 with e5 e6; subst e5 e6
        have hei : g.terms[i] = tl[n] := by subst hi; exact hel n hn1
        rw [hej] at x1
        rw [hei] at y1
        have wi : IntKind.i64.wrap ((i : Int) + 1) = (i : Int) + 1 := IntWalk.i64_in _ (by unfold maxLen at m1; omega)
        simp -dsimp [go_sem, z3.k, p1, hil, x1, y1]
        refine SPL_intro (fun p5 => ?_) (fun p5 => ?_) <;> simp at p5
        · refine no _ (hc0.trans hc3.drew) fun hs => ?_
          have := List.pairwise_iff_getElem.1 hs.2.2 n k (by simp [htl]; omega) (by simp [htl]; omega) (by omega)
          simp [htl] at this
          exact this (toList_inj'.1 p5)
        · simp -dsimp [go_sem, wi]
          refine hC' _ _ ⟨i + 1, n + 1, by simp, by omega, by omega, hc3.drew, fun t ht => ?_⟩ (by simp [iv]; omega)
          rw [List.take_succ_eq_append_getElem hn1] at ht
          rcases List.mem_append.1 ht with ht | ht
          · exact hne t ht
          · rw [List.mem_singleton.1 ht]
            exact fun e => p5 (by rw [e])
      · have hnk : n = k := by omega
        subst hnk
        have wj : IntKind.i64.wrap ((j : Int) + 1) = (j : Int) + 1 := IntWalk.i64_in _ (by unfold maxLen at m1; omega)
        simp -dsimp [go_sem, wj]
        have htk : tl.take (n + 1) = tl.take n ++ [tl[n]] := List.take_succ_eq_append_getElem hk1
        refine hC _ _ ⟨j + 1, n + 1, by simp, by omega, by omega, hc3, fun t ht => ?_, ?_⟩ (by simp [iv]; omega)
        · rw [htk] at ht
          rcases List.mem_append.1 ht with ht | ht
          · exact hall t ht
          · rw [List.mem_singleton.1 ht]; exact ⟨tmB_iff.1 hT, by omega, by omega⟩
        · rw [htk, List.map_append]
          refine List.nodup_append.2 ⟨hnd, by simp, fun a ha b hb => ?_⟩
          obtain ⟨t, ht, rfl⟩ := List.mem_map.1 ha
          simp at hb
          subst hb
          exact hne t ht
  · have hka : k = tl.length := by omega
    subst hka
    rw [List.take_length] at hall hnd
    simp -dsimp [go_sem]
    refine hR _ _ ⟨?_, hc0.trans hcw⟩
    rw [termsB_iff.2 ⟨ht0, by rw [htl]; exact hall, by rw [htl]; exact hnd⟩]
end Go.Proofs.Ytkacbjhiobnbfaa

/-
  The document's answer: levels, nonterminals, productions that fit.
-/
namespace Go.Proofs.Ytkacbjhiobnbfaa
open Go.Px Go.Px.Scan Go.RowKit
set_option maxHeartbeats 1000000
set_option linter.unusedSimpArgs false
set_option linter.unusedVariables false
set_option maxRecDepth 100000
attribute [-go_sem] Builtin.append_

def LevelsP (g : Gr) : Prop := ∀ i (h : i < g.levels.length), 1 ≤ g.levels[i] ∧ g.levels[i] ≤ 3 ∧ ∃ t ∈ g.terms, t.2 = (i : Int) + 1
open Classical in
noncomputable def levelsB (g : Gr) : Bool := decide (LevelsP g)
theorem levelsB_iff {g : Gr} : levelsB g = true ↔ LevelsP g := @decide_eq_true_iff _ (_)

theorem levelsFit_ct {w : World} {B : Nat} {v : Value} {g : Gr} (h : rGram.atN w B v g) (hB : B ≤ w.heap.size) : Ct Try.prog ref02_levelsFit.id #[v] w fun r w' => r = .bool (levelsB g) ∧ Chg noB w w' := by
  refine ref02_levelsFit.ct fun R hR => ?_
  obtain ⟨A1, c1, A2, c2, A3, c3, A4, c4, rfl, ⟨m1, m2, m3, m4⟩, _, hc0, hg⟩ := box_all h hB
  have no : ∀ w', Chg noB w w' → ¬ LevelsP g → R (.returned (.bool false)) w' := fun w' hc hn => hR _ _ ⟨by rw [bool_no levelsB_iff hn], hc⟩
  unfold ref02_levelsFit.run
  simp -dsimp [go_sem]
  generalize w.alloc (.cells #[.slice A1 g.terms.length c1, .slice A2 g.nons.length c2, .slice A3 g.levels.length c3, .int .i64 g.start, .slice A4 g.prods.length c4] 27) = w1 at hc0 hg ⊢
  generalize w.heap.size = q at hg ⊢
  refine ref02_levelsFit.l6_intro _ _ _ _ (fun y w' => ∃ k : Nat, y = .int .i64 k ∧ k ≤ g.levels.length ∧ Chg noB w1 w' ∧ ∀ i (h : i < g.levels.length), i < k → 1 ≤ g.levels[i] ∧ g.levels[i] ≤ 3 ∧ ∃ t ∈ g.terms, t.2 = (i : Int) + 1) (fun y _ => g.levels.length - iv y) ⟨0, rfl, by omega, Chg.refl _ _, fun i h h0 => by omega⟩ ?_
  rintro _ w2 ⟨k, rfl, hk, hcw, hall⟩ C hC
  have z2 := hg w2 hcw
  simp -dsimp [go_sem, z2.k]
  refine SPL_intro (fun p1 => ?_) (fun p1 => ?_) <;> simp at p1
  · have wk : IntKind.i64.wrap ((k : Int) + 1) = (k : Int) + 1 := IntWalk.i64_in _ (by unfold maxLen at m3; omega)
    simp -dsimp [go_sem]
    refine ref02_levelsFit.l17_intro _ _ _ _ _ _ _ (fun x y w' => ∃ (j : Nat) (b : Bool), y = .int .i64 j ∧ x = .bool b ∧ j ≤ g.terms.length ∧ Chg noB w1 w' ∧ (b = true ↔ ∃ t ∈ g.terms.take j, t.2 = (k : Int) + 1)) (fun _ y _ => g.terms.length - iv y) ⟨0, false, rfl, rfl, by omega, hcw, by simp⟩ ?_
    rintro _ _ w3 ⟨j, b, rfl, rfl, hj, hc3, hb⟩ C' hC'
    have z3 := hg w3 hc3
    simp -dsimp [go_sem, z3.k]
    refine SPL_intro (fun p2 => ?_) (fun p2 => ?_) <;> simp at p2
    · have wj : IntKind.i64.wrap ((j : Int) + 1) = (j : Int) + 1 := IntWalk.i64_in _ (by unfold maxLen at m1; omega)
      have htk : g.terms.take (j + 1) = g.terms.take j ++ [g.terms[j]] := List.take_succ_eq_append_getElem p2
      obtain ⟨b4, o4, rfl, hb4, x1, x2, _⟩ := terms_at z3.r1 p2
      have mem : (∃ t ∈ g.terms.take (j + 1), t.2 = (k : Int) + 1) ↔ (∃ t ∈ g.terms.take j, t.2 = (k : Int) + 1) ∨ g.terms[j].2 = (k : Int) + 1 := by
        rw [htk]
        constructor
        · rintro ⟨t, ht, e⟩
          rcases List.mem_append.1 ht with ht | ht
          · exact Or.inl ⟨t, ht, e⟩
          · rw [List.mem_singleton.1 ht] at e; exact Or.inr e
        · rintro (⟨t, ht, e⟩ | e)
          · exact ⟨t, List.mem_append_left _ ht, e⟩
          · exact ⟨_, List.mem_append_right _ (List.mem_singleton.2 rfl), e⟩
      cases b with
      | true =>
        simp -dsimp [go_sem, wj]
        refine hC' _ _ _ ⟨j + 1, true, by simp, rfl, by omega, hc3, ?_⟩ (by simp [iv]; omega)
        rw [mem]; exact ⟨fun _ => Or.inl (hb.1 rfl), fun _ => rfl⟩
      | false =>
        simp -dsimp [go_sem, z3.k, p2, x1, x2, wj, wk]
        refine hC' _ _ _ ⟨j + 1, _, by simp, rfl, by omega, hc3, ?_⟩ (by simp [iv]; omega)
        rw [mem, beq_iff_eq]
        constructor
        · exact Or.inr
        · rintro (h1 | h1)
          · exact absurd (hb.2 h1) (by simp)
          · exact h1
    · have hja : j = g.terms.length := by omega
      subst hja
      rw [List.take_length] at hb
      have bad : ¬ (1 ≤ g.levels[k] ∧ g.levels[k] ≤ 3 ∧ ∃ t ∈ g.terms, t.2 = (k : Int) + 1) → ¬ LevelsP g := fun hn hs => hn (hs k p1)
      cases b with
      | false =>
        simp -dsimp [go_sem]
        exact no _ (hc0.trans hc3) (bad fun hs => by have := hb.2 hs.2.2; cases this)
      | true =>
        obtain ⟨b5, o5, rfl, hb5, y1, _⟩ := Go.Px.ints_at z3.r3 p1
        simp -dsimp [go_sem, z3.k, p1, y1]
        refine SPL_intro (fun p3 => ?_) (fun p3 => ?_) <;> simp at p3
        · simp -dsimp [go_sem]
          exact no _ (hc0.trans hc3) (bad fun hs => by omega)
        simp -dsimp [go_sem, z3.k, p1, y1]
        refine SPL_intro (fun p4 => ?_) (fun p4 => ?_) <;> simp at p4
        · exact no _ (hc0.trans hc3) (bad fun hs => by omega)
        simp -dsimp [go_sem, wk]
        refine hC _ _ ⟨k + 1, by simp, by omega, hc3, fun i hi hik => ?_⟩ (by simp [iv]; omega)
        by_cases e : i = k
        · subst e; exact ⟨by omega, by omega, hb.1 rfl⟩
        · exact hall i hi (by omega)
  · simp -dsimp [go_sem]
    refine hR _ _ ⟨?_, hc0.trans hcw⟩
    rw [levelsB_iff.2 fun i hi => hall i hi (by omega)]

def NonsP (g : Gr) (a : Nat) : Prop := (g.nons.drop a).Nodup ∧ ∀ s ∈ g.nons.drop a, NameP s
open Classical in
noncomputable def nonsB (g : Gr) (a : Nat) : Bool := decide (NonsP g a)
theorem nonsB_iff {g : Gr} {a : Nat} : nonsB g a = true ↔ NonsP g a := @decide_eq_true_iff _ (_)

theorem nonsFit_ct {w : World} {B : Nat} {v : Value} {g : Gr} (h : rGram.atN w B v g) (hB : B ≤ w.heap.size) (a : Nat) (ha : a ≤ 1) : Ct Try.prog ref02_nonsFit.id #[v, .int .i64 a] w fun r w' => r = .bool (nonsB g a) ∧ Chg noB w w' := by
  refine ref02_nonsFit.ct fun R hR => ?_
  obtain ⟨A1, c1, A2, c2, A3, c3, A4, c4, rfl, ⟨m1, m2, m3, m4⟩, _, hc0, hg⟩ := box_all h hB
  have no : ∀ w', Chg noB w w' → ¬ NonsP g a → R (.returned (.bool false)) w' := fun w' hc hn => hR _ _ ⟨by rw [bool_no nonsB_iff hn], hc⟩
  unfold ref02_nonsFit.run
  simp -dsimp [go_sem]
  generalize w.alloc (.cells #[.slice A1 g.terms.length c1, .slice A2 g.nons.length c2, .slice A3 g.levels.length c3, .int .i64 g.start, .slice A4 g.prods.length c4] 27) = w1 at hc0 hg ⊢
  generalize w.heap.size = q at hg ⊢
  generalize hE : g.nons.drop a = nl
  have hnl : nl.length = g.nons.length - a := by rw [← hE]; simp
  have hel : ∀ i (hi : i < nl.length), g.nons[a + i]'(by omega) = nl[i] := fun i hi => by simp [← hE]
  refine ref02_nonsFit.l6_intro _ _ _ _ _ (fun y w' => ∃ j k : Nat, y = .int .i64 j ∧ j = a + k ∧ (k ≤ nl.length) ∧ Chg noB w1 w' ∧ (nl.take k).Nodup ∧ ∀ s ∈ nl.take k, NameP s) (fun y _ => g.nons.length + a - iv y) ⟨a, 0, rfl, rfl, by omega, Chg.refl _ _, by simp, by simp⟩ ?_
  rintro _ w2 ⟨j, k, rfl, hj, hk, hcw, hnd, hall⟩ C hC
  have z2 := hg w2 hcw
  simp -dsimp [go_sem, z2.k]
  refine SPL_intro (fun p1 => ?_) (fun p1 => ?_) <;> simp at p1
  · have hk1 : k < nl.length := by omega
    obtain ⟨b4, o4, rfl, hb4, x1, x2⟩ := Go.Px.strs_at z2.r2 p1
    have hej : g.nons[j] = nl[k] := by subst hj; exact hel k hk1
    rw [hej] at x1 x2
    have wj : IntKind.i64.wrap ((j : Int) + 1) = (j : Int) + 1 := IntWalk.i64_in _ (by unfold maxLen at m2; omega)
    simp -dsimp [go_sem, z2.k, p1, x1]
    refine CALL_of (ref02_IsName_ct x2 w2) ?_
    rintro _ _ ⟨rfl, rfl⟩
    cases hT : nmB nl[k] with
    | false =>
      simp -dsimp [go_sem]
      exact no _ (hc0.trans hcw) fun hs => by rw [nmB_iff.2 (hs.2 _ (by rw [hE]; exact List.getElem_mem hk1))] at hT; cases hT
    | true =>
      simp -dsimp [go_sem]
      refine ref02_nonsFit.l13_intro _ _ _ _ _ _ (fun y w' => ∃ i n : Nat, y = .int .i64 i ∧ i = a + n ∧ n ≤ k ∧ Chg noB w1 w' ∧ ∀ s ∈ nl.take n, s ≠ nl[k]) (fun y _ => a + k - iv y) ⟨a, 0, rfl, rfl, by omega, hcw, by simp⟩ ?_
      rintro _ w3 ⟨i, n, rfl, hi, hn, hc3, hne⟩ C' hC'
      simp -dsimp [go_sem]
      refine SPL_intro (fun p4 => ?_) (fun p4 => ?_) <;> simp at p4
      · have hn1 : n < nl.length := by omega
        have hil : i < g.nons.length := by omega
        have z3 := hg _ hc3.drew
        obtain ⟨b5, o5, e4, hb5, y1, _⟩ := Go.Px.strs_at z3.r2 p1
        injection e4 with e4; injection e4 with e4 e5; subst e4 e5
        obtain ⟨b6, o6, e4, hb6, y2, _⟩ := Go.Px.strs_at z3.r2 hil
        injection e4 with e4; injection e4 with e4 e5; subst e4 e5
        have hei : g.nons[i] = nl[n] := by subst hi; exact hel n hn1
        rw [hej] at y1
        rw [hei] at y2
        have wi : IntKind.i64.wrap ((i : Int) + 1) = (i : Int) + 1 := IntWalk.i64_in _ (by unfold maxLen at m2; omega)
        simp -dsimp [go_sem, z3.k, p1, hil, y1, y2]
        refine SPL_intro (fun p5 => ?_) (fun p5 => ?_) <;> simp at p5
        · refine no _ (hc0.trans hc3.drew) fun hs => ?_
          have h9 := hs.1
          rw [hE] at h9
          exact List.pairwise_iff_getElem.1 h9 n k hn1 hk1 (by omega) (toList_inj'.1 p5)
        · simp -dsimp [go_sem, wi]
          refine hC' _ _ ⟨i + 1, n + 1, by simp, by omega, by omega, hc3.drew, fun t ht => ?_⟩ (by simp [iv]; omega)
          rw [List.take_succ_eq_append_getElem hn1] at ht
          rcases List.mem_append.1 ht with ht | ht
          · exact hne t ht
          · rw [List.mem_singleton.1 ht]
            exact fun e => p5 (by rw [e])
      · have hnk : n = k := by omega
        subst hnk
        simp -dsimp [go_sem, wj]
        have htk : nl.take (n + 1) = nl.take n ++ [nl[n]] := List.take_succ_eq_append_getElem hk1
        refine hC _ _ ⟨j + 1, n + 1, by simp, by omega, by omega, hc3, ?_, fun t ht => ?_⟩ (by simp [iv]; omega)
        · rw [htk]
          refine List.nodup_append.2 ⟨hnd, by simp, fun x hx y hy => ?_⟩
          rw [List.mem_singleton.1 hy]
          exact hne x hx
        · rw [htk] at ht
          rcases List.mem_append.1 ht with ht | ht
          · exact hall t ht
          · rw [List.mem_singleton.1 ht]; exact nmB_iff.1 hT
  · have hka : k = nl.length := by omega
    subst hka
    rw [List.take_length] at hall hnd
    simp -dsimp [go_sem]
    refine hR _ _ ⟨?_, hc0.trans hcw⟩
    rw [nonsB_iff.2 (by unfold NonsP; rw [hE]; exact ⟨hnd, hall⟩)]
end Go.Proofs.Ytkacbjhiobnbfaa

/-
  The document's answer: productions that fit; the Lefts.
-/
namespace Go.Proofs.Ytkacbjhiobnbfaa
open Go.Px Go.Px.Scan Go.RowKit
set_option maxHeartbeats 1000000
set_option linter.unusedSimpArgs false
set_option linter.unusedVariables false
set_option maxRecDepth 100000
attribute [-go_sem] Builtin.append_

def PFitP (g : Gr) (a : Nat) : Prop := ∀ p ∈ g.prods.drop a, ProdOk g a p
open Classical in
noncomputable def pfitB (g : Gr) (a : Nat) : Bool := decide (PFitP g a)
theorem pfitB_iff {g : Gr} {a : Nat} : pfitB g a = true ↔ PFitP g a := @decide_eq_true_iff _ (_)

theorem prodsFit_ct {w : World} {B : Nat} {v : Value} {g : Gr} (h : rGram.atN w B v g) (hB : B ≤ w.heap.size) (a : Nat) (ha : a ≤ 1) (hs : g.terms.length + g.nons.length ≤ 1000) :
    Ct Try.prog ref02_prodsFit.id #[v, .int .i64 a, .int .i64 ((g.terms.length : Int) + a)] w fun r w' => r = .bool (pfitB g a) ∧ Chg noB w w' := by
  refine ref02_prodsFit.ct fun R hR => ?_
  obtain ⟨A1, c1, A2, c2, A3, c3, A4, c4, rfl, ⟨m1, m2, m3, m4⟩, _, hc0, hg⟩ := box_all h hB
  have no : ∀ w', Chg noB w w' → ¬ PFitP g a → R (.returned (.bool false)) w' := fun w' hc hn => hR _ _ ⟨by rw [bool_no pfitB_iff hn], hc⟩
  unfold ref02_prodsFit.run
  simp -dsimp [go_sem]
  generalize hw1 : w.alloc (.cells #[.slice A1 g.terms.length c1, .slice A2 g.nons.length c2, .slice A3 g.levels.length c3, .int .i64 g.start, .slice A4 g.prods.length c4] 27) = w1 at hc0 hg ⊢
  have hz : ∀ w', Chg noB w1 w' → rGram.atN w' B (.agg #[.slice A1 g.terms.length c1, .slice A2 g.nons.length c2, .slice A3 g.levels.length c3, .int .i64 g.start, .slice A4 g.prods.length c4]) g ∧ B ≤ w'.heap.size := fun w' hc =>
    ⟨rGram_below h ((hc0.trans hc).below hB fun _ _ => id), (hg w' hc).sz⟩
  generalize w.heap.size = q at hg ⊢
  generalize hE : g.prods.drop a = nl
  have hnl : nl.length = g.prods.length - a := by rw [← hE]; simp
  have hel : ∀ i (hi : i < nl.length), g.prods[a + i]'(by omega) = nl[i] := fun i hi => by simp [← hE]
  refine ref02_prodsFit.l6_intro _ _ _ _ _ (fun y w' => ∃ j k : Nat, y = .int .i64 j ∧ j = a + k ∧ k ≤ nl.length ∧ Chg noB w1 w' ∧ ∀ p ∈ nl.take k, ProdOk g a p) (fun y _ => g.prods.length + a - iv y) ⟨a, 0, rfl, rfl, by omega, Chg.refl _ _, by simp⟩ ?_
  rintro _ w2 ⟨j, k, rfl, hj, hk, hcw, hall⟩ C hC
  have z2 := hg w2 hcw
  simp -dsimp [go_sem, z2.k]
  refine SPL_intro (fun p1 => ?_) (fun p1 => ?_) <;> simp at p1
  · have hk1 : k < nl.length := by omega
    have wj : IntKind.i64.wrap ((j : Int) + 1) = (j : Int) + 1 := IntWalk.i64_in _ (by unfold maxLen at m4; omega)
    obtain ⟨b2, o2, vr, rfl, hb2, d1, d2, d3, dr, i1, i2⟩ := prods_at z2.r4 p1
    obtain ⟨Ar, cr, rfl, lr, mr, _⟩ := slice_form dr
    have hej : g.prods[j] = nl[k] := by subst hj; exact hel k hk1
    have bad : ¬ ProdOk g a g.prods[j] → ¬ PFitP g a := fun hn hs => hn (hs _ (by rw [hE, hej]; exact List.getElem_mem hk1))
    generalize hp : g.prods[j] = p at d1 d2 d3 dr i1 i2 lr bad
    have s3 := (St.refl noB w2).alloc #[.int .i64 p.1, .slice Ar p.2.1.length cr, .int .i64 p.2.2] 47
    have z3 := hg _ (hcw.trans s3.chg)
    simp -dsimp [go_sem, z2.k, p1, d1, d2, d3, z3.k]
    generalize w2.heap.size = pb at s3 ⊢
    generalize w2.alloc (.cells #[.int .i64 p.1, .slice Ar p.2.1.length cr, .int .i64 p.2.2] 47) = w3 at s3 z3 ⊢
    have y3 := s3.box 0 rfl
    simp [boxAt] at y3
    have s3d := s3.old ((Chg.refl noB w3).drew)
    have z3d := hg _ (hcw.trans s3d.chg)
    have y3d := s3d.box 0 rfl
    simp [boxAt] at y3d
    refine SPL_intro (fun p2 => ?_) (fun p2 => ?_) <;> simp at p2
    · simp -dsimp [go_sem]
      exact no _ (hc0.trans (hcw.trans s3d.chg)) (bad fun hs => by have := hs.l0; omega)
    simp -dsimp [go_sem, y3d, z3d.k]
    refine CALL_of (Symbols_ct (hz _ (hcw.trans s3d.chg)).1 (hz _ (hcw.trans s3d.chg)).2 hs) ?_
    rintro _ w4 ⟨rfl, hc4⟩
    have s4 := s3d.old hc4
    have h4 := hcw.trans s4.chg
    have z4 := hg _ h4
    have y4 := s4.box 0 rfl
    simp [boxAt] at y4
    simp -dsimp [go_sem, y4, z4.k]
    refine SPL_intro (fun p3 => ?_) (fun p3 => ?_) <;> simp at p3
    · simp -dsimp [go_sem]
      exact no _ (hc0.trans h4) (bad fun hs => by have := hs.l1; omega)
    simp -dsimp [go_sem, y4, z4.k]
    refine SPL_intro (fun p4 => ?_) (fun p4 => ?_) <;> simp at p4
    · simp -dsimp [go_sem]
      exact no _ (hc0.trans h4) (bad fun hs => by have := hs.v0; omega)
    simp -dsimp [go_sem, y4, z4.k]
    refine SPL_intro (fun p5 => ?_) (fun p5 => ?_) <;> simp at p5
    · exact no _ (hc0.trans h4) (bad fun hs => by have := hs.v1; omega)
    have hB2 := z2.sz
    simp -dsimp [go_sem]
    refine ref02_prodsFit.l15_intro _ _ _ _ _ _ _ _ (fun y w' => ∃ n : Nat, y = .int .i64 n ∧ n ≤ p.2.1.length ∧ St noB w2 w' [boxC pb 47 [.int .i64 p.1, .slice Ar p.2.1.length cr, .int .i64 p.2.2]] ∧
      ∀ s ∈ p.2.1.take n, 1 ≤ s ∧ s < (g.terms.length + g.nons.length : Int) ∧ ((g.terms.length : Int) ≤ s → (g.terms.length + a : Int) ≤ s)) (fun y _ => p.2.1.length - iv y) ⟨0, rfl, by omega, s4, by simp⟩ ?_
    rintro _ w5 ⟨n, rfl, hn, s5, hr⟩ C' hC'
    have h5 := hcw.trans s5.chg
    have z5 := hg _ h5
    have y5 := s5.box 0 rfl
    simp [boxAt] at y5
    simp -dsimp [go_sem, y5]
    refine SPL_intro (fun q1 => ?_) (fun q1 => ?_) <;> simp at q1
    · obtain ⟨b6, o6, rfl, hb6, e1, e2⟩ := Go.Px.ints_at (Rep.below dr (s5.chg.below hB2 fun _ _ => id)) q1
      have wn := wrap_succ q1 (Nat.le_trans lr mr)
      have bad2 : ¬ (1 ≤ p.2.1[n] ∧ p.2.1[n] < (g.terms.length + g.nons.length : Int) ∧ ((g.terms.length : Int) ≤ p.2.1[n] → (g.terms.length + a : Int) ≤ p.2.1[n])) → ¬ PFitP g a := fun hn => bad fun hs => hn (hs.right _ (List.getElem_mem q1))
      simp -dsimp [go_sem, y5, q1, e1]
      refine SPL_intro (fun q2 => ?_) (fun q2 => ?_) <;> simp at q2
      · simp -dsimp [go_sem]
        exact no _ (hc0.trans h5) (bad2 fun hs => by omega)
      simp -dsimp [go_sem, z5.k]
      refine CALL_of (Symbols_ct (hz _ h5).1 (hz _ h5).2 hs) ?_
      rintro _ w6 ⟨rfl, hc6⟩
      have s6 := s5.old hc6
      have h6 := hcw.trans s6.chg
      have z6 := hg _ h6
      simp -dsimp [go_sem]
      refine SPL_intro (fun q3 => ?_) (fun q3 => ?_) <;> simp at q3
      · simp -dsimp [go_sem]
        exact no _ (hc0.trans h6) (bad2 fun hs => by omega)
      have good : (1 ≤ p.2.1[n] ∧ p.2.1[n] < (g.terms.length + g.nons.length : Int) ∧ ((g.terms.length : Int) ≤ p.2.1[n] → (g.terms.length + a : Int) ≤ p.2.1[n])) → C' (.int .i64 ((n : Int) + 1)) w6 := fun hg => by
        refine hC' _ _ ⟨n + 1, by simp, by omega, s6, fun s hs => ?_⟩ (by simp [iv]; omega)
        rw [List.take_succ_eq_append_getElem q1] at hs
        rcases List.mem_append.1 hs with hs | hs
        · exact hr s hs
        · rw [List.mem_singleton.1 hs]; exact hg
      simp -dsimp [go_sem, z6.k]
      refine SPL_intro (fun q4 => ?_) (fun q4 => ?_) <;> simp at q4
      · simp -dsimp [go_sem]
        refine SPL_intro (fun q5 => ?_) (fun q5 => ?_) <;> simp at q5
        · exact no _ (hc0.trans h6) (bad2 fun hs => by omega)
        · simp -dsimp [go_sem, wn]
          exact good (by omega)
      · simp -dsimp [go_sem, wn]
        exact good (by omega)
    · have hna : n = p.2.1.length := by omega
      subst hna
      rw [List.take_length] at hr
      simp -dsimp [go_sem, wj]
      refine hC _ _ ⟨j + 1, k + 1, by simp, by omega, by omega, h5, fun x hx => ?_⟩ (by simp [iv]; omega)
      rw [List.take_succ_eq_append_getElem hk1] at hx
      rcases List.mem_append.1 hx with hx | hx
      · exact hall x hx
      · rw [List.mem_singleton.1 hx, ← hej, hp]
        exact ⟨by omega, by omega, by omega, by omega, hr⟩
  · have hka : k = nl.length := by omega
    subst hka
    rw [List.take_length] at hall
    simp -dsimp [go_sem]
    refine hR _ _ ⟨?_, hc0.trans hcw⟩
    rw [pfitB_iff.2 (by unfold PFitP; rw [hE]; exact hall)]

theorem lefts_ct {w : World} {B : Nat} {v : Value} {g : Gr} (h : rGram.atN w B v g) (hB : B ≤ w.heap.size) (a : Nat) (ha : a ≤ 1) (hp : g.prods.length ≤ 1000) :
    Ct Try.prog ref02_lefts.id #[v, .int .i64 a] w fun r w' => (rSlice rInt).at1 w' w'.heap.size r (leftsOf (g.prods.drop a)) ∧ Chg noB w w' := by
  refine ref02_lefts.ct fun R hR => ?_
  obtain ⟨A1, c1, A2, c2, A3, c3, A4, c4, rfl, ⟨m1, m2, m3, m4⟩, _, hc0, hg⟩ := box_all h hB
  unfold ref02_lefts.run
  simp -dsimp [go_sem]
  generalize hw1 : w.alloc (.cells #[.slice A1 g.terms.length c1, .slice A2 g.nons.length c2, .slice A3 g.levels.length c3, .int .i64 g.start, .slice A4 g.prods.length c4] 27) = w1 at hc0 hg ⊢
  generalize w.heap.size = q at hg ⊢
  generalize hE : g.prods.drop a = nl
  rw [hE] at hR
  have hnl : nl.length = g.prods.length - a := by rw [← hE]; simp
  have hel : ∀ i (hi : i < nl.length), g.prods[a + i]'(by omega) = nl[i] := fun i hi => by simp [← hE]
  have n0 := (St.refl noB w1).nilRow 3 1
  refine ref02_lefts.l6_intro _ _ _ _ _ (fun x y w' => ∃ (j k : Nat) (A : Option Addr) (n c : Nat), y = .int .i64 j ∧ x = .slice A n c ∧ j = a + k ∧ k ≤ nl.length ∧ n = (leftsOf (nl.take k)).length ∧
    St noB w1 w' [rowC 3 1 A n c ((leftsOf (nl.take k)).map (Value.int .i64 ·))] ∧ n ≤ k ∧ ∀ x ∈ leftsOf (nl.take k), inI64 x) (fun _ y _ => g.prods.length + a - iv y) ⟨a, 0, none, 0, 0, rfl, rfl, rfl, by omega, rfl, by simpa [leftsOf] using n0, by omega, by simp [leftsOf]⟩ ?_
  rintro _ _ w2 ⟨j, k, A, n, c, rfl, rfl, hj, hk, hn, hst, hnk, hin⟩ C hC
  have z2 := hg w2 hst.chg
  simp -dsimp [go_sem, z2.k]
  refine SPL_intro (fun p1 => ?_) (fun p1 => ?_) <;> simp at p1
  · have hk1 : k < nl.length := by omega
    have wj : IntKind.i64.wrap ((j : Int) + 1) = (j : Int) + 1 := IntWalk.i64_in _ (by omega)
    have hej : g.prods[j] = nl[k] := by subst hj; exact hel k hk1
    have htk : nl.take (k + 1) = nl.take k ++ [nl[k]] := List.take_succ_eq_append_getElem hk1
    have hlt : leftsOf (nl.take (k + 1)) = addL (leftsOf (nl.take k)) nl[k].1 := by rw [htk, leftsOf_snoc]
    have pr : ∀ w', Chg noB w2 w' → ∃ b o, A4 = some ⟨b, o, none⟩ ∧ w'.cell? ⟨b, o + j * 3, none⟩ = some (.int .i64 nl[k].1) ∧ inI64 nl[k].1 := fun w' hc => by
      obtain ⟨b, o, vr, e, _, d1, _, _, _, i1, _⟩ := prods_at (hg w' (hst.chg.trans hc)).r4 p1
      rw [hej] at d1 i1
      exact ⟨b, o, e, d1, i1⟩
    have hLe : ∃ L, L = leftsOf (nl.take k) := ⟨_, rfl⟩
    refine hLe.elim fun L hL => ?_
    rw [← hL] at hn hst hin hlt
    subst hn
    simp -dsimp [go_sem]
    refine ref02_lefts.l16_intro _ _ _ _ _ _ _ _ (fun x y w' => ∃ (i : Nat) (b : Bool), y = .int .i64 i ∧ x = .bool b ∧ i ≤ L.length ∧ St noB w1 w' [rowC 3 1 A L.length c (L.map (Value.int .i64 ·))] ∧ Chg noB w2 w' ∧ (b = true ↔ nl[k].1 ∈ L.take i)) (fun _ y _ => L.length - iv y) ⟨0, false, rfl, rfl, by omega, hst, Chg.refl _ _, by simp⟩ ?_
    rintro _ _ w3 ⟨i, b, rfl, rfl, hi, s3, hc3, hb⟩ C' hC'
    simp -dsimp [go_sem]
    refine SPL_intro (fun p2 => ?_) (fun p2 => ?_) <;> simp at p2
    · have wi : IntKind.i64.wrap ((i : Int) + 1) = (i : Int) + 1 := IntWalk.i64_in _ (by omega)
      have hti : L.take (i + 1) = L.take i ++ [L[i]] := List.take_succ_eq_append_getElem p2
      have s3d := s3.old ((Chg.refl noB w3).drew)
      obtain ⟨g3, e3, x1, _⟩ := s3d.rowAt 0 rfl (j := i) (by simpa using p2)
      subst e3
      simp only [List.getElem_map] at x1
      cases b with
      | true =>
        simp -dsimp [go_sem, wi]
        refine hC' _ _ _ ⟨i + 1, true, by simp, rfl, by omega, s3d, hc3.drew, ?_⟩ (by simp [iv]; omega)
        rw [hti, List.mem_append]; exact ⟨fun _ => Or.inl (hb.1 rfl), fun _ => rfl⟩
      | false =>
        obtain ⟨b4, o4, rfl, x2, _⟩ := pr _ hc3.drew
        have zd := hg _ s3d.chg
        simp -dsimp [go_sem, zd.k, p1, p2, x1, x2, wi]
        refine hC' _ _ _ ⟨i + 1, _, by simp, rfl, by omega, s3d, hc3.drew, ?_⟩ (by simp [iv]; omega)
        rw [hti, List.mem_append, List.mem_singleton, beq_iff_eq]
        constructor
        · intro e; exact Or.inr e.symm
        · rintro (h1 | h1)
          · exact absurd (hb.2 h1) (by simp)
          · exact h1.symm
    · have hia : i = L.length := by omega
      subst hia
      rw [List.take_length] at hb
      cases b with
      | true =>
        have ha' : addL L nl[k].1 = L := if_pos (hb.1 rfl)
        rw [ha'] at hlt
        simp -dsimp [go_sem, wj]
        refine hC _ _ _ ⟨j + 1, k + 1, A, L.length, c, by simp, rfl, by omega, by omega, by rw [hlt], by rw [hlt]; exact s3, by omega, by rw [hlt]; exact hin⟩ (by simp [iv]; omega)
      | false =>
        have hno : nl[k].1 ∉ L := fun h => by have := hb.2 h; cases this
        have ha' : addL L nl[k].1 = L ++ [nl[k].1] := if_neg hno
        rw [ha'] at hlt
        obtain ⟨b4, o4, rfl, x2, i2⟩ := pr _ hc3
        have z3 := hg _ s3.chg
        simp -dsimp [go_sem, z3.k, p1, x2]
        refine s3.append1 0 rfl uInts iInt rfl (by omega) (news := [.int .i64 nl[k].1]) rfl (by simp [Value.oneCell']) (by unfold maxLen; omega) (by unfold maxBytes; omega) ?_
        intro g' cap w6 h6
        simp -dsimp [go_sem, wj]
        have em : L.map (Value.int .i64 ·) ++ [.int .i64 nl[k].1] = (leftsOf (nl.take (k + 1))).map (Value.int .i64 ·) := by rw [hlt, List.map_append]; rfl
        rw [em] at h6
        refine hC _ _ _ ⟨j + 1, k + 1, _, _, _, by simp, rfl, by omega, by omega, by rw [hlt, List.length_append]; rfl, h6, by omega, ?_⟩ (by simp [iv]; omega)
        rw [hlt]
        intro x hx
        rcases List.mem_append.1 hx with hx | hx
        · exact hin x hx
        · rw [List.mem_singleton.1 hx]; exact i2
  · have hka : k = nl.length := by omega
    subst hka
    rw [List.take_length] at hst hn hin
    simp -dsimp [go_sem]
    exact hR _ _ ⟨ints_own hst 0 rfl hin, hc0.trans hst.chg⟩
end Go.Proofs.Ytkacbjhiobnbfaa

/-
  The document's answer: which grammars are plain, which are closed.
-/
namespace Go.Proofs.Ytkacbjhiobnbfaa
open Go.Px Go.Px.Scan Go.RowKit
set_option maxHeartbeats 1000000
set_option linter.unusedSimpArgs false
set_option linter.unusedVariables false
set_option maxRecDepth 100000
attribute [-go_sem] Builtin.append_

/-- All but what the added one has of its own. -/
def FitsP (g : Gr) (a : Nat) : Prop := SymsP g a ∧ ProdsP g a
open Classical in
noncomputable def fitsB (g : Gr) (a : Nat) : Bool := decide (FitsP g a)
theorem fitsB_iff {g : Gr} {a : Nat} : fitsB g a = true ↔ FitsP g a := @decide_eq_true_iff _ (_)

theorem levels_tail {g : Gr} (h0 : g.terms.head? = some (⟨#[]⟩, 0)) (i : Nat) : (∃ t ∈ g.terms, t.2 = (i : Int) + 1) ↔ ∃ t ∈ g.terms.tail, t.2 = (i : Int) + 1 := by
  cases e : g.terms with
  | nil => simp
  | cons t r =>
    rw [e] at h0
    simp at h0
    constructor
    · rintro ⟨x, hx, hi⟩
      rcases List.mem_cons.1 hx with rfl | hx
      · rw [h0] at hi; simp at hi; omega
      · exact ⟨x, hx, hi⟩
    · rintro ⟨x, hx, hi⟩; exact ⟨x, List.mem_cons_of_mem _ hx, hi⟩

theorem fits_ct {w : World} {B : Nat} {v : Value} {g : Gr} (h : rGram.atN w B v g) (hB : B ≤ w.heap.size) (a : Nat) (ha : a ≤ 1) : Ct Try.prog ref02_fits.id #[v, .int .i64 a] w fun r w' => r = .bool (fitsB g a) ∧ Chg noB w w' := by
  refine ref02_fits.ct fun R hR => ?_
  obtain ⟨A1, c1, A2, c2, A3, c3, A4, c4, rfl, ⟨m1, m2, m3, m4⟩, hst, hc0, hg⟩ := box_all h hB
  have no : ∀ w', Chg noB w w' → ¬ FitsP g a → R (.returned (.bool false)) w' := fun w' hc hn => hR _ _ ⟨by rw [bool_no fitsB_iff hn], hc⟩
  unfold ref02_fits.run
  have w64 : IntKind.i64.wrap (64 + (a : Int)) = 64 + a := IntWalk.i64_in _ (by omega)
  simp -dsimp [go_sem, w64]
  generalize hw1 : w.alloc (.cells #[.slice A1 g.terms.length c1, .slice A2 g.nons.length c2, .slice A3 g.levels.length c3, .int .i64 g.start, .slice A4 g.prods.length c4] 27) = w1 at hc0 hg ⊢
  have hz : ∀ w', Chg noB w1 w' → rGram.atN w' B (.agg #[.slice A1 g.terms.length c1, .slice A2 g.nons.length c2, .slice A3 g.levels.length c3, .int .i64 g.start, .slice A4 g.prods.length c4]) g ∧ B ≤ w'.heap.size := fun w' hc =>
    ⟨rGram_below h ((hc0.trans hc).below hB fun _ _ => id), (hg w' hc).sz⟩
  generalize w.heap.size = q at hg ⊢
  have z1 := hg w1 (Chg.refl _ _)
  refine SPL_intro (fun q1 => ?_) (fun q1 => ?_) <;> simp at q1
  · simp -dsimp [go_sem]
    exact no _ hc0 fun hs => by have := hs.1.n1; omega
  simp -dsimp [go_sem, z1.k]
  refine SPL_intro (fun q2 => ?_) (fun q2 => ?_) <;> simp at q2
  · simp -dsimp [go_sem]
    exact no _ hc0 fun hs => by have := hs.1.t1; omega
  have w96 : IntKind.i64.wrap (96 + (a : Int)) = 96 + a := IntWalk.i64_in _ (by omega)
  simp -dsimp [go_sem, z1.k, w96]
  refine SPL_intro (fun q3 => ?_) (fun q3 => ?_) <;> simp at q3
  · simp -dsimp [go_sem]
    exact no _ hc0 fun hs => by have := hs.2.c1; omega
  have wa1 : IntKind.i64.wrap (1 + (a : Int)) = 1 + a := IntWalk.i64_in _ (by omega)
  simp -dsimp [go_sem, z1.k, wa1]
  refine SPL_intro (fun q4 => ?_) (fun q4 => ?_) <;> simp at q4
  · simp -dsimp [go_sem]
    exact no _ hc0 fun hs => by have := hs.2.c0; omega
  simp -dsimp [go_sem, z1.k]
  refine SPL_intro (fun q5 => ?_) (fun q5 => ?_) <;> simp at q5
  · exact no _ hc0 fun hs => by have := hs.1.lev; omega
  have w65 : IntKind.i64.wrap ((g.terms.length : Int) - 1) = (g.terms.length : Int) - 1 := IntWalk.i64_in _ (by omega)
  have w66 : IntKind.i64.wrap ((g.terms.length : Int) - 1 + g.nons.length) = (g.terms.length : Int) - 1 + g.nons.length := IntWalk.i64_in _ (by omega)
  have w67 : IntKind.i64.wrap ((g.terms.length : Int) - 1 + g.nons.length - a) = (g.terms.length : Int) - 1 + g.nons.length - a := IntWalk.i64_in _ (by omega)
  simp -dsimp [go_sem, z1.k, w65, w66, w67]
  refine SPL_intro (fun q6 => ?_) (fun q6 => ?_) <;> simp at q6
  · exact no _ hc0 fun hs => by
      have h1 := hs.1.sum
      have h2 : 0 < g.terms.length := by
        have := hs.1.t0
        cases e : g.terms with
        | nil => rw [e] at this; cases this
        | cons t r => simp
      have h3 := hs.1.n0
      omega
  have hs : g.terms.length + g.nons.length ≤ 1000 := by omega
  simp -dsimp [go_sem, z1.k]
  refine CALL_of (termsFit_ct (hz _ (Chg.refl _ _)).1 (hz _ (Chg.refl _ _)).2) ?_
  rintro _ w2 ⟨rfl, hc2⟩
  have z2 := hg _ hc2
  cases hT : termsB g with
  | false =>
    simp -dsimp [go_sem]
    exact no _ (hc0.trans hc2) fun hs => by rw [termsB_iff.2 ⟨hs.1.t0, hs.1.terms, hs.1.tnd⟩] at hT; cases hT
  | true =>
    have hTP := termsB_iff.1 hT
    simp -dsimp [go_sem, z2.k]
    refine CALL_of (levelsFit_ct (hz _ hc2).1 (hz _ hc2).2) ?_
    rintro _ w3 ⟨rfl, hc3⟩
    have h3 := hc2.trans hc3
    have z3 := hg _ h3
    simp -dsimp [go_sem, z3.k]
    refine CALL_of (nonsFit_ct (hz _ h3).1 (hz _ h3).2 a ha) ?_
    rintro _ w4 ⟨rfl, hc4⟩
    have h4 := h3.trans hc4
    have z4 := hg _ h4
    have wl : IntKind.i64.wrap ((g.terms.length : Int) + a) = (g.terms.length : Int) + a := IntWalk.i64_in _ (by omega)
    simp -dsimp [go_sem, z4.k, wl]
    refine CALL_of (prodsFit_ct (hz _ h4).1 (hz _ h4).2 a ha hs) ?_
    rintro _ w5 ⟨rfl, hc5⟩
    have h5 := h4.trans hc5
    have z5 := hg _ h5
    simp -dsimp [go_sem, z5.k]
    refine CALL_of (lefts_ct (hz _ h5).1 (hz _ h5).2 a ha (by omega)) ?_
    rintro vl w6 ⟨hl, hc6⟩
    obtain ⟨Al, cl, rfl, _⟩ := slice_form hl
    have h6 := h5.trans hc6
    have h6d := h6.drew
    have z6 := hg _ h6
    have z6d := hg _ h6d
    have hlev := levelsB_iff (g := g)
    have hnon := nonsB_iff (g := g) (a := a)
    have hpf := pfitB_iff (g := g) (a := a)
    have nt0 : ∃ n, g.terms.length = n + 1 := by
      have := hTP.1
      cases e : g.terms with
      | nil => rw [e] at this; cases this
      | cons t r => exact ⟨r.length, rfl⟩
    obtain ⟨nt, hnt⟩ := nt0
    cases hL : levelsB g with
    | false =>
      simp -dsimp [go_sem]
      exact no _ (hc0.trans h6d) fun hs => by
        have : LevelsP g := fun i hi => ⟨(hs.1.levels i hi).1, (hs.1.levels i hi).2.1, (levels_tail hTP.1 i).2 (hs.1.levels i hi).2.2⟩
        rw [hlev.2 this] at hL; cases hL
    | true =>
      cases hN : nonsB g a with
      | false =>
        simp -dsimp [go_sem]
        exact no _ (hc0.trans h6d) fun hs => by rw [hnon.2 ⟨hs.1.nnd, hs.1.nnam⟩] at hN; cases hN
      | true =>
        cases hP : pfitB g a with
        | false =>
          simp -dsimp [go_sem]
          exact no _ (hc0.trans h6d) fun hs => by rw [hpf.2 hs.2.each] at hP; cases hP
        | true =>
          have hLP := hlev.1 hL
          have hNP := hnon.1 hN
          have hPP := hpf.1 hP
          have wn : IntKind.i64.wrap ((g.nons.length : Int) - a) = (g.nons.length : Int) - a := IntWalk.i64_in _ (by omega)
          simp -dsimp [go_sem, z6d.k, wn]
          have lpos : 0 < (leftsOf (g.prods.drop a)).length := by
            have hp : 0 < (g.prods.drop a).length := by simp; omega
            exact List.length_pos_of_mem (leftsOf_mem.2 ⟨(g.prods.drop a)[0], List.getElem_mem hp, rfl⟩)
          refine SPL_intro (fun p1 => ?_) (fun p1 => ?_) <;> simp at p1
          · simp -dsimp [go_sem, z6d.k, wl]
            refine SPL_intro (fun p2 => ?_) (fun p2 => ?_) <;> simp at p2
            · simp -dsimp [go_sem, z6d.k]
              refine CALL_of (Symbols_ct (hz _ h6d).1 (hz _ h6d).2 hs) ?_
              rintro _ w7 ⟨rfl, hc7⟩
              have z7 := hg _ (h6d.trans hc7)
              simp -dsimp [go_sem, z7.k]
              refine hR _ _ ⟨?_, hc0.trans (h6d.trans hc7)⟩
              congr 1
              refine bool_eq ?_
              rw [decide_eq_true_iff, fitsB_iff]
              constructor
              · intro p3
                exact ⟨⟨hTP.1, by omega, by omega, by omega, by omega, hTP.2.1, fun i hi => ⟨(hLP i hi).1, (hLP i hi).2.1, (levels_tail hTP.1 i).1 (hLP i hi).2.2⟩, hTP.2.2, hNP.1, hNP.2⟩,
                  ⟨by omega, by omega, hPP, by omega, by omega, by omega⟩⟩
              · intro hs; exact hs.2.s1
            · exact no _ (hc0.trans h6d) fun hs => by have := hs.2.s0; omega
          · exact no _ (hc0.trans h6d) fun hs => by have := hs.2.lefts; omega

theorem refValid_ct {w : World} {B : Nat} {v : Value} {g : Gr} (h : rGram.atN w B v g) (hB : B ≤ w.heap.size) : Ct Try.prog ref02_Valid.id #[v] w fun r w' => r = .bool (validB g) ∧ Chg noB w w' := by
  refine ref02_Valid.ct fun R hR => ?_
  obtain ⟨A1, c1, A2, c2, A3, c3, A4, c4, rfl, ⟨m1, m2, m3, m4⟩, hst, hc0, hg⟩ := box_all h hB
  have no : ∀ w', Chg noB w w' → ¬ ValidP g → R (.returned (.bool false)) w' := fun w' hc hn => hR _ _ ⟨by rw [bool_no validB_iff hn], hc⟩
  unfold ref02_Valid.run
  simp -dsimp [go_sem]
  generalize hw1 : w.alloc (.cells #[.slice A1 g.terms.length c1, .slice A2 g.nons.length c2, .slice A3 g.levels.length c3, .int .i64 g.start, .slice A4 g.prods.length c4] 27) = w1 at hc0 hg ⊢
  have hz : ∀ w', Chg noB w1 w' → rGram.atN w' B (.agg #[.slice A1 g.terms.length c1, .slice A2 g.nons.length c2, .slice A3 g.levels.length c3, .int .i64 g.start, .slice A4 g.prods.length c4]) g ∧ B ≤ w'.heap.size := fun w' hc =>
    ⟨rGram_below h ((hc0.trans hc).below hB fun _ _ => id), (hg w' hc).sz⟩
  generalize w.heap.size = q at hg ⊢
  refine CALL_of (fits_ct (hz _ (Chg.refl _ _)).1 (hz _ (Chg.refl _ _)).2 0 (by omega)) ?_
  rintro _ w2 ⟨rfl, hc2⟩
  have z2 := hg _ hc2
  cases hF : fitsB g 0 with
  | false =>
    simp -dsimp [go_sem]
    exact no _ (hc0.trans hc2) fun hs => by rw [fitsB_iff.2 ⟨hs.syms, hs.prods⟩] at hF; cases hF
  | true =>
    have hFP := fitsB_iff.1 hF
    have hsy := hFP.1.sum
    have ht1 := hFP.1.t1
    have hn1 := hFP.1.n1
    have hc1 := hFP.2.c1
    simp -dsimp [go_sem, z2.k]
    refine CALL_of (lefts_ct (hz _ hc2).1 (hz _ hc2).2 0 (by omega) (by omega)) ?_
    rintro vl w3 ⟨hl, hc3⟩
    rw [List.drop_zero] at hl
    obtain ⟨Al, cl, rfl, hll, hml, _⟩ := slice_form hl
    have hrow := hFP.2.row
    have hlen := hFP.2.lefts
    rw [List.drop_zero] at hlen
    generalize hL : leftsOf g.prods = L at *
    simp -dsimp [go_sem]
    refine ref02_Valid.l6_intro _ _ _ _ _ (fun y w' => ∃ k : Nat, y = .int .i64 k ∧ k ≤ L.length ∧ Chg noB w3 w' ∧ ∀ i (hi : i < L.length), i < k → L[i] = (g.terms.length : Int) + i) (fun y _ => L.length - iv y) ⟨0, rfl, by omega, Chg.refl _ _, fun i hi h0 => by omega⟩ ?_
    rintro _ w4 ⟨k, rfl, hk, hc4, hall⟩ C hC
    simp -dsimp [go_sem]
    refine SPL_intro (fun p1 => ?_) (fun p1 => ?_) <;> simp at p1
    · have z4 := hg _ ((hc2.trans hc3).trans hc4.drew)
      obtain ⟨b1, o1, rfl, hb1, x1, x2⟩ := Go.Px.ints_at (Rep.below hl (hc4.drew.below (Nat.le_refl _) fun _ _ => id)) p1
      have wk : IntKind.i64.wrap ((k : Int) + 1) = (k : Int) + 1 := IntWalk.i64_in _ (by omega)
      have wt : IntKind.i64.wrap ((g.terms.length : Int) + k) = (g.terms.length : Int) + k := IntWalk.i64_in _ (by omega)
      simp -dsimp [go_sem, z4.k, p1, x1, wt]
      refine SPL_intro (fun p2 => ?_) (fun p2 => ?_) <;> simp at p2
      · refine no _ (hc0.trans ((hc2.trans hc3).trans hc4.drew)) fun hv => p2 ?_
        have := hrow.1 (by rw [← hL]; exact hv.sorted)
        exact this k p1
      · simp -dsimp [go_sem, wk]
        refine hC _ _ ⟨k + 1, by simp, by omega, hc4.drew, fun i hi hik => ?_⟩ (by simp [iv]; omega)
        by_cases e : i = k
        · subst e; exact p2
        · exact hall i hi (by omega)
    · simp -dsimp [go_sem]
      refine hR _ _ ⟨?_, hc0.trans ((hc2.trans hc3).trans hc4)⟩
      rw [validB_iff.2 ⟨hFP.1, hFP.2, by rw [hL]; exact hrow.2 fun i hi => hall i hi (by omega)⟩]

theorem refClosed_ct {w : World} {B : Nat} {v : Value} {g : Gr} (h : rGram.atN w B v g) (hB : B ≤ w.heap.size) : Ct Try.prog ref02_Closed.id #[v] w fun r w' => r = .bool (closedB g) ∧ Chg noB w w' := by
  refine ref02_Closed.ct fun R hR => ?_
  obtain ⟨A1, c1, A2, c2, A3, c3, A4, c4, rfl, ⟨m1, m2, m3, m4⟩, hst, hc0, hg⟩ := box_all h hB
  have no : ∀ w', Chg noB w w' → ¬ ClosedP g → R (.returned (.bool false)) w' := fun w' hc hn => hR _ _ ⟨by rw [bool_no closedB_iff hn], hc⟩
  unfold ref02_Closed.run
  simp -dsimp [go_sem]
  generalize hw1 : w.alloc (.cells #[.slice A1 g.terms.length c1, .slice A2 g.nons.length c2, .slice A3 g.levels.length c3, .int .i64 g.start, .slice A4 g.prods.length c4] 27) = w1 at hc0 hg ⊢
  have hz : ∀ w', Chg noB w1 w' → rGram.atN w' B (.agg #[.slice A1 g.terms.length c1, .slice A2 g.nons.length c2, .slice A3 g.levels.length c3, .int .i64 g.start, .slice A4 g.prods.length c4]) g ∧ B ≤ w'.heap.size := fun w' hc =>
    ⟨rGram_below h ((hc0.trans hc).below hB fun _ _ => id), (hg w' hc).sz⟩
  generalize w.heap.size = q at hg ⊢
  have z1 := hg w1 (Chg.refl _ _)
  refine SPL_intro (fun q1 => ?_) (fun q1 => ?_) <;> simp at q1
  · simp -dsimp [go_sem]
    exact no _ hc0 fun hs => by have := hs.syms.n0; omega
  have q1' : 0 < g.nons.length := by omega
  obtain ⟨b2, o2, rfl, hb2, d1, d2⟩ := Go.Px.strs_at z1.r2 q1'
  simp at d1
  have hf : g.nons.head? = some g.nons[0] := by rw [List.head?_eq_getElem?, List.getElem?_eq_getElem q1']
  simp -dsimp [go_sem, z1.k, q1', d1]
  refine SPL_intro (fun p1 => ?_) (fun p1 => ?_) <;> simp at p1
  · simp -dsimp [go_sem]
    refine no _ hc0 fun hv => p1 ?_
    have h9 := hv.first
    rw [hf] at h9
    injection h9 with h9
    rw [h9, ByteArray.toList_eq]
  have hfirst : g.nons.head? = some ⟨#[]⟩ := by
    rw [hf]
    congr 1
    exact bs_ext (by rw [← ByteArray.toList_eq]; exact p1)
  simp -dsimp [go_sem, z1.k]
  refine SPL_intro (fun p2 => ?_) (fun p2 => ?_) <;> simp at p2
  · exact no _ hc0 fun hv => by have := hv.prods.c0; omega
  have hc0' : 0 < g.prods.length := by omega
  obtain ⟨b5, o5, vr, rfl, hb5, f1, f2, f3, fr, i1, i2⟩ := prods_at z1.r4 hc0'
  obtain ⟨Ar, cr, rfl, lr, mr, _⟩ := slice_form fr
  simp at f1 f2 f3
  have hph : g.prods.head? = some g.prods[0] := by rw [List.head?_eq_getElem?, List.getElem?_eq_getElem hc0']
  have bad : g.prods[0] ≠ ((g.terms.length : Int), [g.start], 0) → ¬ ClosedP g := fun hn hv => by
    have := hv.added
    rw [hph] at this
    injection this with this
    exact hn this
  generalize hp : g.prods[0] = p at f1 f2 f3 fr bad lr
  have s3 := (St.refl noB w1).alloc #[.int .i64 p.1, .slice Ar p.2.1.length cr, .int .i64 p.2.2] 47
  have z3 := hg _ s3.chg
  simp -dsimp [go_sem, z1.k, hc0', f1, f2, f3, z3.k]
  generalize w1.heap.size = pb at s3 ⊢
  generalize w1.alloc (.cells #[.int .i64 p.1, .slice Ar p.2.1.length cr, .int .i64 p.2.2] 47) = w3 at s3 z3 ⊢
  have s3d := s3.old ((Chg.refl noB w3).drew)
  have z3d := hg _ s3d.chg
  have y3 := s3d.box 0 rfl
  simp [boxAt] at y3
  have s4d := s3d.old ((Chg.refl noB w3.drew).drew)
  have hcd := hc0.trans s3d.chg
  refine SPL_intro (fun p3 => ?_) (fun p3 => ?_) <;> simp at p3
  · simp -dsimp [go_sem]
    exact no _ hcd (bad fun e => p3 (by rw [e]))
  simp -dsimp [go_sem, y3, z3d.k]
  refine SPL_intro (fun p4 => ?_) (fun p4 => ?_) <;> simp at p4
  · simp -dsimp [go_sem]
    exact no _ hcd (bad fun e => p4 (by rw [e]; rfl))
  have p4' : 0 < p.2.1.length := by omega
  obtain ⟨b6, o6, rfl, hb6, e1, e2⟩ := Go.Px.ints_at (Rep.below fr (s3d.chg.below z1.sz fun _ _ => id)) p4'
  simp at e1
  have hl1 : p.2.1 = [p.2.1[0]] := by
    apply List.ext_getElem?
    intro i
    cases i with
    | zero => simp [List.getElem?_eq_getElem p4']
    | succ i => simp; omega
  simp -dsimp [go_sem, y3, z3d.k, p4', e1]
  refine SPL_intro (fun p5 => ?_) (fun p5 => ?_) <;> simp at p5
  · simp -dsimp [go_sem]
    refine no _ hcd (bad fun e => p5 ?_)
    have e2 : p.2.1 = [g.start] := by rw [e]
    simp only [e2, List.getElem_cons_zero]
  simp -dsimp [go_sem, y3, z3d.k]
  refine SPL_intro (fun p6 => ?_) (fun p6 => ?_) <;> simp at p6
  · exact no _ hcd (bad fun e => p6 (by rw [e]))
  simp -dsimp [go_sem, z3d.k]
  refine CALL_of (fits_ct (hz _ s3d.chg).1 (hz _ s3d.chg).2 1 (by omega)) ?_
  rintro _ w5 ⟨rfl, hc5⟩
  refine hR _ _ ⟨?_, hcd.trans hc5⟩
  congr 1
  refine bool_eq ?_
  rw [fitsB_iff, closedB_iff]
  have hpe : p = ((g.terms.length : Int), [g.start], 0) := Prod.ext p3 (Prod.ext (by show p.2.1 = [g.start]; rw [hl1, p5]) p6)
  exact ⟨fun hs => ⟨hfirst, hs.1, hs.2, by rw [hph, hp, hpe]⟩, fun hv => ⟨hv.syms, hv.prods⟩⟩
end Go.Proofs.Ytkacbjhiobnbfaa

