/-
  The document's answer: terminals, levels, nonterminals that fit.
-/
import Derived.Test.YtmhebgebfjnfjaaMa
import Derived.Test.YtmhebgebfjnfjaaGd
namespace Go.Proofs.Ytmhebgebfjnfjaa
open Go.Px Go.Px.Scan Go.RowKit
set_option maxHeartbeats 1000000
set_option linter.unusedSimpArgs false
set_option linter.unusedVariables false
set_option maxRecDepth 100000
attribute [-go_sem] Builtin.append_

/-- A grammar that was put into a box: what is read of it, as long as nothing old turns. -/
structure GRd (w : World) (B q : Nat) (g : Gr) (A1 : Option Addr) (c1 : Nat) (A2 : Option Addr) (c2 : Nat) (A3 : Option Addr) (c3 : Nat) (A4 : Option Addr) (c4 : Nat) : Prop where
  k : (w.cell? ⟨q, 0, none⟩ = some (.slice A1 g.terms.length c1) ∧ w.cell? ⟨q, 1, none⟩ = some (.slice A2 g.nons.length c2) ∧ w.cell? ⟨q, 2, none⟩ = some (.slice A3 g.levels.length c3) ∧ w.cell? ⟨q, 3, none⟩ = some (.int .i64 g.start) ∧ w.cell? ⟨q, 4, none⟩ = some (.slice A4 g.prods.length c4))
  r1 : (rSlice rTerm).at1 w B (.slice A1 g.terms.length c1) g.terms
  r2 : (rSlice rStr).at1 w B (.slice A2 g.nons.length c2) g.nons
  r3 : (rSlice rInt).at1 w B (.slice A3 g.levels.length c3) g.levels
  r4 : (rSlice rPr).at1 w B (.slice A4 g.prods.length c4) g.prods
  sz : B ≤ w.heap.size

theorem box_all {w : World} {B : Nat} {v : Value} {g : Gr} (h : rGram.atN w B v g) (hB : B ≤ w.heap.size) : ∃ A1 c1 A2 c2 A3 c3 A4 c4, v = .agg #[.slice A1 g.terms.length c1, .slice A2 g.nons.length c2, .slice A3 g.levels.length c3, .int .i64 g.start, .slice A4 g.prods.length c4] ∧
    (g.terms.length ≤ maxLen ∧ g.nons.length ≤ maxLen ∧ g.levels.length ≤ maxLen ∧ g.prods.length ≤ maxLen) ∧ inI64 g.start ∧ Chg noB w (w.alloc (.cells #[.slice A1 g.terms.length c1, .slice A2 g.nons.length c2, .slice A3 g.levels.length c3, .int .i64 g.start, .slice A4 g.prods.length c4] 36)) ∧
    ∀ w', Chg noB (w.alloc (.cells #[.slice A1 g.terms.length c1, .slice A2 g.nons.length c2, .slice A3 g.levels.length c3, .int .i64 g.start, .slice A4 g.prods.length c4] 36)) w' → GRd w' B w.heap.size g A1 c1 A2 c2 A3 c3 A4 c4 := by
  obtain ⟨A1, c1, A2, c2, A3, c3, A4, c4, rfl, h1, h2, h3, h4, h5, ⟨l1, m1⟩, ⟨l2, m2⟩, ⟨l3, m3⟩, ⟨l4, m4⟩⟩ := (rGram_open h).ex
  have h0 := (St.refl noB w).alloc #[.slice A1 g.terms.length c1, .slice A2 g.nons.length c2, .slice A3 g.levels.length c3, .int .i64 g.start, .slice A4 g.prods.length c4] 36
  refine ⟨A1, c1, A2, c2, A3, c3, A4, c4, rfl, ⟨by omega, by omega, by omega, by omega⟩, h4, h0.chg, fun w' hc => ?_⟩
  have h1' := h0.old hc
  have k0 := h1'.box 0 rfl
  simp [boxAt] at k0
  have hbl := h1'.chg.below hB fun _ _ => id
  exact ⟨k0.1, Rep.below h1 hbl, Rep.below h2 hbl, Rep.below h3 hbl, Rep.below h5 hbl, by have := h1'.chg.size; omega⟩

theorem Symbols_ct {w : World} {B : Nat} {v : Value} {g : Gr} (h : rGram.atN w B v g) (hB : B ≤ w.heap.size) (hs : g.terms.length + g.nons.length ≤ 1000) : Ct Try.prog ref02_Symbols.id #[v] w fun r w' => r = .int .i64 ((g.terms.length : Int) + g.nons.length) ∧ Chg noB w w' := by
  refine ref02_Symbols.ct fun R hR => ?_
  obtain ⟨A1, c1, A2, c2, A3, c3, A4, c4, rfl, _, _, hc0, hg⟩ := box_all h hB
  unfold ref02_Symbols.run
  have ws : IntKind.i64.wrap ((g.terms.length : Int) + g.nons.length) = (g.terms.length : Int) + g.nons.length := IntWalk.i64_in _ (by omega)
  simp -dsimp [go_sem, ws]
  exact hR _ _ ⟨rfl, hc0⟩

theorem toList_inj' {a b : ByteArray} : a.toList = b.toList ↔ a = b := by
  constructor
  · intro h; rw [ByteArray.toList_eq, ByteArray.toList_eq] at h; exact bs_ext h
  · rintro rfl; rfl

/-- The document's terminals. -/
def TermsP (g : Gr) : Prop := g.terms.head? = some (⟨#[]⟩, 0) ∧ (∀ t ∈ g.terms.tail, TermOk g t) ∧ (g.terms.tail.map (·.1)).Nodup
open Classical in
noncomputable def termsB (g : Gr) : Bool := decide (TermsP g)
theorem termsB_iff {g : Gr} : termsB g = true ↔ TermsP g := @decide_eq_true_iff _ (_)

theorem termsFit_ct {w : World} {B : Nat} {v : Value} {g : Gr} (h : rGram.atN w B v g) (hB : B ≤ w.heap.size) : Ct Try.prog ref02_termsFit.id #[v] w fun r w' => r = .bool (termsB g) ∧ Chg noB w w' := by
  refine ref02_termsFit.ct fun R hR => ?_
  obtain ⟨A1, c1, A2, c2, A3, c3, A4, c4, rfl, ⟨m1, m2, m3, m4⟩, _, hc0, hg⟩ := box_all h hB
  have no : ∀ w', Chg noB w w' → ¬ TermsP g → R (.returned (.bool false)) w' := fun w' hc hn => hR _ _ ⟨by rw [bool_no termsB_iff hn], hc⟩
  unfold ref02_termsFit.run
  simp -dsimp [go_sem]
  generalize w.alloc (.cells #[.slice A1 g.terms.length c1, .slice A2 g.nons.length c2, .slice A3 g.levels.length c3, .int .i64 g.start, .slice A4 g.prods.length c4] 36) = w1 at hc0 hg ⊢
  generalize w.heap.size = q at hg ⊢
  have z1 := hg w1 (Chg.refl _ _)
  refine SPL_intro (fun q1 => ?_) (fun q1 => ?_) <;> simp at q1
  · simp -dsimp [go_sem]
    exact no _ hc0 fun hs => by have := hs.1; rw [q1] at this; cases this
  have q1' : 0 < g.terms.length := List.length_pos_iff.2 q1
  obtain ⟨b1, o1, rfl, hb1, d1, d2, _, _⟩ := terms_at z1.r1 q1'
  simp at d1 d2
  have hh : g.terms.head? = some g.terms[0] := by rw [List.head?_eq_getElem?, List.getElem?_eq_getElem q1']
  simp -dsimp [go_sem, z1.k, q1', d1, d2]
  refine SPL_intro (fun q2 => ?_) (fun q2 => ?_) <;> simp at q2
  · simp -dsimp [go_sem]
    refine no _ hc0 fun hs => q2 ?_
    have := hs.1; rw [hh] at this; injection this with this; rw [this, ByteArray.toList_eq]
  simp -dsimp [go_sem, z1.k, q1', d1, d2]
  refine SPL_intro (fun q3 => ?_) (fun q3 => ?_) <;> simp at q3
  · refine no _ hc0 fun hs => q3 ?_
    have := hs.1; rw [hh] at this; injection this with this; rw [this]
  have ht0 : g.terms.head? = some (⟨#[]⟩, 0) := by
    rw [hh]; congr 1
    exact Prod.ext (bs_ext (by rw [← ByteArray.toList_eq]; exact q2)) q3
  obtain ⟨t0, tl, hE⟩ : ∃ t tl, g.terms = t :: tl := by
    cases e : g.terms with
    | nil => exact absurd e q1
    | cons t r => exact ⟨t, r, rfl⟩
  have hlen : g.terms.length = tl.length + 1 := by rw [hE]; rfl
  have htl : g.terms.tail = tl := by rw [hE]; rfl
  have hel : ∀ i (hi : i < tl.length), g.terms[i + 1]'(by omega) = tl[i] := fun i hi => by simp [hE]
  simp -dsimp [go_sem]
  refine ref02_termsFit.l7_intro _ _ _ _ (fun y w' => ∃ j k : Nat, y = .int .i64 j ∧ j = k + 1 ∧ k ≤ tl.length ∧ Chg noB w1 w' ∧ (∀ t ∈ tl.take k, TermOk g t) ∧ ((tl.take k).map (·.1)).Nodup) (fun y _ => tl.length + 1 - iv y) ⟨1, 0, rfl, rfl, by omega, Chg.refl _ _, by simp, by simp⟩ ?_
  rintro _ w2 ⟨j, k, rfl, hj, hk, hcw, hall, hnd⟩ C hC
  have z2 := hg w2 hcw
  simp -dsimp [go_sem, z2.k]
  refine SPL_intro (fun p1 => ?_) (fun p1 => ?_) <;> simp at p1
  · have hk1 : k < tl.length := by omega
    obtain ⟨b2, o2, e2, hb2, f1, f2, f3, f4⟩ := terms_at z2.r1 p1
    injection e2 with e2; injection e2 with e2 e3; subst e2 e3
    have hej : g.terms[j] = tl[k] := by subst hj; exact hel k hk1
    rw [hej] at f1 f2 f3 f4
    have bad : ¬ TermOk g tl[k] → ¬ TermsP g := fun hn hs => hn (hs.2.1 _ (by rw [htl]; exact List.getElem_mem hk1))
    simp -dsimp [go_sem, z2.k, p1, f1]
    refine CALL_of (ref02_IsTerm_ct f3 w2) ?_
    rintro _ _ ⟨rfl, rfl⟩
    have hcd := hcw.drew
    have zd := hg _ hcd
    obtain ⟨b3, o3, e3, hb3, f1', f2', _, _⟩ := terms_at zd.r1 p1
    injection e3 with e3; injection e3 with e3 e4; subst e3 e4
    rw [hej] at f1' f2'
    cases hT : tmB tl[k].1 with
    | false =>
      simp -dsimp [go_sem]
      exact no _ (hc0.trans hcd) (bad fun hs => by rw [tmB_iff.2 hs.name] at hT; cases hT)
    | true =>
      simp -dsimp [go_sem, zd.k, p1, f1', f2']
      refine SPL_intro (fun p2 => ?_) (fun p2 => ?_) <;> simp at p2
      · simp -dsimp [go_sem]
        exact no _ (hc0.trans hcd) (bad fun hs => by have := hs.lo; omega)
      simp -dsimp [go_sem, zd.k, p1, f1', f2']
      refine SPL_intro (fun p3 => ?_) (fun p3 => ?_) <;> simp at p3
      · exact no _ (hc0.trans hcd) (bad fun hs => by have := hs.hi; omega)
      simp -dsimp [go_sem]
      refine ref02_termsFit.l16_intro _ _ _ _ _ _ (fun y w' => ∃ i n : Nat, y = .int .i64 i ∧ i = n + 1 ∧ n ≤ k ∧ Chg noB w1 w' ∧ ∀ t ∈ tl.take n, t.1 ≠ tl[k].1) (fun y _ => k + 1 - iv y) ⟨1, 0, rfl, rfl, by omega, hcd, by simp⟩ ?_
      rintro _ w3 ⟨i, n, rfl, hi, hn, hc3, hne⟩ C' hC'
      simp -dsimp [go_sem]
      refine SPL_intro (fun p4 => ?_) (fun p4 => ?_) <;> simp at p4
      · have hn1 : n < tl.length := by omega
        have hil : i < g.terms.length := by omega
        have z3 := hg _ hc3.drew
        obtain ⟨b4, o4, e4, hb4, x1, _⟩ := terms_at z3.r1 p1
        injection e4 with e4; injection e4 with e4 e5; subst e4 e5
        obtain ⟨b5, o5, e5, hb5, y1, _⟩ := terms_at z3.r1 hil
        injection e5 with e5; injection e5 with e5 e6; subst e5 e6
        have hei : g.terms[i] = tl[n] := by subst hi; exact hel n hn1
        rw [hej] at x1
        rw [hei] at y1
        have wi : IntKind.i64.wrap ((i : Int) + 1) = (i : Int) + 1 := IntWalk.i64_in _ (by unfold maxLen at m1; omega)
        simp -dsimp [go_sem, z3.k, p1, hil, x1, y1]
        refine SPL_intro (fun p5 => ?_) (fun p5 => ?_) <;> simp at p5
        · refine no _ (hc0.trans hc3.drew) fun hs => ?_
          have := List.pairwise_iff_getElem.1 hs.2.2 n k (by simp [htl]; omega) (by simp [htl]; omega) (by omega)
          simp [htl] at this
          exact this (toList_inj'.1 p5)
        · simp -dsimp [go_sem, wi]
          refine hC' _ _ ⟨i + 1, n + 1, by simp, by omega, by omega, hc3.drew, fun t ht => ?_⟩ (by simp [iv]; omega)
          rw [List.take_succ_eq_append_getElem hn1] at ht
          rcases List.mem_append.1 ht with ht | ht
          · exact hne t ht
          · rw [List.mem_singleton.1 ht]
            exact fun e => p5 (by rw [e])
      · have hnk : n = k := by omega
        subst hnk
        have wj : IntKind.i64.wrap ((j : Int) + 1) = (j : Int) + 1 := IntWalk.i64_in _ (by unfold maxLen at m1; omega)
        simp -dsimp [go_sem, wj]
        have htk : tl.take (n + 1) = tl.take n ++ [tl[n]] := List.take_succ_eq_append_getElem hk1
        refine hC _ _ ⟨j + 1, n + 1, by simp, by omega, by omega, hc3, fun t ht => ?_, ?_⟩ (by simp [iv]; omega)
        · rw [htk] at ht
          rcases List.mem_append.1 ht with ht | ht
          · exact hall t ht
          · rw [List.mem_singleton.1 ht]; exact ⟨tmB_iff.1 hT, by omega, by omega⟩
        · rw [htk, List.map_append]
          refine List.nodup_append.2 ⟨hnd, by simp, fun a ha b hb => ?_⟩
          obtain ⟨t, ht, rfl⟩ := List.mem_map.1 ha
          simp at hb
          subst hb
          exact hne t ht
  · have hka : k = tl.length := by omega
    subst hka
    rw [List.take_length] at hall hnd
    simp -dsimp [go_sem]
    refine hR _ _ ⟨?_, hc0.trans hcw⟩
    rw [termsB_iff.2 ⟨ht0, by rw [htl]; exact hall, by rw [htl]; exact hnd⟩]
end Go.Proofs.Ytmhebgebfjnfjaa

