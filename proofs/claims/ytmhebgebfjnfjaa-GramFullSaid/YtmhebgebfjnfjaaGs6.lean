/-
  Valid and Closed.
-/
import Derived.Test.YtmhebgebfjnfjaaGs5
namespace Go.Proofs.Ytmhebgebfjnfjaa
open Go.Px Go.Px.Scan Go.RowKit
set_option maxHeartbeats 1000000
set_option linter.unusedSimpArgs false
set_option linter.unusedVariables false
set_option maxRecDepth 100000
attribute [-go_sem] Builtin.append_

theorem Valid_ct {w : World} {B : Nat} {v : Value} {g : Gr} (h : rGram.atN w B v g) (hB : B ≤ w.heap.size) : Ct Try.prog gram_Valid.id #[v] w fun r w' => r = .bool (validB g) ∧ Chg noB w w' := by
  refine gram_Valid.ct fun R hR => ?_
  obtain ⟨A1, c1, A2, c2, A3, c3, A4, c4, rfl, h1, h2, h3, h4, h5, ⟨l1, m1⟩, ⟨l2, m2⟩, ⟨l3, m3⟩, ⟨l4, m4⟩⟩ := (rGram_open h).ex
  have no : ∀ w', Chg noB w w' → ¬ ValidP g → R (.returned (.bool false)) w' := fun w' hc hn => hR _ _ ⟨by rw [bool_no validB_iff hn], hc⟩
  unfold gram_Valid.run
  simp -dsimp [go_sem]
  have h0 := (St.refl noB w).alloc #[.slice A1 g.terms.length c1, .slice A2 g.nons.length c2, .slice A3 g.levels.length c3, .int .i64 g.start, .slice A4 g.prods.length c4] 36
  have hb1 := h0.chg.below hB fun _ _ => id
  have hB1 : B ≤ (w.alloc (.cells #[.slice A1 g.terms.length c1, .slice A2 g.nons.length c2, .slice A3 g.levels.length c3, .int .i64 g.start, .slice A4 g.prods.length c4] 36)).heap.size := by have := h0.chg.size; omega
  generalize w.heap.size = q at h0 ⊢
  generalize w.alloc (.cells #[.slice A1 g.terms.length c1, .slice A2 g.nons.length c2, .slice A3 g.levels.length c3, .int .i64 g.start, .slice A4 g.prods.length c4] 36) = w1 at h0 hb1 hB1 ⊢
  refine CALL_of (symbols_ct (rGram_below h hb1) hB1 (a := 0) (by omega)) ?_
  rintro _ w2 ⟨rfl, hc2⟩
  have hst2 := h0.old hc2
  have k2 := hst2.box 0 rfl
  simp [boxAt] at k2
  cases hs : symB g 0 with
  | false =>
    simp -dsimp [go_sem]
    refine no _ hst2.chg fun hv => ?_
    rw [symB_iff.2 hv.syms] at hs; cases hs
  | true =>
    have hsP := symB_iff.1 hs
    simp -dsimp [go_sem, k2]
    have hb2 := hst2.chg.below (B := B) (by omega) fun _ _ => id
    refine CALL_of (productions_ct (rGram_below h hb2) (by have := hc2.size; omega) (a := 0) (by omega) hsP) ?_
    rintro _ w3 ⟨⟨vl, rfl, hl⟩, hc3⟩
    have hst3 := hst2.old hc3
    simp -dsimp [go_sem]
    cases hp : prodB g 0 with
    | false =>
      simp -dsimp [go_sem]
      refine no _ hst3.chg fun hv => ?_
      rw [prodB_iff.2 hv.prods] at hp; cases hp
    | true =>
      have hpP := prodB_iff.1 hp
      have hl' := hl hp
      rw [List.drop_zero] at hl'
      simp -dsimp [go_sem]
      refine CALL_of (IsSorted_ct hl' (Nat.le_refl _)) ?_
      rintro _ w4 ⟨rfl, hc4⟩
      refine hR _ _ ⟨?_, hst3.chg.trans hc4⟩
      congr 1
      refine bool_eq ?_
      rw [decide_eq_true_iff, validB_iff]
      exact ⟨fun hs => ⟨hsP, hpP, hs⟩, fun hv => hv.sorted⟩

theorem Closed_ct {w : World} {B : Nat} {v : Value} {g : Gr} (h : rGram.atN w B v g) (hB : B ≤ w.heap.size) : Ct Try.prog gram_Closed.id #[v] w fun r w' => r = .bool (closedB g) ∧ Chg noB w w' := by
  refine gram_Closed.ct fun R hR => ?_
  obtain ⟨A1, c1, A2, c2, A3, c3, A4, c4, rfl, h1, h2, h3, h4, h5, ⟨l1, m1⟩, ⟨l2, m2⟩, ⟨l3, m3⟩, ⟨l4, m4⟩⟩ := (rGram_open h).ex
  have no : ∀ w', Chg noB w w' → ¬ ClosedP g → R (.returned (.bool false)) w' := fun w' hc hn => hR _ _ ⟨by rw [bool_no closedB_iff hn], hc⟩
  unfold gram_Closed.run
  simp -dsimp [go_sem]
  have h0 := (St.refl noB w).alloc #[.slice A1 g.terms.length c1, .slice A2 g.nons.length c2, .slice A3 g.levels.length c3, .int .i64 g.start, .slice A4 g.prods.length c4] 36
  have hb1 := h0.chg.below hB fun _ _ => id
  have hB1 : B ≤ (w.alloc (.cells #[.slice A1 g.terms.length c1, .slice A2 g.nons.length c2, .slice A3 g.levels.length c3, .int .i64 g.start, .slice A4 g.prods.length c4] 36)).heap.size := by have := h0.chg.size; omega
  generalize w.heap.size = q at h0 ⊢
  generalize w.alloc (.cells #[.slice A1 g.terms.length c1, .slice A2 g.nons.length c2, .slice A3 g.levels.length c3, .int .i64 g.start, .slice A4 g.prods.length c4] 36) = w1 at h0 hb1 hB1 ⊢
  have k0 := h0.box 0 rfl
  simp [boxAt] at k0
  refine SPL_intro (fun q1 => ?_) (fun q1 => ?_) <;> simp at q1
  · simp -dsimp [go_sem]
    exact no _ h0.chg fun hv => by have := hv.first; rw [q1] at this; cases this
  have q1' : 0 < g.nons.length := List.length_pos_iff.2 q1
  obtain ⟨b2, o2, rfl, hb2, d1, d2⟩ := Go.Px.strs_at (Rep.below h2 hb1) q1'
  simp at d1
  simp -dsimp [go_sem, k0, q1', d1]
  have hf : g.nons.head? = some g.nons[0] := by rw [List.head?_eq_getElem?, List.getElem?_eq_getElem q1']
  refine SPL_intro (fun p1 => ?_) (fun p1 => ?_) <;> simp at p1
  · simp -dsimp [go_sem]
    refine no _ h0.chg fun hv => p1 ?_
    have h9 := hv.first
    rw [hf] at h9
    injection h9 with h9
    rw [h9, ByteArray.toList_eq]
  have hfirst : g.nons.head? = some ⟨#[]⟩ := by
    rw [hf]
    congr 1
    exact bs_ext (by rw [← ByteArray.toList_eq]; exact p1)
  simp -dsimp [go_sem, k0]
  refine CALL_of (symbols_ct (rGram_below h hb1) hB1 (a := 1) (by omega)) ?_
  rintro _ w2 ⟨rfl, hc2⟩
  have hst2 := h0.old hc2
  have k2 := hst2.box 0 rfl
  simp [boxAt] at k2
  cases hs : symB g 1 with
  | false =>
    simp -dsimp [go_sem]
    refine no _ hst2.chg fun hv => ?_
    rw [symB_iff.2 hv.syms] at hs; cases hs
  | true =>
    have hsP := symB_iff.1 hs
    simp -dsimp [go_sem, k2]
    have hb2 := hst2.chg.below (B := B) (by omega) fun _ _ => id
    have hB2 : B ≤ w2.heap.size := by have := hc2.size; omega
    refine CALL_of (productions_ct (rGram_below h hb2) hB2 (a := 1) (by omega) hsP) ?_
    rintro _ w3 ⟨⟨vl, rfl, hl⟩, hc3⟩
    have hst3 := hst2.old hc3
    have k3 := hst3.box 0 rfl
    simp [boxAt] at k3
    cases hp : prodB g 1 with
    | false =>
      simp -dsimp [go_sem, k3]
      refine no _ hst3.chg.drew fun hv => ?_
      rw [prodB_iff.2 hv.prods] at hp; cases hp
    | true =>
      have hpP := prodB_iff.1 hp
      have hc0 : 0 < g.prods.length := by have := hpP.c0; omega
      have hstd := hst3.old ((Chg.refl noB w3).drew)
      have kd := hstd.box 0 rfl
      simp [boxAt] at kd
      have hB3 : B ≤ w3.drew.heap.size := by have := hc3.size; simp; omega
      obtain ⟨b5, o5, vr, rfl, hb5, f1, f2, f3, fr, i1, i2⟩ := prods_at (Rep.below h5 (hstd.chg.below hB fun _ _ => id)) hc0
      obtain ⟨Ar, cr, rfl, lr, mr, _⟩ := slice_form fr
      simp at f1 f2 f3
      have hph : g.prods.head? = some g.prods[0] := by rw [List.head?_eq_getElem?, List.getElem?_eq_getElem hc0]
      have fin : ∀ b : Bool, (b = true ↔ g.prods[0] = ((g.terms.length : Int), [g.start], 0)) → R (.returned (.bool b)) w3.drew := fun b hb => by
        refine hR _ _ ⟨?_, hstd.chg⟩
        congr 1
        refine bool_eq ?_
        rw [closedB_iff, hb]
        constructor
        · intro e; exact ⟨hfirst, hsP, hpP, by rw [hph, e]⟩
        · intro hv
          have := hv.added
          rw [hph] at this
          injection this
      simp -dsimp [go_sem, k3, kd, hc0, f1, f2, f3]
      refine SPL_intro (fun q2 => ?_) (fun q2 => ?_) <;> simp at q2
      · simp -dsimp [go_sem, k3, kd, hc0, f1, f2, f3]
        refine SPL_intro (fun q3 => ?_) (fun q3 => ?_) <;> simp at q3
        · have q3' : 0 < g.prods[0].2.1.length := by omega
          obtain ⟨b6, o6, rfl, hb6, e1, e2⟩ := Go.Px.ints_at fr q3'
          simp at e1
          simp -dsimp [go_sem, k3, kd, hc0, f1, f2, f3, q3', e1]
          have hl1 : g.prods[0].2.1 = [g.prods[0].2.1[0]] := by
            apply List.ext_getElem?
            intro i
            cases i with
            | zero => simp [List.getElem?_eq_getElem q3']
            | succ i => simp; omega
          refine SPL_intro (fun q4 => ?_) (fun q4 => ?_) <;> simp at q4
          · simp -dsimp [go_sem, k3, kd, hc0, f1, f2, f3, q3']
            refine fin _ ?_
            rw [beq_iff_eq]
            constructor
            · intro e
              refine Prod.ext q2 (Prod.ext ?_ e)
              show g.prods[0].2.1 = [g.start]
              rw [hl1, q4]
            · intro e; rw [e]
          · refine fin false ⟨fun h => (by cases h), fun e => ?_⟩
            refine absurd ?_ q4
            have e2 : g.prods[0].2.1 = [g.start] := by rw [e]
            simp only [e2, List.getElem_cons_zero]
        · refine fin false ⟨fun h => (by cases h), fun e => ?_⟩
          rw [e] at q3; simp at q3
      · refine fin false ⟨fun h => (by cases h), fun e => ?_⟩
        rw [e] at q2; exact absurd rfl q2
end Go.Proofs.Ytmhebgebfjnfjaa
