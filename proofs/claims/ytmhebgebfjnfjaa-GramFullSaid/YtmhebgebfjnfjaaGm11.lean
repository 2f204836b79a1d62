/-
  Rule, whole; Grade.
-/
import Derived.Test.YtmhebgebfjnfjaaGm10
namespace Go.Proofs.Ytmhebgebfjnfjaa
open Go.Px Go.Px.Scan Go.RowKit
set_option maxHeartbeats 1000000
set_option linter.unusedSimpArgs false
set_option linter.unusedVariables false
attribute [-go_sem] Builtin.append_

theorem any_false {l : List Int} {p : Int → Bool} (h : l.any p = false) : ∀ x ∈ l, p x = false := by
  intro x hx
  cases e : p x with
  | false => rfl
  | true => rw [List.any_eq_true.2 ⟨x, hx, e⟩] at h; cases h

set_option maxRecDepth 100000 in
theorem Rule_ct {w : World} {T : Nat → Nat} {b B : Nat} {V : BV} {S : BS} (h : Bld w T b V S) {left : Int} (hx : inI64 left) {u : Value} {right : List Int} (hu : (rSlice rInt).at1 w B u right) (hB : B ≤ w.heap.size) (hn : right.length * 8 ≤ maxBytes) :
    Ct Try.prog gram_Builder_Rule.id #[.pointer (some ⟨b, 0, none⟩), .int .i64 left, u] w fun v w' => v = .tuple #[.int .i64 (ruleA S left right).1, .int .i64 (ruleA S left right).2.1] ∧ After w T b (ruleA S left right).2.2 w' := by
  refine gram_Builder_Rule.ct fun R hR => ?_
  unfold gram_Builder_Rule.run gram_Builder_Rule.b1
  simp [go_sem]
  have hc : Chg (fun _ => False) w (w.alloc (.cells #[.pointer (some ⟨b, 0, none⟩)] 24)) := (Chg.refl _ _).alloc _
  have hp := new_cell w #[.pointer (some ⟨b, 0, none⟩)] 24 rfl 0
  have hs : (w.alloc (.cells #[.pointer (some ⟨b, 0, none⟩)] 24)).heap.size = w.heap.size + 1 := by simp
  generalize w.alloc (.cells #[.pointer (some ⟨b, 0, none⟩)] 24) = w1 at hc hp hs ⊢
  have h1 := h.keep hc (fun _ _ => id)
  simp at hp
  have hTp : T w.heap.size = 0 := Classical.byContradiction fun h0 => by have := h.lt _ h0; omega
  have hu1 : (rSlice rInt).at1 w1 B u right := Rep.below hu (hc.below hB fun _ _ => id)
  unfold gram_Builder_Rule.b11
  simp [go_sem, hp]
  refine CALL_of (isNonHandle_ct h1 hx) ?_
  rintro _ _ ⟨rfl, rfl⟩
  cases hN : isN S left with
  | false =>
    have ha : ruleA S left right = (0, 1, S) := by unfold ruleA; rw [if_pos (Or.inl hN)]
    rw [ha] at hR
    simp [go_sem]
    unfold gram_Builder_Rule.b12
    simp [go_sem]
    exact hR _ _ ⟨rfl, After.same h hc⟩
  | true =>
    simp [go_sem]
    refine CALL_of (ContainsFuncI_ct (p := badH S) hu1 fun x _ hx => Rule1_ct h1 hp hx) ?_
    rintro _ _ ⟨rfl, rfl⟩
    unfold gram_Builder_Rule.b12
    cases hany : right.any (badH S) with
    | true =>
      have ha : ruleA S left right = (0, 1, S) := by unfold ruleA; rw [if_pos (Or.inr hany)]
      rw [ha] at hR
      simp [go_sem]
      exact hR _ _ ⟨rfl, After.same h hc⟩
    | false =>
      simp [go_sem]
      unfold gram_Builder_Rule.b3
      obtain ⟨a, c, hv⟩ := row_len h1.rules
      have hcr := h1.cr
      rw [hv] at hcr
      simp [go_sem, hp, hcr]
      refine SPL_intro (fun h2 => ?_) (fun h2 => ?_) <;> simp at h2
      · have ha : ruleA S left right = (0, 11, S) := by unfold ruleA; rw [if_neg (by simp [hN, hany]), if_pos (by omega)]
        rw [ha] at hR
        exact hR _ _ ⟨rfl, After.same h hc⟩
      · have ha : ruleA S left right = ((S.rules.length : Int), 0, { S with rules := S.rules ++ [(left, right, ruleL S right)] }) := by unfold ruleA; rw [if_neg (by simp [hN, hany]), if_neg (by omega)]
        rw [ha] at hR
        refine CALL_of (CloneI_ct hu1 (by omega) hn) ?_
        rintro vr w2 ⟨hown, hc2⟩
        simp [go_sem]
        have hs2 := hc2.size
        have h2' := h1.keep hc2 (fun _ _ => id)
        have hp2 := hc2.at hp id
        have hu2 : (rSlice rInt).at1 w2 B u right := Rep.below hu1 (hc2.below (by omega) fun _ _ => id)
        obtain ⟨a', c', hvr⟩ := own_shape hown
        simp [hvr, go_sem]
        rw [← hvr]
        have hc3 : Chg (fun _ => False) w2 (w2.alloc (.cells #[.int .i64 left, vr, .int .i64 0] 86)) := (Chg.refl _ _).alloc _
        have hq := new_cell w2 #[.int .i64 left, vr, .int .i64 0] 86 rfl
        have hqf := new_frozen w2 #[.int .i64 left, vr, .int .i64 0] 86 rfl 2
        have hTq : T w2.heap.size = 0 := Classical.byContradiction fun h0 => by have := h.lt _ h0; omega
        have hs3 := hc3.size
        have hqw : vr.ownBlock ≠ some w2.heap.size := fun e => by have := (ownsRow_block hown e).2; omega
        have hu3 : (rSlice rInt).at1 (w2.alloc (.cells #[.int .i64 left, vr, .int .i64 0] 86)) B u right := Rep.below hu2 (hc3.below (by omega) fun _ _ => id)
        refine rule8_ok (w0 := w) (B := B) (h2'.keep hc3 (fun _ _ => id)) (hc3.at hp2 id) hTp (by omega) hu3 hB (any_false hany) (by omega) ((hc.trans hc2).trans hc3) h.lt (by omega) (hq 0) (hq 1) (hq 2) hqf hTq
          (ownsRow_base (ownsRow_keep hown hc3 fun _ _ => id) (by omega)) hqw fun w' hA => hR _ _ ⟨rfl, hA⟩
end Go.Proofs.Ytmhebgebfjnfjaa
