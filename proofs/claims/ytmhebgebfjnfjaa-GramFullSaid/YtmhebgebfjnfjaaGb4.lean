/-
  The law's example.
-/
import Derived.Test.YtmhebgebfjnfjaaGb3
import Derived.Test.YtmhebgebfjnfjaaT02L
namespace Go.Proofs.Ytmhebgebfjnfjaa
open Go.Px Go.Px.Scan Go.RowKit
set_option maxHeartbeats 1000000
set_option linter.unusedSimpArgs false
set_option linter.unusedVariables false
set_option maxRecDepth 100000
attribute [-go_sem] Builtin.append_

def sPlus : ByteArray := ⟨#[43]⟩
def sE : ByteArray := ⟨#[101]⟩
theorem one_byte {c : UInt8} {i : Nat} (hi : i < (⟨#[c]⟩ : ByteArray).size) : i = 0 := by simp [ByteArray.size] at hi; omega
theorem tmB_plus : tmB sPlus = true := tmB_iff.2 ⟨by decide, by decide, fun i hi => by rw [one_byte hi]; decide⟩
theorem nmP_e : NameP sE := ⟨by decide, by decide, by decide, fun i hi => by rw [one_byte hi]; decide⟩
theorem nmB_e : nmB sE = true := nmB_iff.2 nmP_e

def Sa : BS := ⟨[(sPlus, 0)], [], [], [], 0⟩
def Sb : BS := ⟨[(sPlus, 0)], [sE], [], [], 0⟩
def Sc : BS := ⟨[(sPlus, 0)], [sE], [], [(-1, [-1, 1], 0)], 0⟩
theorem termA_a : termA S0 sPlus = (1, 0, Sa) := by
  unfold termA
  rw [if_neg (by simp [tmB_plus]), if_neg (by simp [S0, posH, posN]), if_neg (by simp [S0])]
  rfl
theorem nonA_b : nonA Sa sE = (-1, 0, Sb) := by
  unfold nonA
  rw [if_neg (by simp [nmB_e]), if_neg (by simp [Sa, posH, posN]), if_neg (by simp [Sa])]
  rfl
theorem ruleA_c : ruleA Sb (-1) [-1, 1] = (0, 0, Sc) := by
  unfold ruleA
  rw [if_neg (by decide), if_neg (by decide)]
  rfl
theorem gram_c : gramOf Sc = ⟨[(⟨#[]⟩, 0), (sPlus, 0)], [sE], [], 2, [(2, [2, 1], 0)]⟩ := by
  unfold gramOf
  rfl
theorem valid_c : validB (gramOf Sc) = true := by
  rw [gram_c, validB_iff]
  refine ⟨⟨rfl, by simp, by simp, by simp, by simp, fun t ht => ?_, fun i hi => by simp at hi, by simp, by simp, fun s hs => ?_⟩, ⟨by simp, by simp, fun p hp => ?_, rfl, by decide, by decide⟩, by decide⟩
  · simp at ht; subst ht; exact ⟨tmB_iff.1 tmB_plus, by decide, by decide⟩
  · simp at hs; subst hs; exact nmP_e
  · simp at hp; subst hp
    exact ⟨by decide, by decide, by decide, by decide, fun s hs => by simp at hs; rcases hs with rfl | rfl <;> decide⟩
theorem closed_c : closedB (gramOf Sc) = false := bool_no closedB_iff fun h => by
  have := h.first
  rw [gram_c] at this
  simp [sE] at this

theorem awake_ct (w : World) : Ct Try.prog law02_awake.id #[] w fun r w' => r = .bool true ∧ Chg noB w w' := by
  refine law02_awake.ct fun R hR => ?_
  unfold law02_awake.run
  simp -dsimp [go_sem]
  refine CALL_New (St.refl noB w) fun w1 b h1 => ?_
  refine CALL_Term h1 0 rfl (s := sPlus) (by unfold maxLen; decide) fun w2 h2 => ?_
  rw [termA_a] at h2 ⊢
  simp -dsimp [go_sem]
  refine CALL_Non h2 0 rfl (s := sE) (by unfold maxLen; decide) fun w3 h3 => ?_
  rw [nonA_b] at h3 ⊢
  have h4 := h3.lit 3 1 2 #[.int .i64 (-1), .int .i64 1] (by simp [maxLen]) rfl
  simp -dsimp [go_sem]
  generalize w3.heap.size = q at h4 ⊢
  generalize w3.alloc (.cells #[.int .i64 (-1), .int .i64 1] 3) = w4 at h4 ⊢
  have hu := ints_own (l := [-1, 1]) h4 1 rfl (by simp [inI64])
  refine CALL_Rule h4 0 rfl (left := -1) (by simp [inI64]) hu (by simp [maxBytes]) fun w5 h5 => ?_
  rw [ruleA_c] at h5 ⊢
  simp -dsimp [go_sem]
  refine CALL_Grammar h5 0 rfl fun v w6 ok hwf h6 hA => ?_
  obtain ⟨vg, rfl, hG⟩ := hA.2.1 (by decide +kernel)
  have hrd := hG.read
  dsimp only at hrd h6 hG ⊢
  obtain ⟨A1, c1, A2, c2, A3, c3, A4, c4, rfl, _⟩ := (rGram_open hrd).ex
  rw [show (gramOf Sc).terms.length = 2 from rfl] at *
  have h7 := h6.alloc #[.slice A1 2 c1, .slice A2 (gramOf Sc).nons.length c2, .slice A3 (gramOf Sc).levels.length c3, .int .i64 (gramOf Sc).start, .slice A4 (gramOf Sc).prods.length c4] 36
  have hb := ((Chg.refl noB w6).alloc (.cells #[.slice A1 2 c1, .slice A2 (gramOf Sc).nons.length c2, .slice A3 (gramOf Sc).levels.length c3, .int .i64 (gramOf Sc).start, .slice A4 (gramOf Sc).prods.length c4] 36)).below (Nat.le_refl _) fun _ _ => id
  have hB : w6.heap.size ≤ (w6.alloc (.cells #[.slice A1 2 c1, .slice A2 (gramOf Sc).nons.length c2, .slice A3 (gramOf Sc).levels.length c3, .int .i64 (gramOf Sc).start, .slice A4 (gramOf Sc).prods.length c4] 36)).heap.size := by simp
  have hrd7 := rGram_below hrd hb
  simp -dsimp [go_sem]
  generalize w6.alloc (.cells #[.slice A1 2 c1, .slice A2 (gramOf Sc).nons.length c2, .slice A3 (gramOf Sc).levels.length c3, .int .i64 (gramOf Sc).start, .slice A4 (gramOf Sc).prods.length c4] 36) = w7 at h7 hrd7 hB ⊢
  generalize w6.heap.size = q7 at *
  have y7 := h7.box 2 rfl
  simp [boxAt] at y7
  refine CALL_of (Valid_ct hrd7 hB) ?_
  rintro _ w8 ⟨rfl, hc8⟩
  have h8 := h7.old hc8
  have y8 := h8.box 2 rfl
  simp [boxAt] at y8
  rw [valid_c]
  simp -dsimp [go_sem, y8]
  refine CALL_of (Closed_ct (rGram_below hrd7 (hc8.below hB fun _ _ => id)) (by have := hc8.size; omega)) ?_
  rintro _ w9 ⟨rfl, hc9⟩
  rw [closed_c]
  simp -dsimp [go_sem]
  exact hR _ _ ⟨rfl, h8.chg.trans hc9⟩
end Go.Proofs.Ytmhebgebfjnfjaa
