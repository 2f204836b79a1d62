/-
  The law GramFull: the walk.
-/
import Derived.Test.YtmhebgebfjnfjaaGf1
namespace Go.Proofs.Ytmhebgebfjnfjaa
open Go.Px Go.Px.Scan Go.RowKit
set_option maxHeartbeats 1000000
set_option linter.unusedSimpArgs false
set_option linter.unusedVariables false
set_option maxRecDepth 100000
attribute [-go_sem] Builtin.append_
attribute [-go_sem] law02_GramFull.b2 law02_GramFull.b17 law02_GramFull.b4 law02_GramFull.b8 law02_GramFull.b6 law02_GramFull.b28

theorem nmA : ∀ i : Fin 64, IntKind.u8.wrap (IntKind.i64.wrap (97 + IntKind.i64.wrap ((i.val : Int) / 26))) = ((nmU i.val).1.toNat : Int) ∧ IntKind.u8.wrap (IntKind.i64.wrap (97 + (i.val : Int).tmod 26)) = ((nmU i.val).2.toNat : Int) := by decide +kernel
theorem nm_cat (i : Nat) : (⟨#[110]⟩ : ByteArray) ++ ⟨[(nmU i).1, (nmU i).2].toArray⟩ = nm i := by
  apply bs_ext
  simp [nm]

theorem nil_ints (w : World) (B : Nat) : (rSlice rInt).at1 w B (.slice none 0 0) [] := ⟨none, 0, rfl, by simp, by simp [maxLen], trivial, fun h => by simp at h⟩

theorem full2 {R : Ending → World → Prop} {w : World} {b : Int} (hb : inI64 b) {n : Nat} (hn : n < 64) (hR : ∀ v w', v = .bool true ∧ Chg noB w w' → R (.returned v) w') {w1 : World} (hc1 : Chg noB w w1) :
    law02_GramFull.b2 R (.int .i64 b) (.bool true) (.int .i64 n) w1 := by
  unfold law02_GramFull.b2
  refine CALL_New (St.start hc1) fun w2 q h2 => ?_
  unfold law02_GramFull.b17
  refine law02_GramFull.l19_intro _ _ _ _ _ _ _ (fun y w' => ∃ i : Nat, y = .int .i64 i ∧ i ≤ 64 ∧ St noB w w' [bldC q (Sf n i)]) (fun y _ => 64 - iv y) ⟨0, rfl, by omega, by
    have : Sf n 0 = S0 := by simp [Sf, S0]
    rw [this]; exact h2⟩ ?_
  rintro _ w3 ⟨i, rfl, hi, h3⟩ C hC
  simp -dsimp [go_sem]
  refine SPL_intro (fun p1 => ?_) (fun p1 => ?_) <;> simp at p1
  · have p1 : i < 64 := by omega
    have wi : IntKind.i64.wrap ((i : Int) + 1) = (i : Int) + 1 := IntWalk.i64_in _ (by omega)
    obtain ⟨wa, wb⟩ := nmA ⟨i, p1⟩
    simp only at wa wb
    have hcv : (convert 51 9 (.slice (some ⟨w3.heap.size, 0, none⟩) 2 2)).run Try.prog (w3.alloc (.cells #[.int .u8 (nmU i).1.toNat, .int .u8 (nmU i).2.toNat] 5)) = .ok (.string ⟨[(nmU i).1, (nmU i).2].toArray⟩) (w3.alloc (.cells #[.int .u8 (nmU i).1.toNat, .int .u8 (nmU i).2.toNat] 5)) := by
      refine run_convert_bytes_back _ 51 9 5 ⟨w3.heap.size, 0, none⟩ 2 [(nmU i).1, (nmU i).2] Try.underlying51 Try.underlying5 Try.underlying9 fun j hj => ?_
      have := alloc_cells w3 [.int .u8 (nmU i).1.toNat, .int .u8 (nmU i).2.toNat] 5 rfl j (.int .u8 ([(nmU i).1, (nmU i).2][j].toNat : Int)) (by
        have hj2 : j < 2 := hj
        rcases j with _ | _ | j <;> first | rfl | omega)
      exact this
    have h4 := h3.old ((Chg.refl noB w3).alloc (.cells #[.int .u8 (nmU i).1.toNat, .int .u8 (nmU i).2.toNat] 5))
    simp -dsimp [go_sem, wa, wb, hcv]
    generalize w3.alloc (.cells #[.int .u8 (nmU i).1.toNat, .int .u8 (nmU i).2.toNat] 5) = w4 at h4 ⊢
    rw [show (⟨#[110]⟩ : ByteArray) ++ ⟨#[(nmU i).1, (nmU i).2]⟩ = nm i from nm_cat i]
    have hms : (nm i).size ≤ maxLen := by have := (nm_name p1).2.1; unfold maxLen; omega
    unfold law02_GramFull.b28
    simp -dsimp [go_sem]
    refine SPL_intro (fun p2 => ?_) (fun p2 => ?_) <;> simp at p2
    · simp -dsimp [go_sem]
      refine CALL_Non h4 0 rfl hms fun w5 h5 => ?_
      rw [nonA_f (by omega) hn] at h5 ⊢
      have wr : IntKind.i64.wrap (-1 - (i : Int)) = -((i : Int) + 1) := by rw [show -1 - (i : Int) = -((i : Int) + 1) by omega]; exact IntWalk.i64_in _ (by omega)
      simp -dsimp [go_sem, wr, wi]
      exact hC _ _ ⟨i + 1, by simp, by omega, h5⟩ (by simp [iv]; omega)
    · simp -dsimp [go_sem]
      refine CALL_Term h4 0 rfl hms fun w5 h5 => ?_
      rw [termA_f (by omega) p1] at h5 ⊢
      have wr : IntKind.i64.wrap ((i : Int) - n) = ((i - n : Nat) : Int) := by rw [show (i : Int) - n = ((i - n : Nat) : Int) by omega]; exact IntWalk.i64_in _ (by omega)
      simp -dsimp [go_sem, wr, wi]
      exact hC _ _ ⟨i + 1, by simp, by omega, h5⟩ (by simp [iv]; omega)
  · have hi64 : i = 64 := by omega
    subst hi64
    unfold law02_GramFull.b4
    refine CALL_Non h3 0 rfl (s := sMore) (by unfold maxLen; decide) fun w4 h4 => ?_
    rw [non_more hn] at h4 ⊢
    simp -dsimp [go_sem]
    refine CALL_Term h4 0 rfl (s := sMore) (by unfold maxLen; decide) fun w5 h5 => ?_
    rw [term_more hn] at h5 ⊢
    simp -dsimp [go_sem]
    refine CALL_Non h5 0 rfl (s := ⟨#[110, 97, 97]⟩) (by unfold maxLen; decide) fun w6 h6 => ?_
    rw [non_naa hn] at h6 ⊢
    simp -dsimp [go_sem]
    have loop : ∀ m : Nat, (m = 95 ∨ m = 96) → law02_GramFull.b8 R (.bool true) (.int .i64 n) (.pointer (some ⟨q, 0, none⟩)) (.int .i64 11) (.int .i64 11) (.int .i64 (-1)) (.int .i64 0) (.int .i64 m) w6 := by
      intro m hm
      unfold law02_GramFull.b8
      refine law02_GramFull.l10_intro _ _ _ _ _ _ _ _ _ _ _ (fun y w' => ∃ k : Nat, y = .int .i64 k ∧ k ≤ m ∧ St noB w w' [bldC q (Sr n k)]) (fun y _ => m - iv y) ⟨0, rfl, by omega, by rw [Sr_zero]; exact h6⟩ ?_
      rintro _ w7 ⟨k, rfl, hk, h7⟩ C' hC'
      simp -dsimp [go_sem]
      refine SPL_intro (fun p2 => ?_) (fun p2 => ?_) <;> simp at p2
      · have hmd := Nat.mod_lt k (show 0 < n + 1 by omega)
        have wn : IntKind.i64.wrap ((n : Int) + 1) = (n : Int) + 1 := IntWalk.i64_in _ (by omega)
        have wk : IntKind.i64.wrap ((k : Int) + 1) = (k : Int) + 1 := IntWalk.i64_in _ (by omega)
        have hmod : ((k : Int)).tmod ((n : Int) + 1) = ((k % (n + 1) : Nat) : Int) := by
          rw [Int.tmod_eq_emod_of_nonneg (by omega)]; rfl
        have hmc : ((k % (n + 1) : Nat) : Int) = (k : Int) % ((n : Int) + 1) := by simp
        have wm : IntKind.i64.wrap (-1 - (k : Int) % ((n : Int) + 1)) = -1 - (k : Int) % ((n : Int) + 1) := by rw [← hmc]; exact IntWalk.i64_in _ (by omega)
        have hnz : (n : Int) + 1 ≠ 0 := by omega
        simp -dsimp [go_sem, wn, hnz, hmod, wm]
        have hrf := rule_f hn (show k < 96 by omega)
        rw [hmc] at hrf
        refine CALL_Rule h7 0 rfl (left := -1 - (k : Int) % ((n : Int) + 1)) (by rw [← hmc]; unfold inI64; omega) (nil_ints _ _) (by simp) fun w8 h8 => ?_
        rw [hrf] at h8 ⊢
        simp -dsimp [go_sem, wk]
        exact hC' _ _ ⟨k + 1, by simp, by omega, h8⟩ (by simp [iv]; omega)
      · have hkm : k = m := by omega
        subst hkm
        unfold law02_GramFull.b6
        refine CALL_Rule h7 0 rfl (left := -1) (by simp [inI64]) (nil_ints _ _) (by simp) fun w8 h8 => ?_
        rcases hm with rfl | rfl
        · have hrf := rule_f hn (show 95 < 96 by omega)
          have hN : isN (Sr n 95) (-1) = true := by simp [isN, Sr, Sf]; omega
          have hra : ruleA (Sr n 95) (-1) [] = (95, 0, { Sr n 95 with rules := (Sr n 95).rules ++ [(-1, [], ruleL (Sr n 95) [])] }) := by
            unfold ruleA
            rw [if_neg (by simp [hN]), if_neg (by simp [Sr])]
            simp [Sr]
          rw [hra] at h8 ⊢
          simp -dsimp [go_sem]
          exact hR _ _ ⟨rfl, h8.chg⟩
        · rw [rule_over hn] at h8 ⊢
          simp -dsimp [go_sem]
          exact hR _ _ ⟨rfl, h8.chg⟩
    refine SPL_intro (fun p2 => ?_) (fun p2 => ?_)
    · exact loop 95 (Or.inl rfl)
    · exact loop 96 (Or.inr rfl)

theorem GramFull_ct {a b : Int} (ha : inI64 a) (hb : inI64 b) (w : World) : Ct Try.prog law02_GramFull.id #[.int .i64 a, .int .i64 b] w fun r w' => r = .bool true ∧ Chg noB w w' := by
  refine law02_GramFull.ct fun R hR => ?_
  unfold law02_GramFull.run
  simp -dsimp [go_sem]
  refine CALL_of (awake_ct w) ?_
  rintro _ w1 ⟨rfl, hc1⟩
  simp -dsimp [go_sem]
  have tm : -64 < a.tmod 64 ∧ a.tmod 64 < 64 := ⟨by have := Int.tmod_lt_of_pos (-a) (show (0 : Int) < 64 by omega); rw [Int.neg_tmod] at this; omega, by have := Int.tmod_lt_of_pos a (show (0 : Int) < 64 by omega); omega⟩
  refine SPL_intro (fun p1 => ?_) (fun p1 => ?_) <;> simp at p1
  · have wn : IntKind.i64.wrap (- a.tmod 64) = - a.tmod 64 := IntWalk.i64_in _ (by omega)
    simp -dsimp [go_sem, wn]
    have := full2 hb (n := (- a.tmod 64).toNat) (by omega) hR hc1
    rw [Int.toNat_of_nonneg (by omega)] at this
    exact this
  · have := full2 hb (n := (a.tmod 64).toNat) (by omega) hR hc1
    rw [Int.toNat_of_nonneg (by omega)] at this
    exact this
end Go.Proofs.Ytmhebgebfjnfjaa
