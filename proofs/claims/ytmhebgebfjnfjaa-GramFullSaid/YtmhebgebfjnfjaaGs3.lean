/-
  No text twice.
-/
import Derived.Test.YtmhebgebfjnfjaaGs2
import Derived.Test.YtmhebgebfjnfjaaT02H
import Derived.Test.YtmhebgebfjnfjaaT02Lib2
import Derived.Test.YtmhebgebfjnfjaaT02R2
import Derived.Test.YtmhebgebfjnfjaaT02Ty
import Derived.Test.YtmhebgebfjnfjaaGm1
namespace Go.Proofs.Ytmhebgebfjnfjaa
open Go.Px Go.Px.Scan Go.RowKit
set_option maxHeartbeats 1000000
set_option linter.unusedSimpArgs false
set_option linter.unusedVariables false
set_option maxRecDepth 100000
attribute [-go_sem] Builtin.append_

theorem unlike_ct {w : World} {B : Nat} {v : Value} {l : List ByteArray} (h : (rSlice rStr).at1 w B v l) (hB : B ≤ w.heap.size) : Ct Try.prog gram_unlike.id #[v] w fun r w' => r = .bool (decide l.Nodup) ∧ Chg noB w w' := by
  refine gram_unlike.ct fun R hR => ?_
  obtain ⟨A, c, rfl, hl, hm, _⟩ := slice_form h
  unfold gram_unlike.run
  simp -dsimp [go_sem, mkStr]
  have h0 := (St.refl noB w).map Try.prog kStr 9 3
  generalize hq : w.heap.size = q at h0 ⊢
  generalize w.alloc (.map #[] 0) = w1 at h0 ⊢
  refine gram_unlike.l6_intro _ _ _ _ _ _ _ (fun x w1 => ∃ (k n : Nat) (f : ByteArray → Int), x = .int .i64 k ∧ k ≤ l.length ∧ St noB w w1 [mapC Try.prog kStr 9 3 (.map (some q)) n f] ∧ n ≤ k ∧ (n = k ↔ (l.take k).Nodup) ∧ (∀ s, f s ≠ 0 ↔ s ∈ l.take k) ∧ ∀ s, 0 ≤ f s ∧ f s ≤ k) (fun x _ => l.length - iv x) ⟨0, 0, _, rfl, by omega, h0, by omega, by simp, by simp, by simp⟩ ?_
  rintro _ w1 ⟨k, n, f, rfl, hk, hst, hn, hnd, hmem, hf⟩ C hC
  simp -dsimp [go_sem]
  refine SPL_intro (fun h2 => ?_) (fun h2 => ?_) <;> simp at h2
  · obtain ⟨b1, o1, rfl, hb1, hc1, hr1⟩ := Go.Px.strs_at (Rep.below h (hst.chg.below hB fun _ _ => id)) h2
    have wk := wrap_succ h2 (Nat.le_trans hl hm)
    have hg : (Instr.lookup 41 (.map (some q)) (.string l[k]) false).run Try.prog w1 = _ := hst.mapGet mStr 0 rfl l[k] hr1
    have hfk := hf l[k]
    have hkm : k < maxLen := by omega
    have wf : IntKind.i64.wrap (f l[k] + 1) = f l[k] + 1 := IntWalk.i64_in _ (by unfold maxLen at hkm; omega)
    obtain ⟨w2, hrun, hst2⟩ := hst.mapSet mStr 0 rfl l[k] hr1 (by omega) (x := f l[k] + 1) (by unfold inI64; unfold maxLen at hkm; omega) (by omega)
    have hrun' : (Instr.mapUpdate 41 (.map (some q)) (.string l[k]) (.int .i64 (f l[k] + 1))).run Try.prog w1 = _ := hrun
    simp -dsimp [go_sem, h2, hc1, hg, wf, hrun', wk]
    have htk : l.take (k + 1) = l.take k ++ [l[k]] := List.take_succ_eq_append_getElem h2
    refine hC _ _ ⟨k + 1, _, _, by simp, by omega, hst2, ?_, ?_, ?_, ?_⟩ (by simp [iv]; omega)
    · split <;> omega
    · rw [htk]
      by_cases h0 : f l[k] = 0
      · have hno : l[k] ∉ l.take k := fun hm => (hmem l[k]).2 hm h0
        rw [if_pos h0]
        constructor
        · intro e
          refine List.nodup_append.2 ⟨hnd.1 (by omega), by simp, fun a ha b hb e' => ?_⟩
          simp at hb
          subst hb; subst e'; exact hno ha
        · intro hd
          have := hnd.2 (List.nodup_append.1 hd).1
          omega
      · rw [if_neg h0]
        have hyes := (hmem l[k]).1 h0
        constructor
        · intro e; omega
        · intro hd
          exact absurd rfl ((List.nodup_append.1 hd).2.2 _ hyes _ (by simp))
    · intro s
      rw [htk]
      by_cases hs : s = l[k]
      · subst hs
        simp only [if_true, List.mem_append, List.mem_singleton, or_true, iff_true]
        have := hf l[k]; omega
      · simp only [if_neg hs, List.mem_append, List.mem_singleton, hs, or_false]; exact hmem s
    · intro s
      have := hf s
      by_cases hs : s = l[k]
      · simp only [if_pos hs]; omega
      · simp only [if_neg hs]; omega
  · have hka : k = l.length := by omega
    subst hka
    rw [List.take_length] at hnd
    obtain ⟨F, ho, _⟩ := hst.get (k := 0) rfl
    have hlen := ho.1.len mStr 3
    simp -dsimp [go_sem, hlen]
    refine hR _ _ ⟨?_, hst.chg⟩
    congr 1
    refine decide_eq_decide.2 ?_
    rw [← hnd]; omega
end Go.Proofs.Ytmhebgebfjnfjaa
