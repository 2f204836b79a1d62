/-
  Searches in slices, and whether one is sorted.
-/
import Derived.Test.YtmhebgebfjnfjaaGs3
namespace Go.Proofs.Ytmhebgebfjnfjaa
open Go.Px Go.Px.Scan Go.RowKit
set_option maxHeartbeats 1000000
set_option linter.unusedSimpArgs false
set_option linter.unusedVariables false
set_option maxRecDepth 100000
attribute [-go_sem] Builtin.append_

theorem IndexFuncS_ct {w : World} {B : Nat} {v : Value} {l : List ByteArray} (h : (rSlice rStr).at1 w B v l) (hB : B ≤ w.heap.size) {g : FuncId} {first cap : Array Value} {p : ByteArray → Bool}
    (hp : ∀ x ∈ l, x.size ≤ maxLen → ∀ w, Ct Try.prog g (first.toList ++ [Value.string x] ++ cap.toList).toArray w fun v w' => v = .bool (p x) ∧ Chg noB w w') :
    Ct Try.prog slices_IndexFunc_string_string.id #[v, .func (.func g) first cap] w fun r w' => (∃ i, r = .int .i64 i ∧ (0 ≤ i ↔ l.any p = true) ∧ i ≤ l.length) ∧ Chg noB w w' := by
  refine slices_IndexFunc_string_string.ct fun R hR => ?_
  obtain ⟨A, c, rfl, hl, hm, _⟩ := slice_form h
  unfold slices_IndexFunc_string_string.run
  simp -dsimp [go_sem]
  refine slices_IndexFunc_string_string.l6_intro _ _ _ _ _ _ (fun x w1 => ∃ k : Nat, x = .int .i64 k ∧ k ≤ l.length ∧ (l.take k).any p = false ∧ Chg noB w w1) (fun x _ => l.length - iv x) ⟨0, rfl, by omega, by simp, Chg.refl _ _⟩ ?_
  rintro _ w1 ⟨k, rfl, hk, hall, hcw⟩ C hC
  simp -dsimp [go_sem]
  refine SPL_intro (fun h2 => ?_) (fun h2 => ?_) <;> simp at h2
  · obtain ⟨b1, o1, rfl, hb1, hc1, hr1⟩ := Go.Px.strs_at (Rep.below h (hcw.below hB fun _ _ => id)) h2
    have wk := wrap_succ h2 (Nat.le_trans hl hm)
    simp -dsimp [go_sem, h2, hc1]
    refine CALLY_of (hp l[k] (List.getElem_mem h2) hr1 _) ?_
    rintro _ w2 ⟨rfl, hc2⟩
    refine SPL_intro (fun h3 => ?_) (fun h3 => ?_)
    · refine hR _ _ ⟨⟨k, rfl, ?_, by omega⟩, hcw.trans hc2⟩
      refine ⟨fun _ => List.any_eq_true.2 ⟨_, List.getElem_mem h2, h3⟩, fun _ => by omega⟩
    · simp -dsimp [go_sem, wk]
      refine hC _ _ ⟨k + 1, by simp, by omega, ?_, hcw.trans hc2⟩ (by simp [iv]; omega)
      rw [List.take_succ_eq_append_getElem h2, List.any_append, hall]
      simp [h3]
  · have hka : k = l.length := by omega
    rw [hka, List.take_length] at hall
    simp -dsimp [go_sem]
    exact hR _ _ ⟨⟨-1, rfl, by rw [hall]; simp, by omega⟩, hcw⟩

theorem ContainsFuncS_ct {w : World} {B : Nat} {v : Value} {l : List ByteArray} (h : (rSlice rStr).at1 w B v l) (hB : B ≤ w.heap.size) {g : FuncId} {first cap : Array Value} {p : ByteArray → Bool}
    (hp : ∀ x ∈ l, x.size ≤ maxLen → ∀ w, Ct Try.prog g (first.toList ++ [Value.string x] ++ cap.toList).toArray w fun v w' => v = .bool (p x) ∧ Chg noB w w') :
    Ct Try.prog slices_ContainsFunc_string_string.id #[v, .func (.func g) first cap] w fun r w' => r = .bool (l.any p) ∧ Chg noB w w' := by
  refine slices_ContainsFunc_string_string.ct fun R hR => ?_
  unfold slices_ContainsFunc_string_string.run
  simp -dsimp [go_sem]
  refine CALL_of (IndexFuncS_ct h hB hp) ?_
  rintro _ w1 ⟨⟨i, rfl, hi, _⟩, hc⟩
  simp -dsimp [go_sem]
  refine hR _ _ ⟨?_, hc⟩
  congr 1
  cases ha : l.any p
  · rw [ha] at hi; simpa using hi
  · rw [ha] at hi; simpa using hi

theorem Index_ct {w : World} {B : Nat} {v : Value} {l : List Int} (h : (rSlice rInt).at1 w B v l) {x : Int} :
    Ct Try.prog slices_Index_int_int.id #[v, .int .i64 x] w fun r w' => (∃ i, r = .int .i64 i ∧ (0 ≤ i ↔ x ∈ l)) ∧ w = w' := by
  refine slices_Index_int_int.ct fun R hR => ?_
  obtain ⟨A, c, rfl, hl, hm, _⟩ := slice_form h
  unfold slices_Index_int_int.run
  simp -dsimp [go_sem]
  refine slices_Index_int_int.l6_intro _ _ _ _ _ _ (fun y w1 => ∃ k : Nat, y = .int .i64 k ∧ k ≤ l.length ∧ x ∉ l.take k ∧ w = w1) (fun y _ => l.length - iv y) ⟨0, rfl, by omega, by simp, rfl⟩ ?_
  rintro _ _ ⟨k, rfl, hk, hall, rfl⟩ C hC
  simp -dsimp [go_sem]
  refine SPL_intro (fun h2 => ?_) (fun h2 => ?_) <;> simp at h2
  · obtain ⟨b1, o1, rfl, hb1, hc1, hr1⟩ := Go.Px.ints_at h h2
    have wk := wrap_succ h2 (Nat.le_trans hl hm)
    simp -dsimp [go_sem, h2, hc1]
    refine SPL_intro (fun h3 => ?_) (fun h3 => ?_) <;> simp at h3
    · refine hR _ _ ⟨⟨k, rfl, ?_⟩, rfl⟩
      exact ⟨fun _ => by rw [h3]; exact List.getElem_mem h2, fun _ => by omega⟩
    · simp -dsimp [go_sem, wk]
      have hno : x ∉ l.take (k + 1) := by
        rw [List.take_succ_eq_append_getElem h2, List.mem_append]
        simp [hall, h3]
      exact hC _ _ ⟨k + 1, by simp, by omega, hno, rfl⟩ (by simp [iv]; omega)
  · have hka : k = l.length := by omega
    rw [hka, List.take_length] at hall
    simp -dsimp [go_sem]
    exact hR _ _ ⟨⟨-1, rfl, by simp [hall]⟩, rfl⟩

theorem Contains_ct {w : World} {B : Nat} {v : Value} {l : List Int} (h : (rSlice rInt).at1 w B v l) {x : Int} :
    Ct Try.prog slices_Contains_int_int.id #[v, .int .i64 x] w fun r w' => r = .bool (decide (x ∈ l)) ∧ w = w' := by
  refine slices_Contains_int_int.ct fun R hR => ?_
  unfold slices_Contains_int_int.run
  simp -dsimp [go_sem]
  refine CALL_of (Index_ct h) ?_
  rintro _ _ ⟨⟨i, rfl, hi⟩, rfl⟩
  simp -dsimp [go_sem]
  refine hR _ _ ⟨?_, rfl⟩
  congr 1
  exact decide_eq_decide.2 hi

theorem Less_ct (x y : Int) (w : World) : Ct Try.prog cmp_Less_int.id #[.int .i64 x, .int .i64 y] w fun r w' => r = .bool (decide (x < y)) ∧ w = w' := by
  have nan : ∀ (x : Int) (w : World), Ct Try.prog cmp_isNaN_int.id #[.int .i64 x] w fun r w' => r = .bool false ∧ w = w' := by
    intro x w
    refine cmp_isNaN_int.ct fun R hR => ?_
    unfold cmp_isNaN_int.run
    simp -dsimp [go_sem]
    exact hR _ _ ⟨by simp, rfl⟩
  refine cmp_Less_int.ct fun R hR => ?_
  unfold cmp_Less_int.run
  simp -dsimp [go_sem]
  refine CALL_of (nan x w) ?_
  rintro _ _ ⟨rfl, rfl⟩
  simp -dsimp [go_sem]
  exact hR _ _ ⟨rfl, rfl⟩

theorem IsSorted_ct {w : World} {B : Nat} {v : Value} {l : List Int} (h : (rSlice rInt).at1 w B v l) (hB : B ≤ w.heap.size) :
    Ct Try.prog slices_IsSorted_int_int.id #[v] w fun r w' => r = .bool (decide (l.Pairwise (· ≤ ·))) ∧ Chg noB w w' := by
  refine slices_IsSorted_int_int.ct fun R hR => ?_
  obtain ⟨A, c, rfl, hl, hm, _⟩ := slice_form h
  have key : l.Pairwise (· ≤ ·) ↔ ∀ i (hi : i + 1 < l.length), l[i] ≤ l[i + 1] := by
    constructor
    · intro hp i hi
      exact List.pairwise_iff_getElem.1 hp i (i + 1) (by omega) hi (by omega)
    · intro hp
      refine List.pairwise_iff_getElem.2 fun i j hi hj hij => ?_
      have : ∀ d (hd : i + d < l.length), l[i] ≤ l[i + d] := by
        intro d
        induction d with
        | zero => intro _; exact Int.le_refl _
        | succ d ih => intro hd; exact Int.le_trans (ih (by omega)) (hp (i + d) hd)
      have h9 := this (j - i) (by omega)
      simpa [show i + (j - i) = j by omega] using h9
  unfold slices_IsSorted_int_int.run
  have wl : IntKind.i64.wrap ((l.length : Int) - 1) = (l.length : Int) - 1 := IntWalk.i64_in _ (by unfold maxLen at hm; omega)
  simp -dsimp [go_sem, wl]
  refine slices_IsSorted_int_int.l6_intro _ _ _ _ (fun y w1 => ∃ k : Int, y = .int .i64 k ∧ k < l.length ∧ (∀ i (hi : i + 1 < l.length), k < (i : Int) + 1 → l[i] ≤ l[i + 1]) ∧ Chg noB w w1) (fun y _ => iv y) ⟨_, rfl, by omega, fun i hi h9 => by omega, Chg.refl _ _⟩ ?_
  rintro _ w1 ⟨k, rfl, hk, hall, hcw⟩ C hC
  simp -dsimp [go_sem]
  refine SPL_intro (fun h2 => ?_) (fun h2 => ?_) <;> simp at h2
  · obtain ⟨n, rfl⟩ : ∃ n : Nat, k = (n : Int) + 1 := ⟨(k - 1).toNat, by omega⟩
    have hn1 : n + 1 < l.length := by omega
    obtain ⟨b1, o1, rfl, hb1, hc1, hr1⟩ := Go.Px.ints_at (Rep.below h (hcw.below hB fun _ _ => id)) hn1
    obtain ⟨b2, o2, e2, hb2, hc2, hr2⟩ := Go.Px.ints_at (Rep.below h (hcw.below hB fun _ _ => id)) (show n < l.length by omega)
    injection e2 with e2; injection e2 with e2 e3; subst e2 e3
    have wk : IntKind.i64.wrap ((n : Int) + 1 - 1) = (n : Int) := by rw [show (n : Int) + 1 - 1 = n by omega]; exact IntWalk.i64_in _ (by unfold maxLen at hm; omega)
    have hn0 : n < l.length := by omega
    have q1 : (0 : Int) ≤ (n : Int) + 1 := by omega
    have q2 : (n : Int) + 1 < l.length := by omega
    have wk' : IntKind.i64.wrap (n : Int) = (n : Int) := IntWalk.i64_in _ (by unfold maxLen at hm; omega)
    simp -dsimp [go_sem, q1, q2, hn0, hc1, hc2, wk']
    refine CALL_of (Less_ct _ _ _) ?_
    rintro _ _ ⟨rfl, rfl⟩
    refine SPL_intro (fun h3 => ?_) (fun h3 => ?_) <;> simp at h3
    · refine hR _ _ ⟨?_, hcw.drew⟩
      congr 1
      refine (decide_eq_false fun hp => ?_).symm
      have := key.1 hp n hn1
      omega
    · simp -dsimp [go_sem, wk']
      refine hC _ _ ⟨n, rfl, by omega, fun i hi h9 => ?_, hcw.drew⟩ (by simp [iv])
      by_cases e : i = n
      · subst e; exact h3
      · exact hall i hi (by omega)
  · simp -dsimp [go_sem]
    refine hR _ _ ⟨?_, hcw⟩
    congr 1
    exact (decide_eq_true (key.2 fun i hi => hall i hi (by omega))).symm
end Go.Proofs.Ytmhebgebfjnfjaa
