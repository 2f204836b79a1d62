/-
  Texts of this claim: Gs3, Gs3b, Gs4, Gs5, Gs6.
-/
import Derived.Test.YtkacbjhiobnbfaaMa
import Derived.Test.YtkacbjhiobnbfaaGb
import Derived.Test.YtkacbjhiobnbfaaGc
import Derived.Test.YtkacbjhiobnbfaaMb
/-
  No text twice.
-/
namespace Go.Proofs.Ytkacbjhiobnbfaa
open Go.Px Go.Px.Scan Go.RowKit
set_option maxHeartbeats 1000000
set_option linter.unusedSimpArgs false
set_option linter.unusedVariables false
set_option maxRecDepth 100000
attribute [-go_sem] Builtin.append_

theorem unlike_ct {w : World} {B : Nat} {v : Value} {l : List ByteArray} (h : (rSlice rStr).at1 w B v l) (hB : B ≤ w.heap.size) : Ct Try.prog gram_unlike.id #[v] w fun r w' => r = .bool (decide l.Nodup) ∧ Chg noB w w' := by
  refine gram_unlike.ct fun R hR => ?_
  obtain ⟨A, c, rfl, hl, hm, _⟩ := slice_form h
  unfold gram_unlike.run
  simp -dsimp [go_sem, mkStr]
  have h0 := (St.refl noB w).map Try.prog kStr 9 3
  generalize hq : w.heap.size = q at h0 ⊢
  generalize w.alloc (.map #[] 0) = w1 at h0 ⊢
  refine gram_unlike.l6_intro _ _ _ _ _ _ _ (fun x w1 => ∃ (k n : Nat) (f : ByteArray → Int), x = .int .i64 k ∧ k ≤ l.length ∧ St noB w w1 [mapC Try.prog kStr 9 3 (.map (some q)) n f] ∧ n ≤ k ∧ (n = k ↔ (l.take k).Nodup) ∧ (∀ s, f s ≠ 0 ↔ s ∈ l.take k) ∧ ∀ s, 0 ≤ f s ∧ f s ≤ k) (fun x _ => l.length - iv x) ⟨0, 0, _, rfl, by omega, h0, by omega, by simp, by simp, by simp⟩ ?_
  rintro _ w1 ⟨k, n, f, rfl, hk, hst, hn, hnd, hmem, hf⟩ C hC
  simp -dsimp [go_sem]
  refine SPL_intro (fun h2 => ?_) (fun h2 => ?_) <;> simp at h2
  · obtain ⟨b1, o1, rfl, hb1, hc1, hr1⟩ := Go.Px.strs_at (Rep.below h (hst.chg.below hB fun _ _ => id)) h2
    have wk := wrap_succ h2 (Nat.le_trans hl hm)
    have hg : (Instr.lookup 167 (.map (some q)) (.string l[k]) false).run Try.prog w1 = _ := hst.mapGet mStr 0 rfl l[k] hr1
    have hfk := hf l[k]
    have hkm : k < maxLen := by omega
    have wf : IntKind.i64.wrap (f l[k] + 1) = f l[k] + 1 := IntWalk.i64_in _ (by unfold maxLen at hkm; omega)
    obtain ⟨w2, hrun, hst2⟩ := hst.mapSet mStr 0 rfl l[k] hr1 (by omega) (x := f l[k] + 1) (by unfold inI64; unfold maxLen at hkm; omega) (by omega)
    have hrun' : (Instr.mapUpdate 167 (.map (some q)) (.string l[k]) (.int .i64 (f l[k] + 1))).run Try.prog w1 = _ := hrun
    simp -dsimp [go_sem, h2, hc1, hg, wf, hrun', wk]
    have htk : l.take (k + 1) = l.take k ++ [l[k]] := List.take_succ_eq_append_getElem h2
    refine hC _ _ ⟨k + 1, _, _, by simp, by omega, hst2, ?_, ?_, ?_, ?_⟩ (by simp [iv]; omega)
    · split <;> omega
    · rw [htk]
      by_cases h0 : f l[k] = 0
      · have hno : l[k] ∉ l.take k := fun hm => (hmem l[k]).2 hm h0
        rw [if_pos h0]
        constructor
        · intro e
          refine List.nodup_append.2 ⟨hnd.1 (by omega), by simp, fun a ha b hb e' => ?_⟩
          simp at hb
          subst hb; subst e'; exact hno ha
        · intro hd
          have := hnd.2 (List.nodup_append.1 hd).1
          omega
      · rw [if_neg h0]
        have hyes := (hmem l[k]).1 h0
        constructor
        · intro e; omega
        · intro hd
          exact absurd rfl ((List.nodup_append.1 hd).2.2 _ hyes _ (by simp))
    · intro s
      rw [htk]
      by_cases hs : s = l[k]
      · subst hs
        simp only [if_true, List.mem_append, List.mem_singleton, or_true, iff_true]
        have := hf l[k]; omega
      · simp only [if_neg hs, List.mem_append, List.mem_singleton, hs, or_false]; exact hmem s
    · intro s
      have := hf s
      by_cases hs : s = l[k]
      · simp only [if_pos hs]; omega
      · simp only [if_neg hs]; omega
  · have hka : k = l.length := by omega
    subst hka
    rw [List.take_length] at hnd
    obtain ⟨F, ho, _⟩ := hst.get (k := 0) rfl
    have hlen := ho.1.len mStr 3
    simp -dsimp [go_sem, hlen]
    refine hR _ _ ⟨?_, hst.chg⟩
    congr 1
    refine decide_eq_decide.2 ?_
    rw [← hnd]; omega
end Go.Proofs.Ytkacbjhiobnbfaa

/-
  Searches in slices, and whether one is sorted.
-/
namespace Go.Proofs.Ytkacbjhiobnbfaa
open Go.Px Go.Px.Scan Go.RowKit
set_option maxHeartbeats 1000000
set_option linter.unusedSimpArgs false
set_option linter.unusedVariables false
set_option maxRecDepth 100000
attribute [-go_sem] Builtin.append_

theorem IndexFuncS_ct {w : World} {B : Nat} {v : Value} {l : List ByteArray} (h : (rSlice rStr).at1 w B v l) (hB : B ≤ w.heap.size) {g : FuncId} {first cap : Array Value} {p : ByteArray → Bool}
    (hp : ∀ x ∈ l, x.size ≤ maxLen → ∀ w, Ct Try.prog g (first.toList ++ [Value.string x] ++ cap.toList).toArray w fun v w' => v = .bool (p x) ∧ Chg noB w w') :
    Ct Try.prog slices_IndexFunc_string_string.id #[v, .func (.func g) first cap] w fun r w' => (∃ i, r = .int .i64 i ∧ (0 ≤ i ↔ l.any p = true) ∧ i ≤ l.length) ∧ Chg noB w w' := by
  refine slices_IndexFunc_string_string.ct fun R hR => ?_
  obtain ⟨A, c, rfl, hl, hm, _⟩ := slice_form h
  unfold slices_IndexFunc_string_string.run
  simp -dsimp [go_sem]
  refine slices_IndexFunc_string_string.l6_intro _ _ _ _ _ _ (fun x w1 => ∃ k : Nat, x = .int .i64 k ∧ k ≤ l.length ∧ (l.take k).any p = false ∧ Chg noB w w1) (fun x _ => l.length - iv x) ⟨0, rfl, by omega, by simp, Chg.refl _ _⟩ ?_
  rintro _ w1 ⟨k, rfl, hk, hall, hcw⟩ C hC
  simp -dsimp [go_sem]
  refine SPL_intro (fun h2 => ?_) (fun h2 => ?_) <;> simp at h2
  · obtain ⟨b1, o1, rfl, hb1, hc1, hr1⟩ := Go.Px.strs_at (Rep.below h (hcw.below hB fun _ _ => id)) h2
    have wk := wrap_succ h2 (Nat.le_trans hl hm)
    simp -dsimp [go_sem, h2, hc1]
    refine CALLY_of (hp l[k] (List.getElem_mem h2) hr1 _) ?_
    rintro _ w2 ⟨rfl, hc2⟩
    refine SPL_intro (fun h3 => ?_) (fun h3 => ?_)
    · refine hR _ _ ⟨⟨k, rfl, ?_, by omega⟩, hcw.trans hc2⟩
      refine ⟨fun _ => List.any_eq_true.2 ⟨_, List.getElem_mem h2, h3⟩, fun _ => by omega⟩
    · simp -dsimp [go_sem, wk]
      refine hC _ _ ⟨k + 1, by simp, by omega, ?_, hcw.trans hc2⟩ (by simp [iv]; omega)
      rw [List.take_succ_eq_append_getElem h2, List.any_append, hall]
      simp [h3]
  · have hka : k = l.length := by omega
    rw [hka, List.take_length] at hall
    simp -dsimp [go_sem]
    exact hR _ _ ⟨⟨-1, rfl, by rw [hall]; simp, by omega⟩, hcw⟩

theorem ContainsFuncS_ct {w : World} {B : Nat} {v : Value} {l : List ByteArray} (h : (rSlice rStr).at1 w B v l) (hB : B ≤ w.heap.size) {g : FuncId} {first cap : Array Value} {p : ByteArray → Bool}
    (hp : ∀ x ∈ l, x.size ≤ maxLen → ∀ w, Ct Try.prog g (first.toList ++ [Value.string x] ++ cap.toList).toArray w fun v w' => v = .bool (p x) ∧ Chg noB w w') :
    Ct Try.prog slices_ContainsFunc_string_string.id #[v, .func (.func g) first cap] w fun r w' => r = .bool (l.any p) ∧ Chg noB w w' := by
  refine slices_ContainsFunc_string_string.ct fun R hR => ?_
  unfold slices_ContainsFunc_string_string.run
  simp -dsimp [go_sem]
  refine CALL_of (IndexFuncS_ct h hB hp) ?_
  rintro _ w1 ⟨⟨i, rfl, hi, _⟩, hc⟩
  simp -dsimp [go_sem]
  refine hR _ _ ⟨?_, hc⟩
  congr 1
  cases ha : l.any p
  · rw [ha] at hi; simpa using hi
  · rw [ha] at hi; simpa using hi

theorem Index_ct {w : World} {B : Nat} {v : Value} {l : List Int} (h : (rSlice rInt).at1 w B v l) {x : Int} :
    Ct Try.prog slices_Index_int_int.id #[v, .int .i64 x] w fun r w' => (∃ i, r = .int .i64 i ∧ (0 ≤ i ↔ x ∈ l)) ∧ w = w' := by
  refine slices_Index_int_int.ct fun R hR => ?_
  obtain ⟨A, c, rfl, hl, hm, _⟩ := slice_form h
  unfold slices_Index_int_int.run
  simp -dsimp [go_sem]
  refine slices_Index_int_int.l6_intro _ _ _ _ _ _ (fun y w1 => ∃ k : Nat, y = .int .i64 k ∧ k ≤ l.length ∧ x ∉ l.take k ∧ w = w1) (fun y _ => l.length - iv y) ⟨0, rfl, by omega, by simp, rfl⟩ ?_
  rintro _ _ ⟨k, rfl, hk, hall, rfl⟩ C hC
  simp -dsimp [go_sem]
  refine SPL_intro (fun h2 => ?_) (fun h2 => ?_) <;> simp at h2
  · obtain ⟨b1, o1, rfl, hb1, hc1, hr1⟩ := Go.Px.ints_at h h2
    have wk := wrap_succ h2 (Nat.le_trans hl hm)
    simp -dsimp [go_sem, h2, hc1]
    refine SPL_intro (fun h3 => ?_) (fun h3 => ?_) <;> simp at h3
    · refine hR _ _ ⟨⟨k, rfl, ?_⟩, rfl⟩
      exact ⟨fun _ => by rw [h3]; exact List.getElem_mem h2, fun _ => by omega⟩
    · simp -dsimp [go_sem, wk]
      have hno : x ∉ l.take (k + 1) := by
        rw [List.take_succ_eq_append_getElem h2, List.mem_append]
        simp [hall, h3]
      exact hC _ _ ⟨k + 1, by simp, by omega, hno, rfl⟩ (by simp [iv]; omega)
  · have hka : k = l.length := by omega
    rw [hka, List.take_length] at hall
    simp -dsimp [go_sem]
    exact hR _ _ ⟨⟨-1, rfl, by simp [hall]⟩, rfl⟩

theorem Contains_ct {w : World} {B : Nat} {v : Value} {l : List Int} (h : (rSlice rInt).at1 w B v l) {x : Int} :
    Ct Try.prog slices_Contains_int_int.id #[v, .int .i64 x] w fun r w' => r = .bool (decide (x ∈ l)) ∧ w = w' := by
  refine slices_Contains_int_int.ct fun R hR => ?_
  unfold slices_Contains_int_int.run
  simp -dsimp [go_sem]
  refine CALL_of (Index_ct h) ?_
  rintro _ _ ⟨⟨i, rfl, hi⟩, rfl⟩
  simp -dsimp [go_sem]
  refine hR _ _ ⟨?_, rfl⟩
  congr 1
  exact decide_eq_decide.2 hi

theorem Less_ct (x y : Int) (w : World) : Ct Try.prog cmp_Less_int.id #[.int .i64 x, .int .i64 y] w fun r w' => r = .bool (decide (x < y)) ∧ w = w' := by
  have nan : ∀ (x : Int) (w : World), Ct Try.prog cmp_isNaN_int.id #[.int .i64 x] w fun r w' => r = .bool false ∧ w = w' := by
    intro x w
    refine cmp_isNaN_int.ct fun R hR => ?_
    unfold cmp_isNaN_int.run
    simp -dsimp [go_sem]
    exact hR _ _ ⟨by simp, rfl⟩
  refine cmp_Less_int.ct fun R hR => ?_
  unfold cmp_Less_int.run
  simp -dsimp [go_sem]
  refine CALL_of (nan x w) ?_
  rintro _ _ ⟨rfl, rfl⟩
  simp -dsimp [go_sem]
  exact hR _ _ ⟨rfl, rfl⟩

theorem IsSorted_ct {w : World} {B : Nat} {v : Value} {l : List Int} (h : (rSlice rInt).at1 w B v l) (hB : B ≤ w.heap.size) :
    Ct Try.prog slices_IsSorted_int_int.id #[v] w fun r w' => r = .bool (decide (l.Pairwise (· ≤ ·))) ∧ Chg noB w w' := by
  refine slices_IsSorted_int_int.ct fun R hR => ?_
  obtain ⟨A, c, rfl, hl, hm, _⟩ := slice_form h
  have key : l.Pairwise (· ≤ ·) ↔ ∀ i (hi : i + 1 < l.length), l[i] ≤ l[i + 1] := by
    constructor
    · intro hp i hi
      exact List.pairwise_iff_getElem.1 hp i (i + 1) (by omega) hi (by omega)
    · intro hp
      refine List.pairwise_iff_getElem.2 fun i j hi hj hij => ?_
      have : ∀ d (hd : i + d < l.length), l[i] ≤ l[i + d] := by
        intro d
        induction d with
        | zero => intro _; exact Int.le_refl _
        | succ d ih => intro hd; exact Int.le_trans (ih (by omega)) (hp (i + d) hd)
      have h9 := this (j - i) (by omega)
      simpa [show i + (j - i) = j by omega] using h9
  unfold slices_IsSorted_int_int.run
  have wl : IntKind.i64.wrap ((l.length : Int) - 1) = (l.length : Int) - 1 := IntWalk.i64_in _ (by unfold maxLen at hm; omega)
  simp -dsimp [go_sem, wl]
  refine slices_IsSorted_int_int.l6_intro _ _ _ _ (fun y w1 => ∃ k : Int, y = .int .i64 k ∧ k < l.length ∧ (∀ i (hi : i + 1 < l.length), k < (i : Int) + 1 → l[i] ≤ l[i + 1]) ∧ Chg noB w w1) (fun y _ => iv y) ⟨_, rfl, by omega, fun i hi h9 => by omega, Chg.refl _ _⟩ ?_
  rintro _ w1 ⟨k, rfl, hk, hall, hcw⟩ C hC
  simp -dsimp [go_sem]
  refine SPL_intro (fun h2 => ?_) (fun h2 => ?_) <;> simp at h2
  · obtain ⟨n, rfl⟩ : ∃ n : Nat, k = (n : Int) + 1 := ⟨(k - 1).toNat, by omega⟩
    have hn1 : n + 1 < l.length := by omega
    obtain ⟨b1, o1, rfl, hb1, hc1, hr1⟩ := Go.Px.ints_at (Rep.below h (hcw.below hB fun _ _ => id)) hn1
    obtain ⟨b2, o2, e2, hb2, hc2, hr2⟩ := Go.Px.ints_at (Rep.below h (hcw.below hB fun _ _ => id)) (show n < l.length by omega)
    injection e2 with e2; injection e2 with e2 e3; subst e2 e3
    have wk : IntKind.i64.wrap ((n : Int) + 1 - 1) = (n : Int) := by rw [show (n : Int) + 1 - 1 = n by omega]; exact IntWalk.i64_in _ (by unfold maxLen at hm; omega)
    have hn0 : n < l.length := by omega
    have q1 : (0 : Int) ≤ (n : Int) + 1 := by omega
    have q2 : (n : Int) + 1 < l.length := by omega
    have wk' : IntKind.i64.wrap (n : Int) = (n : Int) := IntWalk.i64_in _ (by unfold maxLen at hm; omega)
    simp -dsimp [go_sem, q1, q2, hn0, hc1, hc2, wk']
    refine CALL_of (Less_ct _ _ _) ?_
    rintro _ _ ⟨rfl, rfl⟩
    refine SPL_intro (fun h3 => ?_) (fun h3 => ?_) <;> simp at h3
    · refine hR _ _ ⟨?_, hcw.drew⟩
      congr 1
      refine (decide_eq_false fun hp => ?_).symm
      have := key.1 hp n hn1
      omega
    · simp -dsimp [go_sem, wk']
      refine hC _ _ ⟨n, rfl, by omega, fun i hi h9 => ?_, hcw.drew⟩ (by simp [iv])
      by_cases e : i = n
      · subst e; exact h3
      · exact hall i hi (by omega)
  · simp -dsimp [go_sem]
    refine hR _ _ ⟨?_, hcw⟩
    congr 1
    exact (decide_eq_true (key.2 fun i hi => hall i hi (by omega))).symm
end Go.Proofs.Ytkacbjhiobnbfaa

/-
  Terminals, nonterminals, levels that fit.
-/
namespace Go.Proofs.Ytkacbjhiobnbfaa
open Go.Px Go.Px.Scan Go.RowKit
set_option maxHeartbeats 1000000
set_option linter.unusedSimpArgs false
set_option linter.unusedVariables false
set_option maxRecDepth 100000
attribute [-go_sem] Builtin.append_

theorem symbols_ct {w : World} {B : Nat} {v : Value} {g : Gr} (h : rGram.atN w B v g) (hB : B ≤ w.heap.size) {a : Nat} (ha : a ≤ 1) : Ct Try.prog gram_symbols.id #[v, .int .i64 a] w fun r w' => r = .bool (symB g a) ∧ Chg noB w w' := by
  refine gram_symbols.ct fun R hR => ?_
  obtain ⟨A1, c1, A2, c2, A3, c3, A4, c4, rfl, h1, h2, h3, h4, h5, ⟨l1, m1⟩, ⟨l2, m2⟩, ⟨l3, m3⟩, ⟨l4, m4⟩⟩ := (rGram_open h).ex
  have no : ∀ w', Chg noB w w' → ¬ SymsP g a → R (.returned (.bool false)) w' := fun w' hc hn => hR _ _ ⟨by rw [bool_no symB_iff hn], hc⟩
  unfold gram_symbols.run gram_symbols.b1
  simp -dsimp [go_sem]
  have h0 := (St.refl noB w).alloc #[.slice A1 g.terms.length c1, .slice A2 g.nons.length c2, .slice A3 g.levels.length c3, .int .i64 g.start, .slice A4 g.prods.length c4] 27
  generalize w.heap.size = q at h0 ⊢
  generalize w.alloc (.cells #[.slice A1 g.terms.length c1, .slice A2 g.nons.length c2, .slice A3 g.levels.length c3, .int .i64 g.start, .slice A4 g.prods.length c4] 27) = w1 at h0 ⊢
  have k0 := h0.box 0 rfl
  simp [boxAt] at k0
  have b29f : ∀ w', Chg noB w w' → ¬ SymsP g a → gram_symbols.b29 R (.int .i64 a) (.pointer (some ⟨q, 0, none⟩)) (.bool true) w' := fun w' hc hn => by
    simp -dsimp [go_sem]
    exact no _ hc hn
  refine SPL_intro (fun q1 => ?_) (fun q1 => ?_) <;> simp at q1
  · exact b29f _ h0.chg fun hs => by have := hs.t0; rw [q1] at this; cases this
  have q1' : 0 < g.terms.length := List.length_pos_iff.2 q1
  obtain ⟨b1, o1, rfl, hb1, hc1, hc1', _, _⟩ := terms_at (Rep.below h1 (h0.chg.below hB fun _ _ => id)) q1'
  simp at hc1 hc1'
  simp -dsimp [go_sem, k0, q1', hc1, hc1']
  have t0 : ¬ (g.terms[0].1.toList = [] ∧ g.terms[0].2 = 0) → ¬ SymsP g a := fun hn hs => by
    have h9 := hs.t0
    rw [List.head?_eq_getElem?, List.getElem?_eq_getElem q1'] at h9
    injection h9 with h9
    rw [h9] at hn
    exact hn ⟨by rw [ByteArray.toList_eq], rfl⟩
  by_cases p1 : g.terms[0].1.toList = []
  case neg =>
    simp -dsimp [go_sem, p1]
    exact no _ h0.chg (t0 fun h => p1 h.1)
  by_cases p2 : g.terms[0].2 = 0
  case neg =>
    simp -dsimp [go_sem, p1, p2]
    exact no _ h0.chg (t0 fun h => p2 h.2)
  have ht0 : g.terms.head? = some (⟨#[]⟩, 0) := by
    rw [List.head?_eq_getElem?, List.getElem?_eq_getElem q1']
    congr 1
    refine Prod.ext ?_ p2
    exact bs_ext (by rw [← ByteArray.toList_eq]; exact p1)
  clear t0
  simp -dsimp [go_sem, p1, p2, k0]
  refine SPL_intro (fun q2 => ?_) (fun q2 => ?_) <;> simp at q2
  · exact b29f _ h0.chg fun hs => by have := hs.n0; omega
  simp -dsimp [go_sem, k0]
  refine SPL_intro (fun q3 => ?_) (fun q3 => ?_) <;> simp at q3
  · exact b29f _ h0.chg fun hs => by have := hs.t1; omega
  have w64 : IntKind.i64.wrap (64 + (a : Int)) = 64 + a := IntWalk.i64_in _ (by omega)
  simp -dsimp [go_sem, k0, w64]
  refine SPL_intro (fun q4 => ?_) (fun q4 => ?_) <;> simp at q4
  · exact b29f _ h0.chg fun hs => by have := hs.n1; omega
  have w65 : IntKind.i64.wrap ((g.terms.length : Int) - 1) = (g.terms.length : Int) - 1 := IntWalk.i64_in _ (by omega)
  have w66 : IntKind.i64.wrap ((g.terms.length : Int) - 1 + g.nons.length) = (g.terms.length : Int) - 1 + g.nons.length := IntWalk.i64_in _ (by omega)
  have w67 : IntKind.i64.wrap ((g.terms.length : Int) - 1 + g.nons.length - a) = (g.terms.length : Int) - 1 + g.nons.length - a := IntWalk.i64_in _ (by omega)
  simp -dsimp [go_sem, k0, w65, w66, w67]
  refine SPL_intro (fun q5 => ?_) (fun q5 => ?_) <;> simp at q5
  · exact no _ h0.chg fun hs => by have := hs.sum; omega
  have h1' := h0.map Try.prog kInt 3 3
  have k1 := h1'.box 0 rfl
  simp [boxAt] at k1
  have l1' : (1 : Nat) ≤ g.terms.length := q1'
  have l1'' : (1 : Int) ≤ g.terms.length := by omega
  simp -dsimp [go_sem, mkInt, k1, l1'']
  have hT := slice_from (k := 1) (o' := o1 + 2) h1 l1' rfl
  generalize (if c1 = 1 then some (⟨b1, o1, none⟩ : Addr) else some ⟨b1, o1 + 2, none⟩) = AT at hT ⊢
  generalize w1.heap.size = m at h1' ⊢
  generalize w1.alloc (.map #[] 0) = w2 at h1' k1 ⊢
  have htl : g.terms.drop 1 = g.terms.tail := by simp
  rw [htl] at hT
  have hlen : g.terms.length - 1 = g.terms.tail.length := by simp
  rw [hlen] at hT ⊢
  generalize hE : g.terms.tail = tl at hT ⊢
  have e1 : ∀ t, t ∈ g.terms.tail ↔ t ∈ tl := fun t => by rw [hE]
  have n0 := h1'.nilRow 9 1
  refine gram_symbols.l18_intro _ _ _ _ _ _ _ _ _ (fun x y w' => ∃ (k : Nat) (n : Nat) (f : Int → Int) (A : Option Addr) (c : Nat), y = .int .i64 k ∧ x = .slice A k c ∧ k ≤ tl.length ∧
    St noB w w' [boxC q 27 [.slice (some ⟨b1, o1, none⟩) g.terms.length c1, .slice A2 g.nons.length c2, .slice A3 g.levels.length c3, .int .i64 g.start, .slice A4 g.prods.length c4], mapC Try.prog kInt 3 3 (.map (some m)) n f, rowC 9 1 A k c ((tl.take k).map fun t => .string t.1)] ∧
    n ≤ k ∧ (∀ x, f x ≠ 0 ↔ ∃ t ∈ tl.take k, t.2 = x) ∧ (∀ t ∈ tl.take k, TermOk g t)) (fun _ y _ => tl.length - iv y) ⟨0, 0, _, none, 0, rfl, rfl, by omega, by simpa using n0, by omega, by simp, by simp⟩ ?_
  rintro _ _ w3 ⟨k, n, f, A, c, rfl, rfl, hk, hst, hn, hf, hall⟩ C hC
  have k3 := hst.box 0 rfl
  simp [boxAt] at k3
  simp -dsimp [go_sem]
  refine SPL_intro (fun q6 => ?_) (fun q6 => ?_)
  · have q6' : k < tl.length := by simpa using q6
    obtain ⟨b2, o2, rfl, hb2, d1, d2, d3, d4⟩ := terms_at (Rep.below hT (hst.chg.below hB fun _ _ => id)) q6'
    have hst4 := hst.alloc #[.string tl[k].1, .int .i64 tl[k].2] 106
    have hw4 : (w3.alloc (.cells #[.string tl[k].1, .int .i64 tl[k].2] 106)).heap.size = w3.heap.size + 1 := by simp
    have k4 := hst4.box 0 rfl
    have kt := hst4.box 3 rfl
    simp [boxAt] at k4 kt
    simp -dsimp [go_sem, q6', d1, d2]
    generalize w3.alloc (.cells #[.string tl[k].1, .int .i64 tl[k].2] 106) = w4 at hst4 k4 kt hw4 ⊢
    generalize w3.heap.size = tb at hst4 kt ⊢
    refine CALL_of (isTerm_ct d3 w4) ?_
    rintro _ w5 ⟨rfl, hc5⟩
    have hst5 := hst4.old hc5
    clear k4 kt
    have k4 := hst5.box 0 rfl
    have kt := hst5.box 3 rfl
    simp [boxAt] at k4 kt
    have hmem : tl[k] ∈ tl := List.getElem_mem q6'
    cases htm : tmB tl[k].1 with
    | false =>
      simp -dsimp [go_sem]
      refine no _ hst5.chg fun hs => ?_
      have := tmB_iff.2 (hs.terms _ ((e1 _).2 hmem)).name
      rw [this] at htm; cases htm
    | true =>
      simp -dsimp [go_sem, kt]
      refine SPL_intro (fun q7 => ?_) (fun q7 => ?_) <;> simp at q7
      · simp -dsimp [go_sem]
        exact no _ hst5.chg fun hs => by have := (hs.terms _ ((e1 _).2 hmem)).lo; omega
      simp -dsimp [go_sem, kt, k4]
      refine SPL_intro (fun q8 => ?_) (fun q8 => ?_) <;> simp at q8
      · exact no _ hst5.chg fun hs => by have := (hs.terms _ ((e1 _).2 hmem)).hi; omega
      have hk65 : k < 65 := by
        have : tl.length = g.terms.length - 1 := by rw [← hE]; simp
        omega
      simp -dsimp [go_sem, kt]
      refine hst5.append1 2 rfl uStrs iStr rfl (by omega) (news := [.string tl[k].1]) rfl (by simp [Value.oneCell']) (by unfold maxLen; omega) (by unfold maxBytes; omega) ?_
      intro g' cap w6 hst6
      have k6 := hst6.box 3 rfl
      simp [boxAt] at k6
      obtain ⟨w7, hrun, hst7⟩ := hst6.mapSet mInt 1 rfl tl[k].2 d4 (by unfold maxLen; omega) (x := 1) (by unfold inI64; omega) (by omega)
      have hrun' : (Instr.mapUpdate 179 (.map (some m)) (.int .i64 tl[k].2) (.int .i64 1)).run Try.prog w6 = _ := hrun
      have wk : IntKind.i64.wrap ((k : Int) + 1) = (k : Int) + 1 := IntWalk.i64_in _ (by omega)
      simp -dsimp [go_sem, k6, hrun', wk]
      have htk : tl.take (k + 1) = tl.take k ++ [tl[k]] := List.take_succ_eq_append_getElem q6'
      have em : (tl.take k).map (fun t => Value.string t.1) ++ [.string tl[k].1] = (tl.take (k + 1)).map (fun t => Value.string t.1) := by rw [htk, List.map_append]; rfl
      have h8 := hst7.take 3
      rw [em] at h8
      refine hC _ _ _ ⟨k + 1, _, _, _, _, by simp, rfl, by omega, h8, ?_, ?_, ?_⟩ (by simp [iv]; omega)
      · split <;> omega
      · intro x
        rw [htk]
        by_cases hx : x = tl[k].2
        · rw [if_pos hx]
          exact ⟨fun _ => ⟨tl[k], List.mem_append_right _ (List.mem_singleton.2 rfl), hx.symm⟩, fun _ => by omega⟩
        · rw [if_neg hx, hf x]
          constructor
          · rintro ⟨t, ht, e⟩; exact ⟨t, List.mem_append_left _ ht, e⟩
          · rintro ⟨t, ht, e⟩
            rcases List.mem_append.1 ht with ht | ht
            · exact ⟨t, ht, e⟩
            · rw [List.mem_singleton.1 ht] at e; exact absurd e.symm hx
      · intro t ht
        rw [htk] at ht
        rcases List.mem_append.1 ht with ht | ht
        · exact hall t ht
        · rw [List.mem_singleton.1 ht]
          exact ⟨tmB_iff.1 htm, by omega, by omega⟩
  · have hka : k = tl.length := by
      have : ¬ k < tl.length := by simpa using q6
      omega
    subst hka
    rw [List.take_length] at hst hf hall
    clear hC C
    simp -dsimp [go_sem, k3]
    have nl : ¬ (∀ i (h : i < g.levels.length), 1 ≤ g.levels[i] ∧ g.levels[i] ≤ 3 ∧ ∃ t ∈ tl, t.2 = (i : Int) + 1) → ¬ SymsP g a := fun hn hs => hn (by rw [← hE]; exact hs.levels)
    refine gram_symbols.l9_intro _ _ _ _ _ _ _ _ _ (fun y w' => ∃ j : Nat, y = .int .i64 j ∧ j ≤ g.levels.length ∧ w3 = w' ∧ ∀ i (h : i < g.levels.length), i < j → 1 ≤ g.levels[i] ∧ g.levels[i] ≤ 3 ∧ ∃ t ∈ tl, t.2 = (i : Int) + 1) (fun y _ => g.levels.length - iv y) ⟨0, rfl, by omega, rfl, fun i h h0 => by omega⟩ ?_
    rintro _ _ ⟨j, rfl, hj, rfl, hjl⟩ C hC
    simp -dsimp [go_sem]
    refine SPL_intro (fun q7 => ?_) (fun q7 => ?_) <;> simp at q7
    · obtain ⟨b3, o3, rfl, hb3, d1, d2⟩ := Go.Px.ints_at (Rep.below h3 (hst.chg.below hB fun _ _ => id)) q7
      have wj := wrap_succ q7 (Nat.le_trans l3 m3)
      simp -dsimp [go_sem, q7, d1]
      refine SPL_intro (fun q8 => ?_) (fun q8 => ?_) <;> simp at q8
      · simp -dsimp [go_sem]
        exact no _ hst.chg (nl fun hn => by have := (hn j q7).1; omega)
      simp -dsimp [go_sem]
      refine SPL_intro (fun q9 => ?_) (fun q9 => ?_) <;> simp at q9
      · simp -dsimp [go_sem]
        exact no _ hst.chg (nl fun hn => by have := (hn j q7).2.1; omega)
      have hg : (Instr.lookup 179 (.map (some m)) (.int .i64 ((j : Int) + 1)) false).run Try.prog w3 = _ := hst.mapGet mInt 1 rfl ((j : Int) + 1) (by show inI64 _; unfold inI64; unfold maxLen at m3; omega)
      simp -dsimp [go_sem, wj, hg]
      refine SPL_intro (fun q10 => ?_) (fun q10 => ?_) <;> simp at q10
      · exact no _ hst.chg (nl fun hn => absurd q10 ((hf _).2 (hn j q7).2.2))
      · simp -dsimp [go_sem, wj]
        refine hC _ _ ⟨j + 1, by simp, by omega, rfl, fun i hi hij => ?_⟩ (by simp [iv]; omega)
        by_cases e : i = j
        · subst e; exact ⟨by omega, by omega, (hf _).1 q10⟩
        · exact hjl i hi (by omega)
    · have hja : j = g.levels.length := by omega
      subst hja
      have hlev : ∀ i (h : i < g.levels.length), 1 ≤ g.levels[i] ∧ g.levels[i] ≤ 3 ∧ ∃ t ∈ tl, t.2 = (i : Int) + 1 := fun i h => hjl i h h
      obtain ⟨b4, o4, rfl, hb4, _⟩ := Go.Px.strs_at h2 q2
      have q2' : a ≤ g.nons.length := by omega
      have hN := slice_from (k := a) (o' := o4 + a) h2 q2' (by simp [rStr])
      have hN2 : (rSlice rStr).at1 w3 B _ _ := Rep.below hN (hst.chg.below hB fun _ _ => id)
      simp -dsimp [go_sem, k3, q2']
      generalize (if c2 = a then some (⟨b4, o4, none⟩ : Addr) else some ⟨b4, o4 + a, none⟩) = AN at hN hN2 ⊢
      have hml : (g.nons.drop a).length = g.nons.length - a := List.length_drop
      have hten : ((tl.map (·.1)).map Value.string) = tl.map (fun t => Value.string t.1) := by simp
      obtain ⟨FT, hoT, hFT⟩ := hst.get (k := 2) rfl
      have hTx : (rSlice rStr).at1 w3 w3.heap.size (.slice A tl.length c) (tl.map (·.1)) := by
        have := slice_of_own (r := rStr) (enc := fun s => [Value.string s]) (l := tl.map (·.1)) (B := w3.heap.size) (w := w3) (base := 0) (e := 9) (v := .slice A tl.length c) (by
          have h9 := hoT.1
          rw [List.length_map, show (tl.map (·.1)).flatMap (fun s => [Value.string s]) = tl.map (fun t => Value.string t.1) by
            rw [List.flatMap_map, flat_one]]
          exact h9) (fun _ _ => rfl) (fun x hx => ⟨rfl, by
            obtain ⟨t, ht, rfl⟩ := List.mem_map.1 hx
            have := (hall t ht).name.2.1
            unfold maxLen; omega⟩) (Nat.le_refl _)
        exact this
      refine CALL_of (unlike_ct hTx (Nat.le_refl _)) ?_
      rintro _ w4 ⟨rfl, hc4⟩
      by_cases hd1 : (tl.map (·.1)).Nodup
      case neg =>
        simp -dsimp [go_sem, hd1]
        exact no _ (hst.chg.trans hc4) fun hs => hd1 (by rw [← hE]; exact hs.tnd)
      have hN4 := Rep.below hN2 (hc4.below (B := B) (by have := hst.chg.size; omega) fun _ _ => id)
      have hB4 : B ≤ w4.heap.size := by have := hst.chg.size; have := hc4.size; omega
      simp -dsimp [go_sem, hd1]
      refine CALL_of (unlike_ct hN4 hB4) ?_
      rintro _ w5 ⟨rfl, hc5⟩
      by_cases hd2 : (g.nons.drop a).Nodup
      case neg =>
        simp -dsimp [go_sem, hd2]
        exact no _ ((hst.chg.trans hc4).trans hc5) fun hs => hd2 hs.nnd
      have hN5 := Rep.below hN4 (hc5.below hB4 fun _ _ => id)
      have hB5 : B ≤ w5.heap.size := by have := hc5.size; omega
      simp -dsimp [go_sem, hd2]
      refine CALL_of (ContainsFuncS_ct (p := fun s => !nmB s) hN5 hB5 fun x hx hsz w => ?_) ?_
      · refine gram_symbols_1.ct fun R hR => ?_
        unfold gram_symbols_1.run
        simp -dsimp [go_sem]
        refine CALL_of (isName_ct hsz w) ?_
        rintro _ w' ⟨rfl, hc⟩
        simp -dsimp [go_sem]
        exact hR _ _ ⟨rfl, hc⟩
      · rintro _ w6 ⟨rfl, hc6⟩
        simp -dsimp [go_sem]
        refine hR _ _ ⟨?_, ((hst.chg.trans hc4).trans hc5).trans hc6⟩
        congr 1
        refine bool_eq ?_
        rw [symB_iff]
        constructor
        · intro hb
          refine ⟨ht0, q2, by omega, by omega, by omega, by rw [hE]; exact hall, by rw [hE]; exact hlev, by rw [hE]; exact hd1, hd2, fun s hs => ?_⟩
          refine nmB_iff.1 ?_
          cases e : nmB s with
          | true => rfl
          | false =>
            have : (g.nons.drop a).any (fun s => !nmB s) = true := List.any_eq_true.2 ⟨s, hs, by simp [e]⟩
            rw [this] at hb; cases hb
        · intro hs
          cases e : (g.nons.drop a).any (fun s => !nmB s) with
          | false => rfl
          | true =>
            obtain ⟨s, h1, h2⟩ := List.any_eq_true.1 e
            have := nmB_iff.2 (hs.nnam s h1)
            rw [this] at h2; cases h2
end Go.Proofs.Ytkacbjhiobnbfaa

/-
  Productions that fit.
-/
namespace Go.Proofs.Ytkacbjhiobnbfaa
open Go.Px Go.Px.Scan Go.RowKit
set_option maxHeartbeats 1000000
set_option linter.unusedSimpArgs false
set_option linter.unusedVariables false
set_option maxRecDepth 100000
attribute [-go_sem] Builtin.append_

/-- Numbers that are owned read as a slice. -/
theorem ints_own {G : Nat → Prop} {W w : World} {L : List Ch} (h : St G W w L) (k : Nat) {a : Option Addr} {n c : Nat} {l : List Int} (hk : L[k]? = some (rowC 3 1 a n c (l.map (Value.int .i64 ·)))) (hl : ∀ x ∈ l, inI64 x) : (rSlice rInt).at1 w w.heap.size (.slice a n c) l := by
  obtain ⟨F, ho, _⟩ := h.get hk
  have hn : n = l.length := by have := (row_size ho).1; simpa using this.symm
  subst hn
  exact slice_of_own (r := rInt) (enc := fun x => [Value.int .i64 x]) (base := 0) (e := 3) (by rw [flat_one]; exact ho.1) (fun _ _ => rfl) (fun x hx => ⟨rfl, hl x hx⟩) (Nat.le_refl _)

theorem productions_ct {w : World} {B : Nat} {v : Value} {g : Gr} (h : rGram.atN w B v g) (hB : B ≤ w.heap.size) {a : Nat} (ha : a ≤ 1) (hsy : SymsP g a) : Ct Try.prog gram_productions.id #[v, .int .i64 a] w fun r w' => (∃ vl, r = .tuple #[vl, .bool (prodB g a)] ∧ (prodB g a = true → (rSlice rInt).at1 w' w'.heap.size vl (leftsOf (g.prods.drop a)))) ∧ Chg noB w w' := by
  refine gram_productions.ct fun R hR => ?_
  obtain ⟨A1, c1, A2, c2, A3, c3, A4, c4, rfl, h1, h2, h3, h4, h5, ⟨l1, m1⟩, ⟨l2, m2⟩, ⟨l3, m3⟩, ⟨l4, m4⟩⟩ := (rGram_open h).ex
  have t1 := hsy.t1
  have n0 := hsy.n0
  have n1 := hsy.n1
  have no : ∀ w', Chg noB w w' → ¬ ProdsP g a → R (.returned (.tuple #[.slice none 0 0, .bool false])) w' := fun w' hc hn => hR _ _ ⟨⟨_, by rw [bool_no prodB_iff hn], fun h => by rw [bool_no prodB_iff hn] at h; cases h⟩, hc⟩
  unfold gram_productions.run gram_productions.b1
  simp -dsimp [go_sem]
  have h0 := (St.refl noB w).alloc #[.slice A1 g.terms.length c1, .slice A2 g.nons.length c2, .slice A3 g.levels.length c3, .int .i64 g.start, .slice A4 g.prods.length c4] 27
  generalize w.heap.size = q at h0 ⊢
  generalize w.alloc (.cells #[.slice A1 g.terms.length c1, .slice A2 g.nons.length c2, .slice A3 g.levels.length c3, .int .i64 g.start, .slice A4 g.prods.length c4] 27) = w1 at h0 ⊢
  have k0 := h0.box 0 rfl
  simp [boxAt] at k0
  refine SPL_intro (fun q1 => ?_) (fun q1 => ?_) <;> simp at q1
  · simp -dsimp [go_sem]
    exact no _ h0.chg fun hs => by have := hs.c0; omega
  have w96 : IntKind.i64.wrap (96 + (a : Int)) = 96 + a := IntWalk.i64_in _ (by omega)
  simp -dsimp [go_sem, k0, w96]
  refine SPL_intro (fun q2 => ?_) (fun q2 => ?_) <;> simp at q2
  · exact no _ h0.chg fun hs => by have := hs.c1; omega
  obtain ⟨b4, o4, vr, rfl, hb4, _⟩ := prods_at h5 q1
  have q1' : a ≤ g.prods.length := by omega
  have ws : IntKind.i64.wrap ((g.terms.length : Int) + g.nons.length) = (g.terms.length : Int) + g.nons.length := IntWalk.i64_in _ (by omega)
  have wl : IntKind.i64.wrap ((g.terms.length : Int) + a) = (g.terms.length : Int) + a := IntWalk.i64_in _ (by omega)
  simp -dsimp [go_sem, k0, ws, wl, q1']
  have hP := slice_from (k := a) (o' := o4 + a * 3) h5 q1' (by simp [rPr, Rep.prod, rInt, rSlice])
  generalize (if c4 = a then some (⟨b4, o4, none⟩ : Addr) else some ⟨b4, o4 + a * 3, none⟩) = AP at hP ⊢
  generalize hE : g.prods.drop a = pl at hP ⊢
  have hpl : g.prods.length - a = pl.length := by rw [← hE]; simp
  rw [hpl] at hP ⊢
  have hpm : pl.length ≤ 97 := by omega
  have n0' := h0.nilRow 3 1
  refine gram_productions.l8_intro _ _ _ _ _ _ _ _ _ _ (fun x y w' => ∃ (k : Nat) (A : Option Addr) (n c : Nat), y = .int .i64 k ∧ x = .slice A n c ∧ k ≤ pl.length ∧ n = (leftsOf (pl.take k)).length ∧
    St noB w w' [boxC q 27 [.slice A1 g.terms.length c1, .slice A2 g.nons.length c2, .slice A3 g.levels.length c3, .int .i64 g.start, .slice (some ⟨b4, o4, none⟩) g.prods.length c4], rowC 3 1 A n c ((leftsOf (pl.take k)).map (Value.int .i64 ·))] ∧
    n ≤ k ∧ (∀ p ∈ pl.take k, ProdOk g a p) ∧ ∀ x ∈ leftsOf (pl.take k), inI64 x) (fun _ y _ => pl.length - iv y) ⟨0, none, 0, 0, rfl, rfl, by omega, rfl, by simpa [leftsOf] using n0', by omega, by simp, by simp [leftsOf]⟩ ?_
  rintro _ _ w3 ⟨k, A, n, c, rfl, rfl, hk, hn, hst, hnk, hall, hin⟩ C hC
  have k3 := hst.box 0 rfl
  simp [boxAt] at k3
  simp -dsimp [go_sem]
  refine SPL_intro (fun q6 => ?_) (fun q6 => ?_)
  · have q6' : k < pl.length := by simpa using q6
    obtain ⟨b2, o2, vr, rfl, hb2, d1, d2, d3, dr, i1, i2⟩ := prods_at (Rep.below hP (hst.chg.below hB fun _ _ => id)) q6'
    have hmem : pl[k] ∈ g.prods.drop a := by rw [hE]; exact List.getElem_mem q6'
    obtain ⟨Ar, cr, rfl, lr, mr, _⟩ := slice_form dr
    have hst4 := hst.alloc #[.int .i64 pl[k].1, .slice Ar pl[k].2.1.length cr, .int .i64 pl[k].2.2] 47
    have drw := Rep.below dr (((Chg.refl noB w3).alloc (.cells #[.int .i64 pl[k].1, .slice Ar pl[k].2.1.length cr, .int .i64 pl[k].2.2] 47)).below (B := B) (by have := hst.chg.size; omega) fun _ _ => id)
    simp -dsimp [go_sem, q6', d1, d2, d3]
    generalize w3.alloc (.cells #[.int .i64 pl[k].1, .slice Ar pl[k].2.1.length cr, .int .i64 pl[k].2.2] 47) = w4 at hst4 drw ⊢
    generalize w3.heap.size = tb at hst4 ⊢
    have k4 := hst4.box 0 rfl
    have kt := hst4.box 2 rfl
    simp [boxAt] at k4 kt
    have bad : ¬ ProdOk g a pl[k] → ¬ ProdsP g a := fun hn hs => hn (hs.each _ hmem)
    refine SPL_intro (fun q7 => ?_) (fun q7 => ?_) <;> simp at q7
    · simp -dsimp [go_sem]
      exact no _ hst4.chg (bad fun hs => by have := hs.l0; omega)
    simp -dsimp [go_sem, kt, k4]
    refine SPL_intro (fun q8 => ?_) (fun q8 => ?_) <;> simp at q8
    · simp -dsimp [go_sem]
      exact no _ hst4.chg (bad fun hs => by have := hs.l1; omega)
    simp -dsimp [go_sem, kt, k4]
    refine SPL_intro (fun q9 => ?_) (fun q9 => ?_) <;> simp at q9
    · simp -dsimp [go_sem]
      exact no _ hst4.chg (bad fun hs => by have := hs.v0; omega)
    simp -dsimp [go_sem, kt, k4]
    refine SPL_intro (fun q10 => ?_) (fun q10 => ?_) <;> simp at q10
    · exact no _ hst4.chg (bad fun hs => by have := hs.v1; omega)
    simp -dsimp [go_sem, kt, k4]
    refine gram_productions.l19_intro _ _ _ _ _ _ _ _ _ _ _ _ (fun y w' => ∃ j : Nat, y = .int .i64 j ∧ j ≤ pl[k].2.1.length ∧ w4 = w' ∧ ∀ s ∈ pl[k].2.1.take j, 1 ≤ s ∧ s < (g.terms.length + g.nons.length : Int) ∧ ((g.terms.length : Int) ≤ s → (g.terms.length + a : Int) ≤ s)) (fun y _ => pl[k].2.1.length - iv y) ⟨0, rfl, by omega, rfl, by simp⟩ ?_
    rintro _ _ ⟨j, rfl, hj, rfl, hjl⟩ C' hC'
    simp -dsimp [go_sem]
    refine SPL_intro (fun q11 => ?_) (fun q11 => ?_) <;> simp at q11
    · obtain ⟨b3, o3, rfl, hb3, f1, f2⟩ := Go.Px.ints_at drw q11
      have wj := wrap_succ q11 (Nat.le_trans lr mr)
      simp -dsimp [go_sem, q11, f1]
      have bad2 : ¬ (1 ≤ pl[k].2.1[j] ∧ pl[k].2.1[j] < (g.terms.length + g.nons.length : Int) ∧ ((g.terms.length : Int) ≤ pl[k].2.1[j] → (g.terms.length + a : Int) ≤ pl[k].2.1[j])) → ¬ ProdsP g a := fun hn => bad fun hs => hn (hs.right _ (List.getElem_mem q11))
      refine SPL_intro (fun q12 => ?_) (fun q12 => ?_) <;> simp at q12
      · simp -dsimp [go_sem]
        exact no _ hst4.chg (bad2 fun hs => by omega)
      simp -dsimp [go_sem, k4]
      refine SPL_intro (fun q13 => ?_) (fun q13 => ?_) <;> simp at q13
      · simp -dsimp [go_sem]
        exact no _ hst4.chg (bad2 fun hs => by omega)
      simp -dsimp [go_sem, k4]
      have go : (1 ≤ pl[k].2.1[j] ∧ pl[k].2.1[j] < (g.terms.length + g.nons.length : Int) ∧ ((g.terms.length : Int) ≤ pl[k].2.1[j] → (g.terms.length + a : Int) ≤ pl[k].2.1[j])) → C' (.int .i64 ((j : Int) + 1)) w4 := fun hg => by
        refine hC' _ _ ⟨j + 1, by simp, by omega, rfl, fun s hs => ?_⟩ (by simp [iv]; omega)
        rw [List.take_succ_eq_append_getElem q11] at hs
        rcases List.mem_append.1 hs with hs | hs
        · exact hjl s hs
        · rw [List.mem_singleton.1 hs]; exact hg
      refine SPL_intro (fun q14 => ?_) (fun q14 => ?_) <;> simp at q14
      · simp -dsimp [go_sem, wj]
        refine SPL_intro (fun q15 => ?_) (fun q15 => ?_) <;> simp at q15
        · exact no _ hst4.chg (bad2 fun hs => by omega)
        · simp -dsimp [go_sem, wj]
          exact go (by omega)
      · simp -dsimp [go_sem, wj]
        exact go (by omega)
    · have hja : j = pl[k].2.1.length := by omega
      subst hja
      rw [List.take_length] at hjl
      have hok : ProdOk g a pl[k] := ⟨by omega, by omega, by omega, by omega, hjl⟩
      have hlefts := ints_own hst4 1 rfl hin
      simp -dsimp [go_sem, kt]
      refine CALL_of (Contains_ct hlefts) ?_
      rintro _ _ ⟨rfl, rfl⟩
      have wk : IntKind.i64.wrap ((k : Int) + 1) = (k : Int) + 1 := IntWalk.i64_in _ (by omega)
      have htk : pl.take (k + 1) = pl.take k ++ [pl[k]] := List.take_succ_eq_append_getElem q6'
      have hlt : leftsOf (pl.take (k + 1)) = addL (leftsOf (pl.take k)) pl[k].1 := by rw [htk, leftsOf_snoc]
      have hall' : ∀ p ∈ pl.take (k + 1), ProdOk g a p := by
        intro p hp
        rw [htk] at hp
        rcases List.mem_append.1 hp with hp | hp
        · exact hall p hp
        · rw [List.mem_singleton.1 hp]; exact hok
      by_cases hc : pl[k].1 ∈ leftsOf (pl.take k)
      · have ha : addL (leftsOf (pl.take k)) pl[k].1 = leftsOf (pl.take k) := if_pos hc
        rw [ha] at hlt
        simp -dsimp [go_sem, hc, wk]
        have h8 := hst4.take 2
        rw [← hlt] at h8
        refine hC _ _ _ ⟨k + 1, _, _, _, by simp, rfl, by omega, by rw [hlt]; exact hn, h8, by omega, hall', ?_⟩ (by simp [iv]; omega)
        rw [hlt]; exact hin
      · have ha : addL (leftsOf (pl.take k)) pl[k].1 = leftsOf (pl.take k) ++ [pl[k].1] := if_neg hc
        rw [ha] at hlt
        simp -dsimp [go_sem, hc, kt]
        refine hst4.append1 1 rfl uInts iInt rfl (by omega) (news := [.int .i64 pl[k].1]) rfl (by simp [Value.oneCell']) (by unfold maxLen; omega) (by unfold maxBytes; omega) ?_
        intro g' cap w6 hst6
        simp -dsimp [go_sem, wk]
        have h8 := hst6.take 2
        have em : (leftsOf (pl.take k)).map (Value.int .i64 ·) ++ [.int .i64 pl[k].1] = (leftsOf (pl.take (k + 1))).map (Value.int .i64 ·) := by rw [hlt, List.map_append]; rfl
        rw [em] at h8
        refine hC _ _ _ ⟨k + 1, _, _, _, by simp, rfl, by omega, by rw [hlt, List.length_append, hn]; rfl, h8, by omega, hall', ?_⟩ (by simp [iv]; omega)
        rw [hlt]
        intro x hx
        rcases List.mem_append.1 hx with hx | hx
        · exact hin x hx
        · rw [List.mem_singleton.1 hx]; exact i1
  · have hka : k = pl.length := by
      have : ¬ k < pl.length := by simpa using q6
      omega
    subst hka
    rw [List.take_length] at hst hall hn hin
    clear hC C
    have hstd := hst.old ((Chg.refl noB w3).drew)
    have kd := hstd.box 0 rfl
    simp [boxAt] at kd
    have wn : IntKind.i64.wrap ((g.nons.length : Int) - a) = (g.nons.length : Int) - a := IntWalk.i64_in _ (by omega)
    have hlefts := ints_own hstd 1 rfl hin
    simp -dsimp [go_sem, kd, k3, wn]
    have fin : ∀ b : Bool, (b = true ↔ ProdsP g a) → R (.returned (.tuple #[.slice A n c, .bool b])) w3.drew := fun b hb =>
      hR _ _ ⟨⟨.slice A n c, (by rw [← bool_eq (hb.trans prodB_iff.symm)]), fun _ => by rw [hE]; exact hlefts⟩, hstd.chg⟩
    have each : ∀ p ∈ g.prods.drop a, ProdOk g a p := by rw [hE]; exact hall
    refine SPL_intro (fun q7 => ?_) (fun q7 => ?_) <;> simp at q7
    · simp -dsimp [go_sem, kd, k3]
      refine SPL_intro (fun q8 => ?_) (fun q8 => ?_) <;> simp at q8
      · simp -dsimp [go_sem, kd, k3]
        refine fin _ ?_
        rw [decide_eq_true_iff]
        exact ⟨fun hs => ⟨by omega, by omega, each, by rw [hE, ← hn]; omega, q8, hs⟩, fun hs => hs.s1⟩
      · exact fin false ⟨fun h => (by cases h), fun hs => by have := hs.s0; omega⟩
    · exact fin false ⟨fun h => (by cases h), fun hs => by have := hs.lefts; rw [hE, ← hn] at this; omega⟩
end Go.Proofs.Ytkacbjhiobnbfaa

/-
  Valid and Closed.
-/
namespace Go.Proofs.Ytkacbjhiobnbfaa
open Go.Px Go.Px.Scan Go.RowKit
set_option maxHeartbeats 1000000
set_option linter.unusedSimpArgs false
set_option linter.unusedVariables false
set_option maxRecDepth 100000
attribute [-go_sem] Builtin.append_

theorem Valid_ct {w : World} {B : Nat} {v : Value} {g : Gr} (h : rGram.atN w B v g) (hB : B ≤ w.heap.size) : Ct Try.prog gram_Valid.id #[v] w fun r w' => r = .bool (validB g) ∧ Chg noB w w' := by
  refine gram_Valid.ct fun R hR => ?_
  obtain ⟨A1, c1, A2, c2, A3, c3, A4, c4, rfl, h1, h2, h3, h4, h5, ⟨l1, m1⟩, ⟨l2, m2⟩, ⟨l3, m3⟩, ⟨l4, m4⟩⟩ := (rGram_open h).ex
  have no : ∀ w', Chg noB w w' → ¬ ValidP g → R (.returned (.bool false)) w' := fun w' hc hn => hR _ _ ⟨by rw [bool_no validB_iff hn], hc⟩
  unfold gram_Valid.run
  simp -dsimp [go_sem]
  have h0 := (St.refl noB w).alloc #[.slice A1 g.terms.length c1, .slice A2 g.nons.length c2, .slice A3 g.levels.length c3, .int .i64 g.start, .slice A4 g.prods.length c4] 27
  have hb1 := h0.chg.below hB fun _ _ => id
  have hB1 : B ≤ (w.alloc (.cells #[.slice A1 g.terms.length c1, .slice A2 g.nons.length c2, .slice A3 g.levels.length c3, .int .i64 g.start, .slice A4 g.prods.length c4] 27)).heap.size := by have := h0.chg.size; omega
  generalize w.heap.size = q at h0 ⊢
  generalize w.alloc (.cells #[.slice A1 g.terms.length c1, .slice A2 g.nons.length c2, .slice A3 g.levels.length c3, .int .i64 g.start, .slice A4 g.prods.length c4] 27) = w1 at h0 hb1 hB1 ⊢
  refine CALL_of (symbols_ct (rGram_below h hb1) hB1 (a := 0) (by omega)) ?_
  rintro _ w2 ⟨rfl, hc2⟩
  have hst2 := h0.old hc2
  have k2 := hst2.box 0 rfl
  simp [boxAt] at k2
  cases hs : symB g 0 with
  | false =>
    simp -dsimp [go_sem]
    refine no _ hst2.chg fun hv => ?_
    rw [symB_iff.2 hv.syms] at hs; cases hs
  | true =>
    have hsP := symB_iff.1 hs
    simp -dsimp [go_sem, k2]
    have hb2 := hst2.chg.below (B := B) (by omega) fun _ _ => id
    refine CALL_of (productions_ct (rGram_below h hb2) (by have := hc2.size; omega) (a := 0) (by omega) hsP) ?_
    rintro _ w3 ⟨⟨vl, rfl, hl⟩, hc3⟩
    have hst3 := hst2.old hc3
    simp -dsimp [go_sem]
    cases hp : prodB g 0 with
    | false =>
      simp -dsimp [go_sem]
      refine no _ hst3.chg fun hv => ?_
      rw [prodB_iff.2 hv.prods] at hp; cases hp
    | true =>
      have hpP := prodB_iff.1 hp
      have hl' := hl hp
      rw [List.drop_zero] at hl'
      simp -dsimp [go_sem]
      refine CALL_of (IsSorted_ct hl' (Nat.le_refl _)) ?_
      rintro _ w4 ⟨rfl, hc4⟩
      refine hR _ _ ⟨?_, hst3.chg.trans hc4⟩
      congr 1
      refine bool_eq ?_
      rw [decide_eq_true_iff, validB_iff]
      exact ⟨fun hs => ⟨hsP, hpP, hs⟩, fun hv => hv.sorted⟩

theorem Closed_ct {w : World} {B : Nat} {v : Value} {g : Gr} (h : rGram.atN w B v g) (hB : B ≤ w.heap.size) : Ct Try.prog gram_Closed.id #[v] w fun r w' => r = .bool (closedB g) ∧ Chg noB w w' := by
  refine gram_Closed.ct fun R hR => ?_
  obtain ⟨A1, c1, A2, c2, A3, c3, A4, c4, rfl, h1, h2, h3, h4, h5, ⟨l1, m1⟩, ⟨l2, m2⟩, ⟨l3, m3⟩, ⟨l4, m4⟩⟩ := (rGram_open h).ex
  have no : ∀ w', Chg noB w w' → ¬ ClosedP g → R (.returned (.bool false)) w' := fun w' hc hn => hR _ _ ⟨by rw [bool_no closedB_iff hn], hc⟩
  unfold gram_Closed.run
  simp -dsimp [go_sem]
  have h0 := (St.refl noB w).alloc #[.slice A1 g.terms.length c1, .slice A2 g.nons.length c2, .slice A3 g.levels.length c3, .int .i64 g.start, .slice A4 g.prods.length c4] 27
  have hb1 := h0.chg.below hB fun _ _ => id
  have hB1 : B ≤ (w.alloc (.cells #[.slice A1 g.terms.length c1, .slice A2 g.nons.length c2, .slice A3 g.levels.length c3, .int .i64 g.start, .slice A4 g.prods.length c4] 27)).heap.size := by have := h0.chg.size; omega
  generalize w.heap.size = q at h0 ⊢
  generalize w.alloc (.cells #[.slice A1 g.terms.length c1, .slice A2 g.nons.length c2, .slice A3 g.levels.length c3, .int .i64 g.start, .slice A4 g.prods.length c4] 27) = w1 at h0 hb1 hB1 ⊢
  have k0 := h0.box 0 rfl
  simp [boxAt] at k0
  refine SPL_intro (fun q1 => ?_) (fun q1 => ?_) <;> simp at q1
  · simp -dsimp [go_sem]
    exact no _ h0.chg fun hv => by have := hv.first; rw [q1] at this; cases this
  have q1' : 0 < g.nons.length := List.length_pos_iff.2 q1
  obtain ⟨b2, o2, rfl, hb2, d1, d2⟩ := Go.Px.strs_at (Rep.below h2 hb1) q1'
  simp at d1
  simp -dsimp [go_sem, k0, q1', d1]
  have hf : g.nons.head? = some g.nons[0] := by rw [List.head?_eq_getElem?, List.getElem?_eq_getElem q1']
  refine SPL_intro (fun p1 => ?_) (fun p1 => ?_) <;> simp at p1
  · simp -dsimp [go_sem]
    refine no _ h0.chg fun hv => p1 ?_
    have h9 := hv.first
    rw [hf] at h9
    injection h9 with h9
    rw [h9, ByteArray.toList_eq]
  have hfirst : g.nons.head? = some ⟨#[]⟩ := by
    rw [hf]
    congr 1
    exact bs_ext (by rw [← ByteArray.toList_eq]; exact p1)
  simp -dsimp [go_sem, k0]
  refine CALL_of (symbols_ct (rGram_below h hb1) hB1 (a := 1) (by omega)) ?_
  rintro _ w2 ⟨rfl, hc2⟩
  have hst2 := h0.old hc2
  have k2 := hst2.box 0 rfl
  simp [boxAt] at k2
  cases hs : symB g 1 with
  | false =>
    simp -dsimp [go_sem]
    refine no _ hst2.chg fun hv => ?_
    rw [symB_iff.2 hv.syms] at hs; cases hs
  | true =>
    have hsP := symB_iff.1 hs
    simp -dsimp [go_sem, k2]
    have hb2 := hst2.chg.below (B := B) (by omega) fun _ _ => id
    have hB2 : B ≤ w2.heap.size := by have := hc2.size; omega
    refine CALL_of (productions_ct (rGram_below h hb2) hB2 (a := 1) (by omega) hsP) ?_
    rintro _ w3 ⟨⟨vl, rfl, hl⟩, hc3⟩
    have hst3 := hst2.old hc3
    have k3 := hst3.box 0 rfl
    simp [boxAt] at k3
    cases hp : prodB g 1 with
    | false =>
      simp -dsimp [go_sem, k3]
      refine no _ hst3.chg.drew fun hv => ?_
      rw [prodB_iff.2 hv.prods] at hp; cases hp
    | true =>
      have hpP := prodB_iff.1 hp
      have hc0 : 0 < g.prods.length := by have := hpP.c0; omega
      have hstd := hst3.old ((Chg.refl noB w3).drew)
      have kd := hstd.box 0 rfl
      simp [boxAt] at kd
      have hB3 : B ≤ w3.drew.heap.size := by have := hc3.size; simp; omega
      obtain ⟨b5, o5, vr, rfl, hb5, f1, f2, f3, fr, i1, i2⟩ := prods_at (Rep.below h5 (hstd.chg.below hB fun _ _ => id)) hc0
      obtain ⟨Ar, cr, rfl, lr, mr, _⟩ := slice_form fr
      simp at f1 f2 f3
      have hph : g.prods.head? = some g.prods[0] := by rw [List.head?_eq_getElem?, List.getElem?_eq_getElem hc0]
      have fin : ∀ b : Bool, (b = true ↔ g.prods[0] = ((g.terms.length : Int), [g.start], 0)) → R (.returned (.bool b)) w3.drew := fun b hb => by
        refine hR _ _ ⟨?_, hstd.chg⟩
        congr 1
        refine bool_eq ?_
        rw [closedB_iff, hb]
        constructor
        · intro e; exact ⟨hfirst, hsP, hpP, by rw [hph, e]⟩
        · intro hv
          have := hv.added
          rw [hph] at this
          injection this
      simp -dsimp [go_sem, k3, kd, hc0, f1, f2, f3]
      refine SPL_intro (fun q2 => ?_) (fun q2 => ?_) <;> simp at q2
      · simp -dsimp [go_sem, k3, kd, hc0, f1, f2, f3]
        refine SPL_intro (fun q3 => ?_) (fun q3 => ?_) <;> simp at q3
        · have q3' : 0 < g.prods[0].2.1.length := by omega
          obtain ⟨b6, o6, rfl, hb6, e1, e2⟩ := Go.Px.ints_at fr q3'
          simp at e1
          simp -dsimp [go_sem, k3, kd, hc0, f1, f2, f3, q3', e1]
          have hl1 : g.prods[0].2.1 = [g.prods[0].2.1[0]] := by
            apply List.ext_getElem?
            intro i
            cases i with
            | zero => simp [List.getElem?_eq_getElem q3']
            | succ i => simp; omega
          refine SPL_intro (fun q4 => ?_) (fun q4 => ?_) <;> simp at q4
          · simp -dsimp [go_sem, k3, kd, hc0, f1, f2, f3, q3']
            refine fin _ ?_
            rw [beq_iff_eq]
            constructor
            · intro e
              refine Prod.ext q2 (Prod.ext ?_ e)
              show g.prods[0].2.1 = [g.start]
              rw [hl1, q4]
            · intro e; rw [e]
          · refine fin false ⟨fun h => (by cases h), fun e => ?_⟩
            refine absurd ?_ q4
            have e2 : g.prods[0].2.1 = [g.start] := by rw [e]
            simp only [e2, List.getElem_cons_zero]
        · refine fin false ⟨fun h => (by cases h), fun e => ?_⟩
          rw [e] at q3; simp at q3
      · refine fin false ⟨fun h => (by cases h), fun e => ?_⟩
        rw [e] at q2; exact absurd rfl q2
end Go.Proofs.Ytkacbjhiobnbfaa

