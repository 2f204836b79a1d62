/-
  Texts of this claim: Gs3b, Gs4, Gs5, Gr3, Gr4, Cp1, GwT, Ea1, Ea2.
-/
import Derived.Test.YtkacbjhiobnbfaaY13
import Derived.Test.YtkacbjhiobnbfaaY03
/-
  Searches in slices, and whether one is sorted.
-/
namespace Go.Proofs.Ytkacbjhiobnbfaa
open Go.Px Go.Px.Scan Go.RowKit
set_option maxHeartbeats 1000000
set_option linter.unusedSimpArgs false
set_option linter.unusedVariables false
set_option maxRecDepth 100000
attribute [-go_sem] Builtin.append_

theorem IndexFuncS_ct {w : World} {B : Nat} {v : Value} {l : List ByteArray} (h : (rSlice rStr).at1 w B v l) (hB : B ≤ w.heap.size) {g : FuncId} {first cap : Array Value} {p : ByteArray → Bool}
    (hp : ∀ x ∈ l, x.size ≤ maxLen → ∀ w, Ct Try.prog g (first.toList ++ [Value.string x] ++ cap.toList).toArray w fun v w' => v = .bool (p x) ∧ Chg noB w w') :
    Ct Try.prog slices_IndexFunc_string_string.id #[v, .func (.func g) first cap] w fun r w' => (∃ i, r = .int .i64 i ∧ (0 ≤ i ↔ l.any p = true) ∧ i ≤ l.length) ∧ Chg noB w w' := by
  refine slices_IndexFunc_string_string.ct fun R hR => ?_
  obtain ⟨A, c, rfl, hl, hm, _⟩ := slice_form h
  unfold slices_IndexFunc_string_string.run
  simp -dsimp [go_sem]
  refine slices_IndexFunc_string_string.l6_intro _ _ _ _ _ _ (fun x w1 => ∃ k : Nat, x = .int .i64 k ∧ k ≤ l.length ∧ (l.take k).any p = false ∧ Chg noB w w1) (fun x _ => l.length - iv x) ⟨0, rfl, by omega, by simp, Chg.refl _ _⟩ ?_
  rintro _ w1 ⟨k, rfl, hk, hall, hcw⟩ C hC
  simp -dsimp [go_sem]
  refine SPL_intro (fun h2 => ?_) (fun h2 => ?_) <;> simp at h2
  · obtain ⟨b1, o1, rfl, hb1, hc1, hr1⟩ := Go.Px.strs_at (Rep.below h (hcw.below hB fun _ _ => id)) h2
    have wk := wrap_succ h2 (Nat.le_trans hl hm)
    simp -dsimp [go_sem, h2, hc1]
    refine CALLY_of (hp l[k] (List.getElem_mem h2) hr1 _) ?_
    rintro _ w2 ⟨rfl, hc2⟩
    refine SPL_intro (fun h3 => ?_) (fun h3 => ?_)
    · refine hR _ _ ⟨⟨k, rfl, ?_, by omega⟩, hcw.trans hc2⟩
      refine ⟨fun _ => List.any_eq_true.2 ⟨_, List.getElem_mem h2, h3⟩, fun _ => by omega⟩
    · simp -dsimp [go_sem, wk]
      refine hC _ _ ⟨k + 1, by simp, by omega, ?_, hcw.trans hc2⟩ (by simp [iv]; omega)
      rw [List.take_succ_eq_append_getElem h2, List.any_append, hall]
      simp [h3]
  · have hka : k = l.length := by omega
    rw [hka, List.take_length] at hall
    simp -dsimp [go_sem]
    exact hR _ _ ⟨⟨-1, rfl, by rw [hall]; simp, by omega⟩, hcw⟩

theorem ContainsFuncS_ct {w : World} {B : Nat} {v : Value} {l : List ByteArray} (h : (rSlice rStr).at1 w B v l) (hB : B ≤ w.heap.size) {g : FuncId} {first cap : Array Value} {p : ByteArray → Bool}
    (hp : ∀ x ∈ l, x.size ≤ maxLen → ∀ w, Ct Try.prog g (first.toList ++ [Value.string x] ++ cap.toList).toArray w fun v w' => v = .bool (p x) ∧ Chg noB w w') :
    Ct Try.prog slices_ContainsFunc_string_string.id #[v, .func (.func g) first cap] w fun r w' => r = .bool (l.any p) ∧ Chg noB w w' := by
  refine slices_ContainsFunc_string_string.ct fun R hR => ?_
  unfold slices_ContainsFunc_string_string.run
  simp -dsimp [go_sem]
  refine CALL_of (IndexFuncS_ct h hB hp) ?_
  rintro _ w1 ⟨⟨i, rfl, hi, _⟩, hc⟩
  simp -dsimp [go_sem]
  refine hR _ _ ⟨?_, hc⟩
  congr 1
  cases ha : l.any p
  · rw [ha] at hi; simpa using hi
  · rw [ha] at hi; simpa using hi

theorem Index_ct {w : World} {B : Nat} {v : Value} {l : List Int} (h : (rSlice rInt).at1 w B v l) {x : Int} :
    Ct Try.prog slices_Index_int_int.id #[v, .int .i64 x] w fun r w' => (∃ i, r = .int .i64 i ∧ (0 ≤ i ↔ x ∈ l)) ∧ w = w' := by
  refine slices_Index_int_int.ct fun R hR => ?_
  obtain ⟨A, c, rfl, hl, hm, _⟩ := slice_form h
  unfold slices_Index_int_int.run
  simp -dsimp [go_sem]
  refine slices_Index_int_int.l6_intro _ _ _ _ _ _ (fun y w1 => ∃ k : Nat, y = .int .i64 k ∧ k ≤ l.length ∧ x ∉ l.take k ∧ w = w1) (fun y _ => l.length - iv y) ⟨0, rfl, by omega, by simp, rfl⟩ ?_
  rintro _ _ ⟨k, rfl, hk, hall, rfl⟩ C hC
  simp -dsimp [go_sem]
  refine SPL_intro (fun h2 => ?_) (fun h2 => ?_) <;> simp at h2
  · obtain ⟨b1, o1, rfl, hb1, hc1, hr1⟩ := Go.Px.ints_at h h2
    have wk := wrap_succ h2 (Nat.le_trans hl hm)
    simp -dsimp [go_sem, h2, hc1]
    refine SPL_intro (fun h3 => ?_) (fun h3 => ?_) <;> simp at h3
    · refine hR _ _ ⟨⟨k, rfl, ?_⟩, rfl⟩
      exact ⟨fun _ => by rw [h3]; exact List.getElem_mem h2, fun _ => by omega⟩
    · simp -dsimp [go_sem, wk]
      have hno : x ∉ l.take (k + 1) := by
        rw [List.take_succ_eq_append_getElem h2, List.mem_append]
        simp [hall, h3]
      exact hC _ _ ⟨k + 1, by simp, by omega, hno, rfl⟩ (by simp [iv]; omega)
  · have hka : k = l.length := by omega
    rw [hka, List.take_length] at hall
    simp -dsimp [go_sem]
    exact hR _ _ ⟨⟨-1, rfl, by simp [hall]⟩, rfl⟩

theorem Contains_ct {w : World} {B : Nat} {v : Value} {l : List Int} (h : (rSlice rInt).at1 w B v l) {x : Int} :
    Ct Try.prog slices_Contains_int_int.id #[v, .int .i64 x] w fun r w' => r = .bool (decide (x ∈ l)) ∧ w = w' := by
  refine slices_Contains_int_int.ct fun R hR => ?_
  unfold slices_Contains_int_int.run
  simp -dsimp [go_sem]
  refine CALL_of (Index_ct h) ?_
  rintro _ _ ⟨⟨i, rfl, hi⟩, rfl⟩
  simp -dsimp [go_sem]
  refine hR _ _ ⟨?_, rfl⟩
  congr 1
  exact decide_eq_decide.2 hi

theorem Less_ct (x y : Int) (w : World) : Ct Try.prog cmp_Less_int.id #[.int .i64 x, .int .i64 y] w fun r w' => r = .bool (decide (x < y)) ∧ w = w' := by
  have nan : ∀ (x : Int) (w : World), Ct Try.prog cmp_isNaN_int.id #[.int .i64 x] w fun r w' => r = .bool false ∧ w = w' := by
    intro x w
    refine cmp_isNaN_int.ct fun R hR => ?_
    unfold cmp_isNaN_int.run
    simp -dsimp [go_sem]
    exact hR _ _ ⟨by simp, rfl⟩
  refine cmp_Less_int.ct fun R hR => ?_
  unfold cmp_Less_int.run
  simp -dsimp [go_sem]
  refine CALL_of (nan x w) ?_
  rintro _ _ ⟨rfl, rfl⟩
  simp -dsimp [go_sem]
  exact hR _ _ ⟨rfl, rfl⟩

theorem IsSorted_ct {w : World} {B : Nat} {v : Value} {l : List Int} (h : (rSlice rInt).at1 w B v l) (hB : B ≤ w.heap.size) :
    Ct Try.prog slices_IsSorted_int_int.id #[v] w fun r w' => r = .bool (decide (l.Pairwise (· ≤ ·))) ∧ Chg noB w w' := by
  refine slices_IsSorted_int_int.ct fun R hR => ?_
  obtain ⟨A, c, rfl, hl, hm, _⟩ := slice_form h
  have key : l.Pairwise (· ≤ ·) ↔ ∀ i (hi : i + 1 < l.length), l[i] ≤ l[i + 1] := by
    constructor
    · intro hp i hi
      exact List.pairwise_iff_getElem.1 hp i (i + 1) (by omega) hi (by omega)
    · intro hp
      refine List.pairwise_iff_getElem.2 fun i j hi hj hij => ?_
      have : ∀ d (hd : i + d < l.length), l[i] ≤ l[i + d] := by
        intro d
        induction d with
        | zero => intro _; exact Int.le_refl _
        | succ d ih => intro hd; exact Int.le_trans (ih (by omega)) (hp (i + d) hd)
      have h9 := this (j - i) (by omega)
      simpa [show i + (j - i) = j by omega] using h9
  unfold slices_IsSorted_int_int.run
  have wl : IntKind.i64.wrap ((l.length : Int) - 1) = (l.length : Int) - 1 := IntWalk.i64_in _ (by unfold maxLen at hm; omega)
  simp -dsimp [go_sem, wl]
  refine slices_IsSorted_int_int.l6_intro _ _ _ _ (fun y w1 => ∃ k : Int, y = .int .i64 k ∧ k < l.length ∧ (∀ i (hi : i + 1 < l.length), k < (i : Int) + 1 → l[i] ≤ l[i + 1]) ∧ Chg noB w w1) (fun y _ => iv y) ⟨_, rfl, by omega, fun i hi h9 => by omega, Chg.refl _ _⟩ ?_
  rintro _ w1 ⟨k, rfl, hk, hall, hcw⟩ C hC
  simp -dsimp [go_sem]
  refine SPL_intro (fun h2 => ?_) (fun h2 => ?_) <;> simp at h2
  · obtain ⟨n, rfl⟩ : ∃ n : Nat, k = (n : Int) + 1 := ⟨(k - 1).toNat, by omega⟩
    have hn1 : n + 1 < l.length := by omega
    obtain ⟨b1, o1, rfl, hb1, hc1, hr1⟩ := Go.Px.ints_at (Rep.below h (hcw.below hB fun _ _ => id)) hn1
    obtain ⟨b2, o2, e2, hb2, hc2, hr2⟩ := Go.Px.ints_at (Rep.below h (hcw.below hB fun _ _ => id)) (show n < l.length by omega)
    injection e2 with e2; injection e2 with e2 e3; subst e2 e3
    have wk : IntKind.i64.wrap ((n : Int) + 1 - 1) = (n : Int) := by rw [show (n : Int) + 1 - 1 = n by omega]; exact IntWalk.i64_in _ (by unfold maxLen at hm; omega)
    have hn0 : n < l.length := by omega
    have q1 : (0 : Int) ≤ (n : Int) + 1 := by omega
    have q2 : (n : Int) + 1 < l.length := by omega
    have wk' : IntKind.i64.wrap (n : Int) = (n : Int) := IntWalk.i64_in _ (by unfold maxLen at hm; omega)
    simp -dsimp [go_sem, q1, q2, hn0, hc1, hc2, wk']
    refine CALL_of (Less_ct _ _ _) ?_
    rintro _ _ ⟨rfl, rfl⟩
    refine SPL_intro (fun h3 => ?_) (fun h3 => ?_) <;> simp at h3
    · refine hR _ _ ⟨?_, hcw.drew⟩
      congr 1
      refine (decide_eq_false fun hp => ?_).symm
      have := key.1 hp n hn1
      omega
    · simp -dsimp [go_sem, wk']
      refine hC _ _ ⟨n, rfl, by omega, fun i hi h9 => ?_, hcw.drew⟩ (by simp [iv])
      by_cases e : i = n
      · subst e; exact h3
      · exact hall i hi (by omega)
  · simp -dsimp [go_sem]
    refine hR _ _ ⟨?_, hcw⟩
    congr 1
    exact (decide_eq_true (key.2 fun i hi => hall i hi (by omega))).symm
end Go.Proofs.Ytkacbjhiobnbfaa

/-
  Terminals, nonterminals, levels that fit.
-/
namespace Go.Proofs.Ytkacbjhiobnbfaa
open Go.Px Go.Px.Scan Go.RowKit
set_option maxHeartbeats 1000000
set_option linter.unusedSimpArgs false
set_option linter.unusedVariables false
set_option maxRecDepth 100000
attribute [-go_sem] Builtin.append_

theorem symbols_ct {w : World} {B : Nat} {v : Value} {g : Gr} (h : rGram.atN w B v g) (hB : B ≤ w.heap.size) {a : Nat} (ha : a ≤ 1) : Ct Try.prog gram_symbols.id #[v, .int .i64 a] w fun r w' => r = .bool (symB g a) ∧ Chg noB w w' := by
  refine gram_symbols.ct fun R hR => ?_
  obtain ⟨A1, c1, A2, c2, A3, c3, A4, c4, rfl, h1, h2, h3, h4, h5, ⟨l1, m1⟩, ⟨l2, m2⟩, ⟨l3, m3⟩, ⟨l4, m4⟩⟩ := (rGram_open h).ex
  have no : ∀ w', Chg noB w w' → ¬ SymsP g a → R (.returned (.bool false)) w' := fun w' hc hn => hR _ _ ⟨by rw [bool_no symB_iff hn], hc⟩
  unfold gram_symbols.run gram_symbols.b1
  simp -dsimp [go_sem]
  have h0 := (St.refl noB w).alloc #[.slice A1 g.terms.length c1, .slice A2 g.nons.length c2, .slice A3 g.levels.length c3, .int .i64 g.start, .slice A4 g.prods.length c4] 27
  generalize w.heap.size = q at h0 ⊢
  generalize w.alloc (.cells #[.slice A1 g.terms.length c1, .slice A2 g.nons.length c2, .slice A3 g.levels.length c3, .int .i64 g.start, .slice A4 g.prods.length c4] 27) = w1 at h0 ⊢
  have k0 := h0.box 0 rfl
  simp [boxAt] at k0
  have b29f : ∀ w', Chg noB w w' → ¬ SymsP g a → gram_symbols.b29 R (.int .i64 a) (.pointer (some ⟨q, 0, none⟩)) (.bool true) w' := fun w' hc hn => by
    simp -dsimp [go_sem]
    exact no _ hc hn
  refine SPL_intro (fun q1 => ?_) (fun q1 => ?_) <;> simp at q1
  · exact b29f _ h0.chg fun hs => by have := hs.t0; rw [q1] at this; cases this
  have q1' : 0 < g.terms.length := List.length_pos_iff.2 q1
  obtain ⟨b1, o1, rfl, hb1, hc1, hc1', _, _⟩ := terms_at (Rep.below h1 (h0.chg.below hB fun _ _ => id)) q1'
  simp at hc1 hc1'
  simp -dsimp [go_sem, k0, q1', hc1, hc1']
  have t0 : ¬ (g.terms[0].1.toList = [] ∧ g.terms[0].2 = 0) → ¬ SymsP g a := fun hn hs => by
    have h9 := hs.t0
    rw [List.head?_eq_getElem?, List.getElem?_eq_getElem q1'] at h9
    injection h9 with h9
    rw [h9] at hn
    exact hn ⟨by rw [ByteArray.toList_eq], rfl⟩
  by_cases p1 : g.terms[0].1.toList = []
  case neg =>
    simp -dsimp [go_sem, p1]
    exact no _ h0.chg (t0 fun h => p1 h.1)
  by_cases p2 : g.terms[0].2 = 0
  case neg =>
    simp -dsimp [go_sem, p1, p2]
    exact no _ h0.chg (t0 fun h => p2 h.2)
  have ht0 : g.terms.head? = some (⟨#[]⟩, 0) := by
    rw [List.head?_eq_getElem?, List.getElem?_eq_getElem q1']
    congr 1
    refine Prod.ext ?_ p2
    exact bs_ext (by rw [← ByteArray.toList_eq]; exact p1)
  clear t0
  simp -dsimp [go_sem, p1, p2, k0]
  refine SPL_intro (fun q2 => ?_) (fun q2 => ?_) <;> simp at q2
  · exact b29f _ h0.chg fun hs => by have := hs.n0; omega
  simp -dsimp [go_sem, k0]
  refine SPL_intro (fun q3 => ?_) (fun q3 => ?_) <;> simp at q3
  · exact b29f _ h0.chg fun hs => by have := hs.t1; omega
  have w64 : IntKind.i64.wrap (64 + (a : Int)) = 64 + a := IntWalk.i64_in _ (by omega)
  simp -dsimp [go_sem, k0, w64]
  refine SPL_intro (fun q4 => ?_) (fun q4 => ?_) <;> simp at q4
  · exact b29f _ h0.chg fun hs => by have := hs.n1; omega
  have w65 : IntKind.i64.wrap ((g.terms.length : Int) - 1) = (g.terms.length : Int) - 1 := IntWalk.i64_in _ (by omega)
  have w66 : IntKind.i64.wrap ((g.terms.length : Int) - 1 + g.nons.length) = (g.terms.length : Int) - 1 + g.nons.length := IntWalk.i64_in _ (by omega)
  have w67 : IntKind.i64.wrap ((g.terms.length : Int) - 1 + g.nons.length - a) = (g.terms.length : Int) - 1 + g.nons.length - a := IntWalk.i64_in _ (by omega)
  simp -dsimp [go_sem, k0, w65, w66, w67]
  refine SPL_intro (fun q5 => ?_) (fun q5 => ?_) <;> simp at q5
  · exact no _ h0.chg fun hs => by have := hs.sum; omega
  have h1' := h0.map Try.prog kInt 3 3
  have k1 := h1'.box 0 rfl
  simp [boxAt] at k1
  have l1' : (1 : Nat) ≤ g.terms.length := q1'
  have l1'' : (1 : Int) ≤ g.terms.length := by omega
  simp -dsimp [go_sem, mkInt, k1, l1'']
  have hT := slice_from (k := 1) (o' := o1 + 2) h1 l1' rfl
  generalize (if c1 = 1 then some (⟨b1, o1, none⟩ : Addr) else some ⟨b1, o1 + 2, none⟩) = AT at hT ⊢
  generalize w1.heap.size = m at h1' ⊢
  generalize w1.alloc (.map #[] 0) = w2 at h1' k1 ⊢
  have htl : g.terms.drop 1 = g.terms.tail := by simp
  rw [htl] at hT
  have hlen : g.terms.length - 1 = g.terms.tail.length := by simp
  rw [hlen] at hT ⊢
  generalize hE : g.terms.tail = tl at hT ⊢
  have e1 : ∀ t, t ∈ g.terms.tail ↔ t ∈ tl := fun t => by rw [hE]
  have n0 := h1'.nilRow 9 1
  refine gram_symbols.l18_intro _ _ _ _ _ _ _ _ _ (fun x y w' => ∃ (k : Nat) (n : Nat) (f : Int → Int) (A : Option Addr) (c : Nat), y = .int .i64 k ∧ x = .slice A k c ∧ k ≤ tl.length ∧
    St noB w w' [boxC q 27 [.slice (some ⟨b1, o1, none⟩) g.terms.length c1, .slice A2 g.nons.length c2, .slice A3 g.levels.length c3, .int .i64 g.start, .slice A4 g.prods.length c4], mapC Try.prog kInt 3 3 (.map (some m)) n f, rowC 9 1 A k c ((tl.take k).map fun t => .string t.1)] ∧
    n ≤ k ∧ (∀ x, f x ≠ 0 ↔ ∃ t ∈ tl.take k, t.2 = x) ∧ (∀ t ∈ tl.take k, TermOk g t)) (fun _ y _ => tl.length - iv y) ⟨0, 0, _, none, 0, rfl, rfl, by omega, by simpa using n0, by omega, by simp, by simp⟩ ?_
  rintro _ _ w3 ⟨k, n, f, A, c, rfl, rfl, hk, hst, hn, hf, hall⟩ C hC
  have k3 := hst.box 0 rfl
  simp [boxAt] at k3
  simp -dsimp [go_sem]
  refine SPL_intro (fun q6 => ?_) (fun q6 => ?_)
  · have q6' : k < tl.length := by simpa using q6
    obtain ⟨b2, o2, rfl, hb2, d1, d2, d3, d4⟩ := terms_at (Rep.below hT (hst.chg.below hB fun _ _ => id)) q6'
    have hst4 := hst.alloc #[.string tl[k].1, .int .i64 tl[k].2] 106
    have hw4 : (w3.alloc (.cells #[.string tl[k].1, .int .i64 tl[k].2] 106)).heap.size = w3.heap.size + 1 := by simp
    have k4 := hst4.box 0 rfl
    have kt := hst4.box 3 rfl
    simp [boxAt] at k4 kt
    simp -dsimp [go_sem, q6', d1, d2]
    generalize w3.alloc (.cells #[.string tl[k].1, .int .i64 tl[k].2] 106) = w4 at hst4 k4 kt hw4 ⊢
    generalize w3.heap.size = tb at hst4 kt ⊢
    refine CALL_of (isTerm_ct d3 w4) ?_
    rintro _ w5 ⟨rfl, hc5⟩
    have hst5 := hst4.old hc5
    clear k4 kt
    have k4 := hst5.box 0 rfl
    have kt := hst5.box 3 rfl
    simp [boxAt] at k4 kt
    have hmem : tl[k] ∈ tl := List.getElem_mem q6'
    cases htm : tmB tl[k].1 with
    | false =>
      simp -dsimp [go_sem]
      refine no _ hst5.chg fun hs => ?_
      have := tmB_iff.2 (hs.terms _ ((e1 _).2 hmem)).name
      rw [this] at htm; cases htm
    | true =>
      simp -dsimp [go_sem, kt]
      refine SPL_intro (fun q7 => ?_) (fun q7 => ?_) <;> simp at q7
      · simp -dsimp [go_sem]
        exact no _ hst5.chg fun hs => by have := (hs.terms _ ((e1 _).2 hmem)).lo; omega
      simp -dsimp [go_sem, kt, k4]
      refine SPL_intro (fun q8 => ?_) (fun q8 => ?_) <;> simp at q8
      · exact no _ hst5.chg fun hs => by have := (hs.terms _ ((e1 _).2 hmem)).hi; omega
      have hk65 : k < 65 := by
        have : tl.length = g.terms.length - 1 := by rw [← hE]; simp
        omega
      simp -dsimp [go_sem, kt]
      refine hst5.append1 2 rfl uStrs iStr rfl (by omega) (news := [.string tl[k].1]) rfl (by simp [Value.oneCell']) (by unfold maxLen; omega) (by unfold maxBytes; omega) ?_
      intro g' cap w6 hst6
      have k6 := hst6.box 3 rfl
      simp [boxAt] at k6
      obtain ⟨w7, hrun, hst7⟩ := hst6.mapSet mInt 1 rfl tl[k].2 d4 (by unfold maxLen; omega) (x := 1) (by unfold inI64; omega) (by omega)
      have hrun' : (Instr.mapUpdate 179 (.map (some m)) (.int .i64 tl[k].2) (.int .i64 1)).run Try.prog w6 = _ := hrun
      have wk : IntKind.i64.wrap ((k : Int) + 1) = (k : Int) + 1 := IntWalk.i64_in _ (by omega)
      simp -dsimp [go_sem, k6, hrun', wk]
      have htk : tl.take (k + 1) = tl.take k ++ [tl[k]] := List.take_succ_eq_append_getElem q6'
      have em : (tl.take k).map (fun t => Value.string t.1) ++ [.string tl[k].1] = (tl.take (k + 1)).map (fun t => Value.string t.1) := by rw [htk, List.map_append]; rfl
      have h8 := hst7.take 3
      rw [em] at h8
      refine hC _ _ _ ⟨k + 1, _, _, _, _, by simp, rfl, by omega, h8, ?_, ?_, ?_⟩ (by simp [iv]; omega)
      · split <;> omega
      · intro x
        rw [htk]
        by_cases hx : x = tl[k].2
        · rw [if_pos hx]
          exact ⟨fun _ => ⟨tl[k], List.mem_append_right _ (List.mem_singleton.2 rfl), hx.symm⟩, fun _ => by omega⟩
        · rw [if_neg hx, hf x]
          constructor
          · rintro ⟨t, ht, e⟩; exact ⟨t, List.mem_append_left _ ht, e⟩
          · rintro ⟨t, ht, e⟩
            rcases List.mem_append.1 ht with ht | ht
            · exact ⟨t, ht, e⟩
            · rw [List.mem_singleton.1 ht] at e; exact absurd e.symm hx
      · intro t ht
        rw [htk] at ht
        rcases List.mem_append.1 ht with ht | ht
        · exact hall t ht
        · rw [List.mem_singleton.1 ht]
          exact ⟨tmB_iff.1 htm, by omega, by omega⟩
  · have hka : k = tl.length := by
      have : ¬ k < tl.length := by simpa using q6
      omega
    subst hka
    rw [List.take_length] at hst hf hall
    clear hC C
    simp -dsimp [go_sem, k3]
    have nl : ¬ (∀ i (h : i < g.levels.length), 1 ≤ g.levels[i] ∧ g.levels[i] ≤ 3 ∧ ∃ t ∈ tl, t.2 = (i : Int) + 1) → ¬ SymsP g a := fun hn hs => hn (by rw [← hE]; exact hs.levels)
    refine gram_symbols.l9_intro _ _ _ _ _ _ _ _ _ (fun y w' => ∃ j : Nat, y = .int .i64 j ∧ j ≤ g.levels.length ∧ w3 = w' ∧ ∀ i (h : i < g.levels.length), i < j → 1 ≤ g.levels[i] ∧ g.levels[i] ≤ 3 ∧ ∃ t ∈ tl, t.2 = (i : Int) + 1) (fun y _ => g.levels.length - iv y) ⟨0, rfl, by omega, rfl, fun i h h0 => by omega⟩ ?_
    rintro _ _ ⟨j, rfl, hj, rfl, hjl⟩ C hC
    simp -dsimp [go_sem]
    refine SPL_intro (fun q7 => ?_) (fun q7 => ?_) <;> simp at q7
    · obtain ⟨b3, o3, rfl, hb3, d1, d2⟩ := Go.Px.ints_at (Rep.below h3 (hst.chg.below hB fun _ _ => id)) q7
      have wj := wrap_succ q7 (Nat.le_trans l3 m3)
      simp -dsimp [go_sem, q7, d1]
      refine SPL_intro (fun q8 => ?_) (fun q8 => ?_) <;> simp at q8
      · simp -dsimp [go_sem]
        exact no _ hst.chg (nl fun hn => by have := (hn j q7).1; omega)
      simp -dsimp [go_sem]
      refine SPL_intro (fun q9 => ?_) (fun q9 => ?_) <;> simp at q9
      · simp -dsimp [go_sem]
        exact no _ hst.chg (nl fun hn => by have := (hn j q7).2.1; omega)
      have hg : (Instr.lookup 179 (.map (some m)) (.int .i64 ((j : Int) + 1)) false).run Try.prog w3 = _ := hst.mapGet mInt 1 rfl ((j : Int) + 1) (by show inI64 _; unfold inI64; unfold maxLen at m3; omega)
      simp -dsimp [go_sem, wj, hg]
      refine SPL_intro (fun q10 => ?_) (fun q10 => ?_) <;> simp at q10
      · exact no _ hst.chg (nl fun hn => absurd q10 ((hf _).2 (hn j q7).2.2))
      · simp -dsimp [go_sem, wj]
        refine hC _ _ ⟨j + 1, by simp, by omega, rfl, fun i hi hij => ?_⟩ (by simp [iv]; omega)
        by_cases e : i = j
        · subst e; exact ⟨by omega, by omega, (hf _).1 q10⟩
        · exact hjl i hi (by omega)
    · have hja : j = g.levels.length := by omega
      subst hja
      have hlev : ∀ i (h : i < g.levels.length), 1 ≤ g.levels[i] ∧ g.levels[i] ≤ 3 ∧ ∃ t ∈ tl, t.2 = (i : Int) + 1 := fun i h => hjl i h h
      obtain ⟨b4, o4, rfl, hb4, _⟩ := Go.Px.strs_at h2 q2
      have q2' : a ≤ g.nons.length := by omega
      have hN := slice_from (k := a) (o' := o4 + a) h2 q2' (by simp [rStr])
      have hN2 : (rSlice rStr).at1 w3 B _ _ := Rep.below hN (hst.chg.below hB fun _ _ => id)
      simp -dsimp [go_sem, k3, q2']
      generalize (if c2 = a then some (⟨b4, o4, none⟩ : Addr) else some ⟨b4, o4 + a, none⟩) = AN at hN hN2 ⊢
      have hml : (g.nons.drop a).length = g.nons.length - a := List.length_drop
      have hten : ((tl.map (·.1)).map Value.string) = tl.map (fun t => Value.string t.1) := by simp
      obtain ⟨FT, hoT, hFT⟩ := hst.get (k := 2) rfl
      have hTx : (rSlice rStr).at1 w3 w3.heap.size (.slice A tl.length c) (tl.map (·.1)) := by
        have := slice_of_own (r := rStr) (enc := fun s => [Value.string s]) (l := tl.map (·.1)) (B := w3.heap.size) (w := w3) (base := 0) (e := 9) (v := .slice A tl.length c) (by
          have h9 := hoT.1
          rw [List.length_map, show (tl.map (·.1)).flatMap (fun s => [Value.string s]) = tl.map (fun t => Value.string t.1) by
            rw [List.flatMap_map, flat_one]]
          exact h9) (fun _ _ => rfl) (fun x hx => ⟨rfl, by
            obtain ⟨t, ht, rfl⟩ := List.mem_map.1 hx
            have := (hall t ht).name.2.1
            unfold maxLen; omega⟩) (Nat.le_refl _)
        exact this
      refine CALL_of (unlike_ct hTx (Nat.le_refl _)) ?_
      rintro _ w4 ⟨rfl, hc4⟩
      by_cases hd1 : (tl.map (·.1)).Nodup
      case neg =>
        simp -dsimp [go_sem, hd1]
        exact no _ (hst.chg.trans hc4) fun hs => hd1 (by rw [← hE]; exact hs.tnd)
      have hN4 := Rep.below hN2 (hc4.below (B := B) (by have := hst.chg.size; omega) fun _ _ => id)
      have hB4 : B ≤ w4.heap.size := by have := hst.chg.size; have := hc4.size; omega
      simp -dsimp [go_sem, hd1]
      refine CALL_of (unlike_ct hN4 hB4) ?_
      rintro _ w5 ⟨rfl, hc5⟩
      by_cases hd2 : (g.nons.drop a).Nodup
      case neg =>
        simp -dsimp [go_sem, hd2]
        exact no _ ((hst.chg.trans hc4).trans hc5) fun hs => hd2 hs.nnd
      have hN5 := Rep.below hN4 (hc5.below hB4 fun _ _ => id)
      have hB5 : B ≤ w5.heap.size := by have := hc5.size; omega
      simp -dsimp [go_sem, hd2]
      refine CALL_of (ContainsFuncS_ct (p := fun s => !nmB s) hN5 hB5 fun x hx hsz w => ?_) ?_
      · refine gram_symbols_1.ct fun R hR => ?_
        unfold gram_symbols_1.run
        simp -dsimp [go_sem]
        refine CALL_of (isName_ct hsz w) ?_
        rintro _ w' ⟨rfl, hc⟩
        simp -dsimp [go_sem]
        exact hR _ _ ⟨rfl, hc⟩
      · rintro _ w6 ⟨rfl, hc6⟩
        simp -dsimp [go_sem]
        refine hR _ _ ⟨?_, ((hst.chg.trans hc4).trans hc5).trans hc6⟩
        congr 1
        refine bool_eq ?_
        rw [symB_iff]
        constructor
        · intro hb
          refine ⟨ht0, q2, by omega, by omega, by omega, by rw [hE]; exact hall, by rw [hE]; exact hlev, by rw [hE]; exact hd1, hd2, fun s hs => ?_⟩
          refine nmB_iff.1 ?_
          cases e : nmB s with
          | true => rfl
          | false =>
            have : (g.nons.drop a).any (fun s => !nmB s) = true := List.any_eq_true.2 ⟨s, hs, by simp [e]⟩
            rw [this] at hb; cases hb
        · intro hs
          cases e : (g.nons.drop a).any (fun s => !nmB s) with
          | false => rfl
          | true =>
            obtain ⟨s, h1, h2⟩ := List.any_eq_true.1 e
            have := nmB_iff.2 (hs.nnam s h1)
            rw [this] at h2; cases h2
end Go.Proofs.Ytkacbjhiobnbfaa

/-
  Productions that fit.
-/
namespace Go.Proofs.Ytkacbjhiobnbfaa
open Go.Px Go.Px.Scan Go.RowKit
set_option maxHeartbeats 1000000
set_option linter.unusedSimpArgs false
set_option linter.unusedVariables false
set_option maxRecDepth 100000
attribute [-go_sem] Builtin.append_

/-- Numbers that are owned read as a slice. -/
theorem ints_own {G : Nat → Prop} {W w : World} {L : List Ch} (h : St G W w L) (k : Nat) {a : Option Addr} {n c : Nat} {l : List Int} (hk : L[k]? = some (rowC 3 1 a n c (l.map (Value.int .i64 ·)))) (hl : ∀ x ∈ l, inI64 x) : (rSlice rInt).at1 w w.heap.size (.slice a n c) l := by
  obtain ⟨F, ho, _⟩ := h.get hk
  have hn : n = l.length := by have := (row_size ho).1; simpa using this.symm
  subst hn
  exact slice_of_own (r := rInt) (enc := fun x => [Value.int .i64 x]) (base := 0) (e := 3) (by rw [flat_one]; exact ho.1) (fun _ _ => rfl) (fun x hx => ⟨rfl, hl x hx⟩) (Nat.le_refl _)

theorem productions_ct {w : World} {B : Nat} {v : Value} {g : Gr} (h : rGram.atN w B v g) (hB : B ≤ w.heap.size) {a : Nat} (ha : a ≤ 1) (hsy : SymsP g a) : Ct Try.prog gram_productions.id #[v, .int .i64 a] w fun r w' => (∃ vl, r = .tuple #[vl, .bool (prodB g a)] ∧ (prodB g a = true → (rSlice rInt).at1 w' w'.heap.size vl (leftsOf (g.prods.drop a)))) ∧ Chg noB w w' := by
  refine gram_productions.ct fun R hR => ?_
  obtain ⟨A1, c1, A2, c2, A3, c3, A4, c4, rfl, h1, h2, h3, h4, h5, ⟨l1, m1⟩, ⟨l2, m2⟩, ⟨l3, m3⟩, ⟨l4, m4⟩⟩ := (rGram_open h).ex
  have t1 := hsy.t1
  have n0 := hsy.n0
  have n1 := hsy.n1
  have no : ∀ w', Chg noB w w' → ¬ ProdsP g a → R (.returned (.tuple #[.slice none 0 0, .bool false])) w' := fun w' hc hn => hR _ _ ⟨⟨_, by rw [bool_no prodB_iff hn], fun h => by rw [bool_no prodB_iff hn] at h; cases h⟩, hc⟩
  unfold gram_productions.run gram_productions.b1
  simp -dsimp [go_sem]
  have h0 := (St.refl noB w).alloc #[.slice A1 g.terms.length c1, .slice A2 g.nons.length c2, .slice A3 g.levels.length c3, .int .i64 g.start, .slice A4 g.prods.length c4] 27
  generalize w.heap.size = q at h0 ⊢
  generalize w.alloc (.cells #[.slice A1 g.terms.length c1, .slice A2 g.nons.length c2, .slice A3 g.levels.length c3, .int .i64 g.start, .slice A4 g.prods.length c4] 27) = w1 at h0 ⊢
  have k0 := h0.box 0 rfl
  simp [boxAt] at k0
  refine SPL_intro (fun q1 => ?_) (fun q1 => ?_) <;> simp at q1
  · simp -dsimp [go_sem]
    exact no _ h0.chg fun hs => by have := hs.c0; omega
  have w96 : IntKind.i64.wrap (96 + (a : Int)) = 96 + a := IntWalk.i64_in _ (by omega)
  simp -dsimp [go_sem, k0, w96]
  refine SPL_intro (fun q2 => ?_) (fun q2 => ?_) <;> simp at q2
  · exact no _ h0.chg fun hs => by have := hs.c1; omega
  obtain ⟨b4, o4, vr, rfl, hb4, _⟩ := prods_at h5 q1
  have q1' : a ≤ g.prods.length := by omega
  have ws : IntKind.i64.wrap ((g.terms.length : Int) + g.nons.length) = (g.terms.length : Int) + g.nons.length := IntWalk.i64_in _ (by omega)
  have wl : IntKind.i64.wrap ((g.terms.length : Int) + a) = (g.terms.length : Int) + a := IntWalk.i64_in _ (by omega)
  simp -dsimp [go_sem, k0, ws, wl, q1']
  have hP := slice_from (k := a) (o' := o4 + a * 3) h5 q1' (by simp [rPr, Rep.prod, rInt, rSlice])
  generalize (if c4 = a then some (⟨b4, o4, none⟩ : Addr) else some ⟨b4, o4 + a * 3, none⟩) = AP at hP ⊢
  generalize hE : g.prods.drop a = pl at hP ⊢
  have hpl : g.prods.length - a = pl.length := by rw [← hE]; simp
  rw [hpl] at hP ⊢
  have hpm : pl.length ≤ 97 := by omega
  have n0' := h0.nilRow 3 1
  refine gram_productions.l8_intro _ _ _ _ _ _ _ _ _ _ (fun x y w' => ∃ (k : Nat) (A : Option Addr) (n c : Nat), y = .int .i64 k ∧ x = .slice A n c ∧ k ≤ pl.length ∧ n = (leftsOf (pl.take k)).length ∧
    St noB w w' [boxC q 27 [.slice A1 g.terms.length c1, .slice A2 g.nons.length c2, .slice A3 g.levels.length c3, .int .i64 g.start, .slice (some ⟨b4, o4, none⟩) g.prods.length c4], rowC 3 1 A n c ((leftsOf (pl.take k)).map (Value.int .i64 ·))] ∧
    n ≤ k ∧ (∀ p ∈ pl.take k, ProdOk g a p) ∧ ∀ x ∈ leftsOf (pl.take k), inI64 x) (fun _ y _ => pl.length - iv y) ⟨0, none, 0, 0, rfl, rfl, by omega, rfl, by simpa [leftsOf] using n0', by omega, by simp, by simp [leftsOf]⟩ ?_
  rintro _ _ w3 ⟨k, A, n, c, rfl, rfl, hk, hn, hst, hnk, hall, hin⟩ C hC
  have k3 := hst.box 0 rfl
  simp [boxAt] at k3
  simp -dsimp [go_sem]
  refine SPL_intro (fun q6 => ?_) (fun q6 => ?_)
  · have q6' : k < pl.length := by simpa using q6
    obtain ⟨b2, o2, vr, rfl, hb2, d1, d2, d3, dr, i1, i2⟩ := prods_at (Rep.below hP (hst.chg.below hB fun _ _ => id)) q6'
    have hmem : pl[k] ∈ g.prods.drop a := by rw [hE]; exact List.getElem_mem q6'
    obtain ⟨Ar, cr, rfl, lr, mr, _⟩ := slice_form dr
    have hst4 := hst.alloc #[.int .i64 pl[k].1, .slice Ar pl[k].2.1.length cr, .int .i64 pl[k].2.2] 47
    have drw := Rep.below dr (((Chg.refl noB w3).alloc (.cells #[.int .i64 pl[k].1, .slice Ar pl[k].2.1.length cr, .int .i64 pl[k].2.2] 47)).below (B := B) (by have := hst.chg.size; omega) fun _ _ => id)
    simp -dsimp [go_sem, q6', d1, d2, d3]
    generalize w3.alloc (.cells #[.int .i64 pl[k].1, .slice Ar pl[k].2.1.length cr, .int .i64 pl[k].2.2] 47) = w4 at hst4 drw ⊢
    generalize w3.heap.size = tb at hst4 ⊢
    have k4 := hst4.box 0 rfl
    have kt := hst4.box 2 rfl
    simp [boxAt] at k4 kt
    have bad : ¬ ProdOk g a pl[k] → ¬ ProdsP g a := fun hn hs => hn (hs.each _ hmem)
    refine SPL_intro (fun q7 => ?_) (fun q7 => ?_) <;> simp at q7
    · simp -dsimp [go_sem]
      exact no _ hst4.chg (bad fun hs => by have := hs.l0; omega)
    simp -dsimp [go_sem, kt, k4]
    refine SPL_intro (fun q8 => ?_) (fun q8 => ?_) <;> simp at q8
    · simp -dsimp [go_sem]
      exact no _ hst4.chg (bad fun hs => by have := hs.l1; omega)
    simp -dsimp [go_sem, kt, k4]
    refine SPL_intro (fun q9 => ?_) (fun q9 => ?_) <;> simp at q9
    · simp -dsimp [go_sem]
      exact no _ hst4.chg (bad fun hs => by have := hs.v0; omega)
    simp -dsimp [go_sem, kt, k4]
    refine SPL_intro (fun q10 => ?_) (fun q10 => ?_) <;> simp at q10
    · exact no _ hst4.chg (bad fun hs => by have := hs.v1; omega)
    simp -dsimp [go_sem, kt, k4]
    refine gram_productions.l19_intro _ _ _ _ _ _ _ _ _ _ _ _ (fun y w' => ∃ j : Nat, y = .int .i64 j ∧ j ≤ pl[k].2.1.length ∧ w4 = w' ∧ ∀ s ∈ pl[k].2.1.take j, 1 ≤ s ∧ s < (g.terms.length + g.nons.length : Int) ∧ ((g.terms.length : Int) ≤ s → (g.terms.length + a : Int) ≤ s)) (fun y _ => pl[k].2.1.length - iv y) ⟨0, rfl, by omega, rfl, by simp⟩ ?_
    rintro _ _ ⟨j, rfl, hj, rfl, hjl⟩ C' hC'
    simp -dsimp [go_sem]
    refine SPL_intro (fun q11 => ?_) (fun q11 => ?_) <;> simp at q11
    · obtain ⟨b3, o3, rfl, hb3, f1, f2⟩ := Go.Px.ints_at drw q11
      have wj := wrap_succ q11 (Nat.le_trans lr mr)
      simp -dsimp [go_sem, q11, f1]
      have bad2 : ¬ (1 ≤ pl[k].2.1[j] ∧ pl[k].2.1[j] < (g.terms.length + g.nons.length : Int) ∧ ((g.terms.length : Int) ≤ pl[k].2.1[j] → (g.terms.length + a : Int) ≤ pl[k].2.1[j])) → ¬ ProdsP g a := fun hn => bad fun hs => hn (hs.right _ (List.getElem_mem q11))
      refine SPL_intro (fun q12 => ?_) (fun q12 => ?_) <;> simp at q12
      · simp -dsimp [go_sem]
        exact no _ hst4.chg (bad2 fun hs => by omega)
      simp -dsimp [go_sem, k4]
      refine SPL_intro (fun q13 => ?_) (fun q13 => ?_) <;> simp at q13
      · simp -dsimp [go_sem]
        exact no _ hst4.chg (bad2 fun hs => by omega)
      simp -dsimp [go_sem, k4]
      have go : (1 ≤ pl[k].2.1[j] ∧ pl[k].2.1[j] < (g.terms.length + g.nons.length : Int) ∧ ((g.terms.length : Int) ≤ pl[k].2.1[j] → (g.terms.length + a : Int) ≤ pl[k].2.1[j])) → C' (.int .i64 ((j : Int) + 1)) w4 := fun hg => by
        refine hC' _ _ ⟨j + 1, by simp, by omega, rfl, fun s hs => ?_⟩ (by simp [iv]; omega)
        rw [List.take_succ_eq_append_getElem q11] at hs
        rcases List.mem_append.1 hs with hs | hs
        · exact hjl s hs
        · rw [List.mem_singleton.1 hs]; exact hg
      refine SPL_intro (fun q14 => ?_) (fun q14 => ?_) <;> simp at q14
      · simp -dsimp [go_sem, wj]
        refine SPL_intro (fun q15 => ?_) (fun q15 => ?_) <;> simp at q15
        · exact no _ hst4.chg (bad2 fun hs => by omega)
        · simp -dsimp [go_sem, wj]
          exact go (by omega)
      · simp -dsimp [go_sem, wj]
        exact go (by omega)
    · have hja : j = pl[k].2.1.length := by omega
      subst hja
      rw [List.take_length] at hjl
      have hok : ProdOk g a pl[k] := ⟨by omega, by omega, by omega, by omega, hjl⟩
      have hlefts := ints_own hst4 1 rfl hin
      simp -dsimp [go_sem, kt]
      refine CALL_of (Contains_ct hlefts) ?_
      rintro _ _ ⟨rfl, rfl⟩
      have wk : IntKind.i64.wrap ((k : Int) + 1) = (k : Int) + 1 := IntWalk.i64_in _ (by omega)
      have htk : pl.take (k + 1) = pl.take k ++ [pl[k]] := List.take_succ_eq_append_getElem q6'
      have hlt : leftsOf (pl.take (k + 1)) = addL (leftsOf (pl.take k)) pl[k].1 := by rw [htk, leftsOf_snoc]
      have hall' : ∀ p ∈ pl.take (k + 1), ProdOk g a p := by
        intro p hp
        rw [htk] at hp
        rcases List.mem_append.1 hp with hp | hp
        · exact hall p hp
        · rw [List.mem_singleton.1 hp]; exact hok
      by_cases hc : pl[k].1 ∈ leftsOf (pl.take k)
      · have ha : addL (leftsOf (pl.take k)) pl[k].1 = leftsOf (pl.take k) := if_pos hc
        rw [ha] at hlt
        simp -dsimp [go_sem, hc, wk]
        have h8 := hst4.take 2
        rw [← hlt] at h8
        refine hC _ _ _ ⟨k + 1, _, _, _, by simp, rfl, by omega, by rw [hlt]; exact hn, h8, by omega, hall', ?_⟩ (by simp [iv]; omega)
        rw [hlt]; exact hin
      · have ha : addL (leftsOf (pl.take k)) pl[k].1 = leftsOf (pl.take k) ++ [pl[k].1] := if_neg hc
        rw [ha] at hlt
        simp -dsimp [go_sem, hc, kt]
        refine hst4.append1 1 rfl uInts iInt rfl (by omega) (news := [.int .i64 pl[k].1]) rfl (by simp [Value.oneCell']) (by unfold maxLen; omega) (by unfold maxBytes; omega) ?_
        intro g' cap w6 hst6
        simp -dsimp [go_sem, wk]
        have h8 := hst6.take 2
        have em : (leftsOf (pl.take k)).map (Value.int .i64 ·) ++ [.int .i64 pl[k].1] = (leftsOf (pl.take (k + 1))).map (Value.int .i64 ·) := by rw [hlt, List.map_append]; rfl
        rw [em] at h8
        refine hC _ _ _ ⟨k + 1, _, _, _, by simp, rfl, by omega, by rw [hlt, List.length_append, hn]; rfl, h8, by omega, hall', ?_⟩ (by simp [iv]; omega)
        rw [hlt]
        intro x hx
        rcases List.mem_append.1 hx with hx | hx
        · exact hin x hx
        · rw [List.mem_singleton.1 hx]; exact i1
  · have hka : k = pl.length := by
      have : ¬ k < pl.length := by simpa using q6
      omega
    subst hka
    rw [List.take_length] at hst hall hn hin
    clear hC C
    have hstd := hst.old ((Chg.refl noB w3).drew)
    have kd := hstd.box 0 rfl
    simp [boxAt] at kd
    have wn : IntKind.i64.wrap ((g.nons.length : Int) - a) = (g.nons.length : Int) - a := IntWalk.i64_in _ (by omega)
    have hlefts := ints_own hstd 1 rfl hin
    simp -dsimp [go_sem, kd, k3, wn]
    have fin : ∀ b : Bool, (b = true ↔ ProdsP g a) → R (.returned (.tuple #[.slice A n c, .bool b])) w3.drew := fun b hb =>
      hR _ _ ⟨⟨.slice A n c, (by rw [← bool_eq (hb.trans prodB_iff.symm)]), fun _ => by rw [hE]; exact hlefts⟩, hstd.chg⟩
    have each : ∀ p ∈ g.prods.drop a, ProdOk g a p := by rw [hE]; exact hall
    refine SPL_intro (fun q7 => ?_) (fun q7 => ?_) <;> simp at q7
    · simp -dsimp [go_sem, kd, k3]
      refine SPL_intro (fun q8 => ?_) (fun q8 => ?_) <;> simp at q8
      · simp -dsimp [go_sem, kd, k3]
        refine fin _ ?_
        rw [decide_eq_true_iff]
        exact ⟨fun hs => ⟨by omega, by omega, each, by rw [hE, ← hn]; omega, q8, hs⟩, fun hs => hs.s1⟩
      · exact fin false ⟨fun h => (by cases h), fun hs => by have := hs.s0; omega⟩
    · exact fin false ⟨fun h => (by cases h), fun hs => by have := hs.lefts; rw [hE, ← hn] at this; omega⟩
end Go.Proofs.Ytkacbjhiobnbfaa

/-
  The document's answer: productions that fit; the Lefts.
-/
namespace Go.Proofs.Ytkacbjhiobnbfaa
open Go.Px Go.Px.Scan Go.RowKit
set_option maxHeartbeats 1000000
set_option linter.unusedSimpArgs false
set_option linter.unusedVariables false
set_option maxRecDepth 100000
attribute [-go_sem] Builtin.append_

def PFitP (g : Gr) (a : Nat) : Prop := ∀ p ∈ g.prods.drop a, ProdOk g a p
open Classical in
noncomputable def pfitB (g : Gr) (a : Nat) : Bool := decide (PFitP g a)
theorem pfitB_iff {g : Gr} {a : Nat} : pfitB g a = true ↔ PFitP g a := @decide_eq_true_iff _ (_)

theorem prodsFit_ct {w : World} {B : Nat} {v : Value} {g : Gr} (h : rGram.atN w B v g) (hB : B ≤ w.heap.size) (a : Nat) (ha : a ≤ 1) (hs : g.terms.length + g.nons.length ≤ 1000) :
    Ct Try.prog ref02_prodsFit.id #[v, .int .i64 a, .int .i64 ((g.terms.length : Int) + a)] w fun r w' => r = .bool (pfitB g a) ∧ Chg noB w w' := by
  refine ref02_prodsFit.ct fun R hR => ?_
  obtain ⟨A1, c1, A2, c2, A3, c3, A4, c4, rfl, ⟨m1, m2, m3, m4⟩, _, hc0, hg⟩ := box_all h hB
  have no : ∀ w', Chg noB w w' → ¬ PFitP g a → R (.returned (.bool false)) w' := fun w' hc hn => hR _ _ ⟨by rw [bool_no pfitB_iff hn], hc⟩
  unfold ref02_prodsFit.run
  simp -dsimp [go_sem]
  generalize hw1 : w.alloc (.cells #[.slice A1 g.terms.length c1, .slice A2 g.nons.length c2, .slice A3 g.levels.length c3, .int .i64 g.start, .slice A4 g.prods.length c4] 27) = w1 at hc0 hg ⊢
  have hz : ∀ w', Chg noB w1 w' → rGram.atN w' B (.agg #[.slice A1 g.terms.length c1, .slice A2 g.nons.length c2, .slice A3 g.levels.length c3, .int .i64 g.start, .slice A4 g.prods.length c4]) g ∧ B ≤ w'.heap.size := fun w' hc =>
    ⟨rGram_below h ((hc0.trans hc).below hB fun _ _ => id), (hg w' hc).sz⟩
  generalize w.heap.size = q at hg ⊢
  generalize hE : g.prods.drop a = nl
  have hnl : nl.length = g.prods.length - a := by rw [← hE]; simp
  have hel : ∀ i (hi : i < nl.length), g.prods[a + i]'(by omega) = nl[i] := fun i hi => by simp [← hE]
  refine ref02_prodsFit.l6_intro _ _ _ _ _ (fun y w' => ∃ j k : Nat, y = .int .i64 j ∧ j = a + k ∧ k ≤ nl.length ∧ Chg noB w1 w' ∧ ∀ p ∈ nl.take k, ProdOk g a p) (fun y _ => g.prods.length + a - iv y) ⟨a, 0, rfl, rfl, by omega, Chg.refl _ _, by simp⟩ ?_
  rintro _ w2 ⟨j, k, rfl, hj, hk, hcw, hall⟩ C hC
  have z2 := hg w2 hcw
  simp -dsimp [go_sem, z2.k]
  refine SPL_intro (fun p1 => ?_) (fun p1 => ?_) <;> simp at p1
  · have hk1 : k < nl.length := by omega
    have wj : IntKind.i64.wrap ((j : Int) + 1) = (j : Int) + 1 := IntWalk.i64_in _ (by unfold maxLen at m4; omega)
    obtain ⟨b2, o2, vr, rfl, hb2, d1, d2, d3, dr, i1, i2⟩ := prods_at z2.r4 p1
    obtain ⟨Ar, cr, rfl, lr, mr, _⟩ := slice_form dr
    have hej : g.prods[j] = nl[k] := by subst hj; exact hel k hk1
    have bad : ¬ ProdOk g a g.prods[j] → ¬ PFitP g a := fun hn hs => hn (hs _ (by rw [hE, hej]; exact List.getElem_mem hk1))
    generalize hp : g.prods[j] = p at d1 d2 d3 dr i1 i2 lr bad
    have s3 := (St.refl noB w2).alloc #[.int .i64 p.1, .slice Ar p.2.1.length cr, .int .i64 p.2.2] 47
    have z3 := hg _ (hcw.trans s3.chg)
    simp -dsimp [go_sem, z2.k, p1, d1, d2, d3, z3.k]
    generalize w2.heap.size = pb at s3 ⊢
    generalize w2.alloc (.cells #[.int .i64 p.1, .slice Ar p.2.1.length cr, .int .i64 p.2.2] 47) = w3 at s3 z3 ⊢
    have y3 := s3.box 0 rfl
    simp [boxAt] at y3
    have s3d := s3.old ((Chg.refl noB w3).drew)
    have z3d := hg _ (hcw.trans s3d.chg)
    have y3d := s3d.box 0 rfl
    simp [boxAt] at y3d
    refine SPL_intro (fun p2 => ?_) (fun p2 => ?_) <;> simp at p2
    · simp -dsimp [go_sem]
      exact no _ (hc0.trans (hcw.trans s3d.chg)) (bad fun hs => by have := hs.l0; omega)
    simp -dsimp [go_sem, y3d, z3d.k]
    refine CALL_of (Symbols_ct (hz _ (hcw.trans s3d.chg)).1 (hz _ (hcw.trans s3d.chg)).2 hs) ?_
    rintro _ w4 ⟨rfl, hc4⟩
    have s4 := s3d.old hc4
    have h4 := hcw.trans s4.chg
    have z4 := hg _ h4
    have y4 := s4.box 0 rfl
    simp [boxAt] at y4
    simp -dsimp [go_sem, y4, z4.k]
    refine SPL_intro (fun p3 => ?_) (fun p3 => ?_) <;> simp at p3
    · simp -dsimp [go_sem]
      exact no _ (hc0.trans h4) (bad fun hs => by have := hs.l1; omega)
    simp -dsimp [go_sem, y4, z4.k]
    refine SPL_intro (fun p4 => ?_) (fun p4 => ?_) <;> simp at p4
    · simp -dsimp [go_sem]
      exact no _ (hc0.trans h4) (bad fun hs => by have := hs.v0; omega)
    simp -dsimp [go_sem, y4, z4.k]
    refine SPL_intro (fun p5 => ?_) (fun p5 => ?_) <;> simp at p5
    · exact no _ (hc0.trans h4) (bad fun hs => by have := hs.v1; omega)
    have hB2 := z2.sz
    simp -dsimp [go_sem]
    refine ref02_prodsFit.l15_intro _ _ _ _ _ _ _ _ (fun y w' => ∃ n : Nat, y = .int .i64 n ∧ n ≤ p.2.1.length ∧ St noB w2 w' [boxC pb 47 [.int .i64 p.1, .slice Ar p.2.1.length cr, .int .i64 p.2.2]] ∧
      ∀ s ∈ p.2.1.take n, 1 ≤ s ∧ s < (g.terms.length + g.nons.length : Int) ∧ ((g.terms.length : Int) ≤ s → (g.terms.length + a : Int) ≤ s)) (fun y _ => p.2.1.length - iv y) ⟨0, rfl, by omega, s4, by simp⟩ ?_
    rintro _ w5 ⟨n, rfl, hn, s5, hr⟩ C' hC'
    have h5 := hcw.trans s5.chg
    have z5 := hg _ h5
    have y5 := s5.box 0 rfl
    simp [boxAt] at y5
    simp -dsimp [go_sem, y5]
    refine SPL_intro (fun q1 => ?_) (fun q1 => ?_) <;> simp at q1
    · obtain ⟨b6, o6, rfl, hb6, e1, e2⟩ := Go.Px.ints_at (Rep.below dr (s5.chg.below hB2 fun _ _ => id)) q1
      have wn := wrap_succ q1 (Nat.le_trans lr mr)
      have bad2 : ¬ (1 ≤ p.2.1[n] ∧ p.2.1[n] < (g.terms.length + g.nons.length : Int) ∧ ((g.terms.length : Int) ≤ p.2.1[n] → (g.terms.length + a : Int) ≤ p.2.1[n])) → ¬ PFitP g a := fun hn => bad fun hs => hn (hs.right _ (List.getElem_mem q1))
      simp -dsimp [go_sem, y5, q1, e1]
      refine SPL_intro (fun q2 => ?_) (fun q2 => ?_) <;> simp at q2
      · simp -dsimp [go_sem]
        exact no _ (hc0.trans h5) (bad2 fun hs => by omega)
      simp -dsimp [go_sem, z5.k]
      refine CALL_of (Symbols_ct (hz _ h5).1 (hz _ h5).2 hs) ?_
      rintro _ w6 ⟨rfl, hc6⟩
      have s6 := s5.old hc6
      have h6 := hcw.trans s6.chg
      have z6 := hg _ h6
      simp -dsimp [go_sem]
      refine SPL_intro (fun q3 => ?_) (fun q3 => ?_) <;> simp at q3
      · simp -dsimp [go_sem]
        exact no _ (hc0.trans h6) (bad2 fun hs => by omega)
      have good : (1 ≤ p.2.1[n] ∧ p.2.1[n] < (g.terms.length + g.nons.length : Int) ∧ ((g.terms.length : Int) ≤ p.2.1[n] → (g.terms.length + a : Int) ≤ p.2.1[n])) → C' (.int .i64 ((n : Int) + 1)) w6 := fun hg => by
        refine hC' _ _ ⟨n + 1, by simp, by omega, s6, fun s hs => ?_⟩ (by simp [iv]; omega)
        rw [List.take_succ_eq_append_getElem q1] at hs
        rcases List.mem_append.1 hs with hs | hs
        · exact hr s hs
        · rw [List.mem_singleton.1 hs]; exact hg
      simp -dsimp [go_sem, z6.k]
      refine SPL_intro (fun q4 => ?_) (fun q4 => ?_) <;> simp at q4
      · simp -dsimp [go_sem]
        refine SPL_intro (fun q5 => ?_) (fun q5 => ?_) <;> simp at q5
        · exact no _ (hc0.trans h6) (bad2 fun hs => by omega)
        · simp -dsimp [go_sem, wn]
          exact good (by omega)
      · simp -dsimp [go_sem, wn]
        exact good (by omega)
    · have hna : n = p.2.1.length := by omega
      subst hna
      rw [List.take_length] at hr
      simp -dsimp [go_sem, wj]
      refine hC _ _ ⟨j + 1, k + 1, by simp, by omega, by omega, h5, fun x hx => ?_⟩ (by simp [iv]; omega)
      rw [List.take_succ_eq_append_getElem hk1] at hx
      rcases List.mem_append.1 hx with hx | hx
      · exact hall x hx
      · rw [List.mem_singleton.1 hx, ← hej, hp]
        exact ⟨by omega, by omega, by omega, by omega, hr⟩
  · have hka : k = nl.length := by omega
    subst hka
    rw [List.take_length] at hall
    simp -dsimp [go_sem]
    refine hR _ _ ⟨?_, hc0.trans hcw⟩
    rw [pfitB_iff.2 (by unfold PFitP; rw [hE]; exact hall)]

theorem lefts_ct {w : World} {B : Nat} {v : Value} {g : Gr} (h : rGram.atN w B v g) (hB : B ≤ w.heap.size) (a : Nat) (ha : a ≤ 1) (hp : g.prods.length ≤ 1000) :
    Ct Try.prog ref02_lefts.id #[v, .int .i64 a] w fun r w' => (rSlice rInt).at1 w' w'.heap.size r (leftsOf (g.prods.drop a)) ∧ Chg noB w w' := by
  refine ref02_lefts.ct fun R hR => ?_
  obtain ⟨A1, c1, A2, c2, A3, c3, A4, c4, rfl, ⟨m1, m2, m3, m4⟩, _, hc0, hg⟩ := box_all h hB
  unfold ref02_lefts.run
  simp -dsimp [go_sem]
  generalize hw1 : w.alloc (.cells #[.slice A1 g.terms.length c1, .slice A2 g.nons.length c2, .slice A3 g.levels.length c3, .int .i64 g.start, .slice A4 g.prods.length c4] 27) = w1 at hc0 hg ⊢
  generalize w.heap.size = q at hg ⊢
  generalize hE : g.prods.drop a = nl
  rw [hE] at hR
  have hnl : nl.length = g.prods.length - a := by rw [← hE]; simp
  have hel : ∀ i (hi : i < nl.length), g.prods[a + i]'(by omega) = nl[i] := fun i hi => by simp [← hE]
  have n0 := (St.refl noB w1).nilRow 3 1
  refine ref02_lefts.l6_intro _ _ _ _ _ (fun x y w' => ∃ (j k : Nat) (A : Option Addr) (n c : Nat), y = .int .i64 j ∧ x = .slice A n c ∧ j = a + k ∧ k ≤ nl.length ∧ n = (leftsOf (nl.take k)).length ∧
    St noB w1 w' [rowC 3 1 A n c ((leftsOf (nl.take k)).map (Value.int .i64 ·))] ∧ n ≤ k ∧ ∀ x ∈ leftsOf (nl.take k), inI64 x) (fun _ y _ => g.prods.length + a - iv y) ⟨a, 0, none, 0, 0, rfl, rfl, rfl, by omega, rfl, by simpa [leftsOf] using n0, by omega, by simp [leftsOf]⟩ ?_
  rintro _ _ w2 ⟨j, k, A, n, c, rfl, rfl, hj, hk, hn, hst, hnk, hin⟩ C hC
  have z2 := hg w2 hst.chg
  simp -dsimp [go_sem, z2.k]
  refine SPL_intro (fun p1 => ?_) (fun p1 => ?_) <;> simp at p1
  · have hk1 : k < nl.length := by omega
    have wj : IntKind.i64.wrap ((j : Int) + 1) = (j : Int) + 1 := IntWalk.i64_in _ (by omega)
    have hej : g.prods[j] = nl[k] := by subst hj; exact hel k hk1
    have htk : nl.take (k + 1) = nl.take k ++ [nl[k]] := List.take_succ_eq_append_getElem hk1
    have hlt : leftsOf (nl.take (k + 1)) = addL (leftsOf (nl.take k)) nl[k].1 := by rw [htk, leftsOf_snoc]
    have pr : ∀ w', Chg noB w2 w' → ∃ b o, A4 = some ⟨b, o, none⟩ ∧ w'.cell? ⟨b, o + j * 3, none⟩ = some (.int .i64 nl[k].1) ∧ inI64 nl[k].1 := fun w' hc => by
      obtain ⟨b, o, vr, e, _, d1, _, _, _, i1, _⟩ := prods_at (hg w' (hst.chg.trans hc)).r4 p1
      rw [hej] at d1 i1
      exact ⟨b, o, e, d1, i1⟩
    have hLe : ∃ L, L = leftsOf (nl.take k) := ⟨_, rfl⟩
    refine hLe.elim fun L hL => ?_
    rw [← hL] at hn hst hin hlt
    subst hn
    simp -dsimp [go_sem]
    refine ref02_lefts.l16_intro _ _ _ _ _ _ _ _ (fun x y w' => ∃ (i : Nat) (b : Bool), y = .int .i64 i ∧ x = .bool b ∧ i ≤ L.length ∧ St noB w1 w' [rowC 3 1 A L.length c (L.map (Value.int .i64 ·))] ∧ Chg noB w2 w' ∧ (b = true ↔ nl[k].1 ∈ L.take i)) (fun _ y _ => L.length - iv y) ⟨0, false, rfl, rfl, by omega, hst, Chg.refl _ _, by simp⟩ ?_
    rintro _ _ w3 ⟨i, b, rfl, rfl, hi, s3, hc3, hb⟩ C' hC'
    simp -dsimp [go_sem]
    refine SPL_intro (fun p2 => ?_) (fun p2 => ?_) <;> simp at p2
    · have wi : IntKind.i64.wrap ((i : Int) + 1) = (i : Int) + 1 := IntWalk.i64_in _ (by omega)
      have hti : L.take (i + 1) = L.take i ++ [L[i]] := List.take_succ_eq_append_getElem p2
      have s3d := s3.old ((Chg.refl noB w3).drew)
      obtain ⟨g3, e3, x1, _⟩ := s3d.rowAt 0 rfl (j := i) (by simpa using p2)
      subst e3
      simp only [List.getElem_map] at x1
      cases b with
      | true =>
        simp -dsimp [go_sem, wi]
        refine hC' _ _ _ ⟨i + 1, true, by simp, rfl, by omega, s3d, hc3.drew, ?_⟩ (by simp [iv]; omega)
        rw [hti, List.mem_append]; exact ⟨fun _ => Or.inl (hb.1 rfl), fun _ => rfl⟩
      | false =>
        obtain ⟨b4, o4, rfl, x2, _⟩ := pr _ hc3.drew
        have zd := hg _ s3d.chg
        simp -dsimp [go_sem, zd.k, p1, p2, x1, x2, wi]
        refine hC' _ _ _ ⟨i + 1, _, by simp, rfl, by omega, s3d, hc3.drew, ?_⟩ (by simp [iv]; omega)
        rw [hti, List.mem_append, List.mem_singleton, beq_iff_eq]
        constructor
        · intro e; exact Or.inr e.symm
        · rintro (h1 | h1)
          · exact absurd (hb.2 h1) (by simp)
          · exact h1.symm
    · have hia : i = L.length := by omega
      subst hia
      rw [List.take_length] at hb
      cases b with
      | true =>
        have ha' : addL L nl[k].1 = L := if_pos (hb.1 rfl)
        rw [ha'] at hlt
        simp -dsimp [go_sem, wj]
        refine hC _ _ _ ⟨j + 1, k + 1, A, L.length, c, by simp, rfl, by omega, by omega, by rw [hlt], by rw [hlt]; exact s3, by omega, by rw [hlt]; exact hin⟩ (by simp [iv]; omega)
      | false =>
        have hno : nl[k].1 ∉ L := fun h => by have := hb.2 h; cases this
        have ha' : addL L nl[k].1 = L ++ [nl[k].1] := if_neg hno
        rw [ha'] at hlt
        obtain ⟨b4, o4, rfl, x2, i2⟩ := pr _ hc3
        have z3 := hg _ s3.chg
        simp -dsimp [go_sem, z3.k, p1, x2]
        refine s3.append1 0 rfl uInts iInt rfl (by omega) (news := [.int .i64 nl[k].1]) rfl (by simp [Value.oneCell']) (by unfold maxLen; omega) (by unfold maxBytes; omega) ?_
        intro g' cap w6 h6
        simp -dsimp [go_sem, wj]
        have em : L.map (Value.int .i64 ·) ++ [.int .i64 nl[k].1] = (leftsOf (nl.take (k + 1))).map (Value.int .i64 ·) := by rw [hlt, List.map_append]; rfl
        rw [em] at h6
        refine hC _ _ _ ⟨j + 1, k + 1, _, _, _, by simp, rfl, by omega, by omega, by rw [hlt, List.length_append]; rfl, h6, by omega, ?_⟩ (by simp [iv]; omega)
        rw [hlt]
        intro x hx
        rcases List.mem_append.1 hx with hx | hx
        · exact hin x hx
        · rw [List.mem_singleton.1 hx]; exact i2
  · have hka : k = nl.length := by omega
    subst hka
    rw [List.take_length] at hst hn hin
    simp -dsimp [go_sem]
    exact hR _ _ ⟨ints_own hst 0 rfl hin, hc0.trans hst.chg⟩
end Go.Proofs.Ytkacbjhiobnbfaa

/-
  The document's answer: which grammars are plain, which are closed.
-/
namespace Go.Proofs.Ytkacbjhiobnbfaa
open Go.Px Go.Px.Scan Go.RowKit
set_option maxHeartbeats 1000000
set_option linter.unusedSimpArgs false
set_option linter.unusedVariables false
set_option maxRecDepth 100000
attribute [-go_sem] Builtin.append_

/-- All but what the added one has of its own. -/
def FitsP (g : Gr) (a : Nat) : Prop := SymsP g a ∧ ProdsP g a
open Classical in
noncomputable def fitsB (g : Gr) (a : Nat) : Bool := decide (FitsP g a)
theorem fitsB_iff {g : Gr} {a : Nat} : fitsB g a = true ↔ FitsP g a := @decide_eq_true_iff _ (_)

theorem levels_tail {g : Gr} (h0 : g.terms.head? = some (⟨#[]⟩, 0)) (i : Nat) : (∃ t ∈ g.terms, t.2 = (i : Int) + 1) ↔ ∃ t ∈ g.terms.tail, t.2 = (i : Int) + 1 := by
  cases e : g.terms with
  | nil => simp
  | cons t r =>
    rw [e] at h0
    simp at h0
    constructor
    · rintro ⟨x, hx, hi⟩
      rcases List.mem_cons.1 hx with rfl | hx
      · rw [h0] at hi; simp at hi; omega
      · exact ⟨x, hx, hi⟩
    · rintro ⟨x, hx, hi⟩; exact ⟨x, List.mem_cons_of_mem _ hx, hi⟩

theorem fits_ct {w : World} {B : Nat} {v : Value} {g : Gr} (h : rGram.atN w B v g) (hB : B ≤ w.heap.size) (a : Nat) (ha : a ≤ 1) : Ct Try.prog ref02_fits.id #[v, .int .i64 a] w fun r w' => r = .bool (fitsB g a) ∧ Chg noB w w' := by
  refine ref02_fits.ct fun R hR => ?_
  obtain ⟨A1, c1, A2, c2, A3, c3, A4, c4, rfl, ⟨m1, m2, m3, m4⟩, hst, hc0, hg⟩ := box_all h hB
  have no : ∀ w', Chg noB w w' → ¬ FitsP g a → R (.returned (.bool false)) w' := fun w' hc hn => hR _ _ ⟨by rw [bool_no fitsB_iff hn], hc⟩
  unfold ref02_fits.run
  have w64 : IntKind.i64.wrap (64 + (a : Int)) = 64 + a := IntWalk.i64_in _ (by omega)
  simp -dsimp [go_sem, w64]
  generalize hw1 : w.alloc (.cells #[.slice A1 g.terms.length c1, .slice A2 g.nons.length c2, .slice A3 g.levels.length c3, .int .i64 g.start, .slice A4 g.prods.length c4] 27) = w1 at hc0 hg ⊢
  have hz : ∀ w', Chg noB w1 w' → rGram.atN w' B (.agg #[.slice A1 g.terms.length c1, .slice A2 g.nons.length c2, .slice A3 g.levels.length c3, .int .i64 g.start, .slice A4 g.prods.length c4]) g ∧ B ≤ w'.heap.size := fun w' hc =>
    ⟨rGram_below h ((hc0.trans hc).below hB fun _ _ => id), (hg w' hc).sz⟩
  generalize w.heap.size = q at hg ⊢
  have z1 := hg w1 (Chg.refl _ _)
  refine SPL_intro (fun q1 => ?_) (fun q1 => ?_) <;> simp at q1
  · simp -dsimp [go_sem]
    exact no _ hc0 fun hs => by have := hs.1.n1; omega
  simp -dsimp [go_sem, z1.k]
  refine SPL_intro (fun q2 => ?_) (fun q2 => ?_) <;> simp at q2
  · simp -dsimp [go_sem]
    exact no _ hc0 fun hs => by have := hs.1.t1; omega
  have w96 : IntKind.i64.wrap (96 + (a : Int)) = 96 + a := IntWalk.i64_in _ (by omega)
  simp -dsimp [go_sem, z1.k, w96]
  refine SPL_intro (fun q3 => ?_) (fun q3 => ?_) <;> simp at q3
  · simp -dsimp [go_sem]
    exact no _ hc0 fun hs => by have := hs.2.c1; omega
  have wa1 : IntKind.i64.wrap (1 + (a : Int)) = 1 + a := IntWalk.i64_in _ (by omega)
  simp -dsimp [go_sem, z1.k, wa1]
  refine SPL_intro (fun q4 => ?_) (fun q4 => ?_) <;> simp at q4
  · simp -dsimp [go_sem]
    exact no _ hc0 fun hs => by have := hs.2.c0; omega
  simp -dsimp [go_sem, z1.k]
  refine SPL_intro (fun q5 => ?_) (fun q5 => ?_) <;> simp at q5
  · exact no _ hc0 fun hs => by have := hs.1.lev; omega
  have w65 : IntKind.i64.wrap ((g.terms.length : Int) - 1) = (g.terms.length : Int) - 1 := IntWalk.i64_in _ (by omega)
  have w66 : IntKind.i64.wrap ((g.terms.length : Int) - 1 + g.nons.length) = (g.terms.length : Int) - 1 + g.nons.length := IntWalk.i64_in _ (by omega)
  have w67 : IntKind.i64.wrap ((g.terms.length : Int) - 1 + g.nons.length - a) = (g.terms.length : Int) - 1 + g.nons.length - a := IntWalk.i64_in _ (by omega)
  simp -dsimp [go_sem, z1.k, w65, w66, w67]
  refine SPL_intro (fun q6 => ?_) (fun q6 => ?_) <;> simp at q6
  · exact no _ hc0 fun hs => by
      have h1 := hs.1.sum
      have h2 : 0 < g.terms.length := by
        have := hs.1.t0
        cases e : g.terms with
        | nil => rw [e] at this; cases this
        | cons t r => simp
      have h3 := hs.1.n0
      omega
  have hs : g.terms.length + g.nons.length ≤ 1000 := by omega
  simp -dsimp [go_sem, z1.k]
  refine CALL_of (termsFit_ct (hz _ (Chg.refl _ _)).1 (hz _ (Chg.refl _ _)).2) ?_
  rintro _ w2 ⟨rfl, hc2⟩
  have z2 := hg _ hc2
  cases hT : termsB g with
  | false =>
    simp -dsimp [go_sem]
    exact no _ (hc0.trans hc2) fun hs => by rw [termsB_iff.2 ⟨hs.1.t0, hs.1.terms, hs.1.tnd⟩] at hT; cases hT
  | true =>
    have hTP := termsB_iff.1 hT
    simp -dsimp [go_sem, z2.k]
    refine CALL_of (levelsFit_ct (hz _ hc2).1 (hz _ hc2).2) ?_
    rintro _ w3 ⟨rfl, hc3⟩
    have h3 := hc2.trans hc3
    have z3 := hg _ h3
    simp -dsimp [go_sem, z3.k]
    refine CALL_of (nonsFit_ct (hz _ h3).1 (hz _ h3).2 a ha) ?_
    rintro _ w4 ⟨rfl, hc4⟩
    have h4 := h3.trans hc4
    have z4 := hg _ h4
    have wl : IntKind.i64.wrap ((g.terms.length : Int) + a) = (g.terms.length : Int) + a := IntWalk.i64_in _ (by omega)
    simp -dsimp [go_sem, z4.k, wl]
    refine CALL_of (prodsFit_ct (hz _ h4).1 (hz _ h4).2 a ha hs) ?_
    rintro _ w5 ⟨rfl, hc5⟩
    have h5 := h4.trans hc5
    have z5 := hg _ h5
    simp -dsimp [go_sem, z5.k]
    refine CALL_of (lefts_ct (hz _ h5).1 (hz _ h5).2 a ha (by omega)) ?_
    rintro vl w6 ⟨hl, hc6⟩
    obtain ⟨Al, cl, rfl, _⟩ := slice_form hl
    have h6 := h5.trans hc6
    have h6d := h6.drew
    have z6 := hg _ h6
    have z6d := hg _ h6d
    have hlev := levelsB_iff (g := g)
    have hnon := nonsB_iff (g := g) (a := a)
    have hpf := pfitB_iff (g := g) (a := a)
    have nt0 : ∃ n, g.terms.length = n + 1 := by
      have := hTP.1
      cases e : g.terms with
      | nil => rw [e] at this; cases this
      | cons t r => exact ⟨r.length, rfl⟩
    obtain ⟨nt, hnt⟩ := nt0
    cases hL : levelsB g with
    | false =>
      simp -dsimp [go_sem]
      exact no _ (hc0.trans h6d) fun hs => by
        have : LevelsP g := fun i hi => ⟨(hs.1.levels i hi).1, (hs.1.levels i hi).2.1, (levels_tail hTP.1 i).2 (hs.1.levels i hi).2.2⟩
        rw [hlev.2 this] at hL; cases hL
    | true =>
      cases hN : nonsB g a with
      | false =>
        simp -dsimp [go_sem]
        exact no _ (hc0.trans h6d) fun hs => by rw [hnon.2 ⟨hs.1.nnd, hs.1.nnam⟩] at hN; cases hN
      | true =>
        cases hP : pfitB g a with
        | false =>
          simp -dsimp [go_sem]
          exact no _ (hc0.trans h6d) fun hs => by rw [hpf.2 hs.2.each] at hP; cases hP
        | true =>
          have hLP := hlev.1 hL
          have hNP := hnon.1 hN
          have hPP := hpf.1 hP
          have wn : IntKind.i64.wrap ((g.nons.length : Int) - a) = (g.nons.length : Int) - a := IntWalk.i64_in _ (by omega)
          simp -dsimp [go_sem, z6d.k, wn]
          have lpos : 0 < (leftsOf (g.prods.drop a)).length := by
            have hp : 0 < (g.prods.drop a).length := by simp; omega
            exact List.length_pos_of_mem (leftsOf_mem.2 ⟨(g.prods.drop a)[0], List.getElem_mem hp, rfl⟩)
          refine SPL_intro (fun p1 => ?_) (fun p1 => ?_) <;> simp at p1
          · simp -dsimp [go_sem, z6d.k, wl]
            refine SPL_intro (fun p2 => ?_) (fun p2 => ?_) <;> simp at p2
            · simp -dsimp [go_sem, z6d.k]
              refine CALL_of (Symbols_ct (hz _ h6d).1 (hz _ h6d).2 hs) ?_
              rintro _ w7 ⟨rfl, hc7⟩
              have z7 := hg _ (h6d.trans hc7)
              simp -dsimp [go_sem, z7.k]
              refine hR _ _ ⟨?_, hc0.trans (h6d.trans hc7)⟩
              congr 1
              refine bool_eq ?_
              rw [decide_eq_true_iff, fitsB_iff]
              constructor
              · intro p3
                exact ⟨⟨hTP.1, by omega, by omega, by omega, by omega, hTP.2.1, fun i hi => ⟨(hLP i hi).1, (hLP i hi).2.1, (levels_tail hTP.1 i).1 (hLP i hi).2.2⟩, hTP.2.2, hNP.1, hNP.2⟩,
                  ⟨by omega, by omega, hPP, by omega, by omega, by omega⟩⟩
              · intro hs; exact hs.2.s1
            · exact no _ (hc0.trans h6d) fun hs => by have := hs.2.s0; omega
          · exact no _ (hc0.trans h6d) fun hs => by have := hs.2.lefts; omega

theorem refClosed_ct {w : World} {B : Nat} {v : Value} {g : Gr} (h : rGram.atN w B v g) (hB : B ≤ w.heap.size) : Ct Try.prog ref02_Closed.id #[v] w fun r w' => r = .bool (closedB g) ∧ Chg noB w w' := by
  refine ref02_Closed.ct fun R hR => ?_
  obtain ⟨A1, c1, A2, c2, A3, c3, A4, c4, rfl, ⟨m1, m2, m3, m4⟩, hst, hc0, hg⟩ := box_all h hB
  have no : ∀ w', Chg noB w w' → ¬ ClosedP g → R (.returned (.bool false)) w' := fun w' hc hn => hR _ _ ⟨by rw [bool_no closedB_iff hn], hc⟩
  unfold ref02_Closed.run
  simp -dsimp [go_sem]
  generalize hw1 : w.alloc (.cells #[.slice A1 g.terms.length c1, .slice A2 g.nons.length c2, .slice A3 g.levels.length c3, .int .i64 g.start, .slice A4 g.prods.length c4] 27) = w1 at hc0 hg ⊢
  have hz : ∀ w', Chg noB w1 w' → rGram.atN w' B (.agg #[.slice A1 g.terms.length c1, .slice A2 g.nons.length c2, .slice A3 g.levels.length c3, .int .i64 g.start, .slice A4 g.prods.length c4]) g ∧ B ≤ w'.heap.size := fun w' hc =>
    ⟨rGram_below h ((hc0.trans hc).below hB fun _ _ => id), (hg w' hc).sz⟩
  generalize w.heap.size = q at hg ⊢
  have z1 := hg w1 (Chg.refl _ _)
  refine SPL_intro (fun q1 => ?_) (fun q1 => ?_) <;> simp at q1
  · simp -dsimp [go_sem]
    exact no _ hc0 fun hs => by have := hs.syms.n0; omega
  have q1' : 0 < g.nons.length := by omega
  obtain ⟨b2, o2, rfl, hb2, d1, d2⟩ := Go.Px.strs_at z1.r2 q1'
  simp at d1
  have hf : g.nons.head? = some g.nons[0] := by rw [List.head?_eq_getElem?, List.getElem?_eq_getElem q1']
  simp -dsimp [go_sem, z1.k, q1', d1]
  refine SPL_intro (fun p1 => ?_) (fun p1 => ?_) <;> simp at p1
  · simp -dsimp [go_sem]
    refine no _ hc0 fun hv => p1 ?_
    have h9 := hv.first
    rw [hf] at h9
    injection h9 with h9
    rw [h9, ByteArray.toList_eq]
  have hfirst : g.nons.head? = some ⟨#[]⟩ := by
    rw [hf]
    congr 1
    exact bs_ext (by rw [← ByteArray.toList_eq]; exact p1)
  simp -dsimp [go_sem, z1.k]
  refine SPL_intro (fun p2 => ?_) (fun p2 => ?_) <;> simp at p2
  · exact no _ hc0 fun hv => by have := hv.prods.c0; omega
  have hc0' : 0 < g.prods.length := by omega
  obtain ⟨b5, o5, vr, rfl, hb5, f1, f2, f3, fr, i1, i2⟩ := prods_at z1.r4 hc0'
  obtain ⟨Ar, cr, rfl, lr, mr, _⟩ := slice_form fr
  simp at f1 f2 f3
  have hph : g.prods.head? = some g.prods[0] := by rw [List.head?_eq_getElem?, List.getElem?_eq_getElem hc0']
  have bad : g.prods[0] ≠ ((g.terms.length : Int), [g.start], 0) → ¬ ClosedP g := fun hn hv => by
    have := hv.added
    rw [hph] at this
    injection this with this
    exact hn this
  generalize hp : g.prods[0] = p at f1 f2 f3 fr bad lr
  have s3 := (St.refl noB w1).alloc #[.int .i64 p.1, .slice Ar p.2.1.length cr, .int .i64 p.2.2] 47
  have z3 := hg _ s3.chg
  simp -dsimp [go_sem, z1.k, hc0', f1, f2, f3, z3.k]
  generalize w1.heap.size = pb at s3 ⊢
  generalize w1.alloc (.cells #[.int .i64 p.1, .slice Ar p.2.1.length cr, .int .i64 p.2.2] 47) = w3 at s3 z3 ⊢
  have s3d := s3.old ((Chg.refl noB w3).drew)
  have z3d := hg _ s3d.chg
  have y3 := s3d.box 0 rfl
  simp [boxAt] at y3
  have s4d := s3d.old ((Chg.refl noB w3.drew).drew)
  have hcd := hc0.trans s3d.chg
  refine SPL_intro (fun p3 => ?_) (fun p3 => ?_) <;> simp at p3
  · simp -dsimp [go_sem]
    exact no _ hcd (bad fun e => p3 (by rw [e]))
  simp -dsimp [go_sem, y3, z3d.k]
  refine SPL_intro (fun p4 => ?_) (fun p4 => ?_) <;> simp at p4
  · simp -dsimp [go_sem]
    exact no _ hcd (bad fun e => p4 (by rw [e]; rfl))
  have p4' : 0 < p.2.1.length := by omega
  obtain ⟨b6, o6, rfl, hb6, e1, e2⟩ := Go.Px.ints_at (Rep.below fr (s3d.chg.below z1.sz fun _ _ => id)) p4'
  simp at e1
  have hl1 : p.2.1 = [p.2.1[0]] := by
    apply List.ext_getElem?
    intro i
    cases i with
    | zero => simp [List.getElem?_eq_getElem p4']
    | succ i => simp; omega
  simp -dsimp [go_sem, y3, z3d.k, p4', e1]
  refine SPL_intro (fun p5 => ?_) (fun p5 => ?_) <;> simp at p5
  · simp -dsimp [go_sem]
    refine no _ hcd (bad fun e => p5 ?_)
    have e2 : p.2.1 = [g.start] := by rw [e]
    simp only [e2, List.getElem_cons_zero]
  simp -dsimp [go_sem, y3, z3d.k]
  refine SPL_intro (fun p6 => ?_) (fun p6 => ?_) <;> simp at p6
  · exact no _ hcd (bad fun e => p6 (by rw [e]))
  simp -dsimp [go_sem, z3d.k]
  refine CALL_of (fits_ct (hz _ s3d.chg).1 (hz _ s3d.chg).2 1 (by omega)) ?_
  rintro _ w5 ⟨rfl, hc5⟩
  refine hR _ _ ⟨?_, hcd.trans hc5⟩
  congr 1
  refine bool_eq ?_
  rw [fitsB_iff, closedB_iff]
  have hpe : p = ((g.terms.length : Int), [g.start], 0) := Prod.ext p3 (Prod.ext (by show p.2.1 = [g.start]; rw [hl1, p5]) p6)
  exact ⟨fun hs => ⟨hfirst, hs.1, hs.2, by rw [hph, hp, hpe]⟩, fun hv => ⟨hv.syms, hv.prods⟩⟩
end Go.Proofs.Ytkacbjhiobnbfaa

/-
  The document's Copy of a grammar: it reads as the grammar does.
-/
namespace Go.Px
open Go.RowKit
/-- A row reads, element by element. -/
theorem row_reads {α β : Type} {r : Rep α} {enc : β → List Value} {w : World} {F : Nat → Prop} {e B : Nat} {a : Option Addr} {n c : Nat} {m : List β} {l : List α} (h : (rowC e r.size a n c (m.flatMap enc)).ok w F) (hs : ∀ x ∈ m, (enc x).length = r.size) (hpos : 0 < r.size) (hm : m.length = n) (hl : l.length = n)
    (hr : ∀ (i : Nat) x y, m[i]? = some x → l[i]? = some y → r.ok w B (enc x) y) (hB : w.heap.size ≤ B) : (rSlice r).at1 w B (.slice a n c) l := by
  obtain ⟨_, hnc, hcm⟩ := row_size h
  subst hl
  refine ⟨a, c, rfl, hnc, hcm, trivial, fun hp => ?_⟩
  obtain ⟨g, hg, _, _, _, hlt⟩ := row_elem h hs hpos (i := 0) (x := m[0]) (List.getElem?_eq_getElem (by omega))
  refine ⟨g, 0, hg, by omega, fun i y hy => ?_⟩
  have hi := (List.getElem?_eq_some_iff.1 hy).1
  obtain ⟨g', hg', hc, _⟩ := row_elem h hs hpos (i := i) (x := m[i]) (List.getElem?_eq_getElem (by omega))
  rw [hg] at hg'
  injection hg' with hg'; injection hg' with hg'; subst hg'
  refine ⟨enc m[i], hr i _ _ (List.getElem?_eq_getElem (by omega)) hy, fun j u hj => ?_⟩
  rw [Nat.zero_add]
  exact hc j u hj
end Go.Px
namespace Go.Proofs.Ytkacbjhiobnbfaa
open Go.Px Go.Px.Scan Go.RowKit
set_option maxHeartbeats 1000000
set_option linter.unusedSimpArgs false
set_option linter.unusedVariables false
set_option maxRecDepth 100000
attribute [-go_sem] Builtin.append_
attribute [-go_sem] ref02_Copy.b3 ref02_Copy.b7 ref02_Copy.b4

def cTerm (t : ByteArray × Int) : List Value := [.string t.1, .int .i64 t.2]
def cStr (s : ByteArray) : List Value := [.string s]
def cInt (x : Int) : List Value := [.int .i64 x]
def cPr (p : (Int × List Int × Int) × Value) : List Value := [.int .i64 p.1.1, p.2, .int .i64 p.1.2.2]
theorem cInt_flat (l : List Int) : l.flatMap cInt = l.map (.int .i64 ·) := flat_one _ _
theorem bProdC (x y : Int) (w : World) : (Instr.build 47 #[(0, .int .i64 x), (2, .int .i64 y)]).run Try.prog w = .ok (.agg #[.int .i64 x, .slice none 0 0, .int .i64 y]) w := by simp [go_sem]
theorem bGramC (x : Int) (w : World) : (Instr.build 27 #[(3, .int .i64 x)]).run Try.prog w = .ok (.agg #[.slice none 0 0, .slice none 0 0, .slice none 0 0, .int .i64 x, .slice none 0 0]) w := by simp [go_sem]
attribute [go_sem ↓] bProdC bGramC

/-- What a copy's memory is. -/
def CpL (q rb ob : Nat) (g : Gr) (A1 : Option Addr) (c1 : Nat) (A2 : Option Addr) (c2 : Nat) (A3 : Option Addr) (c3 : Nat) (A4 : Option Addr) (c4 : Nat) (At : Option Addr) (ct : Nat) (An : Option Addr) (cn : Nat) (Al : Option Addr) (cl : Nat) (k : Nat) (Ap : Option Addr) (cp : Nat) (vs : List Value) : List Ch :=
  [boxC q 27 [.slice A1 g.terms.length c1, .slice A2 g.nons.length c2, .slice A3 g.levels.length c3, .int .i64 g.start, .slice A4 g.prods.length c4],
   boxC rb 27 [.slice none 0 0, .slice none 0 0, .slice none 0 0, .int .i64 0, .slice none 0 0],
   boxC ob 27 [.slice At g.terms.length ct, .slice An g.nons.length cn, .slice Al g.levels.length cl, .int .i64 g.start, .slice Ap k cp],
   rowC 106 2 At g.terms.length ct (g.terms.flatMap cTerm), rowC 9 1 An g.nons.length cn (g.nons.flatMap cStr), rowC 3 1 Al g.levels.length cl (g.levels.flatMap cInt),
   rowC 47 3 Ap k cp (((g.prods.take k).zip vs).flatMap cPr), rowsC 3 1 vs ((g.prods.take k).map fun p => p.2.1.flatMap cInt)]

structure GFit (g : Gr) : Prop where
  terms : g.terms.length * 24 ≤ maxBytes
  nons : g.nons.length * 16 ≤ maxBytes
  levels : g.levels.length * 8 ≤ maxBytes
  prods : g.prods.length * 40 ≤ maxBytes
  right : ∀ p ∈ g.prods, p.2.1.length * 8 ≤ maxBytes
theorem reach_max {n : Nat} (h : n ≤ reachN) : n ≤ maxBytes := Nat.le_trans h (by decide)
theorem gram_fit {g : Gr} (h : rGram.fit g) : GFit g where
  terms := reach_max h.1.1
  nons := reach_max h.2.1.1
  levels := reach_max h.2.2.1.1
  prods := reach_max h.2.2.2.2.1
  right p hp := reach_max (h.2.2.2.2.2 p hp).2.1.1

theorem Copy_ct {w : World} {B : Nat} {vg : Value} {g : Gr} (h : rGram.atN w B vg g) (hB : B ≤ w.heap.size) (hfit : GFit g) : Ct Try.prog ref02_Copy.id #[vg] w fun v w' => rGram.atN w' w'.heap.size v g ∧ Chg noB w w' := by
  refine ref02_Copy.ct fun R hR => ?_
  obtain ⟨A1, c1, A2, c2, A3, c3, A4, c4, rfl, h1, h2, h3, hst, h4, k1, k2, k3, k4⟩ := (rGram_open h).ex
  obtain ⟨g1, g2, g3, g4, g5⟩ := hfit
  obtain ⟨q, hq⟩ : ∃ q, w.heap.size = q := ⟨_, rfl⟩
  obtain ⟨rb, hrb⟩ : ∃ rb, (w.alloc (.cells #[.slice A1 g.terms.length c1, .slice A2 g.nons.length c2, .slice A3 g.levels.length c3, .int .i64 g.start, .slice A4 g.prods.length c4] 27)).heap.size = rb := ⟨_, rfl⟩
  obtain ⟨ob, hob⟩ : ∃ ob, ((w.alloc (.cells #[.slice A1 g.terms.length c1, .slice A2 g.nons.length c2, .slice A3 g.levels.length c3, .int .i64 g.start, .slice A4 g.prods.length c4] 27)).alloc (.cells #[.slice none 0 0, .slice none 0 0, .slice none 0 0, .int .i64 0, .slice none 0 0] 27)).heap.size = ob := ⟨_, rfl⟩
  have s1 := ((St.refl noB w).alloc #[.slice A1 g.terms.length c1, .slice A2 g.nons.length c2, .slice A3 g.levels.length c3, .int .i64 g.start, .slice A4 g.prods.length c4] 27).alloc #[.slice none 0 0, .slice none 0 0, .slice none 0 0, .int .i64 0, .slice none 0 0] 27
  rw [hq] at s1
  have cs := (s1.box 0 rfl).1.2.2.2.1
  have s2 := (((St.refl noB w).alloc #[.slice A1 g.terms.length c1, .slice A2 g.nons.length c2, .slice A3 g.levels.length c3, .int .i64 g.start, .slice A4 g.prods.length c4] 27).alloc #[.slice none 0 0, .slice none 0 0, .slice none 0 0, .int .i64 0, .slice none 0 0] 27).alloc #[.slice none 0 0, .slice none 0 0, .slice none 0 0, .int .i64 g.start, .slice none 0 0] 27
  rw [hq, hrb, hob] at s2
  unfold ref02_Copy.run
  simp -dsimp [go_sem, hq, hrb, hob, cs]
  generalize ((w.alloc (.cells #[.slice A1 g.terms.length c1, .slice A2 g.nons.length c2, .slice A3 g.levels.length c3, .int .i64 g.start, .slice A4 g.prods.length c4] 27)).alloc (.cells #[.slice none 0 0, .slice none 0 0, .slice none 0 0, .int .i64 0, .slice none 0 0] 27)).alloc (.cells #[.slice none 0 0, .slice none 0 0, .slice none 0 0, .int .i64 g.start, .slice none 0 0] 27) = W3 at s2 ⊢
  clear s1 cs hrb hob
  have y3 := s2.box 2 rfl
  have z3 := s2.box 0 rfl
  simp [boxAt] at y3 z3
  simp -dsimp [go_sem, y3, z3]
  have s3 := ((s2.nilRow 106 2).nilRow 9 1).nilRow 3 1
  have rdg : ∀ w', Chg noB w w' → rGram.atN w' B (.agg #[.slice A1 g.terms.length c1, .slice A2 g.nons.length c2, .slice A3 g.levels.length c3, .int .i64 g.start, .slice A4 g.prods.length c4]) g := fun w' hc => rGram_below h (hc.below hB fun _ _ => id)
  have bl : ∀ {w' : World}, Chg noB w w' → Below B w w' := fun hc => hc.below hB fun _ _ => id
  refine s3.appendRd (r := rTerm) (enc := cTerm) 3 rfl uTerms iTerm rfl (by decide) (Rep.below h1 (bl s3.chg)) (fun ⟨_, _, e, h2, h3⟩ _ => by obtain ⟨rfl, _⟩ := h2; obtain ⟨rfl, _⟩ := h3; exact e) (fun x _ u hu => by simp [cTerm] at hu; rcases hu with rfl | rfl <;> rfl) (fun _ _ => rfl) (by omega) (by omega) ?_
  intro At ct w4 s4
  rw [Nat.zero_add] at s4 ⊢
  have y4 := s4.box 2 rfl
  have z4 := s4.box 0 rfl
  simp [boxAt] at y4 z4
  have s5 := s4.set 2 rfl 0 (.slice At g.terms.length ct)
  simp -dsimp [go_sem, y4, z4]
  generalize w4.setCell ⟨ob, 0, none⟩ (.slice At g.terms.length ct) = w5 at s5 ⊢
  refine s5.appendRd (r := rStr) (enc := cStr) 4 rfl uStrs iStr rfl (by decide) (Rep.below h2 (bl s5.chg)) (fun h _ => h.1) (fun x _ u hu => by simp [cStr] at hu; rcases hu with rfl | rfl <;> rfl) (fun _ _ => rfl) (by omega) (by omega) ?_
  intro An cn w6 s6
  rw [Nat.zero_add] at s6 ⊢
  have y6 := s6.box 2 rfl
  have z6 := s6.box 0 rfl
  simp [boxAt] at y6 z6
  have s7 := s6.set 2 rfl 1 (.slice An g.nons.length cn)
  have y7 := s7.box 2 rfl
  have z7 := s7.box 0 rfl
  simp [boxAt] at y7 z7
  simp -dsimp [go_sem, y6, z6]
  generalize w6.setCell ⟨ob, 1, none⟩ (.slice An g.nons.length cn) = w7 at s7 ⊢
  refine s7.appendRd (r := rInt) (enc := cInt) 5 rfl uInts iInt rfl (by decide) (Rep.below h3 (bl s7.chg)) (fun h _ => h.1) (fun x _ u hu => by simp [cInt] at hu; rcases hu with rfl | rfl <;> rfl) (fun _ _ => rfl) (by omega) (by omega) ?_
  intro Al cl w8 s8
  rw [Nat.zero_add] at s8 ⊢
  have y8 := s8.box 2 rfl
  simp [boxAt] at y8
  have s9 := s8.set 2 rfl 2 (.slice Al g.levels.length cl)
  simp -dsimp [go_sem, y8]
  generalize w8.setCell ⟨ob, 2, none⟩ (.slice Al g.levels.length cl) = w9 at s9 ⊢
  have s10 : St noB w w9 (CpL q rb ob g A1 c1 A2 c2 A3 c3 A4 c4 At ct An cn Al cl 0 none 0 []) := by
    have h1 := (s9.nilRow 47 3).push (c := rowsC 3 1 [] []) ⟨rfl, fun i v xs h => by simp at h⟩
    exact h1
  clear s2 s3 s4 s5 s6 s7 s8 s9 y4 z4 y6 z6 y8 y3 z3
  unfold ref02_Copy.b4
  refine ref02_Copy.l6_intro _ _ _ _ _ _ (fun y w' => ∃ (k : Nat) (Ap : Option Addr) (cp : Nat) (vs : List Value), y = .int .i64 k ∧ k ≤ g.prods.length ∧ St noB w w' (CpL q rb ob g A1 c1 A2 c2 A3 c3 A4 c4 At ct An cn Al cl k Ap cp vs)) (fun y _ => g.prods.length - iv y) ⟨0, none, 0, [], rfl, Nat.zero_le _, s10⟩ ?_
  rintro _ w10 ⟨k, Ap, cp, vs, rfl, hk, s11⟩ C hC
  have z11 := s11.box 0 rfl
  have y11 := s11.box 2 rfl
  simp [boxAt] at z11 y11
  have hvs : vs.length = k := by
    obtain ⟨F, ho, _⟩ := s11.get (k := 7) rfl
    have := ho.1; simp at this; omega
  unfold ref02_Copy.b7
  simp -dsimp [go_sem, z11]
  refine SPL_intro (fun p1 => ?_) (fun p1 => ?_) <;> simp at p1
  · obtain ⟨bp, op, vr, ep, hbp, x1, x2, x3, hr, zl, zv⟩ := prods_at (Rep.below h4 (bl s11.chg)) p1
    subst ep
    obtain ⟨Ar, cr, rfl, hr1, hr2, _⟩ := slice_form hr
    have htk : g.prods.take (k + 1) = g.prods.take k ++ [g.prods[k]] := List.take_succ_eq_append_getElem p1
    have g5' := g5 _ (List.getElem_mem p1)
    have wk := wrap_succ p1 (by omega)
    have hbp1 : bp < w10.heap.size := by have := s11.chg.size; omega
    generalize g.prods[k] = p at x1 x2 x3 hr zl zv hr1 hr2 htk g5' ⊢
    obtain ⟨pb, hpb⟩ : ∃ pb, w10.heap.size = pb := ⟨_, rfl⟩
    have hcz : Chg noB w10 (w10.alloc (.cells #[.int .i64 0, .slice none 0 0, .int .i64 0] 47)) := (Chg.refl _ _).alloc _
    have s12 := s11.alloc #[.int .i64 0, .slice none 0 0, .int .i64 0] 47
    rw [hpb] at s12
    have z12 := (s12.box 0 rfl).1.2.2.2.2.1
    have x1z := (hcz.cell (p := ⟨bp, op + k * 3, none⟩) hbp1 id).trans x1
    have x3z := (hcz.cell (p := ⟨bp, op + k * 3 + 2, none⟩) hbp1 id).trans x3
    have sA := s11.alloc #[.int .i64 p.1, .slice none 0 0, .int .i64 p.2.2] 47
    have zA := (sA.box 0 rfl).1.2.2.2.2.1
    have hcA : Chg noB w10 (w10.alloc (.cells #[.int .i64 p.1, .slice none 0 0, .int .i64 p.2.2] 47)) := (Chg.refl _ _).alloc _
    have x2A := (hcA.cell (p := ⟨bp, op + k * 3 + 1, none⟩) hbp1 id).trans x2
    simp -dsimp [go_sem, z11, p1, x1, x2, x3, hpb, z12, x1z, x3z, zA, x2A]
    have s13 := (s11.alloc #[.int .i64 p.1, .slice none 0 0, .int .i64 p.2.2] 47).old (Chg.refl noB _).drew.drew
    rw [hpb] at s13
    generalize (w10.alloc (.cells #[.int .i64 p.1, .slice none 0 0, .int .i64 p.2.2] 47)).drew.drew = w13 at s13 ⊢
    have s14 := s13.nilRow 3 1
    have hrw : (rSlice rInt).at1 w B (.slice Ar p.2.1.length cr) p.2.1 := (rSlice rInt).keep hr (Nat.le_refl _) fun i hi => (s11.chg.block i (by omega) id).symm
    refine s14.appendRd (r := rInt) (enc := cInt) 9 rfl uInts iInt rfl (by decide) (Rep.below hrw (bl s14.chg)) (fun h _ => h.1) (fun x _ u hu => by simp [cInt] at hu; rcases hu with rfl | rfl <;> rfl) (fun _ _ => rfl) (by omega) (by omega) ?_
    intro a15 c15 w15 s15
    rw [Nat.zero_add] at s15 ⊢
    have y15 := s15.box 8 rfl
    have o15 := s15.box 2 rfl
    simp [boxAt] at y15 o15
    have s16 := s15.set 8 rfl 1 (.slice a15 p.2.1.length c15)
    have y16 := s16.box 8 rfl
    have o16 := s16.box 2 rfl
    simp [boxAt] at y16 o16
    simp -dsimp [go_sem, y15, y16, o16]
    have hsz16 : (w15.setCell ⟨pb, 1, none⟩ (.slice a15 p.2.1.length c15)).heap.size = w15.heap.size := by simp
    rw [← hsz16]
    generalize w15.setCell ⟨pb, 1, none⟩ (.slice a15 p.2.1.length c15) = w16 at s16 ⊢
    refine s16.append1 6 rfl uProds iProd rfl (by omega) (news := [.int .i64 p.1, .slice a15 p.2.1.length c15, .int .i64 p.2.2]) rfl (by simp [Value.oneCell']) (by omega) (by omega) ?_
    intro g' cap w17 s17
    have y17 := s17.box 2 rfl
    simp [boxAt] at y17
    have s18 := s17.set 2 rfl 4 (.slice (some ⟨g', 0, none⟩) (k + 1) cap)
    simp -dsimp [go_sem, y17, wk]
    have s19 := s18.merge (j := 9) (k := 7) rfl rfl (by omega) (e := rowsC 3 1 (vs ++ [.slice a15 p.2.1.length c15]) (((g.prods.take k).map fun p => p.2.1.flatMap cInt) ++ [p.2.1.flatMap cInt])) fun F F' h1 h2 => rowsC_snoc (size := 1) h1 h2
    have e2 : (((g.prods.take (k + 1)).zip (vs ++ [.slice a15 p.2.1.length c15])).flatMap cPr) = (((g.prods.take k).zip vs).flatMap cPr) ++ [.int .i64 p.1, .slice a15 p.2.1.length c15, .int .i64 p.2.2] := by
      rw [htk, List.zip_append (by simp [hvs]; omega), List.flatMap_append]
      simp [cPr]
    have e3 : ((g.prods.take (k + 1)).map fun p => p.2.1.flatMap cInt) = ((g.prods.take k).map fun p => p.2.1.flatMap cInt) ++ [p.2.1.flatMap cInt] := by rw [htk, List.map_append]; rfl
    refine hC _ _ ⟨k + 1, some ⟨g', 0, none⟩, cap, vs ++ [.slice a15 p.2.1.length c15], by simp, by omega, ?_⟩ (by simp [iv]; omega)
    have := s19.take 8
    rw [← e2, ← e3] at this
    exact this
  · have hkl : k = g.prods.length := by omega
    subst hkl
    unfold ref02_Copy.b3
    have y2 := s11.box 1 rfl
    simp [boxAt] at y2
    have s12 := ((((s11.set 1 rfl 0 (.slice At g.terms.length ct)).set 1 rfl 1 (.slice An g.nons.length cn)).set 1 rfl 2 (.slice Al g.levels.length cl)).set 1 rfl 3 (.int .i64 g.start)).set 1 rfl 4 (.slice Ap g.prods.length cp)
    have y12 := s12.box 1 rfl
    simp [boxAt] at y12
    simp -dsimp [go_sem, y11, y2, y12]
    refine hR _ _ ⟨?_, s12.chg⟩
    generalize (((((w10.setCell ⟨rb, 0, none⟩ (.slice At g.terms.length ct)).setCell ⟨rb, 1, none⟩ (.slice An g.nons.length cn)).setCell ⟨rb, 2, none⟩ (.slice Al g.levels.length cl)).setCell ⟨rb, 3, none⟩ (.int .i64 g.start)).setCell ⟨rb, 4, none⟩ (.slice Ap g.prods.length cp)) = w12 at s12 ⊢
    obtain ⟨Ft, ot, _⟩ := s12.get (k := 3) rfl
    obtain ⟨Fn, on, _⟩ := s12.get (k := 4) rfl
    obtain ⟨Fl, ol, _⟩ := s12.get (k := 5) rfl
    obtain ⟨Fp, op, _⟩ := s12.get (k := 6) rfl
    obtain ⟨Fr, or, _⟩ := s12.get (k := 7) rfl
    rw [List.take_length] at op or
    have tz : ∀ i (hi : i < g.terms.length), g.terms[i].1.size ≤ maxLen ∧ inI64 g.terms[i].2 := fun i hi => by obtain ⟨_, _, _, _, _, _, q1, q2⟩ := terms_at h1 hi; exact ⟨q1, q2⟩
    have nz : ∀ i (hi : i < g.nons.length), g.nons[i].size ≤ maxLen := fun i hi => by obtain ⟨_, _, _, _, _, q1⟩ := Go.Px.strs_at h2 hi; exact q1
    have lz : ∀ i (hi : i < g.levels.length), inI64 g.levels[i] := fun i hi => by obtain ⟨_, _, _, _, _, q1⟩ := Go.Px.ints_at h3 hi; exact q1
    refine rGram_mk (row_reads ot (fun _ _ => rfl) (by decide) rfl rfl (fun i x y hx hy => ?_) (Nat.le_refl _)) (row_reads on (fun _ _ => rfl) (by decide) rfl rfl (fun i x y hx hy => ?_) (Nat.le_refl _)) (row_reads ol (fun _ _ => rfl) (by decide) rfl rfl (fun i x y hx hy => ?_) (Nat.le_refl _)) rfl hst (row_reads op (fun _ _ => rfl) (by decide) (by simp [hvs]) rfl (fun i x y hx hy => ?_) (Nat.le_refl _))
    · rw [hx] at hy; injection hy with hy; subst hy
      obtain ⟨hi, rfl⟩ := List.getElem?_eq_some_iff.1 hx
      exact ⟨[_], [_], rfl, ⟨rfl, (tz i hi).1⟩, ⟨rfl, (tz i hi).2⟩⟩
    · rw [hx] at hy; injection hy with hy; subst hy
      obtain ⟨hi, rfl⟩ := List.getElem?_eq_some_iff.1 hx
      exact ⟨rfl, nz i hi⟩
    · rw [hx] at hy; injection hy with hy; subst hy
      obtain ⟨hi, rfl⟩ := List.getElem?_eq_some_iff.1 hx
      exact ⟨rfl, lz i hi⟩
    · obtain ⟨hi, rfl⟩ := List.getElem?_eq_some_iff.1 hy
      have hy' : ((fun g : Gr => (g.terms, g.nons, g.levels, g.start, g.prods)) g).2.2.2.2[i]? = some g.prods[i] := hy
      obtain ⟨hx1, hx2⟩ := List.getElem?_zip_eq_some.1 hx
      rw [hy] at hx1
      injection hx1 with hx1
      obtain ⟨bq, oq, vq, eq, _, _, _, _, hrr, q1, q2⟩ := prods_at h4 hi
      obtain ⟨a', n', c', hv', hrow⟩ := or.2 i x.2 _ hx2 (by rw [List.getElem?_map, List.getElem?_eq_getElem hi]; rfl)
      have rz : ∀ j (hj : j < g.prods[i].2.1.length), inI64 g.prods[i].2.1[j] := fun j hj => by
        obtain ⟨_, _, rfl, _⟩ := slice_form hrr
        obtain ⟨_, _, _, _, _, q1⟩ := Go.Px.ints_at hrr hj; exact q1
      have hn' : n' = g.prods[i].2.1.length := by
        have := (row_size hrow).1
        dsimp only at this
        rw [cInt_flat, List.length_map] at this; omega
      subst hn'
      have hrd := row_reads (r := rInt) (B := w12.heap.size) hrow (fun _ _ => rfl) (by decide) rfl rfl (fun j x y hx hy => by
        rw [hx] at hy; injection hy with hy; subst hy
        obtain ⟨hj, rfl⟩ := List.getElem?_eq_some_iff.1 hx
        exact ⟨rfl, rz j hj⟩) (Nat.le_refl _)
      rw [← hv'] at hrd
      refine ⟨[_], [_, _], by simp only [cPr, ← hx1]; rfl, ⟨rfl, q1⟩, [_], [_], rfl, hrd, rfl, q2⟩
end Go.Proofs.Ytkacbjhiobnbfaa

/-
  Rows with nodes.
-/
namespace Go.Proofs.Ytkacbjhiobnbfaa
open Go.Px Go.Px.Scan Go.ChangeShapes Go.WideShapes Go.ChangeAt Go.RowKit
theorem opens61 : Opens Try.prog 61 rNd := opens_struct Try.underlying61 (by kernel_rfl) (by kernel_rfl) (opensF_cons opens3 (opensF_cons opens3 (opensF_cons opens3 (opensF_one opens24))))
theorem opens49 : Opens Try.prog 49 (rSlice rNd) := opens_slice Try.underlying49 (by kernel_rfl) (by kernel_rfl) (by decide) opens61
theorem nd_fit {l : List Nd} (h : (rSlice rNd).fit l) : l.length * 48 ≤ maxBytes ∧ ∀ x ∈ l, x.2.2.2.length * 8 ≤ maxBytes :=
  ⟨reach_max h.1, fun x hx => reach_max (h.2 x hx).2.2.2.1⟩
end Go.Proofs.Ytkacbjhiobnbfaa

/-
  Rows that a grammar derives, and charts, plainly.
-/
namespace Go.Px.Scan
open Go.Px

/-- A row of symbols derives the places from i up to k of a row of terminals (nT: the first nonterminal). -/
inductive DerS (nT : Int) (P : List (Int × List Int × Int)) (row : List Int) : List Int → Nat → Nat → Prop
  | nil (i : Nat) : DerS nT P row [] i i
  | term {x : Int} {r : List Int} {i k : Nat} : x < nT → row[i]? = some x → DerS nT P row r (i + 1) k → DerS nT P row (x :: r) i k
  | non {p : Int × List Int × Int} {r : List Int} {i j k : Nat} : p ∈ P → nT ≤ p.1 → DerS nT P row p.2.1 i j → DerS nT P row r j k → DerS nT P row (p.1 :: r) i k

section
variable {nT : Int} {P Q : List (Int × List Int × Int)} {row : List Int}
theorem DerS.split : ∀ {a b : List Int} {i k : Nat}, DerS nT P row (a ++ b) i k → ∃ j, DerS nT P row a i j ∧ DerS nT P row b j k
  | [], b, i, k, h => ⟨i, .nil i, h⟩
  | x :: a, b, i, k, h => by
    generalize e : x :: a ++ b = c at h
    cases h with
    | nil => cases e
    | term h1 h2 h3 =>
      injection e with e1 e2
      subst e1 e2
      obtain ⟨j, h4, h5⟩ := DerS.split h3
      exact ⟨j, .term h1 h2 h4, h5⟩
    | non h1 h2 h3 h4 =>
      injection e with e1 e2
      subst e1 e2
      obtain ⟨j, h5, h6⟩ := DerS.split h4
      exact ⟨j, .non h1 h2 h3 h5, h6⟩
/-- What follows from marks that are closed. -/
theorem DerS.fits {ok : Int → Prop} (hT : ∀ x, x < nT → ok x) (hP : ∀ p ∈ P, (∀ s ∈ p.2.1, ok s) → ok p.1) {a : List Int} {i k : Nat} (h : DerS nT P row a i k) : ∀ s ∈ a, ok s := by
  induction h with
  | nil => intro s hs; cases hs
  | term h1 _ _ ih =>
    intro s hs
    rcases List.mem_cons.1 hs with rfl | hs
    · exact hT _ h1
    · exact ih s hs
  | non h1 _ _ _ ih1 ih2 =>
    intro s hs
    rcases List.mem_cons.1 hs with rfl | hs
    · exact hP _ h1 ih1
    · exact ih2 s hs
/-- Only productions of a part that the marks leave. -/
theorem DerS.part {ok : Int → Prop} (hT : ∀ x, x < nT → ok x) (hP : ∀ p ∈ P, (∀ s ∈ p.2.1, ok s) → ok p.1) (hQ : ∀ p ∈ P, (∀ s ∈ p.2.1, ok s) → p ∈ Q) {a : List Int} {i k : Nat} (h : DerS nT P row a i k) : DerS nT Q row a i k := by
  induction h with
  | nil => exact .nil _
  | term h1 h2 _ ih => exact .term h1 h2 ih
  | non h1 h2 h3 _ ih1 ih2 => exact .non (hQ _ h1 (DerS.fits hT hP h3)) h2 ih1 ih2
end

/-- A production with a dot, and where it began. -/
abbrev Spt := Nat × Nat × Nat
def rightOf (P : List (Int × List Int × Int)) (s : Spt) : List Int := (P.getD s.1 (0, [], 0)).2.1
def leftOf (P : List (Int × List Int × Int)) (s : Spt) : Int := (P.getD s.1 (0, [], 0)).1
def nxt (s : Spt) : Spt := (s.1, s.2.1 + 1, s.2.2)
/-- May a spot be? -/
def sOk (P : List (Int × List Int × Int)) (M : Nat) (s : Spt) : Prop := s.1 < P.length ∧ s.2.1 ≤ (rightOf P s).length ∧ s.2.2 < M
/-- What a spot asks for stands in its place. -/
structure Cl (P : List (Int × List Int × Int)) (at' : List (List Spt)) (pl : Nat) (s : Spt) : Prop where
  pred : ∀ x, (rightOf P s)[s.2.1]? = some x → ∀ p (hp : p < P.length), P[p].1 = x → (p, 0, pl) ∈ at'.getD pl []
  comp : s.2.1 = (rightOf P s).length → ∀ t ∈ at'.getD s.2.2 [], (rightOf P t)[t.2.1]? = some (leftOf P s) → nxt t ∈ at'.getD pl []
/-- A chart up to place m. -/
structure ChartP (P : List (Int × List Int × Int)) (row : List Int) (start : Int) (at' : List (List Spt)) (m : Nat) : Prop where
  zero : ∀ p (hp : p < P.length), P[p].1 = start → (p, 0, 0) ∈ at'.getD 0 []
  cl : ∀ i, i ≤ m → ∀ s ∈ at'.getD i [], Cl P at' i s
  scan : ∀ i, i < m → ∀ s ∈ at'.getD i [], ∀ x, row[i]? = some x → (rightOf P s)[s.2.1]? = some x → nxt s ∈ at'.getD (i + 1) []
/-- There is one that reads on. -/
def ReadsOn (P : List (Int × List Int × Int)) (row : List Int) (at' : List (List Spt)) (m : Nat) : Prop := ∃ s ∈ at'.getD m [], ∃ x, row[m]? = some x ∧ (rightOf P s)[s.2.1]? = some x
theorem chart_all {nT : Int} {P : List (Int × List Int × Int)} {row : List Int} {start : Int} {at' : List (List Spt)} {m : Nat} (hc : ChartP P row start at' m) {a : List Int} {i k : Nat} (h : DerS nT P row a i k) :
    ∀ (p d f : Nat) (b : List Int), (rightOf P (p, d, f)).drop d = a ++ b → (p, d, f) ∈ at'.getD i [] → i ≤ m → (k ≤ m ∧ (p, d + a.length, f) ∈ at'.getD k []) ∨ ReadsOn P row at' m := by
  induction h with
  | nil i => intro p d f b _ hm hi; exact Or.inl ⟨hi, hm⟩
  | @term x r i k h1 h2 h3 ih =>
    intro p d f b hd hm hi
    have hx : (rightOf P (p, d, f))[d]? = some x := by
      have := congrArg (·[0]?) hd
      simpa using this
    rcases Nat.lt_or_ge i m with hlt | hge
    · have h5 := hc.scan i hlt _ hm x h2 hx
      have hd2 : (rightOf P (p, d + 1, f)).drop (d + 1) = r ++ b := by
        have := congrArg (List.drop 1) hd
        rw [List.drop_drop] at this
        simpa [rightOf] using this
      have := ih p (d + 1) f b hd2 h5 hlt
      simpa [Nat.add_assoc, Nat.add_comm 1] using this
    · have e : i = m := by omega
      subst e
      exact Or.inr ⟨_, hm, x, h2, hx⟩
  | @non q r i j k h1 h2 h3 h4 ih1 ih2 =>
    intro p d f b hd hm hi
    have hx : (rightOf P (p, d, f))[d]? = some q.1 := by
      have := congrArg (·[0]?) hd
      simpa using this
    obtain ⟨n, hn, rfl⟩ := List.getElem_of_mem h1
    have h5 := (hc.cl i hi _ hm).pred _ hx n hn rfl
    have hr : rightOf P (n, 0, i) = P[n].2.1 := by simp [rightOf, hn]
    rcases ih1 n 0 i [] (by rw [hr]; simp) h5 hi with ⟨hj, h6⟩ | h6
    · have h7 := (hc.cl j hj _ h6).comp (by rw [Nat.zero_add]; show _ = (rightOf P (n, 0, i)).length; rw [hr]) (p, d, f) hm (by rw [hx]; simp [leftOf, hn])
      have hd2 : (rightOf P (p, d + 1, f)).drop (d + 1) = r ++ b := by
        have := congrArg (List.drop 1) hd
        rw [List.drop_drop] at this
        simpa [rightOf] using this
      have := ih2 p (d + 1) f b hd2 h7 hj
      simpa [Nat.add_assoc, Nat.add_comm 1] using this
    · exact Or.inr h6
/-- At the end there stands the start's. -/
theorem chart_sent {nT : Int} {P : List (Int × List Int × Int)} {row : List Int} {start : Int} {at' : List (List Spt)} {m : Nat} (hc : ChartP P row start at' m) (hm : m ≤ row.length) (h : DerS nT P row [start] 0 row.length) (hs : nT ≤ start) :
    (m < row.length → ReadsOn P row at' m) ∧ (m = row.length → ∃ s ∈ at'.getD m [], s.2.2 = 0 ∧ s.2.1 = (rightOf P s).length ∧ leftOf P s = start) := by
  generalize e : [start] = c at h
  generalize e9 : row.length = n9 at h
  cases h with
  | nil => cases e
  | term h1 h2 h3 => injection e with e1 e2; subst e1; exfalso; omega
  | @non q r i j k h1 h2 h3 h4 =>
    injection e with e1 e2
    subst e2
    have ej : j = n9 := by
      generalize e3 : ([] : List Int) = c at h4
      cases h4 with
      | nil => rfl
      | term => cases e3
      | non => cases e3
    subst ej
    rw [e9] at hm
    obtain ⟨n, hn, rfl⟩ := List.getElem_of_mem h1
    have h5 := hc.zero n hn e1.symm
    have hr : rightOf P (n, 0, 0) = P[n].2.1 := by simp [rightOf, hn]
    have h6 := chart_all hc h3 n 0 0 [] (by rw [hr]; simp) h5 (Nat.zero_le _)
    refine ⟨fun hlt => ?_, fun he => ?_⟩
    · rcases h6 with ⟨h7, _⟩ | h7
      · omega
      · exact h7
    · rcases h6 with ⟨_, h7⟩ | ⟨s, _, x, h7, _⟩
      · refine ⟨_, he ▸ h7, rfl, ?_, ?_⟩
        · show 0 + _ = (rightOf P (n, 0, 0)).length
          rw [hr, Nat.zero_add]
        · rw [e1]; simp [leftOf, hn]
      · rw [List.getElem?_eq_none (by omega)] at h7; cases h7
end Go.Px.Scan

/-
  The numbers of spots.
-/
namespace Go.Px.Scan
open Go.Px
abbrev Prl := List (Int × List Int × Int)
/-- The number of a production's first spot. -/
def off : Prl → Nat → Nat
  | _, 0 => 0
  | [], _ + 1 => 0
  | p :: P, i + 1 => p.2.1.length + 1 + off P i
theorem off_zero (P : Prl) : off P 0 = 0 := by cases P <;> rfl
theorem off_succ : ∀ {P : Prl} {i : Nat} (h : i < P.length), off P (i + 1) = off P i + (P[i].2.1.length + 1)
  | [], i, h => by cases h
  | p :: P, 0, h => by simp [off, off_zero]
  | p :: P, i + 1, h => by
    have := off_succ (P := P) (i := i) (by simpa using h)
    simp only [off, List.getElem_cons_succ] at this ⊢
    omega
theorem off_mono {P : Prl} {i : Nat} : ∀ {j : Nat}, i < j → j ≤ P.length → off P i + ((P.getD i (0, [], 0)).2.1.length + 1) ≤ off P j
  | 0, h, _ => by omega
  | j + 1, h, hj => by
    rw [off_succ (by omega)]
    rcases Nat.lt_or_ge i j with h1 | h1
    · have := off_mono h1 (P := P) (by omega); omega
    · have e : i = j := by omega
      subst e
      rw [List.getD_eq_getElem?_getD, List.getElem?_eq_getElem (by omega)]
      exact Nat.le_refl _
theorem off_le {P : Prl} {i : Nat} (h : i ≤ P.length) : off P i ≤ off P P.length := by
  rcases Nat.lt_or_ge i P.length with h1 | h1
  · have := off_mono h1 (Nat.le_refl _); omega
  · have : i = P.length := by omega
    rw [this]; exact Nat.le_refl _
def baseL (P : Prl) : List Nat := (List.range P.length).map (off P)
def code (P : Prl) (M : Nat) (s : Spt) : Nat := (off P s.1 + s.2.1) * M + s.2.2
theorem code_lt {P : Prl} {M : Nat} {s : Spt} (h : sOk P M s) : code P M s < off P P.length * M := by
  obtain ⟨h1, h2, h3⟩ := h
  have := off_mono h1 (Nat.le_refl _)
  have h4 : off P s.1 + s.2.1 + 1 ≤ off P P.length := by unfold rightOf at h2; omega
  have := Nat.mul_le_mul_right M h4
  rw [Nat.add_mul] at this
  unfold code
  omega
theorem place_inj {M a b c d : Nat} (hc : c < M) (hd : d < M) (h : a * M + c = b * M + d) : a = b ∧ c = d := by
  have h1 := congrArg (· % M) h
  have h2 := congrArg (· / M) h
  have hM : 0 < M := by omega
  simp only [Nat.mul_comm _ M, Nat.mul_add_mod, Nat.mod_eq_of_lt hc, Nat.mod_eq_of_lt hd] at h1
  simp only [Nat.mul_comm _ M, Nat.mul_add_div hM, Nat.div_eq_of_lt hc, Nat.div_eq_of_lt hd, Nat.add_zero] at h2
  exact ⟨h2, h1⟩
theorem code_inj {P : Prl} {M : Nat} {s t : Spt} (hs : sOk P M s) (ht : sOk P M t) (h : code P M s = code P M t) : s = t := by
  obtain ⟨s1, s2, s3⟩ := hs
  obtain ⟨t1, t2, t3⟩ := ht
  obtain ⟨h1, h2⟩ := place_inj s3 t3 h
  unfold rightOf at s2 t2
  have e : s.1 = t.1 := by
    rcases Nat.lt_trichotomy s.1 t.1 with h3 | h3 | h3
    · have := off_mono h3 (P := P) (by omega); omega
    · exact h3
    · have := off_mono h3 (P := P) (by omega); omega
  obtain ⟨a, b, c⟩ := s
  obtain ⟨a', b', c'⟩ := t
  simp only at e h1 h2
  subst e h2
  have : b = b' := by omega
  rw [this]
/-- So many different numbers. -/
theorem nodup_bound : ∀ {n : Nat} {l : List Nat}, l.Nodup → (∀ x ∈ l, x < n) → l.length ≤ n
  | 0, l, _, h => by
    cases l with
    | nil => simp
    | cons a b => exact absurd (h a (by simp)) (by omega)
  | n + 1, l, hn, h => by
    have h1 : (l.erase n).length ≤ n := nodup_bound (hn.erase n) fun x hx => by
      have h2 := h x (List.mem_of_mem_erase hx)
      have h3 : x ≠ n := by rintro rfl; exact (hn.mem_erase_iff.1 hx).1 rfl
      omega
    have h4 : l.length ≤ (l.erase n).length + 1 := by
      by_cases hm : n ∈ l
      · rw [List.length_erase_of_mem hm]; omega
      · rw [List.erase_of_not_mem hm]; omega
    omega
theorem nodup_map {α β : Type} {f : α → β} : ∀ {l : List α}, l.Nodup → (∀ x ∈ l, ∀ y ∈ l, f x = f y → x = y) → (l.map f).Nodup
  | [], _, _ => by simp
  | a :: l, hn, hf => by
    rw [List.nodup_cons] at hn
    rw [List.map_cons, List.nodup_cons]
    refine ⟨fun hm => ?_, nodup_map hn.2 fun x hx y hy => hf x (by simp [hx]) y (by simp [hy])⟩
    obtain ⟨y, hy, e⟩ := List.mem_map.1 hm
    have := hf y (by simp [hy]) a (by simp) e
    subst this
    exact hn.1 hy
/-- A place's spots. -/
structure PlOk (P : Prl) (M : Nat) (l : List Spt) : Prop where
  ok : ∀ s ∈ l, sOk P M s
  nd : l.Nodup
theorem PlOk.len {P : Prl} {M : Nat} {l : List Spt} (h : PlOk P M l) : l.length ≤ off P P.length * M := by
  have := nodup_bound (nodup_map (f := code P M) h.nd fun x hx y hy e => code_inj (h.ok x hx) (h.ok y hy) e) fun x hx => by
    obtain ⟨s, hs, rfl⟩ := List.mem_map.1 hx
    exact code_lt (h.ok s hs)
  simpa using this
theorem PlOk.snoc {P : Prl} {M : Nat} {l : List Spt} {s : Spt} (h : PlOk P M l) (hs : sOk P M s) (hn : s ∉ l) : PlOk P M (l ++ [s]) := by
  refine ⟨fun t ht => ?_, ?_⟩
  · rcases List.mem_append.1 ht with ht | ht
    · exact h.ok t ht
    · simp at ht; subst ht; exact hs
  · rw [List.nodup_append]
    refine ⟨h.nd, by simp, fun a ha b hb => ?_⟩
    simp at hb; subst hb
    rintro rfl; exact hn ha
/-- The flags of a place say what is there. -/
def FlOk (P : Prl) (M : Nat) (fl : List Bool) (l : List Spt) : Prop := fl.length = off P P.length * M ∧ ∀ c, c < off P P.length * M → (fl[c]? = some true ↔ ∃ s ∈ l, code P M s = c)
theorem FlOk.at {P : Prl} {M : Nat} {fl : List Bool} {l : List Spt} (h : FlOk P M fl l) (hl : PlOk P M l) {s : Spt} (hs : sOk P M s) : fl[code P M s]? = some (decide (s ∈ l)) := by
  have hlt := code_lt hs
  have hx := h.2 _ hlt
  have he : fl[code P M s]? = some (fl[code P M s]'(by rw [h.1]; exact hlt)) := List.getElem?_eq_getElem _
  by_cases hm : s ∈ l
  · rw [decide_eq_true hm]; exact hx.2 ⟨s, hm, rfl⟩
  · rw [decide_eq_false hm, he]
    cases hb : fl[code P M s]'(by rw [h.1]; exact hlt) with
    | false => rfl
    | true =>
      rw [hb] at he
      obtain ⟨t, ht, e⟩ := hx.1 he
      exact absurd ((code_inj (hl.ok t ht) hs e) ▸ ht) hm
theorem FlOk.snoc {P : Prl} {M : Nat} {fl : List Bool} {l : List Spt} (h : FlOk P M fl l) {s : Spt} (hs : sOk P M s) : FlOk P M (fl.set (code P M s) true) (l ++ [s]) := by
  refine ⟨by rw [List.length_set]; exact h.1, fun c hc => ?_⟩
  have hlt := code_lt hs
  by_cases e : code P M s = c
  · subst e
    rw [List.getElem?_set_self (by rw [h.1]; exact hlt)]
    exact ⟨fun _ => ⟨s, by simp, rfl⟩, fun _ => rfl⟩
  · rw [List.getElem?_set_ne e, h.2 c hc]
    constructor
    · rintro ⟨t, ht, rfl⟩; exact ⟨t, by simp [ht], rfl⟩
    · rintro ⟨t, ht, rfl⟩
      rcases List.mem_append.1 ht with ht | ht
      · exact ⟨t, ht, rfl⟩
      · simp at ht; subst ht; exact absurd rfl e
end Go.Px.Scan
