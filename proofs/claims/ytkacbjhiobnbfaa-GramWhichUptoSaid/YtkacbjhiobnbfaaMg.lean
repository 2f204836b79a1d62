/-
  Texts of this claim: SameInts, Gq1, Gq2.
-/
import Derived.Test.YtkacbjhiobnbfaaGa
import Derived.Test.YtkacbjhiobnbfaaMa
import Derived.Test.YtkacbjhiobnbfaaGb
import Derived.Test.YtkacbjhiobnbfaaGc
import Derived.Test.YtkacbjhiobnbfaaMe
namespace Go.Proofs.Ytkacbjhiobnbfaa
open Go.Px Go.RowKit

theorem ref02_SameInts_ct {w : World} {B : Nat} {va vb : Value} {a b : List Int} (ha : (rSlice rInt).at1 w B va a) (hb : (rSlice rInt).at1 w B vb b) (hB : B ≤ w.heap.size) :
    Ct Try.prog ref02_SameInts.id #[va, vb] w fun v w' => v = .bool (a == b) ∧ Below w.heap.size w w' := by
  obtain ⟨A1, c1, rfl, hl1, hm1, _⟩ := slice_form ha
  obtain ⟨A2, c2, rfl, hl2, hm2, _⟩ := slice_form hb
  refine ref02_SameInts.ct fun R hR => ?_
  unfold ref02_SameInts.run ref02_SameInts.b1
  simp [go_sem]
  refine SPL_intro (fun h => ?_) (fun h => ?_)
  · refine hR _ _ ⟨?_, Below.refl _ _⟩
    have : ¬ a = b := by rintro rfl; simp at h
    simpa using this
  have hlen : a.length = b.length := by simp at h; omega
  unfold ref02_SameInts.b4
  refine ref02_SameInts.l6_intro _ _ _ _ _ (fun x w1 => ∃ k : Nat, x = .int .i64 k ∧ k ≤ a.length ∧ a.take k = b.take k ∧ Below w.heap.size w w1) (fun x _ => a.length - iv x) ⟨0, rfl, by omega, rfl, Below.refl _ _⟩ ?_
  rintro _ w1 ⟨k, rfl, hk, hall, hbw⟩ C hC
  unfold ref02_SameInts.b7
  simp [go_sem]
  refine SPL_intro (fun h => ?_) (fun h => ?_)
  · have hka : k < a.length := by simpa using h
    have hkb : k < b.length := by omega
    obtain ⟨b1, o1, rfl, hb1, hc1, hr1⟩ := Go.Px.ints_at (Rep.below ha (hbw.mono hB)) hka
    obtain ⟨b2, o2, rfl, hb2, hc2, hr2⟩ := Go.Px.ints_at (Rep.below hb (hbw.mono hB)) hkb
    have wk := wrap_succ hka (Nat.le_trans hl1 hm1)
    simp [go_sem, hka, hkb, hc1, hc2]
    refine SPL_intro (fun h => ?_) (fun h => ?_)
    · refine hR _ _ ⟨?_, hbw.drew⟩
      have : ¬ a = b := by rintro rfl; simp at h
      simpa using this
    · simp [go_sem, wk]
      refine hC _ _ ⟨k + 1, by simp, by omega, ?_, hbw.drew⟩ (by simp [iv]; omega)
      have h : a[k] = b[k] := by simpa using h
      rw [List.take_succ_eq_append_getElem hka, List.take_succ_eq_append_getElem hkb, hall, h]
  · have hka : k = a.length := by have : ¬ k < a.length := by simpa using h
                                  omega
    unfold ref02_SameInts.b3
    refine hR _ _ ⟨?_, hbw⟩
    rw [hka, List.take_length, hlen, List.take_length] at hall
    simp [hall]
end Go.Proofs.Ytkacbjhiobnbfaa

/-
  Are two grammars the same? In package gram.
-/
namespace Go.Px.Scan
open Go.Px
open Classical in
noncomputable def sameB (a b : Gr) : Bool := decide (a = b)
theorem sameB_iff {a b : Gr} : sameB a b = true ↔ a = b := @decide_eq_true_iff _ (_)
theorem Gr.ext' {a b : Gr} (h1 : a.terms = b.terms) (h2 : a.nons = b.nons) (h3 : a.levels = b.levels) (h4 : a.start = b.start) (h5 : a.prods = b.prods) : a = b := by
  cases a; cases b; simp_all
theorem take_eq_succ {α : Type} {a b : List α} {k : Nat} (h : a.take k = b.take k) (ha : k < a.length) (hb : k < b.length) (he : a[k] = b[k]) : a.take (k + 1) = b.take (k + 1) := by
  rw [List.take_succ_eq_append_getElem ha, List.take_succ_eq_append_getElem hb, h, he]
theorem bytes_eq {a b : ByteArray} : (a.toList == b.toList) = decide (a = b) := by
  rw [Bool.eq_iff_iff]
  simp only [beq_iff_eq, decide_eq_true_eq]
  constructor
  · intro h; rw [ByteArray.toList_eq, ByteArray.toList_eq] at h; exact bs_ext h
  · rintro rfl; rfl
theorem toList_inj {a b : ByteArray} : a.toList = b.toList ↔ a = b := by
  constructor
  · intro h; rw [ByteArray.toList_eq, ByteArray.toList_eq] at h; exact bs_ext h
  · rintro rfl; rfl
end Go.Px.Scan
namespace Go.Proofs.Ytkacbjhiobnbfaa
open Go.Px Go.Px.Scan Go.RowKit
set_option maxHeartbeats 1000000
set_option linter.unusedSimpArgs false
set_option linter.unusedVariables false
set_option maxRecDepth 100000
attribute [-go_sem] Builtin.append_

theorem EqualI_ct {w : World} {B : Nat} {va vb : Value} {a b : List Int} (ha : (rSlice rInt).at1 w B va a) (hb : (rSlice rInt).at1 w B vb b) (hB : B ≤ w.heap.size) :
    Ct Try.prog slices_Equal_int_int.id #[va, vb] w fun v w' => v = .bool (decide (a = b)) ∧ Chg noB w w' := by
  obtain ⟨A1, c1, rfl, hl1, hm1, _⟩ := slice_form ha
  obtain ⟨A2, c2, rfl, hl2, hm2, _⟩ := slice_form hb
  refine slices_Equal_int_int.ct fun R hR => ?_
  have no : ∀ w', Chg noB w w' → a ≠ b → R (.returned (.bool false)) w' := fun w' hc hn => hR _ _ ⟨by rw [decide_eq_false hn], hc⟩
  unfold slices_Equal_int_int.run
  simp -dsimp [go_sem]
  refine SPL_intro (fun h => ?_) (fun h => ?_) <;> simp at h
  · exact no _ (Chg.refl _ _) fun e => h (by rw [e])
  have h : a.length = b.length := by omega
  simp -dsimp [go_sem]
  refine slices_Equal_int_int.l6_intro _ _ _ _ _ _ (fun x w1 => ∃ k : Nat, x = .int .i64 k ∧ k ≤ a.length ∧ a.take k = b.take k ∧ Chg noB w w1) (fun x _ => a.length - iv x) ⟨0, rfl, by omega, rfl, Chg.refl _ _⟩ ?_
  rintro _ w1 ⟨k, rfl, hk, hall, hcw⟩ C hC
  simp -dsimp [go_sem]
  refine SPL_intro (fun h2 => ?_) (fun h2 => ?_) <;> simp at h2
  · have hkb : k < b.length := by omega
    obtain ⟨b1, o1, rfl, hb1, hc1, hr1⟩ := Go.Px.ints_at (Rep.below ha (hcw.drew.below hB fun _ _ => id)) h2
    obtain ⟨b2, o2, rfl, hb2, hc2, hr2⟩ := Go.Px.ints_at (Rep.below hb (hcw.drew.below hB fun _ _ => id)) hkb
    have wk := wrap_succ h2 (Nat.le_trans hl1 hm1)
    simp at hc1 hc2
    simp -dsimp [go_sem, h2, hkb, hc1, hc2]
    refine SPL_intro (fun h3 => ?_) (fun h3 => ?_) <;> simp at h3
    · exact no _ hcw.drew fun e => h3 (by subst e; rfl)
    · simp -dsimp [go_sem, wk]
      exact hC _ _ ⟨k + 1, by simp, by omega, take_eq_succ hall h2 hkb h3, hcw.drew⟩ (by simp [iv]; omega)
  · have hka : k = a.length := by omega
    simp -dsimp [go_sem]
    refine hR _ _ ⟨?_, hcw⟩
    rw [hka, List.take_length, h, List.take_length] at hall
    rw [decide_eq_true hall]

theorem EqualS_ct {w : World} {B : Nat} {va vb : Value} {a b : List ByteArray} (ha : (rSlice rStr).at1 w B va a) (hb : (rSlice rStr).at1 w B vb b) (hB : B ≤ w.heap.size) :
    Ct Try.prog slices_Equal_string_string.id #[va, vb] w fun v w' => v = .bool (decide (a = b)) ∧ Chg noB w w' := by
  obtain ⟨A1, c1, rfl, hl1, hm1, _⟩ := slice_form ha
  obtain ⟨A2, c2, rfl, hl2, hm2, _⟩ := slice_form hb
  refine slices_Equal_string_string.ct fun R hR => ?_
  have no : ∀ w', Chg noB w w' → a ≠ b → R (.returned (.bool false)) w' := fun w' hc hn => hR _ _ ⟨by rw [decide_eq_false hn], hc⟩
  unfold slices_Equal_string_string.run
  simp -dsimp [go_sem]
  refine SPL_intro (fun h => ?_) (fun h => ?_) <;> simp at h
  · exact no _ (Chg.refl _ _) fun e => h (by rw [e])
  have h : a.length = b.length := by omega
  simp -dsimp [go_sem]
  refine slices_Equal_string_string.l6_intro _ _ _ _ _ _ (fun x w1 => ∃ k : Nat, x = .int .i64 k ∧ k ≤ a.length ∧ a.take k = b.take k ∧ Chg noB w w1) (fun x _ => a.length - iv x) ⟨0, rfl, by omega, rfl, Chg.refl _ _⟩ ?_
  rintro _ w1 ⟨k, rfl, hk, hall, hcw⟩ C hC
  simp -dsimp [go_sem]
  refine SPL_intro (fun h2 => ?_) (fun h2 => ?_) <;> simp at h2
  · have hkb : k < b.length := by omega
    obtain ⟨b1, o1, rfl, hb1, hc1, hr1⟩ := Go.Px.strs_at (Rep.below ha (hcw.drew.below hB fun _ _ => id)) h2
    obtain ⟨b2, o2, rfl, hb2, hc2, hr2⟩ := Go.Px.strs_at (Rep.below hb (hcw.drew.below hB fun _ _ => id)) hkb
    have wk := wrap_succ h2 (Nat.le_trans hl1 hm1)
    simp at hc1 hc2
    simp -dsimp [go_sem, h2, hkb, hc1, hc2]
    refine SPL_intro (fun h3 => ?_) (fun h3 => ?_) <;> simp at h3
    · exact no _ hcw.drew fun e => h3 (by subst e; rfl)
    · simp -dsimp [go_sem, wk]
      exact hC _ _ ⟨k + 1, by simp, by omega, take_eq_succ hall h2 hkb (toList_inj.1 h3), hcw.drew⟩ (by simp [iv]; omega)
  · have hka : k = a.length := by omega
    simp -dsimp [go_sem]
    refine hR _ _ ⟨?_, hcw⟩
    rw [hka, List.take_length, h, List.take_length] at hall
    rw [decide_eq_true hall]

theorem EqualT_ct {w : World} {B : Nat} {va vb : Value} {a b : List (ByteArray × Int)} (ha : (rSlice rTerm).at1 w B va a) (hb : (rSlice rTerm).at1 w B vb b) (hB : B ≤ w.heap.size) :
    Ct Try.prog slices_Equal_api_Term_api_Term.id #[va, vb] w fun v w' => v = .bool (decide (a = b)) ∧ Chg noB w w' := by
  obtain ⟨A1, c1, rfl, hl1, hm1, _⟩ := slice_form ha
  obtain ⟨A2, c2, rfl, hl2, hm2, _⟩ := slice_form hb
  refine slices_Equal_api_Term_api_Term.ct fun R hR => ?_
  have no : ∀ w', Chg noB w w' → a ≠ b → R (.returned (.bool false)) w' := fun w' hc hn => hR _ _ ⟨by rw [decide_eq_false hn], hc⟩
  unfold slices_Equal_api_Term_api_Term.run
  simp -dsimp [go_sem]
  refine SPL_intro (fun h => ?_) (fun h => ?_) <;> simp at h
  · exact no _ (Chg.refl _ _) fun e => h (by rw [e])
  have h : a.length = b.length := by omega
  simp -dsimp [go_sem]
  refine slices_Equal_api_Term_api_Term.l6_intro _ _ _ _ _ _ (fun x w1 => ∃ k : Nat, x = .int .i64 k ∧ k ≤ a.length ∧ a.take k = b.take k ∧ Chg noB w w1) (fun x _ => a.length - iv x) ⟨0, rfl, by omega, rfl, Chg.refl _ _⟩ ?_
  rintro _ w1 ⟨k, rfl, hk, hall, hcw⟩ C hC
  simp -dsimp [go_sem]
  refine SPL_intro (fun h2 => ?_) (fun h2 => ?_) <;> simp at h2
  · have hkb : k < b.length := by omega
    obtain ⟨b1, o1, rfl, hb1, hc1, hd1, _⟩ := terms_at (Rep.below ha (hcw.drew.below hB fun _ _ => id)) h2
    obtain ⟨b2, o2, rfl, hb2, hc2, hd2, _⟩ := terms_at (Rep.below hb (hcw.drew.below hB fun _ _ => id)) hkb
    have wk := wrap_succ h2 (Nat.le_trans hl1 hm1)
    simp at hc1 hc2 hd1 hd2
    simp -dsimp [go_sem, h2, hkb, hc1, hc2, hd1, hd2]
    by_cases p1 : a[k].1.toList = b[k].1.toList
    case neg =>
      simp -dsimp [go_sem, p1]
      exact no _ hcw.drew fun e => p1 (by subst e; rfl)
    by_cases p2 : a[k].2 = b[k].2
    case neg =>
      simp -dsimp [go_sem, p1, p2]
      exact no _ hcw.drew fun e => p2 (by subst e; rfl)
    simp -dsimp [go_sem, p1, p2, wk]
    exact hC _ _ ⟨k + 1, by simp, by omega, take_eq_succ hall h2 hkb (Prod.ext (toList_inj.1 p1) p2), hcw.drew⟩ (by simp [iv]; omega)
  · have hka : k = a.length := by omega
    simp -dsimp [go_sem]
    refine hR _ _ ⟨?_, hcw⟩
    rw [hka, List.take_length, h, List.take_length] at hall
    rw [decide_eq_true hall]

/-- A production's value. -/
def PrV (w : World) (B : Nat) (v : Value) (p : Int × List Int × Int) : Prop := ∃ A c, v = .agg #[.int .i64 p.1, .slice A p.2.1.length c, .int .i64 p.2.2] ∧ (rSlice rInt).at1 w B (.slice A p.2.1.length c) p.2.1

theorem Same1_ct {w : World} {B : Nat} {va vb : Value} {p q : Int × List Int × Int} (ha : PrV w B va p) (hb : PrV w B vb q) (hB : B ≤ w.heap.size) :
    Ct Try.prog gram_Same_1.id #[va, vb] w fun v w' => v = .bool (decide (p = q)) ∧ Chg noB w w' := by
  obtain ⟨A1, c1, rfl, h1⟩ := ha
  obtain ⟨A2, c2, rfl, h2⟩ := hb
  refine gram_Same_1.ct fun R hR => ?_
  have no : ∀ w', Chg noB w w' → p ≠ q → R (.returned (.bool false)) w' := fun w' hc hn => hR _ _ ⟨by rw [decide_eq_false hn], hc⟩
  unfold gram_Same_1.run
  have s1 := (St.refl noB w).alloc #[.int .i64 p.1, .slice A1 p.2.1.length c1, .int .i64 p.2.2] 47
  have s2 := s1.alloc #[.int .i64 q.1, .slice A2 q.2.1.length c2, .int .i64 q.2.2] 47
  have hs1 : (w.alloc (.cells #[.int .i64 p.1, .slice A1 p.2.1.length c1, .int .i64 p.2.2] 47)).heap.size = w.heap.size + 1 := by simp
  rw [hs1] at s2
  have k1 := s2.box 0 rfl
  have k2 := s2.box 1 rfl
  simp [boxAt] at k1 k2
  simp -dsimp [go_sem, k1, k2]
  generalize w.heap.size = n at s2 ⊢
  generalize (w.alloc (.cells #[.int .i64 p.1, .slice A1 p.2.1.length c1, .int .i64 p.2.2] 47)).alloc (.cells #[.int .i64 q.1, .slice A2 q.2.1.length c2, .int .i64 q.2.2] 47) = w2 at s2 ⊢
  have k1 := s2.box 0 rfl
  have k2 := s2.box 1 rfl
  simp [boxAt] at k1 k2
  have r1 := Rep.below h1 (s2.chg.below hB fun _ _ => id)
  have r2 := Rep.below h2 (s2.chg.below hB fun _ _ => id)
  have hB2 : B ≤ w2.heap.size := by have := s2.chg.size; omega
  refine SPL_intro (fun q1 => ?_) (fun q1 => ?_) <;> simp at q1
  · simp -dsimp [go_sem, k1, k2]
    refine SPL_intro (fun q2 => ?_) (fun q2 => ?_) <;> simp at q2
    · simp -dsimp [go_sem, k1, k2]
      refine CALL_of (EqualI_ct r1 r2 hB2) ?_
      rintro _ w3 ⟨rfl, hc3⟩
      refine hR _ _ ⟨?_, s2.chg.trans hc3⟩
      congr 1
      refine decide_eq_decide.2 ⟨fun e => Prod.ext q1 (Prod.ext e q2), fun e => by rw [e]⟩
    · exact no _ s2.chg fun e => q2 (by rw [e])
  · exact no _ s2.chg fun e => q1 (by rw [e])

theorem EqualP_ct {w : World} {B : Nat} {va vb : Value} {a b : List (Int × List Int × Int)} (ha : (rSlice rPr).at1 w B va a) (hb : (rSlice rPr).at1 w B vb b) (hB : B ≤ w.heap.size) :
    Ct Try.prog slices_EqualFunc_api_Prod_api_Prod_api_Prod_api_Prod.id #[va, vb, .func (.func gram_Same_1.id) #[] #[]] w fun v w' => v = .bool (decide (a = b)) ∧ Chg noB w w' := by
  obtain ⟨A1, c1, rfl, hl1, hm1, _⟩ := slice_form ha
  obtain ⟨A2, c2, rfl, hl2, hm2, _⟩ := slice_form hb
  refine slices_EqualFunc_api_Prod_api_Prod_api_Prod_api_Prod.ct fun R hR => ?_
  have no : ∀ w', Chg noB w w' → a ≠ b → R (.returned (.bool false)) w' := fun w' hc hn => hR _ _ ⟨by rw [decide_eq_false hn], hc⟩
  unfold slices_EqualFunc_api_Prod_api_Prod_api_Prod_api_Prod.run
  simp -dsimp [go_sem]
  refine SPL_intro (fun h => ?_) (fun h => ?_) <;> simp at h
  · exact no _ (Chg.refl _ _) fun e => h (by rw [e])
  have h : a.length = b.length := by omega
  simp -dsimp [go_sem]
  refine slices_EqualFunc_api_Prod_api_Prod_api_Prod_api_Prod.l6_intro _ _ _ _ _ _ _ (fun x w1 => ∃ k : Nat, x = .int .i64 k ∧ k ≤ a.length ∧ a.take k = b.take k ∧ Chg noB w w1) (fun x _ => a.length - iv x) ⟨0, rfl, by omega, rfl, Chg.refl _ _⟩ ?_
  rintro _ w1 ⟨k, rfl, hk, hall, hcw⟩ C hC
  simp -dsimp [go_sem]
  refine SPL_intro (fun h2 => ?_) (fun h2 => ?_) <;> simp at h2
  · have hkb : k < b.length := by omega
    obtain ⟨b1, o1, v1, rfl, hb1, x1, x2, x3, xr, _⟩ := prods_at (Rep.below ha (hcw.below hB fun _ _ => id)) h2
    obtain ⟨b2, o2, v2, rfl, hb2, y1, y2, y3, yr, _⟩ := prods_at (Rep.below hb (hcw.below hB fun _ _ => id)) hkb
    obtain ⟨A3, c3, rfl, _⟩ := slice_form xr
    obtain ⟨A4, c4, rfl, _⟩ := slice_form yr
    have wk := wrap_succ h2 (Nat.le_trans hl1 hm1)
    have s1 := (St.start hcw).alloc #[.int .i64 a[k].1, .slice A3 a[k].2.1.length c3, .int .i64 a[k].2.2] 47
    have s2 := s1.alloc #[.int .i64 b[k].1, .slice A4 b[k].2.1.length c4, .int .i64 b[k].2.2] 47
    have hs1 : (w1.alloc (.cells #[.int .i64 a[k].1, .slice A3 a[k].2.1.length c3, .int .i64 a[k].2.2] 47)).heap.size = w1.heap.size + 1 := by simp
    rw [hs1] at s2
    have hc1 : Chg noB w1 (w1.alloc (.cells #[.int .i64 a[k].1, .slice A3 a[k].2.1.length c3, .int .i64 a[k].2.2] 47)) := (Chg.refl _ _).alloc _
    have z1 := hc1.at y1 id
    have z2 := hc1.at y2 id
    have z3 := hc1.at y3 id
    have k1 := s2.box 0 rfl
    have k2 := s2.box 1 rfl
    simp [boxAt] at k1 k2
    simp -dsimp [go_sem, h2, hkb, x1, x2, x3, z1, z2, z3, k1, k2]
    have hc2 := hc1.alloc (.cells #[.int .i64 b[k].1, .slice A4 b[k].2.1.length c4, .int .i64 b[k].2.2] 47)
    generalize (w1.alloc (.cells #[.int .i64 a[k].1, .slice A3 a[k].2.1.length c3, .int .i64 a[k].2.2] 47)).alloc (.cells #[.int .i64 b[k].1, .slice A4 b[k].2.1.length c4, .int .i64 b[k].2.2] 47) = w2 at hc2 ⊢
    have hcw2 := hcw.trans hc2
    have hB1 : B ≤ w1.heap.size := by have := hcw.size; omega
    refine CALLY_of (Same1_ct (B := B) (p := a[k]) (q := b[k]) ⟨A3, c3, rfl, Rep.below xr (hc2.below hB1 fun _ _ => id)⟩ ⟨A4, c4, rfl, Rep.below yr (hc2.below hB1 fun _ _ => id)⟩ (by have := hc2.size; omega)) ?_
    rintro _ w3 ⟨rfl, hc3⟩
    by_cases p1 : a[k] = b[k]
    · simp -dsimp [go_sem, p1, wk]
      exact hC _ _ ⟨k + 1, by simp, by omega, take_eq_succ hall h2 hkb p1, hcw2.trans hc3⟩ (by simp [iv]; omega)
    · simp -dsimp [go_sem, p1]
      exact no _ (hcw2.trans hc3) fun e => p1 (by subst e; rfl)
  · have hka : k = a.length := by omega
    simp -dsimp [go_sem]
    refine hR _ _ ⟨?_, hcw⟩
    rw [hka, List.take_length, h, List.take_length] at hall
    rw [decide_eq_true hall]

theorem Same_ct {w : World} {B : Nat} {va vb : Value} {a b : Gr} (ha : rGram.atN w B va a) (hb : rGram.atN w B vb b) (hB : B ≤ w.heap.size) :
    Ct Try.prog gram_Same.id #[va, vb] w fun v w' => v = .bool (sameB a b) ∧ Chg noB w w' := by
  obtain ⟨A1, c1, A2, c2, A3, c3, A4, c4, rfl, h1, h2, h3, h4, h5, _⟩ := (rGram_open ha).ex
  obtain ⟨B1, d1, B2, d2, B3, d3, B4, d4, rfl, g1, g2, g3, g4, g5, _⟩ := (rGram_open hb).ex
  refine gram_Same.ct fun R hR => ?_
  have no : ∀ w', Chg noB w w' → a ≠ b → R (.returned (.bool false)) w' := fun w' hc hn => hR _ _ ⟨by rw [bool_no sameB_iff hn], hc⟩
  unfold gram_Same.run
  have s1 := (St.refl noB w).alloc #[.slice A1 a.terms.length c1, .slice A2 a.nons.length c2, .slice A3 a.levels.length c3, .int .i64 a.start, .slice A4 a.prods.length c4] 27
  have s2 := s1.alloc #[.slice B1 b.terms.length d1, .slice B2 b.nons.length d2, .slice B3 b.levels.length d3, .int .i64 b.start, .slice B4 b.prods.length d4] 27
  have hs1 : (w.alloc (.cells #[.slice A1 a.terms.length c1, .slice A2 a.nons.length c2, .slice A3 a.levels.length c3, .int .i64 a.start, .slice A4 a.prods.length c4] 27)).heap.size = w.heap.size + 1 := by simp
  rw [hs1] at s2
  have k1 := s2.box 0 rfl
  have k2 := s2.box 1 rfl
  simp [boxAt] at k1 k2
  simp -dsimp [go_sem, k1, k2]
  generalize w.heap.size = n at s2 ⊢
  generalize (w.alloc (.cells #[.slice A1 a.terms.length c1, .slice A2 a.nons.length c2, .slice A3 a.levels.length c3, .int .i64 a.start, .slice A4 a.prods.length c4] 27)).alloc (.cells #[.slice B1 b.terms.length d1, .slice B2 b.nons.length d2, .slice B3 b.levels.length d3, .int .i64 b.start, .slice B4 b.prods.length d4] 27) = w2 at s2 ⊢
  have k1 := s2.box 0 rfl
  have k2 := s2.box 1 rfl
  simp [boxAt] at k1 k2
  refine SPL_intro (fun q1 => ?_) (fun q1 => ?_) <;> simp at q1
  case refine_2 => exact no _ s2.chg fun e => q1 (by rw [e])
  have hbl := s2.chg.below hB fun _ _ => id
  simp -dsimp [go_sem, k1, k2]
  refine CALL_of (EqualT_ct (Rep.below h1 hbl) (Rep.below g1 hbl) (by have := s2.chg.size; omega)) ?_
  rintro _ w3 ⟨rfl, hc3⟩
  have s3 := s2.old hc3
  have k1 := s3.box 0 rfl
  have k2 := s3.box 1 rfl
  simp [boxAt] at k1 k2
  by_cases q2 : a.terms = b.terms
  case neg =>
    simp -dsimp [go_sem, q2]
    exact no _ s3.chg fun e => q2 (by rw [e])
  have hbl := s3.chg.below hB fun _ _ => id
  simp -dsimp [go_sem, q2, k1, k2]
  refine CALL_of (EqualS_ct (Rep.below h2 hbl) (Rep.below g2 hbl) (by have := s3.chg.size; omega)) ?_
  rintro _ w4 ⟨rfl, hc4⟩
  have s4 := s3.old hc4
  have k1 := s4.box 0 rfl
  have k2 := s4.box 1 rfl
  simp [boxAt] at k1 k2
  by_cases q3 : a.nons = b.nons
  case neg =>
    simp -dsimp [go_sem, q3]
    exact no _ s4.chg fun e => q3 (by rw [e])
  have hbl := s4.chg.below hB fun _ _ => id
  simp -dsimp [go_sem, q3, k1, k2]
  refine CALL_of (EqualI_ct (Rep.below h3 hbl) (Rep.below g3 hbl) (by have := s4.chg.size; omega)) ?_
  rintro _ w5 ⟨rfl, hc5⟩
  have s5 := s4.old hc5
  have k1 := s5.box 0 rfl
  have k2 := s5.box 1 rfl
  simp [boxAt] at k1 k2
  by_cases q4 : a.levels = b.levels
  case neg =>
    simp -dsimp [go_sem, q4]
    exact no _ s5.chg fun e => q4 (by rw [e])
  have hbl := s5.chg.below hB fun _ _ => id
  simp -dsimp [go_sem, q4, k1, k2]
  refine CALL_of (EqualP_ct (Rep.below h5 hbl) (Rep.below g5 hbl) (by have := s5.chg.size; omega)) ?_
  rintro _ w6 ⟨rfl, hc6⟩
  refine hR _ _ ⟨?_, s5.chg.trans hc6⟩
  congr 1
  refine bool_eq ?_
  rw [decide_eq_true_iff, sameB_iff]
  exact ⟨fun e => Gr.ext' q2 q3 q4 q1 e, fun e => by rw [e]⟩
end Go.Proofs.Ytkacbjhiobnbfaa

/-
  Are two grammars the same? The document's answer; the law GramSame.
-/
namespace Go.Proofs.Ytkacbjhiobnbfaa
open Go.Px Go.Px.Scan Go.RowKit
set_option maxHeartbeats 1000000
set_option linter.unusedSimpArgs false
set_option linter.unusedVariables false
set_option maxRecDepth 100000
attribute [-go_sem] Builtin.append_
attribute [-go_sem] ref02_Same.b7 ref02_Same.b16 ref02_Same.b20

theorem refSame_ct {w : World} {B : Nat} {va vb : Value} {a b : Gr} (ha : rGram.atN w B va a) (hb : rGram.atN w B vb b) (hB : B ≤ w.heap.size) :
    Ct Try.prog ref02_Same.id #[va, vb] w fun v w' => v = .bool (sameB a b) ∧ Chg noB w w' := by
  obtain ⟨A1, c1, A2, c2, A3, c3, A4, c4, rfl, h1, h2, h3, h4, h5, ⟨l1, m1⟩, ⟨l2, m2⟩, ⟨l3, m3⟩, ⟨l4, m4⟩⟩ := (rGram_open ha).ex
  obtain ⟨B1, d1, B2, d2, B3, d3, B4, d4, rfl, g1, g2, g3, g4, g5, _⟩ := (rGram_open hb).ex
  refine ref02_Same.ct fun R hR => ?_
  have no : ∀ w', Chg noB w w' → a ≠ b → R (.returned (.bool false)) w' := fun w' hc hn => hR _ _ ⟨by rw [bool_no sameB_iff hn], hc⟩
  unfold ref02_Same.run
  have s1 := (St.refl noB w).alloc #[.slice A1 a.terms.length c1, .slice A2 a.nons.length c2, .slice A3 a.levels.length c3, .int .i64 a.start, .slice A4 a.prods.length c4] 27
  have s2 := s1.alloc #[.slice B1 b.terms.length d1, .slice B2 b.nons.length d2, .slice B3 b.levels.length d3, .int .i64 b.start, .slice B4 b.prods.length d4] 27
  have hs1 : (w.alloc (.cells #[.slice A1 a.terms.length c1, .slice A2 a.nons.length c2, .slice A3 a.levels.length c3, .int .i64 a.start, .slice A4 a.prods.length c4] 27)).heap.size = w.heap.size + 1 := by simp
  rw [hs1] at s2
  have k1 := s2.box 0 rfl
  have k2 := s2.box 1 rfl
  simp [boxAt] at k1 k2
  simp -dsimp [go_sem, k1, k2]
  generalize w.heap.size = n at s2 ⊢
  generalize (w.alloc (.cells #[.slice A1 a.terms.length c1, .slice A2 a.nons.length c2, .slice A3 a.levels.length c3, .int .i64 a.start, .slice A4 a.prods.length c4] 27)).alloc (.cells #[.slice B1 b.terms.length d1, .slice B2 b.nons.length d2, .slice B3 b.levels.length d3, .int .i64 b.start, .slice B4 b.prods.length d4] 27) = w2 at s2 ⊢
  have hbl := s2.chg.below hB fun _ _ => id
  refine CALL_of (ref02_SameInts_ct (Rep.below h3 hbl) (Rep.below g3 hbl) (by have := s2.chg.size; omega)) ?_
  rintro _ w3 ⟨rfl, hc3⟩
  have s3 := s2.old (Below.chg hc3)
  have k1 := s3.box 0 rfl
  have k2 := s3.box 1 rfl
  simp [boxAt] at k1 k2
  by_cases q4 : a.levels = b.levels
  case neg =>
    have : (a.levels == b.levels) = false := by simpa using q4
    simp -dsimp [go_sem, this]
    exact no _ s3.chg fun e => q4 (by rw [e])
  simp -dsimp [go_sem, q4, k1, k2]
  refine SPL_intro (fun q1 => ?_) (fun q1 => ?_) <;> simp at q1
  · simp -dsimp [go_sem]
    exact no _ s3.chg fun e => q1 (by rw [e])
  simp -dsimp [go_sem, k1, k2]
  refine SPL_intro (fun q2 => ?_) (fun q2 => ?_) <;> simp at q2
  · simp -dsimp [go_sem]
    exact no _ s3.chg fun e => q2 (by rw [e])
  simp -dsimp [go_sem, k1, k2]
  refine SPL_intro (fun q3 => ?_) (fun q3 => ?_) <;> simp at q3
  · simp -dsimp [go_sem]
    exact no _ s3.chg fun e => q3 (by rw [e])
  simp -dsimp [go_sem, k1, k2]
  refine SPL_intro (fun q5 => ?_) (fun q5 => ?_) <;> simp at q5
  · exact no _ s3.chg fun e => q5 (by rw [e])
  have q2 : a.terms.length = b.terms.length := by omega
  have q3 : a.nons.length = b.nons.length := by omega
  have q5 : a.prods.length = b.prods.length := by omega
  have hB3 : B ≤ w3.heap.size := by have := s3.chg.size; omega
  unfold ref02_Same.b20
  refine ref02_Same.l22_intro _ _ _ _ _ (fun x w1 => ∃ k : Nat, x = .int .i64 k ∧ k ≤ a.terms.length ∧ a.terms.take k = b.terms.take k ∧ Chg noB w3 w1) (fun x _ => a.terms.length - iv x) ⟨0, rfl, by omega, rfl, Chg.refl _ _⟩ ?_
  rintro _ w4 ⟨k, rfl, hk, hall, hcw⟩ C hC
  have s4 := s3.old hcw
  have s4d := s3.old hcw.drew
  have k3 := s4.box 0 rfl
  have k4 := s4d.box 0 rfl
  have k5 := s4d.box 1 rfl
  simp [boxAt] at k3 k4 k5
  simp -dsimp [go_sem, k3]
  refine SPL_intro (fun p1 => ?_) (fun p1 => ?_) <;> simp at p1
  · have hkb : k < b.terms.length := by omega
    obtain ⟨b1, o1, rfl, hb1, hc1, hd1, _⟩ := terms_at (Rep.below h1 (s4d.chg.below hB fun _ _ => id)) p1
    obtain ⟨b2, o2, rfl, hb2, hc2, hd2, _⟩ := terms_at (Rep.below g1 (s4d.chg.below hB fun _ _ => id)) hkb
    have wk := wrap_succ p1 (Nat.le_trans l1 m1)
    simp at hc1 hc2 hd1 hd2
    simp -dsimp [go_sem, p1, hkb, hc1, hc2, hd1, hd2, k3, k4, k5]
    by_cases p3 : a.terms[k].1.toList = b.terms[k].1.toList
    case neg =>
      simp -dsimp [go_sem, p3]
      exact no _ s4d.chg fun e => p3 (by subst e; rfl)
    by_cases p4 : a.terms[k].2 = b.terms[k].2
    case neg =>
      simp -dsimp [go_sem, p3, p4]
      exact no _ s4d.chg fun e => p4 (by subst e; rfl)
    simp -dsimp [go_sem, p3, p4, wk]
    exact hC _ _ ⟨k + 1, by simp, by omega, take_eq_succ hall p1 hkb (Prod.ext (toList_inj.1 p3) p4), hcw.drew⟩ (by simp [iv]; omega)
  have eqT : a.terms = b.terms := by
    have hka : k = a.terms.length := by omega
    rw [hka, List.take_length, q2, List.take_length] at hall
    exact hall
  clear hC C hall hk p1
  unfold ref02_Same.b16
  refine ref02_Same.l18_intro _ _ _ _ _ (fun x w1 => ∃ k : Nat, x = .int .i64 k ∧ k ≤ a.nons.length ∧ a.nons.take k = b.nons.take k ∧ Chg noB w3 w1) (fun x _ => a.nons.length - iv x) ⟨0, rfl, by omega, rfl, hcw⟩ ?_
  clear s4 s4d k3 k4 k5 hcw k
  rintro _ w4 ⟨k, rfl, hk, hall, hcw⟩ C hC
  have s4 := s3.old hcw
  have s4d := s3.old hcw.drew
  have k3 := s4.box 0 rfl
  have k4 := s4d.box 0 rfl
  have k5 := s4d.box 1 rfl
  simp [boxAt] at k3 k4 k5
  simp -dsimp [go_sem, k3]
  refine SPL_intro (fun p1 => ?_) (fun p1 => ?_) <;> simp at p1
  · have hkb : k < b.nons.length := by omega
    obtain ⟨b1, o1, rfl, hb1, hc1, _⟩ := Go.Px.strs_at (Rep.below h2 (s4d.chg.below hB fun _ _ => id)) p1
    obtain ⟨b2, o2, rfl, hb2, hc2, _⟩ := Go.Px.strs_at (Rep.below g2 (s4d.chg.below hB fun _ _ => id)) hkb
    have wk := wrap_succ p1 (Nat.le_trans l2 m2)
    simp at hc1 hc2
    simp -dsimp [go_sem, p1, hkb, hc1, hc2, k3, k4, k5]
    refine SPL_intro (fun p3 => ?_) (fun p3 => ?_) <;> simp at p3
    · exact no _ s4d.chg fun e => p3 (by subst e; rfl)
    · simp -dsimp [go_sem, wk]
      exact hC _ _ ⟨k + 1, by simp, by omega, take_eq_succ hall p1 hkb (toList_inj.1 p3), hcw.drew⟩ (by simp [iv]; omega)
  have eqN : a.nons = b.nons := by
    have hka : k = a.nons.length := by omega
    rw [hka, List.take_length, q3, List.take_length] at hall
    exact hall
  clear hC C hall hk p1
  unfold ref02_Same.b7
  refine ref02_Same.l9_intro _ _ _ _ _ (fun x w1 => ∃ k : Nat, x = .int .i64 k ∧ k ≤ a.prods.length ∧ a.prods.take k = b.prods.take k ∧ Chg noB w3 w1) (fun x _ => a.prods.length - iv x) ⟨0, rfl, by omega, rfl, hcw⟩ ?_
  clear s4 s4d k3 k4 k5 hcw k
  rintro _ w4 ⟨k, rfl, hk, hall, hcw⟩ C hC
  have s4 := s3.old hcw
  have k3 := s4.box 0 rfl
  simp [boxAt] at k3
  simp -dsimp [go_sem, k3]
  refine SPL_intro (fun p1 => ?_) (fun p1 => ?_) <;> simp at p1
  · have hkb : k < b.prods.length := by omega
    obtain ⟨b1, o1, v1, rfl, hb1, x1, x2, x3, xr, _⟩ := prods_at (Rep.below h5 (s4.chg.below hB fun _ _ => id)) p1
    obtain ⟨b2, o2, v2, rfl, hb2, y1, y2, y3, yr, _⟩ := prods_at (Rep.below g5 (s4.chg.below hB fun _ _ => id)) hkb
    obtain ⟨A5, c5, rfl, _⟩ := slice_form xr
    obtain ⟨A6, c6, rfl, _⟩ := slice_form yr
    have wk := wrap_succ p1 (Nat.le_trans l4 m4)
    have t1 := s4.alloc #[.int .i64 a.prods[k].1, .slice A5 a.prods[k].2.1.length c5, .int .i64 a.prods[k].2.2] 47
    have t2 := t1.alloc #[.int .i64 b.prods[k].1, .slice A6 b.prods[k].2.1.length c6, .int .i64 b.prods[k].2.2] 47
    have ht1 : (w4.alloc (.cells #[.int .i64 a.prods[k].1, .slice A5 a.prods[k].2.1.length c5, .int .i64 a.prods[k].2.2] 47)).heap.size = w4.heap.size + 1 := by simp
    rw [ht1] at t2
    have hc1 : Chg noB w4 (w4.alloc (.cells #[.int .i64 a.prods[k].1, .slice A5 a.prods[k].2.1.length c5, .int .i64 a.prods[k].2.2] 47)) := (Chg.refl _ _).alloc _
    have z0 := (t1.box 1 rfl)
    have z1 := hc1.at y1 id
    have z2 := hc1.at y2 id
    have z3 := hc1.at y3 id
    have k1 := t2.box 2 rfl
    have k2 := t2.box 3 rfl
    simp [boxAt] at k1 k2 z0
    simp -dsimp [go_sem, p1, hkb, x1, x2, x3, z0, z1, z2, z3, k1, k2, k3]
    have hc2 := hc1.alloc (.cells #[.int .i64 b.prods[k].1, .slice A6 b.prods[k].2.1.length c6, .int .i64 b.prods[k].2.2] 47)
    generalize (w4.alloc (.cells #[.int .i64 a.prods[k].1, .slice A5 a.prods[k].2.1.length c5, .int .i64 a.prods[k].2.2] 47)).alloc (.cells #[.int .i64 b.prods[k].1, .slice A6 b.prods[k].2.1.length c6, .int .i64 b.prods[k].2.2] 47) = w5 at hc2 t2 ⊢
    have hB4 : B ≤ w4.heap.size := by have := hcw.size; omega
    generalize w4.heap.size = n4 at t2 ⊢
    refine CALL_of (ref02_SameInts_ct (Rep.below xr (hc2.below hB4 fun _ _ => id)) (Rep.below yr (hc2.below hB4 fun _ _ => id)) (by have := hc2.size; omega)) ?_
    rintro _ w6 ⟨rfl, hc6⟩
    have s6 := t2.old (Below.chg hc6)
    have k1 := s6.box 2 rfl
    have k2 := s6.box 3 rfl
    simp [boxAt] at k1 k2
    by_cases p2 : a.prods[k].2.1 = b.prods[k].2.1
    case neg =>
      have : (a.prods[k].2.1 == b.prods[k].2.1) = false := by simpa using p2
      simp -dsimp [go_sem, this]
      exact no _ s6.chg fun e => p2 (by subst e; rfl)
    simp -dsimp [go_sem, p2, k1, k2]
    refine SPL_intro (fun p3 => ?_) (fun p3 => ?_) <;> simp at p3
    · simp -dsimp [go_sem]
      exact no _ s6.chg fun e => p3 (by subst e; rfl)
    simp -dsimp [go_sem, k1, k2]
    refine SPL_intro (fun p4 => ?_) (fun p4 => ?_) <;> simp at p4
    · exact no _ s6.chg fun e => p4 (by subst e; rfl)
    simp -dsimp [go_sem, wk]
    exact hC _ _ ⟨k + 1, by simp, by omega, take_eq_succ hall p1 hkb (Prod.ext p3 (Prod.ext p2 p4)), (hcw.trans hc2).trans (Below.chg hc6)⟩ (by simp [iv]; omega)
  · have hka : k = a.prods.length := by omega
    rw [hka, List.take_length, q5, List.take_length] at hall
    simp -dsimp [go_sem]
    refine hR _ _ ⟨?_, s4.chg⟩
    rw [sameB_iff.2 (Gr.ext' eqT eqN q4 q1 hall)]
end Go.Proofs.Ytkacbjhiobnbfaa

