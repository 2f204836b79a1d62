/-
  A builder's other calls: names of nonterminals, handles, the start, the sizes.
-/
import Derived.Test.YtmhebgebfjnfjaaGm6
namespace Go.Proofs.Ytmhebgebfjnfjaa
open Go.Px Go.Px.Scan Go.RowKit
set_option maxHeartbeats 1000000
set_option linter.unusedSimpArgs false
attribute [-go_sem] Builtin.append_

/-- What Non answers, and leaves. -/
noncomputable def nonA (S : BS) (s : ByteArray) : Int × Int × BS :=
  if nmB s = false then (0, 1, S)
  else if posH S.nons s ≠ 0 then (- posH S.nons s, 0, S)
  else if 64 ≤ S.terms.length + S.nons.length then (0, 11, S)
  else (- ((S.nons.length : Int) + 1), 0, { S with nons := S.nons ++ [s] })

theorem posH_le (l : List ByteArray) (s : ByteArray) : posH l s ≤ l.length := by unfold posH; split <;> omega

set_option maxRecDepth 100000 in
theorem non3_ok {R : Ending → World → Prop} {w w1 : World} {T : Nat → Nat} {b : Nat} {V : BV} {S : BS} (h : Bld w T b V S) {s : ByteArray} (hs : s.size ≤ maxLen) (htp : NameP s) (ht : nmB s = true) (hc1 : Chg (fun _ => False) w w1)
    (hR : ∀ v w', v = .tuple #[.int .i64 (nonA S s).1, .int .i64 (nonA S s).2.1] ∧ After w T b (nonA S s).2.2 w' → R (.returned v) w') : gram_Builder_Non.b3 R (.pointer (some ⟨b, 0, none⟩)) (.string s) w1 := by
  have hsy := h.ok.syms
  have hbw : b < w.heap.size := h.lt b (by rw [h.tag]; omega)
  unfold gram_Builder_Non.b3
  have h1 := h.keep hc1 (fun _ _ => id)
  simp [go_sem]
  refine CALL_of (find_ct h1.nons hs) ?_
  rintro _ _ ⟨rfl, rfl⟩
  simp [go_sem]
  have hpp := posH_pos S.nons s
  have hpl := posH_le S.nons s
  refine SPL_intro (fun h2 => ?_) (fun h2 => ?_) <;> simp at h2
  · have ha : nonA S s = (- posH S.nons s, 0, S) := by unfold nonA; rw [if_neg (by simp [ht]), if_pos (by omega)]
    rw [ha] at hR
    have hw : IntKind.i64.wrap (- posH S.nons s) = - posH S.nons s := IntWalk.i64_in _ (by omega)
    simp [go_sem, hw]
    exact hR _ _ ⟨rfl, After.same h hc1⟩
  · have hz : posH S.nons s = 0 := by omega
    have hno : s ∉ S.nons := posH_zero.1 hz
    simp [go_sem]
    have h1d := h1.keep (F := fun _ => False) (Chg.refl _ _).drew (fun _ _ => id)
    refine CALL_of (size_ct h1d.terms) ?_
    rintro _ _ ⟨rfl, rfl⟩
    refine CALL_of (size_ct h1d.nons) ?_
    rintro _ _ ⟨rfl, rfl⟩
    have wsum : IntKind.i64.wrap (((S.terms.map (·.1)).length : Int) + S.nons.length) = ((S.terms.map (·.1)).length : Int) + S.nons.length := IntWalk.i64_in _ (by rw [List.length_map]; omega)
    rw [List.length_map] at wsum ⊢
    simp [go_sem, wsum]
    refine SPL_intro (fun h3 => ?_) (fun h3 => ?_) <;> simp at h3
    · have ha : nonA S s = (0, 11, S) := by unfold nonA; rw [if_neg (by simp [ht]), if_neg (by simp [hz]), if_pos (by omega)]
      rw [ha] at hR
      exact hR _ _ ⟨rfl, After.same h hc1.drew⟩
    · have ha : nonA S s = (- ((S.nons.length : Int) + 1), 0, { S with nons := S.nons ++ [s] }) := by unfold nonA; rw [if_neg (by simp [ht]), if_neg (by simp [hz]), if_neg (by omega)]
      rw [ha] at hR
      simp [go_sem]
      have hsz16 : s.size ≤ 1000 := by have := htp.2.1; omega
      have hc2 : Chg (fun _ => False) w w1.drew := hc1.drew
      have hb1 : b < w1.drew.heap.size := by have := hc2.size; omega
      refine CALL_of (intern_ct h1d.nons hsz16 hno (by omega) h1d.lt (by omega) (by omega) (by omega) (by rw [h.tag]; omega) (by rw [h.tag]; omega)) ?_
      rintro _ w5 ⟨rfl, T5, v5, m5, hN⟩
      have hw : IntKind.i64.wrap (- ((S.nons.length : Int) + 1)) = - ((S.nons.length : Int) + 1) := IntWalk.i64_in _ (by omega)
      simp [go_sem, hw]
      have hF := hN.fr
      have neA : ∀ k, k ≠ 1 → k ≠ 4 → k ≠ 5 → ∀ i, T i = k → ¬ (i = b ∨ (T i = 4 ∨ T i = 5)) := fun k h1' h2' h3' i hi he => by
        rcases he with he | he
        · rw [he, h.tag] at hi; omega
        · omega
      refine hR _ _ ⟨?_, ⟨T5, { V with vn := v5, vk := m5 }, ⟨?_, hN.lt, ?_, hN.nm, ?_, ?_, ?_, ?_, ?_, ?_, ?_, ?_, h1d.rlen, ?_, ?_⟩, ?_⟩, ?_⟩
      · simp
      · rw [hN.old b hb1]; exact h.tag
      · exact h1d.terms.fr hF (by omega) (by omega) (neA 2 (by omega) (by omega) (by omega)) (neA 3 (by omega) (by omega) (by omega)) hN.old
      · exact (hF.cell 4 (by omega)).trans h1d.cg
      · exact (hF.cell 5 (by omega)).trans h1d.cl
      · exact (hF.cell 6 (by omega)).trans h1d.cr
      · exact (hF.cell 7 (by omega)).trans h1d.cs
      · exact fun j hj => (hF.frz j).trans (h1d.fz j hj)
      · exact h1d.graded.keep hF.chg (neA 6 (by omega) (by omega) (by omega)) hN.old
      · exact h1d.levels.keep hF.chg (neA 7 (by omega) (by omega) (by omega)) hN.old
      · exact h1d.rules.keep hF.chg (neA 8 (by omega) (by omega) (by omega)) hN.old
      · exact fun i r v hr hv => (h1d.rights i r v hr hv).keep hF.chg (neA 9 (by omega) (by omega) (by omega)) hN.old
      · refine ⟨?_, h.ok.tnam, ?_, h.ok.tnd, ?_, h.ok.lev, h.ok.grd, h.ok.prods⟩
        · simp; omega
        · intro t ht; simp at ht; rcases ht with ht | rfl
          · exact h.ok.nnam t ht
          · exact htp
        · refine List.nodup_append.2 ⟨h.ok.nnd, by simp, fun a' ha' b' hb' => ?_⟩
          simp at hb'; subst hb'
          intro e; subst e; exact hno ha'
      · exact fun i hi => hN.old i (by have := hc2.size; omega)
      · refine (hc2.mono fun _ _ h => h.elim).trans (hF.chg.mono fun i hi he => ?_)
        rcases he with he | he
        · rw [he, h.tag]; omega
        · omega

set_option maxRecDepth 100000 in
theorem Non_ct {w : World} {T : Nat → Nat} {b : Nat} {V : BV} {S : BS} (h : Bld w T b V S) {s : ByteArray} (hs : s.size ≤ maxLen) :
    Ct Try.prog gram_Builder_Non.id #[.pointer (some ⟨b, 0, none⟩), .string s] w fun v w' => v = .tuple #[.int .i64 (nonA S s).1, .int .i64 (nonA S s).2.1] ∧ After w T b (nonA S s).2.2 w' := by
  refine gram_Builder_Non.ct fun R hR => ?_
  cases ht : nmB s with
  | false =>
    have ha : nonA S s = (0, 1, S) := by unfold nonA; rw [if_pos ht]
    rw [ha] at hR
    unfold gram_Builder_Non.run gram_Builder_Non.b1 gram_Builder_Non.b4
    simp [go_sem]
    refine CALL_of (isName_ct hs w) ?_
    rintro _ w1 ⟨rfl, hc1⟩
    rw [ht]
    simp [go_sem]
    unfold gram_Builder_Non.b5
    simp [go_sem]
    exact hR _ _ ⟨rfl, After.same h hc1⟩
  | true =>
    unfold gram_Builder_Non.run gram_Builder_Non.b1 gram_Builder_Non.b4
    simp [go_sem]
    refine CALL_of (isName_ct hs w) ?_
    rintro _ w1 ⟨rfl, hc1⟩
    rw [ht]
    simp [go_sem]
    unfold gram_Builder_Non.b5
    simp [go_sem]
    exact non3_ok h hs (nmB_iff.1 ht) ht hc1 hR

/-- A terminal's handle; a nonterminal's. -/
def isT (S : BS) (h : Int) : Bool := decide (1 ≤ h ∧ h ≤ S.terms.length)
def isN (S : BS) (h : Int) : Bool := decide (h < 0 ∧ -(S.nons.length : Int) ≤ h)

theorem isTermHandle_ct {w : World} {T : Nat → Nat} {b : Nat} {V : BV} {S : BS} (h : Bld w T b V S) {x : Int} (hx : inI64 x) :
    Ct Try.prog gram_Builder_isTermHandle.id #[.pointer (some ⟨b, 0, none⟩), .int .i64 x] w fun v w' => v = .bool (isT S x) ∧ w = w' := by
  refine gram_Builder_isTermHandle.ct fun R hR => ?_
  have := h.ok.syms
  unfold gram_Builder_isTermHandle.run gram_Builder_isTermHandle.b1
  simp [go_sem]
  refine SPL_intro (fun h2 => ?_) (fun h2 => ?_) <;> simp at h2
  · simp [go_sem]
    refine CALL_of (size_ct h.terms) ?_
    rintro _ _ ⟨rfl, rfl⟩
    simp [go_sem]
    refine hR _ _ ⟨?_, rfl⟩
    unfold isT
    congr 1
    refine decide_eq_decide.2 ?_
    omega
  · refine hR _ _ ⟨?_, rfl⟩
    unfold isT
    congr 1
    refine (decide_eq_false ?_).symm
    omega

theorem isNonHandle_ct {w : World} {T : Nat → Nat} {b : Nat} {V : BV} {S : BS} (h : Bld w T b V S) {x : Int} (hx : inI64 x) :
    Ct Try.prog gram_Builder_isNonHandle.id #[.pointer (some ⟨b, 0, none⟩), .int .i64 x] w fun v w' => v = .bool (isN S x) ∧ w = w' := by
  refine gram_Builder_isNonHandle.ct fun R hR => ?_
  have := h.ok.syms
  unfold gram_Builder_isNonHandle.run gram_Builder_isNonHandle.b1
  simp [go_sem]
  refine SPL_intro (fun h2 => ?_) (fun h2 => ?_) <;> simp at h2
  · simp [go_sem]
    refine CALL_of (size_ct h.nons) ?_
    rintro _ _ ⟨rfl, rfl⟩
    have hw : IntKind.i64.wrap (- (S.nons.length : Int)) = - (S.nons.length : Int) := IntWalk.i64_in _ (by omega)
    simp [go_sem, hw]
    refine hR _ _ ⟨?_, rfl⟩
    unfold isN
    congr 1
    refine decide_eq_decide.2 ?_
    omega
  · refine hR _ _ ⟨?_, rfl⟩
    unfold isN
    congr 1
    refine (decide_eq_false ?_).symm
    omega

/-- A cell of the block is turned. -/
theorem Fr.one (b j : Nat) (F : Nat → Prop) (w : World) (u : Value) : Fr b (· = j) F w (w.setCell ⟨b, j, none⟩ u) := Fr.set (J := (· = j)) (j := j) rfl u

theorem Start_ct {w : World} {T : Nat → Nat} {b : Nat} {V : BV} {S : BS} (h : Bld w T b V S) {x : Int} (hx : inI64 x) :
    Ct Try.prog gram_Builder_Start.id #[.pointer (some ⟨b, 0, none⟩), .int .i64 x] w fun v w' => v = .int .i64 (if isN S x then 0 else 1) ∧ After w T b (if isN S x then { S with start := x } else S) w' := by
  refine gram_Builder_Start.ct fun R hR => ?_
  unfold gram_Builder_Start.run gram_Builder_Start.b1 gram_Builder_Start.b4
  simp [go_sem]
  refine CALL_of (isNonHandle_ct h hx) ?_
  rintro _ _ ⟨rfl, rfl⟩
  cases hn : isN S x with
  | false =>
    rw [hn] at hR
    simp [go_sem]
    unfold gram_Builder_Start.b5
    simp [go_sem]
    exact hR _ _ ⟨rfl, After.same h (Chg.refl _ _)⟩
  | true =>
    rw [hn] at hR
    simp [go_sem]
    unfold gram_Builder_Start.b5
    simp [go_sem]
    unfold gram_Builder_Start.b3
    have hfz := h.fz 7 (by omega)
    simp [go_sem, h.cs, hfz]
    have hF : Fr b (· = 7) (fun _ => False) w (w.setCell ⟨b, 7, none⟩ (.int .i64 x)) := Fr.one _ _ _ _ _
    have hc7 : (w.setCell ⟨b, 7, none⟩ (.int .i64 x)).cell? ⟨b, 7, none⟩ = some (.int .i64 x) := World.cell?_setCell_same _ _ _ h.cs
    generalize w.setCell ⟨b, 7, none⟩ (.int .i64 x) = w1 at hF hc7 ⊢
    have neA : ∀ k, k ≠ 1 → ∀ i, T i = k → ¬ (i = b ∨ False) := fun k h1' i hi he => by
      rcases he with he | he
      · rw [he, h.tag] at hi; omega
      · exact he
    refine hR _ _ ⟨rfl, ⟨T, V, ⟨h.tag, fun i hi => Nat.lt_of_lt_of_le (h.lt i hi) hF.chg.size, ?_, ?_, ?_, ?_, ?_, hc7, ?_, ?_, ?_, ?_, h.rlen, ?_, ⟨h.ok.syms, h.ok.tnam, h.ok.nnam, h.ok.tnd, h.ok.nnd, h.ok.lev, h.ok.grd, h.ok.prods⟩⟩, fun _ _ => rfl⟩, ?_⟩
    · exact h.terms.fr hF (by omega) (by omega) (neA 2 (by omega)) (neA 3 (by omega)) fun _ _ => rfl
    · exact h.nons.fr hF (by omega) (by omega) (neA 4 (by omega)) (neA 5 (by omega)) fun _ _ => rfl
    · exact (hF.cell 4 (by omega)).trans h.cg
    · exact (hF.cell 5 (by omega)).trans h.cl
    · exact (hF.cell 6 (by omega)).trans h.cr
    · exact fun j hj => (hF.frz j).trans (h.fz j hj)
    · exact h.graded.keep hF.chg (neA 6 (by omega)) fun _ _ => rfl
    · exact h.levels.keep hF.chg (neA 7 (by omega)) fun _ _ => rfl
    · exact h.rules.keep hF.chg (neA 8 (by omega)) fun _ _ => rfl
    · exact fun i r v hr hv => (h.rights i r v hr hv).keep hF.chg (neA 9 (by omega)) fun _ _ => rfl
    · exact hF.chg.mono fun i _ he => by
        rcases he with he | he
        · rw [he, h.tag]; omega
        · exact he.elim

theorem Sizes_ct {w : World} {T : Nat → Nat} {b : Nat} {V : BV} {S : BS} (h : Bld w T b V S) :
    Ct Try.prog gram_Builder_Sizes.id #[.pointer (some ⟨b, 0, none⟩)] w fun v w' => v = .tuple #[.int .i64 S.terms.length, .int .i64 S.nons.length, .int .i64 S.levels.length, .int .i64 S.rules.length] ∧ Chg (fun _ => False) w w' := by
  refine gram_Builder_Sizes.ct fun R hR => ?_
  have hcl := h.cl
  have hcr := h.cr
  obtain ⟨a, c, hv⟩ := row_len h.levels
  obtain ⟨a', c', hv'⟩ := row_len h.rules
  rw [hv] at hcl
  rw [hv'] at hcr
  unfold gram_Builder_Sizes.run gram_Builder_Sizes.b1
  simp [go_sem, hcl, hcr]
  have h1d := h.keep (F := fun _ => False) (Chg.refl _ _).drew (fun _ _ => id)
  refine CALL_of (size_ct h1d.terms) ?_
  rintro _ _ ⟨rfl, rfl⟩
  simp [go_sem, hcl, hcr]
  refine CALL_of (size_ct h1d.nons) ?_
  rintro _ _ ⟨rfl, rfl⟩
  simp [go_sem, hcl, hcr]
  exact hR _ _ ⟨rfl, (Chg.refl _ _).drew⟩
end Go.Proofs.Ytmhebgebfjnfjaa
