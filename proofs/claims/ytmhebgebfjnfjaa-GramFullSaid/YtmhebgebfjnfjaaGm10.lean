/-
  Rule.
-/
import Derived.Test.YtmhebgebfjnfjaaGm9
namespace Go.Proofs.Ytmhebgebfjnfjaa
open Go.Px Go.Px.Scan Go.RowKit
set_option maxHeartbeats 1000000
set_option linter.unusedSimpArgs false
set_option linter.unusedVariables false
attribute [-go_sem] Builtin.append_

/-- What is owned, at a place. -/
theorem own_at {w : World} {base e size : Nat} {v : Value} {n : Nat} {xs : List Value} (h : w.ownsRow base e size v n xs) {j : Nat} (hj : j < xs.length) :
    ∃ g cap, v = .slice (some ⟨g, 0, none⟩) n cap ∧ w.cell? ⟨g, j, none⟩ = some xs[j] ∧ w.frozen? ⟨g, j, none⟩ = false ∧ base ≤ g := by
  rcases h.2 with ⟨h1, h2⟩ | ⟨g, cap, cur, hv, hb, hg, hn, hm, hs, ht⟩
  · have := h.1; rw [h2] at this; omega
  · refine ⟨g, cap, hv, ?_, ?_, hb⟩
    · have h3 : cur.toList[j]? = some xs[j] := by
        have h4 : (cur.toList.take (n * size))[j]? = some xs[j] := by rw [ht]; exact List.getElem?_eq_getElem hj
        rw [List.getElem?_take] at h4
        split at h4
        · exact h4
        · cases h4
      simp [World.cell?, hg, ← h3]
    · simp [World.frozen?, hg]

theorem ruleL_snoc (S : BS) (l : List Int) (h : Int) : ruleL S (l ++ [h]) = if 0 < h then gradeOf S h else ruleL S l := by
  unfold ruleL; rw [List.foldl_append]; rfl
theorem gradeOf_in {S : BS} (ok : BSok S) (h : Int) : 0 ≤ gradeOf S h ∧ gradeOf S h ≤ S.levels.length := by
  unfold gradeOf
  cases e : S.terms[(h - 1).toNat]? with
  | none => simp
  | some t => exact ok.grd t (List.mem_of_getElem? e)
theorem ruleL_in {S : BS} (ok : BSok S) (l : List Int) : 0 ≤ ruleL S l ∧ ruleL S l ≤ S.levels.length := by
  suffices ∀ (l : List Int) (a : Int), 0 ≤ a ∧ a ≤ S.levels.length → 0 ≤ l.foldl (fun a h => if 0 < h then gradeOf S h else a) a ∧ l.foldl (fun a h => if 0 < h then gradeOf S h else a) a ≤ S.levels.length from this l 0 (by omega)
  intro l
  induction l with
  | nil => exact fun a ha => ha
  | cons x r ih =>
    intro a ha
    refine ih _ ?_
    show 0 ≤ (if 0 < x then gradeOf S x else a) ∧ (if 0 < x then gradeOf S x else a) ≤ S.levels.length
    by_cases hx : 0 < x
    · rw [if_pos hx]; exact gradeOf_in ok x
    · rw [if_neg hx]; exact ha

/-- A terminal's level, in memory. -/
theorem grade_at {w : World} {T : Nat → Nat} {b : Nat} {V : BV} {S : BS} (h : Bld w T b V S) {x : Int} (hx : isT S x = true) :
    ∃ g cap k, V.vg = .slice (some ⟨g, 0, none⟩) S.terms.length cap ∧ k < S.terms.length ∧ x = (k : Int) + 1 ∧ w.cell? ⟨g, k, none⟩ = some (.int .i64 (gradeOf S x)) ∧ w.frozen? ⟨g, k, none⟩ = false ∧ T g = 6 := by
  have hx' : 1 ≤ x ∧ x ≤ S.terms.length := by simpa [isT] using hx
  have hk : (x - 1).toNat < S.terms.length := by omega
  obtain ⟨g, cap, hv, hc, hf, _⟩ := own_at h.graded.1 (j := (x - 1).toNat) (by simpa using hk)
  refine ⟨g, cap, (x - 1).toNat, hv, hk, by omega, ?_, hf, h.graded.2 g (by rw [hv]; rfl)⟩
  rw [hc]
  unfold gradeOf
  rw [List.getElem?_eq_getElem hk]
  simp

set_option maxRecDepth 100000 in
theorem rule8_ok {R : Ending → World → Prop} {w w0 : World} {T : Nat → Nat} {b p q B : Nat} {V : BV} {S : BS} (h : Bld w T b V S) (hp : w.cell? ⟨p, 0, none⟩ = some (.pointer (some ⟨b, 0, none⟩))) (hTp : T p = 0) (hpq : p ≠ q)
    {left : Int} {right : List Int} {u vr : Value} (hu : (rSlice rInt).at1 w B u right) (hB : B ≤ w0.heap.size) (hsy : ∀ x ∈ right, badH S x = false) (hl : S.rules.length < 96) (hc0 : Chg (fun _ => False) w0 w) (hw0 : ∀ i, T i ≠ 0 → i < w0.heap.size)
    (hq0 : w0.heap.size ≤ q) (k0 : w.cell? ⟨q, 0, none⟩ = some (.int .i64 left)) (k1 : w.cell? ⟨q, 1, none⟩ = some vr) (k2 : w.cell? ⟨q, 2, none⟩ = some (.int .i64 0)) (kf : w.frozen? ⟨q, 2, none⟩ = false) (hTq : T q = 0)
    (hr : w.ownsRow w0.heap.size 3 1 vr right.length (right.map (.int .i64 ·))) (hrq : vr.ownBlock ≠ some q)
    (hR : ∀ w', After w0 T b { S with rules := S.rules ++ [(left, right, ruleL S right)] } w' → R (.returned (.tuple #[.int .i64 S.rules.length, .int .i64 0])) w') :
    gram_Builder_Rule.b6 R u (.pointer (some ⟨p, 0, none⟩)) (.pointer (some ⟨q, 0, none⟩)) w := by
  obtain ⟨A, c, rfl, hlc, hm, _⟩ := slice_form hu
  unfold gram_Builder_Rule.b6
  simp [go_sem]
  refine gram_Builder_Rule.l8_intro _ _ _ _ _ _ _ (fun x w1 => ∃ k : Nat, x = .int .i64 k ∧ k ≤ right.length ∧ Fr q (· = 2) (fun _ => False) w w1 ∧ w1.cell? ⟨q, 2, none⟩ = some (.int .i64 (ruleL S (right.take k)))) (fun x _ => right.length - iv x) ⟨0, rfl, by omega, Fr.refl _, by simpa [ruleL] using k2⟩ ?_
  rintro _ w1 ⟨k, rfl, hk, hF, k2'⟩ C hC
  have hqc : ∀ i, T i ≠ 0 → ¬ (i = q ∨ False) := fun i hi he => by
    rcases he with he | he
    · rw [he] at hi; exact hi hTq
    · exact he
  have h1 := h.keep hF.chg hqc
  have hp1 := hF.chg.at hp (fun he => by rcases he with he | he; exact hpq he; exact he)
  have hu1 : (rSlice rInt).at1 w1 B _ right := Rep.below hu (hF.chg.below (by have := hc0.size; omega) fun i hi he => by rcases he with he | he; omega; exact he)
  have hq2 : w1.frozen? ⟨q, 2, none⟩ = false := (hF.frz 2).trans kf
  unfold gram_Builder_Rule.b9
  simp [go_sem]
  refine SPL_intro (fun h2 => ?_) (fun h2 => ?_) <;> simp at h2
  · obtain ⟨b1, o1, rfl, hb1, hc1, hr1⟩ := Go.Px.ints_at hu1 h2
    have wk := wrap_succ h2 (Nat.le_trans hlc hm)
    have htk : ruleL S (right.take (k + 1)) = if 0 < right[k] then gradeOf S right[k] else ruleL S (right.take k) := by
      rw [List.take_succ_eq_append_getElem h2, ruleL_snoc]
    simp [go_sem, h2, hc1]
    refine SPL_intro (fun h3 => ?_) (fun h3 => ?_) <;> simp at h3
    · rw [if_pos h3] at htk
      have hT : isT S right[k] = true := by
        have h4 := hsy _ (List.getElem_mem h2)
        unfold badH at h4
        cases hT : isT S right[k] with
        | true => rfl
        | false =>
          have hN : isN S right[k] = false := by unfold isN; simp; intro; omega
          rw [hT, hN] at h4
          cases h4
      obtain ⟨g, cap, j, hvg, hj, hx, hcg, hfg, htg⟩ := grade_at h1 hT
      have hcv := h1.cg
      rw [hvg] at hcv
      have wx : IntKind.i64.wrap (right[k] - 1) = (j : Int) := by
        rw [show right[k] - 1 = (j : Int) by omega]
        exact IntWalk.i64_in _ (by have := h.ok.syms; omega)
      simp [go_sem, hp1, hcv, wx, hj, hcg, k2', hq2]
      unfold gram_Builder_Rule.b10
      simp [go_sem, wk]
      refine hC _ _ ⟨k + 1, by simp, by omega, hF.trans (Fr.one _ _ _ _ _), ?_⟩ (by simp [iv]; omega)
      rw [htk]
      exact World.cell?_setCell_same _ _ _ k2'
    · rw [if_neg (by omega)] at htk
      unfold gram_Builder_Rule.b10
      simp [go_sem, wk]
      refine hC _ _ ⟨k + 1, by simp, by omega, hF, ?_⟩ (by simp [iv]; omega)
      rw [htk]; exact k2'
  · have hka : k = right.length := by omega
    rw [hka, List.take_length] at k2'
    have hcq : Chg (fun _ => False) w0 w1 := hc0.trans' hF.chg fun i hi he => by rcases he with he | he; omega; exact he
    exact rule5_ok h1 hp1 hTp hl hcq hw0 ((hF.cell 0 (by omega)).trans k0) ((hF.cell 1 (by omega)).trans k1) k2' hTq (ownsRow_keep hr hF.chg (fun i hi he => by
      rcases he with he | he
      · rw [he] at hi; exact hrq hi
      · exact he)) (fun x hx => by
        obtain ⟨i, hi, rfl⟩ := List.getElem_of_mem hx
        obtain ⟨_, _, _, _, _, hr1⟩ := Go.Px.ints_at hu1 hi
        exact hr1) hR
end Go.Proofs.Ytmhebgebfjnfjaa
