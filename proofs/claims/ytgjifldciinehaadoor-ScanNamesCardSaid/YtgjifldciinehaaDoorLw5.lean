/-
  ScanNames: the document's IsName and IsTerm.
-/
import Derived.Test.YtgjifldciinehaaDoorLw4
import Derived.Test.YtgjifldciinehaaDoorScSpec3
namespace Go.Proofs.YtgjifldciinehaaDoor
open Go.Px Go.Px.Scan Go.RowKit
set_option maxHeartbeats 1000000
set_option linter.unusedSimpArgs false

open Classical in
noncomputable def nameB (s : ByteArray) : Bool := decide (NameP s)
open Classical in
noncomputable def termB (s : ByteArray) : Bool := decide (TermP s)
theorem nameB_iff {s : ByteArray} : nameB s = true ↔ NameP s := @decide_eq_true_iff _ (_)
theorem termB_iff {s : ByteArray} : termB s = true ↔ TermP s := @decide_eq_true_iff _ (_)
theorem nameB_no {s : ByteArray} (h : ¬ NameP s) : nameB s = false := by rw [Bool.eq_false_iff]; exact fun h' => h (nameB_iff.1 h')
theorem termB_no {s : ByteArray} (h : ¬ TermP s) : termB s = false := by rw [Bool.eq_false_iff]; exact fun h' => h (termB_iff.1 h')

theorem nameS_eq (s : ByteArray) : nameS s = nameB s := by
  rw [Bool.eq_iff_iff, nameB_iff]
  unfold nameS
  simp only [Bool.and_eq_true, decide_eq_true_eq, beq_iff_eq]
  constructor
  · rintro ⟨h1, h2⟩
    have h2' : (firstS s).2.1 = s := bs_ext (by simpa [ByteArray.toList_eq] using h2)
    unfold firstS at h1 h2'
    cases hl : (allS (short s) 0).1 with
    | nil => rw [hl] at h1; simp at h1
    | cons x l =>
      rw [hl] at h1 h2'
      simp at h1 h2'
      have hsh : (short s).size ≤ s.size := by
        unfold short
        split
        · exact Nat.zero_le _
        · exact Nat.le_refl _
      have := name_of hsh hl h1 h2'
      have he : short s = s := by
        unfold short
        split
        · rename_i h
          have h3 := this.1
          unfold short at h3
          rw [if_pos h] at h3
          change 0 = s.size at h3
          omega
        · rfl
      rw [he] at this
      exact this.2
  · intro h
    have he : short s = s := by unfold short; rw [if_neg (by have := h.2.1; omega)]
    unfold firstS
    rw [he, name_all h]
    exact ⟨rfl, rfl⟩

theorem termS_eq (s : ByteArray) : termS s = termB s := by
  rw [Bool.eq_iff_iff, termB_iff, term_run]
  unfold termS
  simp
  omega

theorem ref_IsName_ct {s : ByteArray} (hs : s.size ≤ maxLen) (w : World) : Ct Tryd.prog ref03_IsName.id #[.string s] w fun v w' => v = .bool (nameB s) ∧ w = w' := by
  refine ref03_IsName.ct fun R hR => ?_
  have no : ¬ NameP s → ∀ v, v = Value.bool false → R (.returned v) w := fun h v hv => hR _ _ ⟨by rw [hv, nameB_no h], rfl⟩
  have loop : 0 < s.size → s.size ≤ 16 → (letterN (bt s 0) || decide (bt s 0 = 95)) = true → ref03_IsName.b5 R (.string s) w := by
    intro h1 h2 h3
    unfold ref03_IsName.b5
    refine ref03_IsName.l7_intro _ _ _ _ (fun x w1 => ∃ k : Nat, x = .int .i64 k ∧ k ≤ s.size ∧ (∀ i, i < k → innerN (bt s i) = true) ∧ w = w1) (fun x _ => s.size - iv x) ⟨0, rfl, by omega, fun i h => by omega, rfl⟩ ?_
    rintro _ _ ⟨k, rfl, hk, hall, rfl⟩ C hC
    unfold ref03_IsName.b8
    simp [go_sem]
    refine SPL_intro (fun h => ?_) (fun h => ?_) <;> simp at h
    · simp [go_sem, index_bt, h]
      refine CALL_of (ref_inner_ct _ _) ?_
      rintro _ _ ⟨rfl, rfl⟩
      simp [go_sem]
      cases hi : innerN (bt s k) with
      | true =>
        simp [go_sem, wrap_succ h hs]
        refine hC _ _ ⟨k + 1, by simp, by omega, fun i hik => ?_, rfl⟩ (by simp [iv]; omega)
        by_cases he : i = k
        · rw [he]; exact hi
        · exact hall i (by omega)
      | false =>
        simp [go_sem]
        exact no (fun hn => by have := hn.2.2.2 k h; rw [hi] at this; cases this) _ rfl
    · unfold ref03_IsName.b4
      refine hR _ _ ⟨?_, rfl⟩
      rw [nameB_iff.2]
      exact ⟨h1, h2, h3, fun i hi => hall i (by omega)⟩
  have pre : ∀ b, (b = false → 0 < s.size ∧ s.size ≤ 16 ∧ (letterN (bt s 0) || decide (bt s 0 = 95)) = true) → (b = true → ¬ NameP s) → ref03_IsName.b10 R (.string s) (.bool b) w := by
    intro b h1 h2
    unfold ref03_IsName.b10
    cases b with
    | true => simp [go_sem]; exact no (h2 rfl) _ rfl
    | false => simp [go_sem]; exact loop (h1 rfl).1 (h1 rfl).2.1 (h1 rfl).2.2
  unfold ref03_IsName.run ref03_IsName.b1 ref03_IsName.b9
  simp [go_sem]
  refine SPL_intro (fun h => ?_) (fun h => ?_)
  · refine pre true (fun h => by cases h) (fun _ hn => ?_)
    have := hn.1
    have hz : s.size = 0 := by
      have h0 : s.toList = [] := by simpa using h
      have h1 := congrArg List.length h0
      rw [ByteArray.toList_eq] at h1
      simpa using h1
    omega
  · have hz : 0 < s.size := by
      rcases Nat.eq_zero_or_pos s.size with h0 | h0
      · exfalso
        have h1 : s.toList = [] := by
          rw [ByteArray.toList_eq]
          exact List.eq_nil_of_length_eq_zero (by simpa using h0)
        rw [h1] at h; simp at h
      · exact h0
    simp [go_sem]
    refine SPL_intro (fun h => ?_) (fun h => ?_) <;> simp at h
    · exact pre true (fun h => by cases h) (fun _ hn => by have := hn.2.1; omega)
    · have h16 : s.size ≤ 16 := by omega
      have e0 : (s[0]'hz).toNat = bt s 0 := by unfold bt; rw [dif_pos hz]
      simp [go_sem, hz, e0]
      refine CALL_of (ref_letter_ct _ _) ?_
      rintro _ _ ⟨rfl, rfl⟩
      simp [go_sem]
      cases hl : letterN (bt s 0) with
      | true =>
        simp [go_sem]
        exact pre false (fun _ => ⟨hz, h16, by simp [hl]⟩) (fun h => by cases h)
      | false =>
        simp [go_sem, hz, e0]
        refine pre _ (fun h => ⟨hz, h16, ?_⟩) (fun h hn => ?_)
        · simp at h; simp; omega
        · have h3 := hn.2.2.1
          rw [hl] at h3
          simp at h h3
          omega

theorem ref_IsTerm_ct {s : ByteArray} (hs : s.size ≤ maxLen) (w : World) : Ct Tryd.prog ref03_IsTerm.id #[.string s] w fun v w' => v = .bool (termB s) ∧ w = w' := by
  refine ref03_IsTerm.ct fun R hR => ?_
  have no : ¬ TermP s → ∀ v, v = Value.bool false → R (.returned v) w := fun h v hv => hR _ _ ⟨by rw [hv, termB_no h], rfl⟩
  unfold ref03_IsTerm.run ref03_IsTerm.b1 ref03_IsTerm.b4
  refine ref03_IsTerm.l6_intro _ _ _ _ (fun x w1 => ∃ k : Nat, x = .int .i64 k ∧ k ≤ s.size ∧ (∀ i, i < k → plainN (bt s i) = true) ∧ w = w1) (fun x _ => s.size - iv x) ⟨0, rfl, by omega, fun i h => by omega, rfl⟩ ?_
  rintro _ _ ⟨k, rfl, hk, hall, rfl⟩ C hC
  unfold ref03_IsTerm.b7
  simp [go_sem]
  refine SPL_intro (fun h => ?_) (fun h => ?_) <;> simp at h
  · have step : ∀ b, b = !(plainN (bt s k)) → ref03_IsTerm.b12 R C (.int .i64 k) (.bool b) w := by
      intro b hb
      unfold ref03_IsTerm.b12
      cases b with
      | true =>
        simp [go_sem]
        exact no (fun hn => by have := hn.2.2 k h; rw [this] at hb; cases hb) _ rfl
      | false =>
        simp [go_sem]
        unfold ref03_IsTerm.b9
        simp [go_sem, wrap_succ h hs]
        refine hC _ _ ⟨k + 1, by simp, by omega, fun i hik => ?_, rfl⟩ (by simp [iv]; omega)
        by_cases he : i = k
        · rw [he]; simpa using hb
        · exact hall i (by omega)
    unfold ref03_IsTerm.b11
    simp [go_sem, index_bt, h]
    refine SPL_intro (fun h1 => ?_) (fun h1 => ?_) <;> simp at h1
    · exact step _ (by simp [plainN]; omega)
    simp [go_sem, index_bt, h]
    refine SPL_intro (fun h2 => ?_) (fun h2 => ?_) <;> simp at h2
    · exact step _ (by simp [plainN]; omega)
    simp [go_sem, index_bt, h]
    exact step _ (by rw [Bool.eq_iff_iff]; simp [plainN]; omega)
  · unfold ref03_IsTerm.b3
    have fin : ∀ b, b = termB s → R (.returned (.bool b)) w := fun b hb => hR _ _ ⟨by rw [hb], rfl⟩
    simp [go_sem]
    refine SPL_intro (fun h1 => ?_) (fun h1 => ?_) <;> simp at h1
    · simp [go_sem]
      refine fin _ ?_
      rw [Bool.eq_iff_iff, termB_iff]
      simp
      constructor
      · intro h2; exact ⟨by omega, by omega, fun i hi => hall i (by omega)⟩
      · intro h2; have := h2.2.1; omega
    · exact no (fun hn => by have := hn.1; omega) _ rfl
end Go.Proofs.YtgjifldciinehaaDoor
