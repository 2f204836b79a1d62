/-
  Words and bad places of texts that begin alike.
-/
import Derived.Test.YtgjifldciinehaaDoorScSpec4
namespace Go.Px.Scan
open Go.Px

theorem letter_of_inner {c : Nat} (h : innerN c = false) : letterN c = false := by
  simp [innerN] at h; exact h.1

theorem word_loc {s t : ByteArray} {j kd a b n : Nat} (hj : j < s.size) (h : oneS s j = .word kd a b n) (hA : ∀ i, j ≤ i → i < n → bt t i = bt s i) (hn : n ≤ t.size)
    (hE : n < t.size → (n < s.size ∧ bt t n = bt s n) ∨ innerN (bt t n) = false) : oneS t j = .word kd a b n := by
  have hw := one_word hj h
  have h0 := hA j (Nat.le_refl _) hw.1
  unfold oneS at h ⊢
  rw [h0]
  split at h
  · rename_i h1; rw [if_pos h1]; exact h
  rename_i h1; rw [if_neg h1]
  split at h
  · rename_i h2; rw [if_pos h2]
    split at h
    · rename_i h3
      injection h with e1 e2 e3 e4
      simp only [Bool.and_eq_true] at h3
      have ho : ordS t j (j + 1) = ordS s j (j + 1) := by
        refine ord_loc j (j + 1) hj ?_ (by rw [e3, ]; omega) (by omega) ?_ ?_
        · intro i hi hi'; exact hA i hi (by omega)
        · intro hlt
          rw [e4] at hlt ⊢
          rcases hE hlt with h4 | h4
          · exact Or.inl h4
          · exact Or.inr ⟨letter_of_inner h4, h3.1⟩
        · intro hf; rw [h3.1] at hf; cases hf
      rw [ho, extract_loc (s := s) (by omega) (by omega) (fun i hi hi' => hA i hi (by omega)), if_pos (by simp [h3]), e3, e1, e2]
      congr 1; omega
    · cases h
  rename_i h2; rw [if_neg h2]
  split at h
  · rename_i h3; rw [if_pos h3]
    split at h
    · rename_i h4
      injection h with e1 e2 e3 e4
      have hr : runS plainN t (j + 1) 16 = runS plainN s (j + 1) 16 := by
        refine run_loc plainN 16 (j + 1) (fun i hi hi' => hA i (by omega) (by omega)) (by omega) (fun _ => Or.inl ⟨h4.2.1, hA _ (by omega) (by omega)⟩)
      rw [hr, if_pos ⟨h4.1, by omega, by rw [hA _ (by omega) (by omega)]; exact h4.2.2⟩]
      rw [← e1, ← e2, ← e3, ← e4]
    · cases h
  rename_i h3; rw [if_neg h3]
  split at h
  · rename_i h4; rw [if_pos h4]
    split at h
    · cases h
    · rename_i h5
      injection h with e1 e2 e3 e4
      have hr : runS innerN t j 16 = runS innerN s j 16 := by
        refine run_loc innerN 16 j (fun i hi hi' => hA i (by omega) (by omega)) (by omega) (fun hlt => ?_)
        rw [e4] at hlt ⊢
        rcases hE hlt with h6 | h6
        · exact Or.inl h6
        · exact Or.inr (Or.inl h6)
      rw [hr, if_neg]
      · rw [← e1, ← e2, ← e3, ← e4]
      rintro ⟨h6, h7⟩
      rw [e4] at h6 h7
      rcases hE h6 with h8 | h8
      · exact h5 (by rw [e4]; exact ⟨h8.1, by rw [← h8.2]; exact h7⟩)
      · rw [h8] at h7; cases h7
  · cases h

theorem bad_loc {s t : ByteArray} {j k : Nat} (hj : j < s.size) (h : oneS s j = .bad k) (hk : k < s.size) (hkt : k < t.size) (hA : ∀ i, j ≤ i → i ≤ k → bt t i = bt s i) : oneS t j = .bad k := by
  have hb := one_bad hj h
  have h0 := hA j (Nat.le_refl _) hb.1
  unfold oneS at h ⊢
  rw [h0]
  split at h
  · cases h
  rename_i h1; rw [if_neg h1]
  split at h
  · rename_i h2; rw [if_pos h2]
    split at h
    · cases h
    · rename_i h3
      injection h with e1
      have ho : ordS t j (j + 1) = ordS s j (j + 1) :=
        ord_loc j (j + 1) hj (fun i hi hi' => hA i hi (by omega)) (by omega) (by omega) (fun _ => Or.inl ⟨by omega, hA _ (by omega) (by omega)⟩) (fun _ => by omega)
      rw [ho, extract_loc (s := s) (by omega) (by omega) (fun i hi hi' => hA i hi (by omega)), if_neg h3, e1]
  rename_i h2; rw [if_neg h2]
  split at h
  · rename_i h3; rw [if_pos h3]
    split at h
    · cases h
    · rename_i h4
      injection h with e1
      have hr : runS plainN t (j + 1) 16 = runS plainN s (j + 1) 16 :=
        run_loc plainN 16 (j + 1) (fun i hi hi' => hA i (by omega) (by omega)) (by omega) (fun _ => Or.inl ⟨by omega, hA _ (by have := run_ge plainN s 16 (j + 1); omega) (by omega)⟩)
      rw [hr, if_neg, e1]
      rintro ⟨h5, h6, h7⟩
      exact h4 ⟨h5, by omega, by rw [← hA _ (by omega) (by omega)]; exact h7⟩
  rename_i h3; rw [if_neg h3]
  split at h
  · rename_i h4; rw [if_pos h4]
    split at h
    · rename_i h5
      injection h with e1
      have hr : runS innerN t j 16 = runS innerN s j 16 :=
        run_loc innerN 16 j (fun i hi hi' => hA i (by omega) (by omega)) (by omega) (fun _ => Or.inl ⟨by omega, hA _ (by have := run_ge innerN s 16 j; omega) (by omega)⟩)
      rw [hr, if_pos ⟨by omega, by rw [hA _ (by have := run_ge innerN s 16 j; omega) (by omega)]; exact h5.2⟩, e1]
    · cases h
  · rename_i h4; rw [if_neg h4]; exact h

theorem ord_cut {s t : ByteArray} (a k : Nat) : k ≤ t.size → t.size ≤ (ordS s a k).1 → a ≤ k → (∀ j, j < t.size → bt t j = bt s j) → ordS t a k = (t.size, true) := by
  induction k using ordS.induct s a with
  | case1 k h h1 ih =>
    intro hk hle hak ha
    have e : ordS s a k = ordS s a (k + 1) := by conv => lhs; unfold ordS; rw [if_pos h, if_pos h1]
    rw [e] at hle
    by_cases hlt : k < t.size
    · conv => lhs; unfold ordS
      rw [if_pos ⟨hlt, by rw [ha k hlt]; exact h.2⟩, if_pos (by rw [extract_loc (s := s) (by omega) (by omega) (fun j hj hj' => ha j (by omega))]; exact h1)]
      exact ih (by omega) hle (by omega) ha
    · unfold ordS; rw [if_neg (by omega)]; congr 1; omega
  | case2 k h h1 =>
    intro hk hle hak ha
    have e : ordS s a k = (k, false) := by conv => lhs; unfold ordS; rw [if_pos h, if_neg h1]
    rw [e] at hle
    simp at hle
    unfold ordS; rw [if_neg (by omega)]; congr 1; omega
  | case3 k h =>
    intro hk hle hak ha
    have e : ordS s a k = (k, true) := by conv => lhs; unfold ordS; rw [if_neg h]
    rw [e] at hle
    simp at hle
    unfold ordS; rw [if_neg (by omega)]; congr 1; omega

theorem bad_head {s t : ByteArray} {j k : Nat} (hj : j < s.size) (h : oneS s j = .bad k) (hjk : j < k) (ht : t.size = k) (hA : ∀ i, i < k → bt t i = bt s i) : oneS t j = .bad k ∨ ∃ kd a b, oneS t j = .word kd a b k := by
  have hb := one_bad hj h
  have h0 := hA j hjk
  unfold oneS at h ⊢
  rw [h0]
  split at h
  · cases h
  rename_i h1; rw [if_neg h1]
  split at h
  · rename_i h2; rw [if_pos h2]
    split at h
    · cases h
    · rename_i h3
      injection h with e1
      have ho : ordS t j (j + 1) = (k, true) := by
        rw [← ht]
        exact ord_cut (s := s) j (j + 1) (by omega) (by omega) (by omega) (fun i hi => hA i (by omega))
      rw [ho]
      split
      · exact Or.inr ⟨_, _, _, rfl⟩
      · exact Or.inl rfl
  rename_i h2; rw [if_neg h2]
  split at h
  · rename_i h3; rw [if_pos h3]
    split at h
    · cases h
    · injection h with e1
      have hr : runS plainN t (j + 1) 16 = runS plainN s (j + 1) 16 :=
        run_loc plainN 16 (j + 1) (fun i hi hi' => hA i (by omega)) (by omega) (fun hlt => by omega)
      rw [hr, if_neg (by omega), e1]
      exact Or.inl rfl
  rename_i h3; rw [if_neg h3]
  split at h
  · rename_i h4; rw [if_pos h4]
    split at h
    · injection h with e1
      have hr : runS innerN t j 16 = runS innerN s j 16 :=
        run_loc innerN 16 j (fun i hi hi' => hA i (by omega)) (by omega) (fun hlt => by omega)
      rw [hr, if_neg (by omega), e1]
      exact Or.inr ⟨_, _, _, rfl⟩
    · cases h
  · injection h with e1; omega

theorem all_ge {s : ByteArray} (i : Nat) : ∀ k, (allS s i).2 = some k → i ≤ k ∧ k ≤ s.size := by
  induction i using allS.induct s with
  | case1 i h k0 h1 =>
    intro k hk
    rw [all_bad h h1] at hk
    simp at hk
    have := one_bad h h1
    have := skip_ge s false i
    omega
  | case2 i h kd a b n h1 ih =>
    intro k hk
    rw [all_word h h1] at hk
    have := ih k hk
    have := one_word h h1
    have := skip_ge s false i
    omega
  | case3 i h => intro k hk; rw [all_end h] at hk; cases hk

theorem all_bad_loc {s t : ByteArray} (i : Nat) : ∀ k, (allS s i).2 = some k → k < s.size → k < t.size → (∀ j, j ≤ k → bt t j = bt s j) → (allS t i).2 = some k := by
  induction i using allS.induct s with
  | case1 i h k0 h1 =>
    intro k hk hks hkt hA
    rw [all_bad h h1] at hk
    simp at hk
    subst hk
    have hb := one_bad h h1
    have hsk := skip_loc (t := t) false i (fun j _ hj => hA j (by omega)) h (by omega)
    rw [all_bad (by rw [hsk]; omega) (by rw [hsk]; exact bad_loc h h1 hks hkt (fun j _ hj => hA j hj))]
  | case2 i h kd a b n h1 ih =>
    intro k hk hks hkt hA
    rw [all_word h h1] at hk
    have hg := all_ge n k hk
    have hw := one_word h h1
    have hsk := skip_loc (t := t) false i (fun j _ hj => hA j (by omega)) h (by omega)
    rw [all_word (by rw [hsk]; omega) (by rw [hsk]; exact word_loc h h1 (fun j _ hj => hA j (by omega)) (by omega) (fun _ => Or.inl ⟨by omega, hA n (by omega)⟩))]
    exact ih k hk hks hkt hA
  | case3 i h => intro k hk; rw [all_end h] at hk; cases hk

theorem all_head {s t : ByteArray} (i : Nat) : ∀ k, (allS s i).2 = some k → t.size = k → i ≤ k → (∀ j, j < k → bt t j = bt s j) → (allS t i).2 = none ∨ (allS t i).2 = some k := by
  induction i using allS.induct s with
  | case1 i h k0 h1 =>
    intro k hk ht hik hA
    rw [all_bad h h1] at hk
    simp at hk
    subst hk
    have hb := one_bad h h1
    by_cases hlt : skipS s false i < k0
    · have hsk := skip_loc (t := t) false i (fun j _ hj => hA j (by omega)) h (by omega)
      rcases bad_head h h1 hlt ht hA with h2 | ⟨kd, a, b, h2⟩
      · rw [all_bad (by rw [hsk]; omega) (by rw [hsk]; exact h2)]; exact Or.inr rfl
      · rw [all_word (by rw [hsk]; omega) (by rw [hsk]; exact h2), all_end (by rw [skip_end (by omega)]; omega)]; exact Or.inl rfl
    · rw [all_end (by rw [skip_cut (s := s) false i (by omega) (by omega) (fun j hj => hA j (by omega))]; omega)]; exact Or.inl rfl
  | case2 i h kd a b n h1 ih =>
    intro k hk ht hik hA
    rw [all_word h h1] at hk
    have hg := all_ge n k hk
    have hw := one_word h h1
    have hsk := skip_loc (t := t) false i (fun j _ hj => hA j (by omega)) h (by omega)
    rw [all_word (by rw [hsk]; omega) (by rw [hsk]; exact word_loc h h1 (fun j _ hj => hA j (by omega)) (by omega) (fun hlt => Or.inl ⟨by omega, hA n (by omega)⟩))]
    exact ih k hk ht hg.1 hA
  | case3 i h => intro k hk; rw [all_end h] at hk; cases hk

theorem all_app {s t : ByteArray} (ht : t.size = s.size + 2) (hA : ∀ j, j < s.size → bt t j = bt s j) (h32 : bt t s.size = 32) (h10 : bt t (s.size + 1) = 10) (i : Nat) :
    i ≤ s.size → (allS s i).2 = none → (allS t i).2 = none ∧ (allS t i).1.length = (allS s i).1.length := by
  induction i using allS.induct s with
  | case1 i h k0 h1 => intro _ hk; rw [all_bad h h1] at hk; cases hk
  | case2 i h kd a b n h1 ih =>
    intro hi hk
    rw [all_word h h1] at hk
    have hw := one_word h h1
    have hsk := skip_loc (t := t) false i (fun j _ hj => hA j (by omega)) h (by omega)
    rw [all_word h h1, all_word (by rw [hsk]; omega) (by
      rw [hsk]
      refine word_loc h h1 (fun j _ hj => hA j (by omega)) (by omega) (fun hlt => ?_)
      by_cases hn : n < s.size
      · exact Or.inl ⟨hn, hA n hn⟩
      · have : n = s.size := by omega
        rw [this, h32]; exact Or.inr rfl)]
    have := ih hw.2.1 hk
    exact ⟨this.1, by simp [this.2]⟩
  | case3 i h =>
    intro hi _
    obtain ⟨cm, hc⟩ := skip_over (t := t) false i hi (by omega) (by omega) hA
    have e : skipS t cm s.size = t.size := by
      unfold skipS
      rw [if_pos (by omega), h32]
      cases cm with
      | true =>
        rw [if_pos rfl]
        unfold skipS
        rw [if_pos (by omega), h10]
        simp
        rw [skip_end (by omega)]; omega
      | false =>
        simp [blankN]
        unfold skipS
        rw [if_pos (by omega), h10]
        simp [blankN]
        rw [skip_end (by omega)]; omega
    rw [all_end h, all_end (by rw [hc, e]; omega)]
    exact ⟨rfl, rfl⟩

theorem all_some {s : ByteArray} (h : 0 < s.size) (h1 : 32 < bt s 0) (h2 : bt s 0 ≠ 35) (h3 : (allS s 0).2 = none) : (allS s 0).1 ≠ [] := by
  have hk : skipS s false 0 = 0 := skip_none h (by simp [blankN]; omega) h2
  cases ho : oneS s (skipS s false 0) with
  | bad k => rw [all_bad (by omega) ho] at h3; cases h3
  | word kd a b n => rw [all_word (by omega) ho]; simp
end Go.Px.Scan
