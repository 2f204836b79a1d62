/-
  What a bad place hangs on.
-/
import Derived.Test.YtgjifldciinehaaDoorScSpec3
namespace Go.Px.Scan
open Go.Px

theorem skip_loc {s t : ByteArray} (cm : Bool) (i : Nat) : (∀ j, i ≤ j → j ≤ skipS s cm i → bt t j = bt s j) → skipS s cm i < s.size → skipS s cm i < t.size → skipS t cm i = skipS s cm i := by
  induction cm, i using skipS.induct s with
  | case1 i h ih =>
    intro ha h1 h2
    have e : skipS s true i = skipS s (decide (bt s i ≠ 10)) (i + 1) := by conv => lhs; unfold skipS; rw [if_pos h, if_pos rfl]
    rw [e] at ha h1 h2 ⊢
    have hg := skip_ge s (decide (bt s i ≠ 10)) (i + 1)
    conv => lhs; unfold skipS
    rw [if_pos (by omega), if_pos rfl, ha i (by omega) (by omega)]
    exact ih (fun j hj => ha j (by omega)) h1 h2
  | case2 cm i h hc h1 ih =>
    intro ha h3 h2
    have e : skipS s cm i = skipS s true (i + 1) := by conv => lhs; unfold skipS; rw [if_pos h, if_neg hc, if_pos h1]
    rw [e] at ha h3 h2 ⊢
    have hg := skip_ge s true (i + 1)
    conv => lhs; unfold skipS
    rw [if_pos (by omega), if_neg hc, if_pos (by rw [ha i (by omega) (by omega)]; exact h1)]
    exact ih (fun j hj => ha j (by omega)) h3 h2
  | case3 cm i h hc h1 hb ih =>
    intro ha h3 h2
    have e : skipS s cm i = skipS s false (i + 1) := by conv => lhs; unfold skipS; rw [if_pos h, if_neg hc, if_neg h1, if_pos hb]
    rw [e] at ha h3 h2 ⊢
    have hg := skip_ge s false (i + 1)
    conv => lhs; unfold skipS
    rw [if_pos (by omega), if_neg hc, if_neg (by rw [ha i (by omega) (by omega)]; exact h1), if_pos (by rw [ha i (by omega) (by omega)]; exact hb)]
    exact ih (fun j hj => ha j (by omega)) h3 h2
  | case4 cm i h hc h1 hb =>
    intro ha h3 h2
    have e : skipS s cm i = i := by unfold skipS; rw [if_pos h, if_neg hc, if_neg h1, if_neg hb]
    rw [e] at ha h3 h2 ⊢
    unfold skipS
    rw [if_pos (by omega), if_neg hc, if_neg (by rw [ha i (by omega) (by omega)]; exact h1), if_neg (by rw [ha i (by omega) (by omega)]; exact hb)]
  | case5 cm i h =>
    intro ha h3 h2
    have := skip_ge s cm i
    omega

/-- A text that ends where skipping hasn't ended. -/
theorem skip_cut {s t : ByteArray} (cm : Bool) (i : Nat) : i ≤ t.size → t.size ≤ skipS s cm i → (∀ j, j < t.size → bt t j = bt s j) → skipS t cm i = t.size := by
  induction cm, i using skipS.induct s with
  | case1 i h ih =>
    intro hi h1 ha
    have e : skipS s true i = skipS s (decide (bt s i ≠ 10)) (i + 1) := by conv => lhs; unfold skipS; rw [if_pos h, if_pos rfl]
    rw [e] at h1
    by_cases hi' : i < t.size
    · conv => lhs; unfold skipS
      rw [if_pos hi', if_pos rfl, ha i hi']
      exact ih hi' h1 ha
    · rw [skip_end (by omega)]; omega
  | case2 cm i h hc h0 ih =>
    intro hi h1 ha
    have e : skipS s cm i = skipS s true (i + 1) := by conv => lhs; unfold skipS; rw [if_pos h, if_neg hc, if_pos h0]
    rw [e] at h1
    by_cases hi' : i < t.size
    · conv => lhs; unfold skipS
      rw [if_pos hi', if_neg hc, if_pos (by rw [ha i hi']; exact h0)]
      exact ih hi' h1 ha
    · rw [skip_end (by omega)]; omega
  | case3 cm i h hc h0 hb ih =>
    intro hi h1 ha
    have e : skipS s cm i = skipS s false (i + 1) := by conv => lhs; unfold skipS; rw [if_pos h, if_neg hc, if_neg h0, if_pos hb]
    rw [e] at h1
    by_cases hi' : i < t.size
    · conv => lhs; unfold skipS
      rw [if_pos hi', if_neg hc, if_neg (by rw [ha i hi']; exact h0), if_pos (by rw [ha i hi']; exact hb)]
      exact ih hi' h1 ha
    · rw [skip_end (by omega)]; omega
  | case4 cm i h hc h0 hb =>
    intro hi h1 ha
    have e : skipS s cm i = i := by unfold skipS; rw [if_pos h, if_neg hc, if_neg h0, if_neg hb]
    rw [e] at h1
    rw [skip_end h1]; omega
  | case5 cm i h =>
    intro hi h1 ha
    have e : skipS s cm i = i := by unfold skipS; rw [if_neg h]
    rw [e] at h1
    rw [skip_end h1]; omega

/-- Where skipping has come to the text's end, it goes on behind it. -/
theorem skip_over {s t : ByteArray} (cm : Bool) (i : Nat) : i ≤ s.size → s.size ≤ skipS s cm i → s.size ≤ t.size → (∀ j, j < s.size → bt t j = bt s j) → ∃ cm', skipS t cm i = skipS t cm' s.size := by
  induction cm, i using skipS.induct s with
  | case1 i h ih =>
    intro hi h1 hst ha
    have e : skipS s true i = skipS s (decide (bt s i ≠ 10)) (i + 1) := by conv => lhs; unfold skipS; rw [if_pos h, if_pos rfl]
    rw [e] at h1
    obtain ⟨c, hc⟩ := ih h h1 hst ha
    refine ⟨c, ?_⟩
    rw [← hc]
    conv => lhs; unfold skipS
    rw [if_pos (by omega), if_pos rfl, ha i h]
  | case2 cm i h hc h0 ih =>
    intro hi h1 hst ha
    have e : skipS s cm i = skipS s true (i + 1) := by conv => lhs; unfold skipS; rw [if_pos h, if_neg hc, if_pos h0]
    rw [e] at h1
    obtain ⟨c, hc'⟩ := ih h h1 hst ha
    refine ⟨c, ?_⟩
    rw [← hc']
    conv => lhs; unfold skipS
    rw [if_pos (by omega), if_neg hc, if_pos (by rw [ha i h]; exact h0)]
  | case3 cm i h hc h0 hb ih =>
    intro hi h1 hst ha
    have e : skipS s cm i = skipS s false (i + 1) := by conv => lhs; unfold skipS; rw [if_pos h, if_neg hc, if_neg h0, if_pos hb]
    rw [e] at h1
    obtain ⟨c, hc'⟩ := ih h h1 hst ha
    refine ⟨c, ?_⟩
    rw [← hc']
    conv => lhs; unfold skipS
    rw [if_pos (by omega), if_neg hc, if_neg (by rw [ha i h]; exact h0), if_pos (by rw [ha i h]; exact hb)]
  | case4 cm i h hc h0 hb =>
    intro hi h1 hst ha
    have e : skipS s cm i = i := by unfold skipS; rw [if_pos h, if_neg hc, if_neg h0, if_neg hb]
    omega
  | case5 cm i h =>
    intro hi h1 hst ha
    have : i = s.size := by omega
    exact ⟨cm, by rw [this]⟩

theorem run_loc (p : Nat → Bool) {s t : ByteArray} : ∀ (n i : Nat), (∀ j, i ≤ j → j < runS p s i n → bt t j = bt s j) → runS p s i n ≤ t.size →
    (runS p s i n < t.size → (runS p s i n < s.size ∧ bt t (runS p s i n) = bt s (runS p s i n)) ∨ p (bt t (runS p s i n)) = false ∨ runS p s i n = i + n) → runS p t i n = runS p s i n
  | 0, i, _, _, _ => rfl
  | n + 1, i, ha, h1, h2 => by
    by_cases hc : (i < s.size && p (bt s i)) = true
    · have e : runS p s i (n + 1) = runS p s (i + 1) n := by conv => lhs; unfold runS; rw [if_pos hc]
      rw [e] at ha h1 h2 ⊢
      have hg := run_ge p s n (i + 1)
      have hti := ha i (by omega) (by omega)
      conv => lhs; unfold runS
      simp at hc
      rw [if_pos (by simp [hti, hc.2]; omega)]
      exact run_loc p n (i + 1) (fun j hj => ha j (by omega)) h1 (fun h => by
        rcases h2 h with h3 | h3 | h3
        · exact Or.inl h3
        · exact Or.inr (Or.inl h3)
        · exact Or.inr (Or.inr (by omega)))
    · have e : runS p s i (n + 1) = i := by conv => lhs; unfold runS; rw [if_neg hc]
      rw [e] at ha h1 h2 ⊢
      unfold runS
      rw [if_neg]
      intro hn
      simp at hn hc
      rcases h2 hn.1 with h3 | h3 | h3
      · rw [h3.2] at hn; exact absurd hn.2 (by simp [hc h3.1])
      · rw [h3] at hn; simp at hn
      · omega

theorem extract_loc {s t : ByteArray} {a e : Nat} (hs : e ≤ s.size) (ht : e ≤ t.size) (h : ∀ j, a ≤ j → j < e → bt t j = bt s j) : t.extract a e = s.extract a e := by
  apply bs_ext
  have h1 := Lib.extract_toList t a e
  have h2 := Lib.extract_toList s a e
  rw [ByteArray.toList_eq] at h1 h2
  rw [h1, h2]
  apply List.ext_getElem?
  intro i
  simp only [List.getElem?_take, List.getElem?_drop]
  split
  · rename_i hi
    have hj := h (a + i) (by omega) (by omega)
    obtain ⟨c, hc, ec⟩ := list_bt (s := s) (i := a + i) (by omega)
    obtain ⟨d, hd, ed⟩ := list_bt (s := t) (i := a + i) (by omega)
    rw [hc, hd]
    congr 1
    apply UInt8.toNat_inj.1
    omega
  · rfl

theorem ord_loc {s t : ByteArray} (a k : Nat) : k ≤ s.size → (∀ j, a ≤ j → j < (ordS s a k).1 → bt t j = bt s j) → (ordS s a k).1 ≤ t.size → a ≤ k →
    ((ordS s a k).1 < t.size → ((ordS s a k).1 < s.size ∧ bt t (ordS s a k).1 = bt s (ordS s a k).1) ∨ (letterN (bt t (ordS s a k).1) = false ∧ (ordS s a k).2 = true)) → ((ordS s a k).2 = false → (ordS s a k).1 < t.size) → ordS t a k = ordS s a k := by
  induction k using ordS.induct s a with
  | case1 k h h1 ih =>
    intro hk ha hle hak h2 h3
    have e : ordS s a k = ordS s a (k + 1) := by conv => lhs; unfold ordS; rw [if_pos h, if_pos h1]
    rw [e] at ha hle h2 h3 ⊢
    have hg := ord_ge s a (k + 1)
    conv => lhs; unfold ordS
    rw [if_pos ⟨by omega, by rw [ha k hak (by omega)]; exact h.2⟩, if_pos (by rw [extract_loc (s := s) (by omega) (by omega) (fun j hj hj' => ha j hj (by omega))]; exact h1)]
    exact ih (by omega) ha hle (by omega) h2 h3
  | case2 k h h1 =>
    intro hk ha hle hak h2 h3
    have e : ordS s a k = (k, false) := by conv => lhs; unfold ordS; rw [if_pos h, if_neg h1]
    rw [e] at ha hle h2 h3 ⊢
    have hlt := h3 rfl
    have hb : bt t k = bt s k := by
      rcases h2 hlt with h4 | h4
      · exact h4.2
      · cases h4.2
    unfold ordS
    rw [if_pos ⟨hlt, by rw [hb]; exact h.2⟩, if_neg]
    rw [extract_loc (s := s) (by omega) (by simp at hlt; omega) (fun j hj hj' => by
      by_cases hjk : j < k
      · exact ha j hj hjk
      · have : j = k := by omega
        rw [this, hb])]
    exact h1
  | case3 k h =>
    intro hk ha hle hak h2 h3
    have e : ordS s a k = (k, true) := by conv => lhs; unfold ordS; rw [if_neg h]
    rw [e] at ha hle h2 h3 ⊢
    unfold ordS
    rw [if_neg]
    rintro ⟨h4, h5⟩
    rcases h2 h4 with h6 | h6
    · simp at h6 h5
      exact h ⟨h6.1, by rw [← h6.2]; exact h5⟩
    · rw [h6.1] at h5; cases h5
end Go.Px.Scan
