/-
  Names and terminals' texts, and what they are to the words.
-/
import Derived.Test.YtmhebgebfjnfjaaScSpec2
namespace Go.Px.Scan
open Go.Px

theorem run_mem (p : Nat → Bool) (s : ByteArray) : ∀ (n i j : Nat), i ≤ j → j < runS p s i n → p (bt s j) = true ∧ j < s.size
  | 0, i, j, h1, h2 => by unfold runS at h2; omega
  | n + 1, i, j, h1, h2 => by
    unfold runS at h2
    split at h2
    · rename_i h
      simp at h
      by_cases hj : j = i
      · subst hj; exact ⟨h.2, h.1⟩
      · exact run_mem p s n (i + 1) j (by omega) h2
    · omega
theorem run_full (p : Nat → Bool) (s : ByteArray) : ∀ (n i : Nat), (∀ j, i ≤ j → j < s.size → p (bt s j) = true) → s.size ≤ i + n → i ≤ s.size → runS p s i n = s.size
  | 0, i, _, h2, h3 => by unfold runS; omega
  | n + 1, i, h1, h2, h3 => by
    unfold runS
    by_cases hi : i < s.size
    · rw [if_pos (by simp [hi, h1 i (Nat.le_refl _) hi])]
      exact run_full p s n (i + 1) (fun j hj => h1 j (by omega)) (by omega) hi
    · rw [if_neg (by simp [hi])]; omega

def NameP (s : ByteArray) : Prop := 0 < s.size ∧ s.size ≤ 16 ∧ (letterN (bt s 0) || decide (bt s 0 = 95)) = true ∧ ∀ i, i < s.size → innerN (bt s i) = true
def TermP (s : ByteArray) : Prop := 0 < s.size ∧ s.size ≤ 16 ∧ ∀ i, i < s.size → plainN (bt s i) = true

theorem inner_plain {c : Nat} (h : innerN c = true) : plainN c = true := by
  simp [innerN, letterN, plainN] at *; omega
theorem NameP.term {s : ByteArray} (h : NameP s) : TermP s := ⟨h.1, h.2.1, fun i hi => inner_plain (h.2.2.2 i hi)⟩
theorem term_run {s : ByteArray} : TermP s ↔ (0 < s.size ∧ s.size ≤ 16 ∧ runS plainN s 0 16 = s.size) := by
  constructor
  · rintro ⟨h1, h2, h3⟩
    exact ⟨h1, h2, run_full _ _ _ _ (fun j _ hj => h3 j hj) (by omega) (by omega)⟩
  · rintro ⟨h1, h2, h3⟩
    exact ⟨h1, h2, fun i hi => (run_mem plainN s 16 0 i (Nat.zero_le _) (by omega)).1⟩

theorem bs_ext {a b : ByteArray} (h : a.data.toList = b.data.toList) : a = b := by
  cases a; cases b; simp at h; cases h; rfl
theorem extract_all (s : ByteArray) : s.extract 0 s.size = s := by
  apply bs_ext
  have := Lib.extract_toList s 0 s.size
  rw [ByteArray.toList_eq] at this
  rw [this]; simp; exact List.take_of_length_le (by simp)
theorem extract_size {s : ByteArray} {a e : Nat} (hae : a ≤ e) (he : e ≤ s.size) : (s.extract a e).size = e - a := by
  simp; omega

theorem name_one {s : ByteArray} (h : NameP s) : skipS s false 0 = 0 ∧ oneS s 0 = .word 1 0 s.size s.size := by
  obtain ⟨h1, h2, h3, h4⟩ := h
  have hb : blankN (bt s 0) = false ∧ bt s 0 ≠ 35 ∧ signN (bt s 0) = false ∧ bt s 0 ≠ 37 ∧ bt s 0 ≠ 39 := by
    simp [letterN, blankN, signN] at *; omega
  refine ⟨skip_none h1 hb.1 hb.2.1, ?_⟩
  have hr : runS innerN s 0 16 = s.size := run_full _ _ _ _ (fun j _ hj => h4 j hj) (by omega) (by omega)
  unfold oneS
  rw [if_neg (by simp [hb.2.2.1]), if_neg hb.2.2.2.1, if_neg hb.2.2.2.2, if_pos h3, hr, if_neg (by omega)]

/-- Of a text that is a name. -/
theorem name_all {s : ByteArray} (h : NameP s) : allS s 0 = ([(1, s, 0)], none) := by
  have h0 := name_one h
  have h1 := h.1
  rw [all_word (by rw [h0.1]; exact h1) (by rw [h0.1]; exact h0.2), all_end (by rw [skip_end (Nat.le_refl _)]; omega), h0.1, extract_all]
  rfl

/-- Of a text whose first word is a name that is all of it. -/
theorem name_of {t s : ByteArray} (ht : t.size ≤ s.size) {x : Wd} {l : List Wd} (h : (allS t 0).1 = x :: l) (h1 : x.1 = 1) (h2 : x.2.1 = s) : t.size = s.size ∧ NameP t := by
  by_cases hk : skipS t false 0 < t.size
  · cases ho : oneS t (skipS t false 0) with
    | bad k => rw [all_bad hk ho] at h; simp at h
    | word kd a e n =>
      rw [all_word hk ho] at h
      simp at h
      obtain ⟨rfl, _⟩ := h
      simp at h1 h2
      have hw := one_word hk ho
      unfold oneS at ho
      split at ho
      · cases ho; omega
      split at ho
      · split at ho <;> cases ho; omega
      split at ho
      · split at ho <;> cases ho; omega
      split at ho
      · rename_i hl
        split at ho
        · cases ho
        · injection ho with _ e1 e2 e3
          have hsz := congrArg ByteArray.size h2
          rw [extract_size (by omega) (by omega)] at hsz
          have h0 : skipS t false 0 = 0 := by omega
          rw [h0] at e2 hl
          have hm := run_most innerN t 16 0
          refine ⟨by omega, by omega, by omega, hl, fun i hi => (run_mem innerN t 16 0 i (Nat.zero_le _) (by omega)).1⟩
      · cases ho
  · rw [all_end hk] at h; simp at h

theorem name_words {s : ByteArray} : NameP s ↔ wordsS s = ([(1, s, 0)], none) := by
  constructor
  · intro h
    unfold wordsS
    rw [if_neg (by have := h.2.1; omega), name_all h]
  · intro h
    unfold wordsS at h
    split at h
    · simp at h
    · exact (name_of (t := s) (s := s) (x := (1, s, 0)) (l := []) (Nat.le_refl _) (by rw [h]) rfl rfl).2

/-! ### A text in quotes -/
def quo (s : ByteArray) : ByteArray := (⟨#[39]⟩ ++ s) ++ ⟨#[39]⟩
theorem quo_list (s : ByteArray) : (quo s).data.toList = 39 :: (s.data.toList ++ [39]) := by simp [quo]
theorem quo_size (s : ByteArray) : (quo s).size = s.size + 2 := by
  have : (quo s).data.toList.length = s.size + 2 := by rw [quo_list]; simp
  simpa using this
theorem quo_0 (s : ByteArray) : bt (quo s) 0 = 39 := by rw [bt_list, quo_list]; rfl
theorem quo_in {s : ByteArray} {i : Nat} (h : i < s.size) : bt (quo s) (i + 1) = bt s i := by
  rw [bt_list, bt_list, quo_list]
  simp only [List.getD_eq_getElem?_getD, List.getElem?_cons_succ]
  rw [List.getElem?_append_left (by simpa using h)]
theorem quo_end (s : ByteArray) : bt (quo s) (s.size + 1) = 39 := by
  rw [bt_list, quo_list]
  simp only [List.getD_eq_getElem?_getD, List.getElem?_cons_succ]
  rw [List.getElem?_append_right (by simp)]
  simp
theorem quo_run (s : ByteArray) : ∀ (n i : Nat), i ≤ s.size → runS plainN (quo s) (i + 1) n = runS plainN s i n + 1
  | 0, i, _ => rfl
  | n + 1, i, h => by
    unfold runS
    by_cases hi : i < s.size
    · rw [quo_in hi]
      by_cases hp : plainN (bt s i) = true
      · rw [if_pos (by simp [hp, quo_size]; omega), if_pos (by simp [hp, hi])]
        exact quo_run s n (i + 1) hi
      · rw [if_neg (by simp [hp]), if_neg (by simp [hp])]
    · have : i = s.size := by omega
      subst this
      rw [quo_end, if_neg (by simp [plainN]), if_neg (by simp)]
theorem quo_extract (s : ByteArray) : (quo s).extract 1 (s.size + 1) = s := by
  apply bs_ext
  have := Lib.extract_toList (quo s) 1 (s.size + 1)
  rw [ByteArray.toList_eq, quo_list] at this
  rw [this]; simp
theorem quo_skip (s : ByteArray) : skipS (quo s) false 0 = 0 := skip_none (by rw [quo_size]; omega) (by rw [quo_0]; rfl) (by rw [quo_0]; omega)
theorem quo_one (s : ByteArray) : oneS (quo s) 0 = if 1 < runS plainN s 0 16 + 1 ∧ runS plainN s 0 16 + 1 < s.size + 2 ∧ bt (quo s) (runS plainN s 0 16 + 1) = 39 then .word 2 1 (runS plainN s 0 16 + 1) (runS plainN s 0 16 + 1 + 1) else .bad (runS plainN s 0 16 + 1) := by
  unfold oneS
  rw [quo_0, if_neg (by decide), if_neg (by decide), if_pos rfl, quo_run s 16 0 (Nat.zero_le _), quo_size]
theorem quo_words {s : ByteArray} : TermP s ↔ wordsS (quo s) = ([(2, s, 0)], none) := by
  have hs := quo_size s
  have hk : skipS (quo s) false 0 < (quo s).size := by rw [quo_skip]; omega
  rw [term_run]
  constructor
  · rintro ⟨h1, h2, h3⟩
    unfold wordsS
    rw [if_neg (by omega)]
    have ho : oneS (quo s) (skipS (quo s) false 0) = .word 2 1 (s.size + 1) (s.size + 1 + 1) := by
      rw [quo_skip, quo_one, h3, if_pos ⟨by omega, by omega, quo_end s⟩]
    rw [all_word hk ho, all_end (by rw [skip_end (by omega)]; omega), quo_skip, quo_extract]
    rfl
  · intro h
    unfold wordsS at h
    split at h
    · simp at h
    · have hr := run_le plainN s 16 0 (Nat.zero_le _)
      have hm := run_most plainN s 16 0
      by_cases hc : 1 < runS plainN s 0 16 + 1 ∧ runS plainN s 0 16 + 1 < s.size + 2 ∧ bt (quo s) (runS plainN s 0 16 + 1) = 39
      · have ho : oneS (quo s) (skipS (quo s) false 0) = .word 2 1 (runS plainN s 0 16 + 1) (runS plainN s 0 16 + 1 + 1) := by
          rw [quo_skip, quo_one, if_pos hc]
        rw [all_word hk ho] at h
        simp only [Prod.mk.injEq, List.cons.injEq] at h
        have hsz := congrArg ByteArray.size h.1.1.2.1
        rw [extract_size (by omega) (by omega)] at hsz
        omega
      · have ho : oneS (quo s) (skipS (quo s) false 0) = .bad (runS plainN s 0 16 + 1) := by
          rw [quo_skip, quo_one, if_neg hc]
        rw [all_bad hk ho] at h
        simp at h
end Go.Px.Scan
