/-
  Skipping, by the places of newlines.
-/
import Derived.Test.YtmhebgebfjnfjaaScSpec
import Derived.Lib.IndexLaws
namespace Go.Px
theorem bt_list (s : ByteArray) (i : Nat) : bt s i = (s.data.toList.getD i 0).toNat := by
  unfold bt
  split
  · rename_i h
    have h' : i < s.data.toList.length := by simpa using h
    simp only [List.getD, List.getElem?_eq_getElem h', Option.getD_some]
    rfl
  · rename_i h
    have h' : ¬ i < s.data.toList.length := by simpa using h
    simp [List.getD, List.getElem?_eq_none (Nat.le_of_not_lt h')]

theorem list_bt {s : ByteArray} {i : Nat} (h : i < s.size) : ∃ c, s.data.toList[i]? = some c ∧ bt s i = c.toNat := by
  have h' : i < s.data.toList.length := by simpa using h
  refine ⟨s.data.toList[i], List.getElem?_eq_getElem h', ?_⟩
  rw [bt_list]; simp [List.getD, List.getElem?_eq_getElem h']

theorem rest_at {s : ByteArray} {k i : Nat} (hi : k + i < s.size) : ∃ c, (s.extract k s.size).data.toList[i]? = some c ∧ bt s (k + i) = c.toNat := by
  obtain ⟨c, h1, h2⟩ := list_bt hi
  refine ⟨c, ?_, h2⟩
  rw [Lib.extract_data, List.getElem?_take, if_pos (by omega), List.getElem?_drop]
  exact h1

theorem index_at {s : ByteArray} {k : Nat} {c : UInt8} (_hk : k ≤ s.size) :
    (Lib.indexByte (s.extract k s.size).data.toList c = -1 ∧ ∀ i, k ≤ i → i < s.size → bt s i ≠ c.toNat) ∨
    ∃ o : Nat, Lib.indexByte (s.extract k s.size).data.toList c = o ∧ k + o < s.size ∧ bt s (k + o) = c.toNat ∧ ∀ i, k ≤ i → i < k + o → bt s i ≠ c.toNat := by
  have hg := Lib.indexByte_ge (s.extract k s.size).data.toList c
  rcases Int.lt_or_le (Lib.indexByte (s.extract k s.size).data.toList c) 0 with h | h
  · have he : Lib.indexByte (s.extract k s.size).data.toList c = -1 := by omega
    refine Or.inl ⟨he, fun i hi hs e => ?_⟩
    obtain ⟨d, h1, h2⟩ := rest_at (s := s) (k := k) (i := i - k) (by omega)
    rw [show k + (i - k) = i by omega, e] at h2
    exact Lib.indexByte_none he (i - k) (by rw [h1, UInt8.toNat.inj h2])
  · obtain ⟨o, ho⟩ : ∃ o : Nat, Lib.indexByte (s.extract k s.size).data.toList c = o := ⟨_, (Int.toNat_of_nonneg h).symm⟩
    obtain ⟨h1, h2⟩ := Lib.indexByte_some ho
    have hlt : k + o < s.size := by
      have := (List.getElem?_eq_some_iff.1 h1).1
      rw [Lib.extract_data] at this
      simp at this
      omega
    refine Or.inr ⟨o, ho, hlt, ?_, fun i hi hio e => ?_⟩
    · obtain ⟨d, h3, h4⟩ := rest_at hlt
      rw [h1] at h3; cases h3; exact h4
    · obtain ⟨d, h3, h4⟩ := rest_at (s := s) (k := k) (i := i - k) (by omega)
      rw [show k + (i - k) = i by omega, e] at h4
      exact h2 (i - k) (by omega) (by rw [h3, UInt8.toNat.inj h4])
end Go.Px

namespace Go.Px.Scan
open Go.Px

theorem skip_cm {s : ByteArray} : ∀ (n i : Nat), i + n ≤ s.size → (∀ j, i ≤ j → j < i + n → bt s j ≠ 10) → skipS s true i = skipS s true (i + n)
  | 0, i, _, _ => rfl
  | n + 1, i, h, hb => by
    conv => lhs; unfold skipS
    rw [if_pos (by omega), if_pos rfl, decide_eq_true (hb i (by omega) (by omega)), skip_cm n (i + 1) (by omega) (fun j h1 h2 => hb j (by omega) (by omega))]
    congr 1; omega

theorem skip_end {s : ByteArray} {cm : Bool} {i : Nat} (h : s.size ≤ i) : skipS s cm i = i := by unfold skipS; rw [if_neg (by omega)]

theorem skip_blank {s : ByteArray} {i : Nat} (h : i < s.size) (hb : blankN (bt s i) = true) : skipS s false i = skipS s false (i + 1) := by
  conv => lhs; unfold skipS
  rw [if_pos h]
  simp only [Bool.false_eq_true, if_false]
  rw [if_neg (by intro e; rw [e] at hb; simp [blankN] at hb), if_pos hb]

theorem skip_none {s : ByteArray} {i : Nat} (h : i < s.size) (hb : blankN (bt s i) = false) (h35 : bt s i ≠ 35) : skipS s false i = i := by
  conv => lhs; unfold skipS
  rw [if_pos h]
  simp only [Bool.false_eq_true, if_false]
  rw [if_neg h35, if_neg (by simp [hb])]

/-- Behind a '#': to the newline, or to the end. -/
theorem skip_hash {s : ByteArray} {k j : Nat} (hk : k < s.size) (h35 : bt s k = 35) (hj : j ≤ s.size) (hkj : k ≤ j) (hn : ∀ i, k ≤ i → i < j → bt s i ≠ 10) (he : j = s.size ∨ bt s j = 10) : skipS s false k = skipS s false j := by
  have hkj' : k + 1 ≤ j := by
    rcases Nat.lt_or_ge k j with h | h
    · exact h
    · have : k = j := by omega
      subst this
      rcases he with h1 | h1 <;> omega
  have e1 : skipS s false k = skipS s true (k + 1) := by
    conv => lhs; unfold skipS
    rw [if_pos hk]
    simp only [Bool.false_eq_true, if_false]
    rw [if_pos h35]
  rw [e1, skip_cm (j - (k + 1)) (k + 1) (by omega) (fun i h1 h2 => hn i (by omega) (by omega)), show k + 1 + (j - (k + 1)) = j by omega]
  rcases he with h | h
  · rw [skip_end (by omega), skip_end (by omega)]
  · rcases Nat.lt_or_ge j s.size with h2 | h2
    · rw [skip_blank h2 (by rw [h]; rfl)]
      conv => lhs; unfold skipS
      rw [if_pos h2, if_pos rfl, h]
      rfl
    · rw [skip_end h2, skip_end h2]

theorem blank_index (c : Nat) (hc : c < 256) : decide (0 ≤ Lib.indexByte [32, 9, 10, 13] ((c : Int).toNat.toUInt8)) = blankN c :=
  (show ∀ c : Fin 256, decide (0 ≤ Lib.indexByte [32, 9, 10, 13] (((c.val : Nat) : Int).toNat.toUInt8)) = blankN c.val by decide +kernel) ⟨c, hc⟩
theorem sign_index (c : Nat) (hc : c < 256) : decide (0 ≤ Lib.indexByte [58, 124, 59] ((c : Int).toNat.toUInt8)) = signN c :=
  (show ∀ c : Fin 256, decide (0 ≤ Lib.indexByte [58, 124, 59] (((c.val : Nat) : Int).toNat.toUInt8)) = signN c.val by decide +kernel) ⟨c, hc⟩
end Go.Px.Scan
