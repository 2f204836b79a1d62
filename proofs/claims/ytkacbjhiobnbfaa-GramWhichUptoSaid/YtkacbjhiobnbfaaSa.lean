/-
  Texts of this claim: ScSpec, ScSpec2, ScSpec3, Gs1.
-/
import Derived.Test.YtkacbjhiobnbfaaPa
import Derived.Lib.IndexLaws
/-
  What the words of a text are: plain Lean, no program in sight.
-/
set_option linter.unusedVariables false
namespace Go.Px.Scan
open Go.Px

def letterN (c : Nat) : Bool := decide (65 ≤ c ∧ c ≤ 90 ∨ 97 ≤ c ∧ c ≤ 122)
def innerN (c : Nat) : Bool := letterN c || decide (c = 95 ∨ 48 ≤ c ∧ c ≤ 57)
def plainN (c : Nat) : Bool := decide (32 ≤ c ∧ c ≤ 126 ∧ c ≠ 39)
def quoteN (c : Nat) : Bool := decide (c = 39)
def blankN (c : Nat) : Bool := decide (c = 32 ∨ c = 9 ∨ c = 10 ∨ c = 13)
def signN (c : Nat) : Bool := decide (c = 58 ∨ c = 124 ∨ c = 59)

/-- The place of the first byte from i on that is no blank. -/
def skipS (s : ByteArray) (cm : Bool) (i : Nat) : Nat :=
  if i < s.size then
    if cm then skipS s (decide (bt s i ≠ 10)) (i + 1)
    else if bt s i = 35 then skipS s true (i + 1)
    else if blankN (bt s i) then skipS s false (i + 1)
    else i
  else i
  termination_by s.size - i

/-- The first place from i on, n places behind it at most, where p fails. -/
def runS (p : Nat → Bool) (s : ByteArray) (i : Nat) : Nat → Nat
  | 0 => i
  | n + 1 => if i < s.size && p (bt s i) then runS p s (i + 1) n else i

def ordersL : List ByteArray := [⟨#[37, 108, 101, 102, 116]⟩, ⟨#[37, 110, 111, 110, 97, 115, 115, 111, 99]⟩, ⟨#[37, 110, 111, 110, 101]⟩, ⟨#[37, 112, 114, 101, 99]⟩,
  ⟨#[37, 114, 105, 103, 104, 116]⟩, ⟨#[37, 115, 116, 97, 114, 116]⟩, ⟨#[37, 116, 111, 107, 101, 110]⟩]

def prefB (o p : ByteArray) : Bool := decide (p.size ≤ o.size) && ((o.extract 0 p.size).toList == p.toList)
def begun (p : ByteArray) : Bool := ordersL.any fun o => prefB o p
def whole (p : ByteArray) : Bool := ordersL.any fun o => p.toList == o.toList

/-- Of an order that begins at 'a': the place behind its letters, as long as an order may begin so; did it end so? -/
def ordS (s : ByteArray) (a k : Nat) : Nat × Bool :=
  if k < s.size ∧ letterN (bt s k) = true then
    if begun (s.extract a (k + 1)) then ordS s a (k + 1) else (k, false)
  else (k, true)
  termination_by s.size - k

inductive One where
  | word (kind : Nat) (a b next : Nat)
  | bad (k : Nat)

/-- The word that begins at i. -/
def oneS (s : ByteArray) (i : Nat) : One :=
  if signN (bt s i) then .word 4 i (i + 1) (i + 1)
  else if bt s i = 37 then
    if (ordS s i (i + 1)).2 && whole (s.extract i (ordS s i (i + 1)).1) then .word 3 i (ordS s i (i + 1)).1 (ordS s i (i + 1)).1 else .bad (ordS s i (i + 1)).1
  else if bt s i = 39 then
    if i + 1 < runS plainN s (i + 1) 16 ∧ runS plainN s (i + 1) 16 < s.size ∧ bt s (runS plainN s (i + 1) 16) = 39 then .word 2 (i + 1) (runS plainN s (i + 1) 16) (runS plainN s (i + 1) 16 + 1) else .bad (runS plainN s (i + 1) 16)
  else if letterN (bt s i) || decide (bt s i = 95) then
    if runS innerN s i 16 < s.size ∧ innerN (bt s (runS innerN s i 16)) = true then .bad (runS innerN s i 16) else .word 1 i (runS innerN s i 16) (runS innerN s i 16)
  else .bad i

abbrev Wd := Int × ByteArray × Int

theorem skip_ge (s : ByteArray) (cm : Bool) (i : Nat) : i ≤ skipS s cm i := by
  induction cm, i using skipS.induct s with
  | case1 i h ih => unfold skipS; rw [if_pos h, if_pos rfl]; omega
  | case2 cm i h hc h1 ih => unfold skipS; rw [if_pos h, if_neg hc, if_pos h1]; omega
  | case3 cm i h hc h1 h2 ih => unfold skipS; rw [if_pos h, if_neg hc, if_neg h1, if_pos h2]; omega
  | case4 cm i h hc h1 h2 => unfold skipS; rw [if_pos h, if_neg hc, if_neg h1, if_neg h2]; omega
  | case5 cm i h => unfold skipS; rw [if_neg h]; omega

theorem skip_le (s : ByteArray) (cm : Bool) (i : Nat) (hi : i ≤ s.size) : skipS s cm i ≤ s.size := by
  induction cm, i using skipS.induct s with
  | case1 i h ih => unfold skipS; rw [if_pos h, if_pos rfl]; exact ih (by omega)
  | case2 cm i h hc h1 ih => unfold skipS; rw [if_pos h, if_neg hc, if_pos h1]; exact ih (by omega)
  | case3 cm i h hc h1 h2 ih => unfold skipS; rw [if_pos h, if_neg hc, if_neg h1, if_pos h2]; exact ih (by omega)
  | case4 cm i h hc h1 h2 => unfold skipS; rw [if_pos h, if_neg hc, if_neg h1, if_neg h2]; omega
  | case5 cm i h => unfold skipS; rw [if_neg h]; omega

theorem run_ge (p : Nat → Bool) (s : ByteArray) : ∀ (n i : Nat), i ≤ runS p s i n
  | 0, i => Nat.le_refl _
  | n + 1, i => by
    unfold runS
    split
    · have := run_ge p s n (i + 1); omega
    · omega

theorem run_le (p : Nat → Bool) (s : ByteArray) : ∀ (n i : Nat), i ≤ s.size → runS p s i n ≤ s.size
  | 0, i, h => h
  | n + 1, i, h => by
    unfold runS
    split
    · rename_i h1
      simp at h1
      exact run_le p s n (i + 1) (by omega)
    · omega

theorem run_most (p : Nat → Bool) (s : ByteArray) : ∀ (n i : Nat), runS p s i n ≤ i + n
  | 0, i => Nat.le_refl _
  | n + 1, i => by
    unfold runS
    split
    · have := run_most p s n (i + 1); omega
    · omega

theorem ord_ge (s : ByteArray) (a k : Nat) : k ≤ (ordS s a k).1 := by
  induction k using ordS.induct s a with
  | case1 k h h1 ih => unfold ordS; rw [if_pos h, if_pos h1]; omega
  | case2 k h h1 => unfold ordS; rw [if_pos h, if_neg h1]; simp
  | case3 k h => unfold ordS; rw [if_neg h]; simp

theorem ord_le (s : ByteArray) (a k : Nat) (hk : k ≤ s.size) : (ordS s a k).1 ≤ s.size := by
  induction k using ordS.induct s a with
  | case1 k h h1 ih => unfold ordS; rw [if_pos h, if_pos h1]; exact ih (by omega)
  | case2 k h h1 => unfold ordS; rw [if_pos h, if_neg h1]; exact hk
  | case3 k h => unfold ordS; rw [if_neg h]; exact hk

theorem inner_of_letter {c : Nat} (h : (letterN c || decide (c = 95)) = true) : innerN c = true := by
  unfold innerN
  simp at h ⊢
  rcases h with h | h
  · exact Or.inl h
  · exact Or.inr (Or.inl h)

theorem one_word {s : ByteArray} {i kd a b n : Nat} (hi : i < s.size) (h : oneS s i = .word kd a b n) : i < n ∧ n ≤ s.size ∧ i ≤ a ∧ a < b ∧ b ≤ n := by
  unfold oneS at h
  have r1 := run_ge plainN s 16 (i + 1)
  have r2 := run_le plainN s 16 (i + 1) (by omega)
  have r3 := ord_ge s i (i + 1)
  have r4 := ord_le s i (i + 1) (by omega)
  have r6 := run_le innerN s 16 i (by omega)
  split at h
  · cases h; omega
  split at h
  · split at h
    · cases h; omega
    · cases h
  split at h
  · split at h
    · cases h; omega
    · cases h
  split at h
  · rename_i hl
    have hin := inner_of_letter hl
    have r7 : i + 1 ≤ runS innerN s i 16 := by
      have e : runS innerN s i 16 = if i < s.size && innerN (bt s i) then runS innerN s (i + 1) 15 else i := rfl
      have := run_ge innerN s 15 (i + 1)
      rw [e, hin]
      simp [hi]; omega
    split at h
    · cases h
    · cases h; omega
  · cases h

theorem one_bad {s : ByteArray} {i k : Nat} (hi : i < s.size) (h : oneS s i = .bad k) : i ≤ k ∧ k ≤ s.size := by
  unfold oneS at h
  have r1 := run_ge plainN s 16 (i + 1)
  have r2 := run_le plainN s 16 (i + 1) (by omega)
  have r3 := ord_ge s i (i + 1)
  have r4 := ord_le s i (i + 1) (by omega)
  have r5 := run_ge innerN s 16 i
  have r6 := run_le innerN s 16 i (by omega)
  split at h
  · cases h
  split at h
  · split at h
    · cases h
    · cases h; omega
  split at h
  · split at h
    · cases h
    · cases h; omega
  split at h
  · split at h
    · cases h; omega
    · cases h
  · cases h; omega

/-- The words from i on, ahead of the bad place, and that. -/
def allS (s : ByteArray) (i : Nat) : List Wd × Option Nat :=
  if h : skipS s false i < s.size then
    match h1 : oneS s (skipS s false i) with
    | .bad k => ([], some k)
    | .word kd a b n => (((kd : Int), s.extract a b, (skipS s false i : Int)) :: (allS s n).1, (allS s n).2)
  else ([], none)
  termination_by s.size - i
  decreasing_by
  all_goals
    have := one_word h h1
    have := skip_ge s false i
    omega

theorem all_end {s : ByteArray} {i : Nat} (h : ¬ skipS s false i < s.size) : allS s i = ([], none) := by unfold allS; rw [dif_neg h]
theorem all_bad {s : ByteArray} {i k : Nat} (h : skipS s false i < s.size) (h1 : oneS s (skipS s false i) = .bad k) : allS s i = ([], some k) := by
  unfold allS; rw [dif_pos h]; split <;> rename_i h2 <;> rw [h1] at h2 <;> cases h2; rfl
theorem all_word {s : ByteArray} {i kd a b n : Nat} (h : skipS s false i < s.size) (h1 : oneS s (skipS s false i) = .word kd a b n) :
    allS s i = (((kd : Int), s.extract a b, (skipS s false i : Int)) :: (allS s n).1, (allS s n).2) := by
  conv => lhs; unfold allS
  rw [dif_pos h]; split <;> rename_i h2 <;> rw [h1] at h2 <;> cases h2; rfl

theorem all_len (s : ByteArray) (i : Nat) : i ≤ s.size → (allS s i).1.length + i ≤ s.size := by
  induction i using allS.induct s with
  | case1 i h k h1 => intro hi; rw [all_bad h h1]; simpa using hi
  | case2 i h kd a b n h1 ih =>
    intro hi
    have := one_word h h1
    have := ih (by omega)
    have := skip_ge s false i
    rw [all_word h h1]
    simp only [List.length_cons]
    omega
  | case3 i h => intro hi; rw [all_end h]; simpa using hi

/-- What 'Words' tells. -/
def wordsS (s : ByteArray) : List Wd × Option Nat := if 8192 < s.size then ([], some 8192) else allS s 0
end Go.Px.Scan

/-
  Skipping, by the places of newlines.
-/
namespace Go.Px
theorem bt_list (s : ByteArray) (i : Nat) : bt s i = (s.data.toList.getD i 0).toNat := by
  unfold bt
  split
  · rename_i h
    have h' : i < s.data.toList.length := by simpa using h
    simp only [List.getD, List.getElem?_eq_getElem h', Option.getD_some]
    rfl
  · rename_i h
    have h' : ¬ i < s.data.toList.length := by simpa using h
    simp [List.getD, List.getElem?_eq_none (Nat.le_of_not_lt h')]

theorem list_bt {s : ByteArray} {i : Nat} (h : i < s.size) : ∃ c, s.data.toList[i]? = some c ∧ bt s i = c.toNat := by
  have h' : i < s.data.toList.length := by simpa using h
  refine ⟨s.data.toList[i], List.getElem?_eq_getElem h', ?_⟩
  rw [bt_list]; simp [List.getD, List.getElem?_eq_getElem h']

theorem rest_at {s : ByteArray} {k i : Nat} (hi : k + i < s.size) : ∃ c, (s.extract k s.size).data.toList[i]? = some c ∧ bt s (k + i) = c.toNat := by
  obtain ⟨c, h1, h2⟩ := list_bt hi
  refine ⟨c, ?_, h2⟩
  rw [Lib.extract_data, List.getElem?_take, if_pos (by omega), List.getElem?_drop]
  exact h1

theorem index_at {s : ByteArray} {k : Nat} {c : UInt8} (_hk : k ≤ s.size) :
    (Lib.indexByte (s.extract k s.size).data.toList c = -1 ∧ ∀ i, k ≤ i → i < s.size → bt s i ≠ c.toNat) ∨
    ∃ o : Nat, Lib.indexByte (s.extract k s.size).data.toList c = o ∧ k + o < s.size ∧ bt s (k + o) = c.toNat ∧ ∀ i, k ≤ i → i < k + o → bt s i ≠ c.toNat := by
  have hg := Lib.indexByte_ge (s.extract k s.size).data.toList c
  rcases Int.lt_or_le (Lib.indexByte (s.extract k s.size).data.toList c) 0 with h | h
  · have he : Lib.indexByte (s.extract k s.size).data.toList c = -1 := by omega
    refine Or.inl ⟨he, fun i hi hs e => ?_⟩
    obtain ⟨d, h1, h2⟩ := rest_at (s := s) (k := k) (i := i - k) (by omega)
    rw [show k + (i - k) = i by omega, e] at h2
    exact Lib.indexByte_none he (i - k) (by rw [h1, UInt8.toNat.inj h2])
  · obtain ⟨o, ho⟩ : ∃ o : Nat, Lib.indexByte (s.extract k s.size).data.toList c = o := ⟨_, (Int.toNat_of_nonneg h).symm⟩
    obtain ⟨h1, h2⟩ := Lib.indexByte_some ho
    have hlt : k + o < s.size := by
      have := (List.getElem?_eq_some_iff.1 h1).1
      rw [Lib.extract_data] at this
      simp at this
      omega
    refine Or.inr ⟨o, ho, hlt, ?_, fun i hi hio e => ?_⟩
    · obtain ⟨d, h3, h4⟩ := rest_at hlt
      rw [h1] at h3; cases h3; exact h4
    · obtain ⟨d, h3, h4⟩ := rest_at (s := s) (k := k) (i := i - k) (by omega)
      rw [show k + (i - k) = i by omega, e] at h4
      exact h2 (i - k) (by omega) (by rw [h3, UInt8.toNat.inj h4])
end Go.Px

namespace Go.Px.Scan
open Go.Px

theorem skip_cm {s : ByteArray} : ∀ (n i : Nat), i + n ≤ s.size → (∀ j, i ≤ j → j < i + n → bt s j ≠ 10) → skipS s true i = skipS s true (i + n)
  | 0, i, _, _ => rfl
  | n + 1, i, h, hb => by
    conv => lhs; unfold skipS
    rw [if_pos (by omega), if_pos rfl, decide_eq_true (hb i (by omega) (by omega)), skip_cm n (i + 1) (by omega) (fun j h1 h2 => hb j (by omega) (by omega))]
    congr 1; omega

theorem skip_end {s : ByteArray} {cm : Bool} {i : Nat} (h : s.size ≤ i) : skipS s cm i = i := by unfold skipS; rw [if_neg (by omega)]

theorem skip_blank {s : ByteArray} {i : Nat} (h : i < s.size) (hb : blankN (bt s i) = true) : skipS s false i = skipS s false (i + 1) := by
  conv => lhs; unfold skipS
  rw [if_pos h]
  simp only [Bool.false_eq_true, if_false]
  rw [if_neg (by intro e; rw [e] at hb; simp [blankN] at hb), if_pos hb]

theorem skip_none {s : ByteArray} {i : Nat} (h : i < s.size) (hb : blankN (bt s i) = false) (h35 : bt s i ≠ 35) : skipS s false i = i := by
  conv => lhs; unfold skipS
  rw [if_pos h]
  simp only [Bool.false_eq_true, if_false]
  rw [if_neg h35, if_neg (by simp [hb])]

/-- Behind a '#': to the newline, or to the end. -/
theorem skip_hash {s : ByteArray} {k j : Nat} (hk : k < s.size) (h35 : bt s k = 35) (hj : j ≤ s.size) (hkj : k ≤ j) (hn : ∀ i, k ≤ i → i < j → bt s i ≠ 10) (he : j = s.size ∨ bt s j = 10) : skipS s false k = skipS s false j := by
  have hkj' : k + 1 ≤ j := by
    rcases Nat.lt_or_ge k j with h | h
    · exact h
    · have : k = j := by omega
      subst this
      rcases he with h1 | h1 <;> omega
  have e1 : skipS s false k = skipS s true (k + 1) := by
    conv => lhs; unfold skipS
    rw [if_pos hk]
    simp only [Bool.false_eq_true, if_false]
    rw [if_pos h35]
  rw [e1, skip_cm (j - (k + 1)) (k + 1) (by omega) (fun i h1 h2 => hn i (by omega) (by omega)), show k + 1 + (j - (k + 1)) = j by omega]
  rcases he with h | h
  · rw [skip_end (by omega), skip_end (by omega)]
  · rcases Nat.lt_or_ge j s.size with h2 | h2
    · rw [skip_blank h2 (by rw [h]; rfl)]
      conv => lhs; unfold skipS
      rw [if_pos h2, if_pos rfl, h]
      rfl
    · rw [skip_end h2, skip_end h2]

theorem blank_index (c : Nat) (hc : c < 256) : decide (0 ≤ Lib.indexByte [32, 9, 10, 13] ((c : Int).toNat.toUInt8)) = blankN c :=
  (show ∀ c : Fin 256, decide (0 ≤ Lib.indexByte [32, 9, 10, 13] (((c.val : Nat) : Int).toNat.toUInt8)) = blankN c.val by decide +kernel) ⟨c, hc⟩
theorem sign_index (c : Nat) (hc : c < 256) : decide (0 ≤ Lib.indexByte [58, 124, 59] ((c : Int).toNat.toUInt8)) = signN c :=
  (show ∀ c : Fin 256, decide (0 ≤ Lib.indexByte [58, 124, 59] (((c.val : Nat) : Int).toNat.toUInt8)) = signN c.val by decide +kernel) ⟨c, hc⟩
end Go.Px.Scan

/-
  Names and terminals' texts, and what they are to the words.
-/
namespace Go.Px.Scan
open Go.Px

theorem run_mem (p : Nat → Bool) (s : ByteArray) : ∀ (n i j : Nat), i ≤ j → j < runS p s i n → p (bt s j) = true ∧ j < s.size
  | 0, i, j, h1, h2 => by unfold runS at h2; omega
  | n + 1, i, j, h1, h2 => by
    unfold runS at h2
    split at h2
    · rename_i h
      simp at h
      by_cases hj : j = i
      · subst hj; exact ⟨h.2, h.1⟩
      · exact run_mem p s n (i + 1) j (by omega) h2
    · omega
theorem run_full (p : Nat → Bool) (s : ByteArray) : ∀ (n i : Nat), (∀ j, i ≤ j → j < s.size → p (bt s j) = true) → s.size ≤ i + n → i ≤ s.size → runS p s i n = s.size
  | 0, i, _, h2, h3 => by unfold runS; omega
  | n + 1, i, h1, h2, h3 => by
    unfold runS
    by_cases hi : i < s.size
    · rw [if_pos (by simp [hi, h1 i (Nat.le_refl _) hi])]
      exact run_full p s n (i + 1) (fun j hj => h1 j (by omega)) (by omega) hi
    · rw [if_neg (by simp [hi])]; omega

def NameP (s : ByteArray) : Prop := 0 < s.size ∧ s.size ≤ 16 ∧ (letterN (bt s 0) || decide (bt s 0 = 95)) = true ∧ ∀ i, i < s.size → innerN (bt s i) = true
def TermP (s : ByteArray) : Prop := 0 < s.size ∧ s.size ≤ 16 ∧ ∀ i, i < s.size → plainN (bt s i) = true

theorem inner_plain {c : Nat} (h : innerN c = true) : plainN c = true := by
  simp [innerN, letterN, plainN] at *; omega
theorem NameP.term {s : ByteArray} (h : NameP s) : TermP s := ⟨h.1, h.2.1, fun i hi => inner_plain (h.2.2.2 i hi)⟩
theorem term_run {s : ByteArray} : TermP s ↔ (0 < s.size ∧ s.size ≤ 16 ∧ runS plainN s 0 16 = s.size) := by
  constructor
  · rintro ⟨h1, h2, h3⟩
    exact ⟨h1, h2, run_full _ _ _ _ (fun j _ hj => h3 j hj) (by omega) (by omega)⟩
  · rintro ⟨h1, h2, h3⟩
    exact ⟨h1, h2, fun i hi => (run_mem plainN s 16 0 i (Nat.zero_le _) (by omega)).1⟩

theorem bs_ext {a b : ByteArray} (h : a.data.toList = b.data.toList) : a = b := by
  cases a; cases b; simp at h; cases h; rfl
theorem extract_all (s : ByteArray) : s.extract 0 s.size = s := by
  apply bs_ext
  have := Lib.extract_toList s 0 s.size
  rw [ByteArray.toList_eq] at this
  rw [this]; simp; exact List.take_of_length_le (by simp)
theorem extract_size {s : ByteArray} {a e : Nat} (hae : a ≤ e) (he : e ≤ s.size) : (s.extract a e).size = e - a := by
  simp; omega

theorem name_one {s : ByteArray} (h : NameP s) : skipS s false 0 = 0 ∧ oneS s 0 = .word 1 0 s.size s.size := by
  obtain ⟨h1, h2, h3, h4⟩ := h
  have hb : blankN (bt s 0) = false ∧ bt s 0 ≠ 35 ∧ signN (bt s 0) = false ∧ bt s 0 ≠ 37 ∧ bt s 0 ≠ 39 := by
    simp [letterN, blankN, signN] at *; omega
  refine ⟨skip_none h1 hb.1 hb.2.1, ?_⟩
  have hr : runS innerN s 0 16 = s.size := run_full _ _ _ _ (fun j _ hj => h4 j hj) (by omega) (by omega)
  unfold oneS
  rw [if_neg (by simp [hb.2.2.1]), if_neg hb.2.2.2.1, if_neg hb.2.2.2.2, if_pos h3, hr, if_neg (by omega)]

/-- Of a text that is a name. -/
theorem name_all {s : ByteArray} (h : NameP s) : allS s 0 = ([(1, s, 0)], none) := by
  have h0 := name_one h
  have h1 := h.1
  rw [all_word (by rw [h0.1]; exact h1) (by rw [h0.1]; exact h0.2), all_end (by rw [skip_end (Nat.le_refl _)]; omega), h0.1, extract_all]
  rfl

/-- Of a text whose first word is a name that is all of it. -/
theorem name_of {t s : ByteArray} (ht : t.size ≤ s.size) {x : Wd} {l : List Wd} (h : (allS t 0).1 = x :: l) (h1 : x.1 = 1) (h2 : x.2.1 = s) : t.size = s.size ∧ NameP t := by
  by_cases hk : skipS t false 0 < t.size
  · cases ho : oneS t (skipS t false 0) with
    | bad k => rw [all_bad hk ho] at h; simp at h
    | word kd a e n =>
      rw [all_word hk ho] at h
      simp at h
      obtain ⟨rfl, _⟩ := h
      simp at h1 h2
      have hw := one_word hk ho
      unfold oneS at ho
      split at ho
      · cases ho; omega
      split at ho
      · split at ho <;> cases ho; omega
      split at ho
      · split at ho <;> cases ho; omega
      split at ho
      · rename_i hl
        split at ho
        · cases ho
        · injection ho with _ e1 e2 e3
          have hsz := congrArg ByteArray.size h2
          rw [extract_size (by omega) (by omega)] at hsz
          have h0 : skipS t false 0 = 0 := by omega
          rw [h0] at e2 hl
          have hm := run_most innerN t 16 0
          refine ⟨by omega, by omega, by omega, hl, fun i hi => (run_mem innerN t 16 0 i (Nat.zero_le _) (by omega)).1⟩
      · cases ho
  · rw [all_end hk] at h; simp at h

theorem name_words {s : ByteArray} : NameP s ↔ wordsS s = ([(1, s, 0)], none) := by
  constructor
  · intro h
    unfold wordsS
    rw [if_neg (by have := h.2.1; omega), name_all h]
  · intro h
    unfold wordsS at h
    split at h
    · simp at h
    · exact (name_of (t := s) (s := s) (x := (1, s, 0)) (l := []) (Nat.le_refl _) (by rw [h]) rfl rfl).2

/-! ### A text in quotes -/
def quo (s : ByteArray) : ByteArray := (⟨#[39]⟩ ++ s) ++ ⟨#[39]⟩
theorem quo_list (s : ByteArray) : (quo s).data.toList = 39 :: (s.data.toList ++ [39]) := by simp [quo]
theorem quo_size (s : ByteArray) : (quo s).size = s.size + 2 := by
  have : (quo s).data.toList.length = s.size + 2 := by rw [quo_list]; simp
  simpa using this
theorem quo_0 (s : ByteArray) : bt (quo s) 0 = 39 := by rw [bt_list, quo_list]; rfl
theorem quo_in {s : ByteArray} {i : Nat} (h : i < s.size) : bt (quo s) (i + 1) = bt s i := by
  rw [bt_list, bt_list, quo_list]
  simp only [List.getD_eq_getElem?_getD, List.getElem?_cons_succ]
  rw [List.getElem?_append_left (by simpa using h)]
theorem quo_end (s : ByteArray) : bt (quo s) (s.size + 1) = 39 := by
  rw [bt_list, quo_list]
  simp only [List.getD_eq_getElem?_getD, List.getElem?_cons_succ]
  rw [List.getElem?_append_right (by simp)]
  simp
theorem quo_run (s : ByteArray) : ∀ (n i : Nat), i ≤ s.size → runS plainN (quo s) (i + 1) n = runS plainN s i n + 1
  | 0, i, _ => rfl
  | n + 1, i, h => by
    unfold runS
    by_cases hi : i < s.size
    · rw [quo_in hi]
      by_cases hp : plainN (bt s i) = true
      · rw [if_pos (by simp [hp, quo_size]; omega), if_pos (by simp [hp, hi])]
        exact quo_run s n (i + 1) hi
      · rw [if_neg (by simp [hp]), if_neg (by simp [hp])]
    · have : i = s.size := by omega
      subst this
      rw [quo_end, if_neg (by simp [plainN]), if_neg (by simp)]
theorem quo_extract (s : ByteArray) : (quo s).extract 1 (s.size + 1) = s := by
  apply bs_ext
  have := Lib.extract_toList (quo s) 1 (s.size + 1)
  rw [ByteArray.toList_eq, quo_list] at this
  rw [this]; simp
theorem quo_skip (s : ByteArray) : skipS (quo s) false 0 = 0 := skip_none (by rw [quo_size]; omega) (by rw [quo_0]; rfl) (by rw [quo_0]; omega)
theorem quo_one (s : ByteArray) : oneS (quo s) 0 = if 1 < runS plainN s 0 16 + 1 ∧ runS plainN s 0 16 + 1 < s.size + 2 ∧ bt (quo s) (runS plainN s 0 16 + 1) = 39 then .word 2 1 (runS plainN s 0 16 + 1) (runS plainN s 0 16 + 1 + 1) else .bad (runS plainN s 0 16 + 1) := by
  unfold oneS
  rw [quo_0, if_neg (by decide), if_neg (by decide), if_pos rfl, quo_run s 16 0 (Nat.zero_le _), quo_size]
theorem quo_words {s : ByteArray} : TermP s ↔ wordsS (quo s) = ([(2, s, 0)], none) := by
  have hs := quo_size s
  have hk : skipS (quo s) false 0 < (quo s).size := by rw [quo_skip]; omega
  rw [term_run]
  constructor
  · rintro ⟨h1, h2, h3⟩
    unfold wordsS
    rw [if_neg (by omega)]
    have ho : oneS (quo s) (skipS (quo s) false 0) = .word 2 1 (s.size + 1) (s.size + 1 + 1) := by
      rw [quo_skip, quo_one, h3, if_pos ⟨by omega, by omega, quo_end s⟩]
    rw [all_word hk ho, all_end (by rw [skip_end (by omega)]; omega), quo_skip, quo_extract]
    rfl
  · intro h
    unfold wordsS at h
    split at h
    · simp at h
    · have hr := run_le plainN s 16 0 (Nat.zero_le _)
      have hm := run_most plainN s 16 0
      by_cases hc : 1 < runS plainN s 0 16 + 1 ∧ runS plainN s 0 16 + 1 < s.size + 2 ∧ bt (quo s) (runS plainN s 0 16 + 1) = 39
      · have ho : oneS (quo s) (skipS (quo s) false 0) = .word 2 1 (runS plainN s 0 16 + 1) (runS plainN s 0 16 + 1 + 1) := by
          rw [quo_skip, quo_one, if_pos hc]
        rw [all_word hk ho] at h
        simp only [Prod.mk.injEq, List.cons.injEq] at h
        have hsz := congrArg ByteArray.size h.1.1.2.1
        rw [extract_size (by omega) (by omega)] at hsz
        omega
      · have ho : oneS (quo s) (skipS (quo s) false 0) = .bad (runS plainN s 0 16 + 1) := by
          rw [quo_skip, quo_one, if_neg hc]
        rw [all_bad hk ho] at h
        simp at h
end Go.Px.Scan

/-
  Grammars, plainly: which of them may be.
-/
namespace Go.Px.Scan
open Go.Px

/-- A grammar. -/
structure Gr where
  terms : List (ByteArray × Int)
  nons : List ByteArray
  levels : List Int
  start : Int
  prods : List (Int × List Int × Int)

def addL (acc : List Int) (x : Int) : List Int := if x ∈ acc then acc else acc ++ [x]
/-- The Lefts, in the order in which they first come. -/
def leftsOf (l : List (Int × List Int × Int)) : List Int := l.foldl (fun a p => addL a p.1) []

structure TermOk (g : Gr) (t : ByteArray × Int) : Prop where
  name : TermP t.1
  lo : 0 ≤ t.2
  hi : t.2 ≤ g.levels.length

structure SymsP (g : Gr) (a : Nat) : Prop where
  t0 : g.terms.head? = some (⟨#[]⟩, 0)
  n0 : a < g.nons.length
  t1 : g.terms.length ≤ 65
  n1 : g.nons.length ≤ 64 + a
  sum : g.terms.length - 1 + (g.nons.length - a) ≤ 64
  terms : ∀ t ∈ g.terms.tail, TermOk g t
  levels : ∀ i (h : i < g.levels.length), 1 ≤ g.levels[i] ∧ g.levels[i] ≤ 3 ∧ ∃ t ∈ g.terms.tail, t.2 = (i : Int) + 1
  tnd : (g.terms.tail.map (·.1)).Nodup
  nnd : (g.nons.drop a).Nodup
  nnam : ∀ s ∈ g.nons.drop a, NameP s

structure ProdOk (g : Gr) (a : Nat) (p : Int × List Int × Int) : Prop where
  l0 : (g.terms.length + a : Int) ≤ p.1
  l1 : p.1 < (g.terms.length + g.nons.length : Int)
  v0 : 0 ≤ p.2.2
  v1 : p.2.2 ≤ g.levels.length
  right : ∀ s ∈ p.2.1, 1 ≤ s ∧ s < (g.terms.length + g.nons.length : Int) ∧ ((g.terms.length : Int) ≤ s → (g.terms.length + a : Int) ≤ s)

structure ProdsP (g : Gr) (a : Nat) : Prop where
  c0 : a < g.prods.length
  c1 : g.prods.length ≤ 96 + a
  each : ∀ p ∈ g.prods.drop a, ProdOk g a p
  lefts : (leftsOf (g.prods.drop a)).length + a = g.nons.length
  s0 : (g.terms.length + a : Int) ≤ g.start
  s1 : g.start < (g.terms.length + g.nons.length : Int)

/-- May a grammar be? -/
structure ValidP (g : Gr) : Prop where
  syms : SymsP g 0
  prods : ProdsP g 0
  sorted : (leftsOf g.prods).Pairwise (· ≤ ·)

/-- Is it one with the added production? -/
structure ClosedP (g : Gr) : Prop where
  first : g.nons.head? = some ⟨#[]⟩
  syms : SymsP g 1
  prods : ProdsP g 1
  added : g.prods.head? = some ((g.terms.length : Int), [g.start], 0)

open Classical in
noncomputable def symB (g : Gr) (a : Nat) : Bool := decide (SymsP g a)
open Classical in
noncomputable def prodB (g : Gr) (a : Nat) : Bool := decide (ProdsP g a)
open Classical in
noncomputable def validB (g : Gr) : Bool := decide (ValidP g)
open Classical in
noncomputable def closedB (g : Gr) : Bool := decide (ClosedP g)
theorem symB_iff {g : Gr} {a : Nat} : symB g a = true ↔ SymsP g a := @decide_eq_true_iff _ (_)
theorem prodB_iff {g : Gr} {a : Nat} : prodB g a = true ↔ ProdsP g a := @decide_eq_true_iff _ (_)
theorem validB_iff {g : Gr} : validB g = true ↔ ValidP g := @decide_eq_true_iff _ (_)
theorem closedB_iff {g : Gr} : closedB g = true ↔ ClosedP g := @decide_eq_true_iff _ (_)
theorem bool_no {b : Bool} {p : Prop} (i : b = true ↔ p) (h : ¬ p) : b = false := by
  cases b
  · rfl
  · exact absurd (i.1 rfl) h
theorem bool_eq {a b : Bool} (h : a = true ↔ b = true) : a = b := Bool.eq_iff_iff.2 h

/-! ### Lefts -/
theorem addL_nodup {acc : List Int} (h : acc.Nodup) (x : Int) : (addL acc x).Nodup := by
  unfold addL
  split
  · exact h
  · rename_i hx
    refine List.nodup_append.2 ⟨h, by simp, fun a ha b hb => ?_⟩
    simp at hb
    subst hb
    intro e; subst e; exact hx ha
theorem addL_mem {acc : List Int} {x y : Int} : y ∈ addL acc x ↔ y ∈ acc ∨ y = x := by
  unfold addL
  split
  · rename_i hx
    exact ⟨Or.inl, fun h => h.elim id fun e => e ▸ hx⟩
  · simp
theorem leftsOf_snoc (l : List (Int × List Int × Int)) (p : Int × List Int × Int) : leftsOf (l ++ [p]) = addL (leftsOf l) p.1 := by simp [leftsOf]
theorem foldl_lefts (l : List (Int × List Int × Int)) : ∀ acc : List Int, acc.Nodup → (l.foldl (fun a p => addL a p.1) acc).Nodup ∧ ∀ y, y ∈ l.foldl (fun a p => addL a p.1) acc ↔ y ∈ acc ∨ ∃ p ∈ l, p.1 = y := by
  induction l with
  | nil => intro acc h; exact ⟨h, fun y => by simp⟩
  | cons p r ih =>
    intro acc h
    obtain ⟨h1, h2⟩ := ih (addL acc p.1) (addL_nodup h _)
    refine ⟨h1, fun y => ?_⟩
    rw [List.foldl_cons, h2, addL_mem]
    simp [or_assoc, eq_comm]
theorem leftsOf_nodup (l : List (Int × List Int × Int)) : (leftsOf l).Nodup := (foldl_lefts l [] (by simp)).1
theorem leftsOf_mem {l : List (Int × List Int × Int)} {y : Int} : y ∈ leftsOf l ↔ ∃ p ∈ l, p.1 = y := by
  have := (foldl_lefts l [] (by simp)).2 y
  simpa [leftsOf] using this

/-! ### Counting -/
theorem nodup_le {α : Type} [DecidableEq α] : ∀ {l m : List α}, l.Nodup → (∀ x ∈ l, x ∈ m) → l.length ≤ m.length
  | [], _, _, _ => Nat.zero_le _
  | x :: l, m, h, hs => by
    rw [List.nodup_cons] at h
    have hx := hs x (by simp)
    have := nodup_le (l := l) (m := m.erase x) h.2 fun y hy => (List.mem_erase_of_ne (fun e => h.1 (by rw [← e]; exact hy))).2 (hs y (by simp [hy]))
    rw [List.length_erase_of_mem hx] at this
    have hpos : 0 < m.length := List.length_pos_of_mem hx
    simp
    omega

/-- A row of numbers, each one more. -/
theorem sorted_iff {l : List Int} (hnd : l.Nodup) {t : Int} (hb : ∀ x ∈ l, t ≤ x ∧ x < t + l.length) : l.Pairwise (· ≤ ·) ↔ ∀ i (h : i < l.length), l[i] = t + i := by
  constructor
  · intro hp
    have hlt : ∀ i j (hi : i < j) (hj : j < l.length), l[i] < l[j] := by
      intro i j hi hj
      have h1 := List.pairwise_iff_getElem.1 hp i j (by omega) hj hi
      have h2 := List.pairwise_iff_getElem.1 hnd i j (by omega) hj hi
      have h3 : l[i] ≠ l[j] := h2
      omega
    have lo : ∀ i (h : i < l.length), t + i ≤ l[i] := by
      intro i
      induction i with
      | zero => intro h; have := (hb l[0] (List.getElem_mem h)).1; simpa using this
      | succ i ih =>
        intro h
        have h1 := ih (by omega)
        have h2 := hlt i (i + 1) (by omega) h
        omega
    have hi' : ∀ d i (h : i < l.length), i + d + 1 = l.length → l[i] ≤ t + i := by
      intro d
      induction d with
      | zero => intro i h e; have := (hb l[i] (List.getElem_mem h)).2; omega
      | succ d ih =>
        intro i h e
        have h1 := ih (i + 1) (by omega) (by omega)
        have h2 := hlt i (i + 1) (by omega) (by omega)
        omega
    intro i h
    have := lo i h
    have := hi' (l.length - i - 1) i h (by omega)
    omega
  · intro h
    refine List.pairwise_iff_getElem.2 fun i j hi hj hij => ?_
    rw [h i hi, h j hj]; omega

theorem ProdsP.row {g : Gr} (h : ProdsP g 0) : (leftsOf g.prods).Pairwise (· ≤ ·) ↔ ∀ i (hi : i < (leftsOf g.prods).length), (leftsOf g.prods)[i] = (g.terms.length : Int) + i := by
  have hl := h.lefts
  rw [List.drop_zero] at hl
  refine sorted_iff (leftsOf_nodup _) fun x hx => ?_
  obtain ⟨p, hp, rfl⟩ := leftsOf_mem.1 hx
  have := h.each p (by simpa using hp)
  have h1 := this.l0
  have h2 := this.l1
  omega

/-- No more levels than terminals. -/
theorem SymsP.lev {g : Gr} {a : Nat} (h : SymsP g a) : g.levels.length ≤ 64 := by
  have h1 : ((List.range g.levels.length).map fun i : Nat => (i : Int) + 1).length ≤ (g.terms.tail.map (·.2)).length := by
    refine nodup_le ?_ fun x hx => ?_
    · refine List.pairwise_map.2 ?_
      refine List.Pairwise.imp ?_ (List.nodup_range (n := g.levels.length))
      intro a b hab e
      exact hab (by omega)
    · obtain ⟨i, hi, rfl⟩ := List.mem_map.1 hx
      obtain ⟨_, _, t, ht, e⟩ := h.levels i (by simpa using hi)
      exact List.mem_map.2 ⟨t, ht, e⟩
  have := h.t1
  simp at h1
  omega
end Go.Px.Scan

