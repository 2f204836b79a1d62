/-
  What the words of a text are: plain Lean, no program in sight.
-/
import Derived.Test.YtmhebgebfjnfjaaPxMore
set_option linter.unusedVariables false
namespace Go.Px.Scan
open Go.Px

def letterN (c : Nat) : Bool := decide (65 ≤ c ∧ c ≤ 90 ∨ 97 ≤ c ∧ c ≤ 122)
def innerN (c : Nat) : Bool := letterN c || decide (c = 95 ∨ 48 ≤ c ∧ c ≤ 57)
def plainN (c : Nat) : Bool := decide (32 ≤ c ∧ c ≤ 126 ∧ c ≠ 39)
def quoteN (c : Nat) : Bool := decide (c = 39)
def blankN (c : Nat) : Bool := decide (c = 32 ∨ c = 9 ∨ c = 10 ∨ c = 13)
def signN (c : Nat) : Bool := decide (c = 58 ∨ c = 124 ∨ c = 59)

/-- The place of the first byte from i on that is no blank. -/
def skipS (s : ByteArray) (cm : Bool) (i : Nat) : Nat :=
  if i < s.size then
    if cm then skipS s (decide (bt s i ≠ 10)) (i + 1)
    else if bt s i = 35 then skipS s true (i + 1)
    else if blankN (bt s i) then skipS s false (i + 1)
    else i
  else i
  termination_by s.size - i

/-- The first place from i on, n places behind it at most, where p fails. -/
def runS (p : Nat → Bool) (s : ByteArray) (i : Nat) : Nat → Nat
  | 0 => i
  | n + 1 => if i < s.size && p (bt s i) then runS p s (i + 1) n else i

def ordersL : List ByteArray := [⟨#[37, 108, 101, 102, 116]⟩, ⟨#[37, 110, 111, 110, 97, 115, 115, 111, 99]⟩, ⟨#[37, 110, 111, 110, 101]⟩, ⟨#[37, 112, 114, 101, 99]⟩,
  ⟨#[37, 114, 105, 103, 104, 116]⟩, ⟨#[37, 115, 116, 97, 114, 116]⟩, ⟨#[37, 116, 111, 107, 101, 110]⟩]

def prefB (o p : ByteArray) : Bool := decide (p.size ≤ o.size) && ((o.extract 0 p.size).toList == p.toList)
def begun (p : ByteArray) : Bool := ordersL.any fun o => prefB o p
def whole (p : ByteArray) : Bool := ordersL.any fun o => p.toList == o.toList

/-- Of an order that begins at 'a': the place behind its letters, as long as an order may begin so; did it end so? -/
def ordS (s : ByteArray) (a k : Nat) : Nat × Bool :=
  if k < s.size ∧ letterN (bt s k) = true then
    if begun (s.extract a (k + 1)) then ordS s a (k + 1) else (k, false)
  else (k, true)
  termination_by s.size - k

inductive One where
  | word (kind : Nat) (a b next : Nat)
  | bad (k : Nat)

/-- The word that begins at i. -/
def oneS (s : ByteArray) (i : Nat) : One :=
  if signN (bt s i) then .word 4 i (i + 1) (i + 1)
  else if bt s i = 37 then
    if (ordS s i (i + 1)).2 && whole (s.extract i (ordS s i (i + 1)).1) then .word 3 i (ordS s i (i + 1)).1 (ordS s i (i + 1)).1 else .bad (ordS s i (i + 1)).1
  else if bt s i = 39 then
    if i + 1 < runS plainN s (i + 1) 16 ∧ runS plainN s (i + 1) 16 < s.size ∧ bt s (runS plainN s (i + 1) 16) = 39 then .word 2 (i + 1) (runS plainN s (i + 1) 16) (runS plainN s (i + 1) 16 + 1) else .bad (runS plainN s (i + 1) 16)
  else if letterN (bt s i) || decide (bt s i = 95) then
    if runS innerN s i 16 < s.size ∧ innerN (bt s (runS innerN s i 16)) = true then .bad (runS innerN s i 16) else .word 1 i (runS innerN s i 16) (runS innerN s i 16)
  else .bad i

abbrev Wd := Int × ByteArray × Int

theorem skip_ge (s : ByteArray) (cm : Bool) (i : Nat) : i ≤ skipS s cm i := by
  induction cm, i using skipS.induct s with
  | case1 i h ih => unfold skipS; rw [if_pos h, if_pos rfl]; omega
  | case2 cm i h hc h1 ih => unfold skipS; rw [if_pos h, if_neg hc, if_pos h1]; omega
  | case3 cm i h hc h1 h2 ih => unfold skipS; rw [if_pos h, if_neg hc, if_neg h1, if_pos h2]; omega
  | case4 cm i h hc h1 h2 => unfold skipS; rw [if_pos h, if_neg hc, if_neg h1, if_neg h2]; omega
  | case5 cm i h => unfold skipS; rw [if_neg h]; omega

theorem skip_le (s : ByteArray) (cm : Bool) (i : Nat) (hi : i ≤ s.size) : skipS s cm i ≤ s.size := by
  induction cm, i using skipS.induct s with
  | case1 i h ih => unfold skipS; rw [if_pos h, if_pos rfl]; exact ih (by omega)
  | case2 cm i h hc h1 ih => unfold skipS; rw [if_pos h, if_neg hc, if_pos h1]; exact ih (by omega)
  | case3 cm i h hc h1 h2 ih => unfold skipS; rw [if_pos h, if_neg hc, if_neg h1, if_pos h2]; exact ih (by omega)
  | case4 cm i h hc h1 h2 => unfold skipS; rw [if_pos h, if_neg hc, if_neg h1, if_neg h2]; omega
  | case5 cm i h => unfold skipS; rw [if_neg h]; omega

theorem run_ge (p : Nat → Bool) (s : ByteArray) : ∀ (n i : Nat), i ≤ runS p s i n
  | 0, i => Nat.le_refl _
  | n + 1, i => by
    unfold runS
    split
    · have := run_ge p s n (i + 1); omega
    · omega

theorem run_le (p : Nat → Bool) (s : ByteArray) : ∀ (n i : Nat), i ≤ s.size → runS p s i n ≤ s.size
  | 0, i, h => h
  | n + 1, i, h => by
    unfold runS
    split
    · rename_i h1
      simp at h1
      exact run_le p s n (i + 1) (by omega)
    · omega

theorem run_most (p : Nat → Bool) (s : ByteArray) : ∀ (n i : Nat), runS p s i n ≤ i + n
  | 0, i => Nat.le_refl _
  | n + 1, i => by
    unfold runS
    split
    · have := run_most p s n (i + 1); omega
    · omega

theorem ord_ge (s : ByteArray) (a k : Nat) : k ≤ (ordS s a k).1 := by
  induction k using ordS.induct s a with
  | case1 k h h1 ih => unfold ordS; rw [if_pos h, if_pos h1]; omega
  | case2 k h h1 => unfold ordS; rw [if_pos h, if_neg h1]; simp
  | case3 k h => unfold ordS; rw [if_neg h]; simp

theorem ord_le (s : ByteArray) (a k : Nat) (hk : k ≤ s.size) : (ordS s a k).1 ≤ s.size := by
  induction k using ordS.induct s a with
  | case1 k h h1 ih => unfold ordS; rw [if_pos h, if_pos h1]; exact ih (by omega)
  | case2 k h h1 => unfold ordS; rw [if_pos h, if_neg h1]; exact hk
  | case3 k h => unfold ordS; rw [if_neg h]; exact hk

theorem inner_of_letter {c : Nat} (h : (letterN c || decide (c = 95)) = true) : innerN c = true := by
  unfold innerN
  simp at h ⊢
  rcases h with h | h
  · exact Or.inl h
  · exact Or.inr (Or.inl h)

theorem one_word {s : ByteArray} {i kd a b n : Nat} (hi : i < s.size) (h : oneS s i = .word kd a b n) : i < n ∧ n ≤ s.size ∧ i ≤ a ∧ a < b ∧ b ≤ n := by
  unfold oneS at h
  have r1 := run_ge plainN s 16 (i + 1)
  have r2 := run_le plainN s 16 (i + 1) (by omega)
  have r3 := ord_ge s i (i + 1)
  have r4 := ord_le s i (i + 1) (by omega)
  have r6 := run_le innerN s 16 i (by omega)
  split at h
  · cases h; omega
  split at h
  · split at h
    · cases h; omega
    · cases h
  split at h
  · split at h
    · cases h; omega
    · cases h
  split at h
  · rename_i hl
    have hin := inner_of_letter hl
    have r7 : i + 1 ≤ runS innerN s i 16 := by
      have e : runS innerN s i 16 = if i < s.size && innerN (bt s i) then runS innerN s (i + 1) 15 else i := rfl
      have := run_ge innerN s 15 (i + 1)
      rw [e, hin]
      simp [hi]; omega
    split at h
    · cases h
    · cases h; omega
  · cases h

theorem one_bad {s : ByteArray} {i k : Nat} (hi : i < s.size) (h : oneS s i = .bad k) : i ≤ k ∧ k ≤ s.size := by
  unfold oneS at h
  have r1 := run_ge plainN s 16 (i + 1)
  have r2 := run_le plainN s 16 (i + 1) (by omega)
  have r3 := ord_ge s i (i + 1)
  have r4 := ord_le s i (i + 1) (by omega)
  have r5 := run_ge innerN s 16 i
  have r6 := run_le innerN s 16 i (by omega)
  split at h
  · cases h
  split at h
  · split at h
    · cases h
    · cases h; omega
  split at h
  · split at h
    · cases h
    · cases h; omega
  split at h
  · split at h
    · cases h; omega
    · cases h
  · cases h; omega

/-- The words from i on, ahead of the bad place, and that. -/
def allS (s : ByteArray) (i : Nat) : List Wd × Option Nat :=
  if h : skipS s false i < s.size then
    match h1 : oneS s (skipS s false i) with
    | .bad k => ([], some k)
    | .word kd a b n => (((kd : Int), s.extract a b, (skipS s false i : Int)) :: (allS s n).1, (allS s n).2)
  else ([], none)
  termination_by s.size - i
  decreasing_by
  all_goals
    have := one_word h h1
    have := skip_ge s false i
    omega

theorem all_end {s : ByteArray} {i : Nat} (h : ¬ skipS s false i < s.size) : allS s i = ([], none) := by unfold allS; rw [dif_neg h]
theorem all_bad {s : ByteArray} {i k : Nat} (h : skipS s false i < s.size) (h1 : oneS s (skipS s false i) = .bad k) : allS s i = ([], some k) := by
  unfold allS; rw [dif_pos h]; split <;> rename_i h2 <;> rw [h1] at h2 <;> cases h2; rfl
theorem all_word {s : ByteArray} {i kd a b n : Nat} (h : skipS s false i < s.size) (h1 : oneS s (skipS s false i) = .word kd a b n) :
    allS s i = (((kd : Int), s.extract a b, (skipS s false i : Int)) :: (allS s n).1, (allS s n).2) := by
  conv => lhs; unfold allS
  rw [dif_pos h]; split <;> rename_i h2 <;> rw [h1] at h2 <;> cases h2; rfl

theorem all_len (s : ByteArray) (i : Nat) : i ≤ s.size → (allS s i).1.length + i ≤ s.size := by
  induction i using allS.induct s with
  | case1 i h k h1 => intro hi; rw [all_bad h h1]; simpa using hi
  | case2 i h kd a b n h1 ih =>
    intro hi
    have := one_word h h1
    have := ih (by omega)
    have := skip_ge s false i
    rw [all_word h h1]
    simp only [List.length_cons]
    omega
  | case3 i h => intro hi; rw [all_end h]; simpa using hi

/-- What 'Words' tells. -/
def wordsS (s : ByteArray) : List Wd × Option Nat := if 8192 < s.size then ([], some 8192) else allS s 0
end Go.Px.Scan
