/-
  Texts of this claim: ScSpec, ScSpec2, ScSpec3, Gm1, Gw0, Gs1, Gs2, GwA, TrP, T02Ty, Gr1, Gr2, Gs3.
-/
import Derived.Test.YtkacbjhiobnbfaaY02
import Derived.Lib.IndexLaws
import Derived.Test.YtkacbjhiobnbfaaY04
import Derived.Lib.OthersKept
import Derived.Laws.RangeAny
import Derived.Test.YtkacbjhiobnbfaaRows
import Derived.WalkKit
import Derived.ProofKit
import Derived.OpenShut
import Derived.Deep.DeepHandedRow
import Derived.Deep.DeepWitnessRowRef
import Derived.Test.YtkacbjhiobnbfaaY05
import Derived.Test.YtkacbjhiobnbfaaY06
import Derived.Test.YtkacbjhiobnbfaaY07
/-
  What the words of a text are: plain Lean, no program in sight.
-/
set_option linter.unusedVariables false
namespace Go.Px.Scan
open Go.Px

def letterN (c : Nat) : Bool := decide (65 ≤ c ∧ c ≤ 90 ∨ 97 ≤ c ∧ c ≤ 122)
def innerN (c : Nat) : Bool := letterN c || decide (c = 95 ∨ 48 ≤ c ∧ c ≤ 57)
def plainN (c : Nat) : Bool := decide (32 ≤ c ∧ c ≤ 126 ∧ c ≠ 39)

def ordersL : List ByteArray := [⟨#[37, 108, 101, 102, 116]⟩, ⟨#[37, 110, 111, 110, 97, 115, 115, 111, 99]⟩, ⟨#[37, 110, 111, 110, 101]⟩, ⟨#[37, 112, 114, 101, 99]⟩,
  ⟨#[37, 114, 105, 103, 104, 116]⟩, ⟨#[37, 115, 116, 97, 114, 116]⟩, ⟨#[37, 116, 111, 107, 101, 110]⟩]

def whole (p : ByteArray) : Bool := ordersL.any fun o => p.toList == o.toList

inductive One where
  | word (kind : Nat) (a b next : Nat)
  | bad (k : Nat)

end Go.Px.Scan

/-
  Skipping, by the places of newlines.
-/
namespace Go.Px

end Go.Px

namespace Go.Px.Scan
open Go.Px

end Go.Px.Scan

/-
  Names and terminals' texts, and what they are to the words.
-/
namespace Go.Px.Scan
open Go.Px

def NameP (s : ByteArray) : Prop := 0 < s.size ∧ s.size ≤ 16 ∧ (letterN (bt s 0) || decide (bt s 0 = 95)) = true ∧ ∀ i, i < s.size → innerN (bt s i) = true
def TermP (s : ByteArray) : Prop := 0 < s.size ∧ s.size ≤ 16 ∧ ∀ i, i < s.size → plainN (bt s i) = true

theorem inner_plain {c : Nat} (h : innerN c = true) : plainN c = true := by
  simp [innerN, letterN, plainN] at *; omega
theorem NameP.term {s : ByteArray} (h : NameP s) : TermP s := ⟨h.1, h.2.1, fun i hi => inner_plain (h.2.2.2 i hi)⟩

theorem bs_ext {a b : ByteArray} (h : a.data.toList = b.data.toList) : a = b := by
  cases a; cases b; simp at h; cases h; rfl

/-! ### A text in quotes -/
end Go.Px.Scan

/-
  Names and terminals' texts in package gram and in the document's answer.
-/
namespace Go.Px.Scan
open Classical in
noncomputable def nmB (s : ByteArray) : Bool := decide (NameP s)
open Classical in
noncomputable def tmB (s : ByteArray) : Bool := decide (TermP s)
theorem nmB_iff {s : ByteArray} : nmB s = true ↔ NameP s := @decide_eq_true_iff _ (_)
theorem tmB_iff {s : ByteArray} : tmB s = true ↔ TermP s := @decide_eq_true_iff _ (_)
theorem nmB_no {s : ByteArray} (h : ¬ NameP s) : nmB s = false := by rw [Bool.eq_false_iff]; exact fun h' => h (nmB_iff.1 h')
theorem tmB_no {s : ByteArray} (h : ¬ TermP s) : tmB s = false := by rw [Bool.eq_false_iff]; exact fun h' => h (tmB_iff.1 h')
end Go.Px.Scan

namespace Go.Proofs.Ytkacbjhiobnbfaa
open Go.Px Go.Px.Scan Go.RowKit
set_option maxHeartbeats 1000000
set_option linter.unusedSimpArgs false

theorem bytes_of {p : Nat → Prop} (h : ∀ c : Fin 256, p c.val) (c : Nat) (hc : c < 256) : p c := h ⟨c, hc⟩
theorem or32 (c : Nat) (hc : c < 256) : (decide (97 ≤ bits BinOp.or IntKind.u8 (c : Int) 32) && decide (bits BinOp.or IntKind.u8 (c : Int) 32 ≤ 122)) = letterN c :=
  bytes_of (p := fun c => (decide (97 ≤ bits BinOp.or IntKind.u8 (c : Int) 32) && decide (bits BinOp.or IntKind.u8 (c : Int) 32 ≤ 122)) = letterN c) (by decide +kernel) c hc

theorem isTerm1_ct (r : Int) (w : World) : Ct Try.prog gram_isTerm_1.id #[.int .i32 r] w fun v w' => v = .bool (decide (r < 32 ∨ 126 < r ∨ r = 39)) ∧ w = w' := by
  refine gram_isTerm_1.ct fun R hR => ?_
  unfold gram_isTerm_1.run gram_isTerm_1.b1
  simp [go_sem]
  refine SPL_intro (fun h => ?_) (fun h => ?_) <;> simp at h
  · exact hR _ _ ⟨by simp [h], rfl⟩
  · simp [go_sem]
    refine SPL_intro (fun h2 => ?_) (fun h2 => ?_) <;> simp at h2
    · exact hR _ _ ⟨by simp [h2], rfl⟩
    · simp [go_sem]
      refine hR _ _ ⟨?_, rfl⟩
      congr 1
      rw [Bool.eq_iff_iff]
      simp
      omega

theorem chg_iter {w : World} {k : Nat} (s : ByteArray) (pos : Nat) : Chg (· = k) w (w.iterAt k s pos) :=
  ⟨rfl, rfl, rfl, by rw [Lib.iterAt_size]; exact Nat.le_refl _, fun i _ hi => Lib.iterAt_other w k i s pos hi⟩

theorem IndexFunc_ct {s : ByteArray} (hs : s.size ≤ maxLen) (w : World) : Ct Try.prog strings_IndexFunc.id #[.string s, .func (.func gram_isTerm_1.id) #[] #[]] w fun v w' => (∃ i, v = .int .i64 i ∧ (0 ≤ i ↔ ¬ ∀ j, j < s.size → plainN (bt s j) = true)) ∧ Chg (fun _ => False) w w' := by
  refine strings_IndexFunc.ct fun R hR => ?_
  unfold strings_IndexFunc.run strings_IndexFunc.b1
  refine CALL_of (S := fun v w' => (∃ i, v = .int .i64 i ∧ (0 ≤ i ↔ ¬ ∀ j, j < s.size → plainN (bt s j) = true)) ∧ Chg (fun _ => False) w w') (strings_indexFunc.ct fun R hR => ?_) (fun v w' h => hR v w' h)
  unfold strings_indexFunc.run strings_indexFunc.b1 strings_indexFunc.b4
  simp [go_sem]
  have hc0 : Chg (fun _ => False) w (w.iter s 0) := (Chg.refl _ _).alloc _
  have hk0 : (w.iter s 0).heap[w.heap.size]? = some (.stringIter s 0) := World.iter_heap w s 0
  refine strings_indexFunc.l6_intro _ _ _ _ _ (fun W => ∃ j, j ≤ s.size ∧ W.heap[w.heap.size]? = some (.stringIter s j) ∧ (∀ i, i < j → plainN (bt s i) = true) ∧ Chg (fun _ => False) w W) (fun W => s.size - W.iterPos w.heap.size) ⟨0, Nat.zero_le _, hk0, fun i h => by omega, hc0⟩ ?_
  rintro W ⟨j, hj, hk, hall, hc⟩ C hC
  unfold strings_indexFunc.b7
  by_cases hlt : j < s.size
  · have hb : (s[j]'hlt).toNat = bt s j := by unfold bt; rw [dif_pos hlt]
    rw [RUN_eq, Lib.run_next_any_at W w.heap.size s j 0 hk hlt, RES_ok]
    simp [go_sem]
    refine CALLY_of (isTerm1_ct _ _) ?_
    rintro _ _ ⟨rfl, rfl⟩
    simp [go_sem]
    have hci : Chg (fun _ => False) w (W.iterAt w.heap.size s (j + (Utf8.decode s j).2)) := hc.trans' (chg_iter s _) (fun i hi h => by omega)
    refine SPL_intro (fun h => ?_) (fun h => ?_)
    · refine hR _ _ ⟨⟨j, rfl, ?_⟩, hci⟩
      refine ⟨fun _ hp => ?_, fun _ => by omega⟩
      have h1 := hp j hlt
      have h2 : bt s j < 128 := by simp [plainN] at h1; omega
      rw [decode_ascii s j hlt (by rw [hb]; exact h2), hb] at h
      simp [plainN] at h1 h
      omega
    · have hlow : bt s j < 128 := by
        rcases Nat.lt_or_ge (bt s j) 128 with h2 | h2
        · exact h2
        · have := (decode_high s j hlt (by rw [hb]; exact h2)).1
          simp at h
          omega
      have hd := decode_ascii s j hlt (by rw [hb]; exact hlow)
      rw [hd] at h hci ⊢
      rw [hb] at h
      simp at h
      refine hC _ ⟨j + 1, hlt, Lib.iterAt_heap _ _ _ _ _ hk, fun i hi => ?_, hci⟩ ?_
      · by_cases he : i = j
        · rw [he]; simp [plainN]; omega
        · exact hall i (by omega)
      · unfold World.iterPos
        rw [Lib.iterAt_heap _ _ _ _ _ hk, hk]
        simp; omega
  · rw [RUN_eq, Lib.run_next_end_at W w.heap.size s j 0 hk hlt, RES_ok]
    simp [go_sem]
    unfold strings_indexFunc.b3
    refine hR _ _ ⟨⟨-1, rfl, ?_⟩, hc⟩
    refine ⟨fun h => by omega, fun h => absurd (fun i hi => hall i (by omega)) h⟩

theorem str_empty {s : ByteArray} : (s.toList == []) = decide (s.size = 0) := by
  rw [ByteArray.toList_eq]
  by_cases h : s.size = 0
  · have : s.data.toList = [] := List.eq_nil_of_length_eq_zero (by simpa using h)
    simp [this, h]
  · have : s.data.toList ≠ [] := fun e => h (by have := congrArg List.length e; simpa using this)
    rw [beq_eq_false_iff_ne.2 this]; simp [h]

theorem size_of_nil {s : ByteArray} (h : s.toList = []) : s.size = 0 := by
  rw [ByteArray.toList_eq] at h
  have h2 : s.data.toList.length = s.size := by simp
  rw [h] at h2
  exact h2.symm

theorem isTerm_ct {s : ByteArray} (hs : s.size ≤ maxLen) (w : World) : Ct Try.prog gram_isTerm.id #[.string s] w fun v w' => v = .bool (tmB s) ∧ Chg (fun _ => False) w w' := by
  refine gram_isTerm.ct fun R hR => ?_
  have no : ¬ TermP s → R (.returned (.bool false)) w := fun h => hR _ _ ⟨by rw [tmB_no h], Chg.refl _ _⟩
  unfold gram_isTerm.run gram_isTerm.b1
  simp [go_sem]
  refine SPL_intro (fun h => ?_) (fun h => ?_)
  · have hpos : 0 < s.size := by
      rcases Nat.eq_zero_or_pos s.size with h0 | h0
      · have := str_empty (s := s)
        rw [h0] at this
        simp at this h
        exact absurd this h
      · exact h0
    simp [go_sem]
    refine SPL_intro (fun h2 => ?_) (fun h2 => ?_) <;> simp at h2
    · refine CALL_of (IndexFunc_ct hs w) ?_
      rintro _ w1 ⟨⟨i, rfl, hi⟩, hc⟩
      simp [go_sem]
      refine hR _ _ ⟨?_, hc⟩
      congr 1
      rw [Bool.eq_iff_iff, tmB_iff, decide_eq_true_iff]
      constructor
      · intro h3
        refine ⟨hpos, by omega, ?_⟩
        exact Classical.byContradiction fun h4 => by have := hi.2 h4; omega
      · intro h3
        rcases Int.lt_or_le i 0 with h4 | h4
        · exact h4
        · exact absurd h3.2.2 (hi.1 h4)
    · exact no fun h3 => by have := h3.2.1; omega
  · refine no fun h3 => ?_
    have h4 := h3.1
    have h5 : s.toList = [] := by simpa using h
    have h6 := size_of_nil h5
    omega

theorem isName_ct {s : ByteArray} (hs : s.size ≤ maxLen) (w : World) : Ct Try.prog gram_isName.id #[.string s] w fun v w' => v = .bool (nmB s) ∧ Chg (fun _ => False) w w' := by
  refine gram_isName.ct fun R hR => ?_
  have no : ¬ NameP s → R (.returned (.bool false)) w := fun h => hR _ _ ⟨by rw [nmB_no h], Chg.refl _ _⟩
  unfold gram_isName.run gram_isName.b1 gram_isName.b4
  simp [go_sem]
  refine gram_isName.l6_intro _ _ _ _ _ (fun x w1 => ∃ k : Nat, x = .int .i64 k ∧ k ≤ s.size ∧ (∀ i, i < k → innerN (bt s i) = true) ∧ (0 < k → (letterN (bt s 0) || decide (bt s 0 = 95)) = true) ∧ w = w1) (fun x _ => s.size - iv x) ⟨0, rfl, by omega, fun i h => by omega, fun h => by omega, rfl⟩ ?_
  rintro _ _ ⟨k, rfl, hk, hall, hfst, rfl⟩ C hC
  unfold gram_isName.b7
  simp [go_sem]
  refine SPL_intro (fun h => ?_) (fun h => ?_) <;> simp at h
  · have step : ∀ b, (b = false → innerN (bt s k) = true ∧ (k = 0 → (letterN (bt s 0) || decide (bt s 0 = 95)) = true)) → (b = true → ¬ NameP s) → gram_isName.b12 R C (.int .i64 k) (.bool b) w := by
      intro b h1 h2
      unfold gram_isName.b12
      cases b with
      | true => simp [go_sem]; exact no (h2 rfl)
      | false =>
        simp [go_sem]
        unfold gram_isName.b9
        simp [go_sem, wrap_succ h hs]
        refine hC _ _ ⟨k + 1, by simp, by omega, fun i hi => ?_, fun _ => ?_, rfl⟩ (by simp [iv]; omega)
        · by_cases he : i = k
          · rw [he]; exact (h1 rfl).1
          · exact hall i (by omega)
        · by_cases he : k = 0
          · exact (h1 rfl).2 he
          · exact hfst (by omega)
    have hb := bt_lt s k
    have hor := or32 (bt s k) hb
    have noK : innerN (bt s k) = false → ¬ NameP s := fun h1 h2 => by rw [h2.2.2.2 k h] at h1; cases h1
    have no0 : k = 0 → letterN (bt s k) = false → bt s k ≠ 95 → ¬ NameP s := fun h1 h2 h3 h4 => by
      have := h4.2.2.1
      rw [← h1, h2] at this
      simp at this
      exact h3 this
    have h95 : bt s k = 95 → ∀ b, b = false → gram_isName.b12 R C (.int .i64 k) (.bool b) w := fun h1 b hb => step b (fun _ => ⟨by rw [h1]; rfl, fun h0 => by rw [h0] at h1; rw [h1]; rfl⟩) (fun e => by rw [hb] at e; cases e)
    have hlet : letterN (bt s k) = true → gram_isName.b12 R C (.int .i64 k) (.bool false) w := fun h1 => step false (fun _ => ⟨by simp [innerN, h1], fun h0 => by rw [h0] at h1; rw [h1]; rfl⟩) (fun e => by cases e)
    unfold gram_isName.b11
    simp [go_sem, index_bt, h]
    refine SPL_intro (fun h1 => ?_) (fun h1 => ?_)
    · have h95' : bt s k ≠ 95 := by simp at h1; omega
      simp [go_sem]
      -- no letter
      have nolet : letterN (bt s k) = false → (k = 0 → gram_isName.b12 R C (.int .i64 k) (.bool true) w) ∧ (¬ k = 0 → bt s k < 48 → gram_isName.b12 R C (.int .i64 k) (.bool true) w) ∧ (¬ k = 0 → 48 ≤ bt s k → gram_isName.b12 R C (.int .i64 k) (.bool (decide ((57 : Int) < bt s k))) w) := fun hl => by
        refine ⟨fun h0 => step _ (fun e => by cases e) (fun _ => no0 h0 hl h95'), fun h0 h48 => step _ (fun e => by cases e) (fun _ => noK ?_), fun h0 h48 => step _ (fun e => ⟨?_, fun e0 => absurd e0 h0⟩) (fun e => noK ?_)⟩
        · simp [innerN, hl]; omega
        · simp at e; simp [innerN]; omega
        · simp at e; simp [innerN, hl]; omega
      refine SPL_intro (fun h2 => ?_) (fun h2 => ?_)
      · have hl : letterN (bt s k) = false := by rw [← hor]; simp at h2 ⊢; omega
        obtain ⟨n1, n2, n3⟩ := nolet hl
        simp [go_sem]
        refine SPL_intro (fun h3 => ?_) (fun h3 => ?_)
        · exact n1 (by simpa using h3)
        · have hk0 : ¬ k = 0 := by simpa using h3
          simp [go_sem]
          refine SPL_intro (fun h4 => ?_) (fun h4 => ?_)
          · exact n2 hk0 (by simp at h4; omega)
          · simp [go_sem]
            exact n3 hk0 (by simp at h4; omega)
      · simp [go_sem]
        refine SPL_intro (fun h3 => ?_) (fun h3 => ?_)
        · have hl : letterN (bt s k) = false := by rw [← hor]; simp at h2 h3 ⊢; omega
          obtain ⟨n1, n2, n3⟩ := nolet hl
          simp [go_sem]
          refine SPL_intro (fun h5 => ?_) (fun h5 => ?_)
          · exact n1 (by simpa using h5)
          · have hk0 : ¬ k = 0 := by simpa using h5
            simp [go_sem]
            refine SPL_intro (fun h4 => ?_) (fun h4 => ?_)
            · exact n2 hk0 (by simp at h4; omega)
            · simp [go_sem]
              exact n3 hk0 (by simp at h4; omega)
        · exact hlet (by rw [← hor]; simp at h2 h3 ⊢; omega)
    · exact h95 (by simp at h1; omega) false rfl
  · unfold gram_isName.b3
    have fin : ∀ b, b = nmB s → R (.returned (.bool b)) w := fun b hb => hR _ _ ⟨by rw [hb], Chg.refl _ _⟩
    simp [go_sem]
    refine SPL_intro (fun h1 => ?_) (fun h1 => ?_)
    · have hpos : 0 < s.size := by
        rcases Nat.eq_zero_or_pos s.size with h0 | h0
        · have := str_empty (s := s)
          rw [h0] at this
          simp at this h1
          exact absurd this h1
        · exact h0
      simp [go_sem]
      refine fin _ ?_
      rw [Bool.eq_iff_iff, nmB_iff]
      simp
      constructor
      · intro h2
        exact ⟨hpos, by omega, hfst (by omega), fun i hi => hall i (by omega)⟩
      · intro h2; have := h2.2.1; omega
    · refine no fun h3 => ?_
      have h4 := h3.1
      have h5 : s.toList = [] := by simpa using h1
      have h6 := size_of_nil h5
      omega

theorem ref02_IsTerm_ct {s : ByteArray} (hs : s.size ≤ maxLen) (w : World) : Ct Try.prog ref02_IsTerm.id #[.string s] w fun v w' => v = .bool (tmB s) ∧ w = w' := by
  refine ref02_IsTerm.ct fun R hR => ?_
  have no : ¬ TermP s → ∀ v, v = Value.bool false → R (.returned v) w := fun h v hv => hR _ _ ⟨by rw [hv, tmB_no h], rfl⟩
  unfold ref02_IsTerm.run ref02_IsTerm.b1 ref02_IsTerm.b4
  refine ref02_IsTerm.l6_intro _ _ _ _ (fun x w1 => ∃ k : Nat, x = .int .i64 k ∧ k ≤ s.size ∧ (∀ i, i < k → plainN (bt s i) = true) ∧ w = w1) (fun x _ => s.size - iv x) ⟨0, rfl, by omega, fun i h => by omega, rfl⟩ ?_
  rintro _ _ ⟨k, rfl, hk, hall, rfl⟩ C hC
  unfold ref02_IsTerm.b7
  simp [go_sem]
  refine SPL_intro (fun h => ?_) (fun h => ?_) <;> simp at h
  · have step : ∀ b, b = !(plainN (bt s k)) → ref02_IsTerm.b12 R C (.int .i64 k) (.bool b) w := by
      intro b hb
      unfold ref02_IsTerm.b12
      cases b with
      | true =>
        simp [go_sem]
        exact no (fun hn => by have := hn.2.2 k h; rw [this] at hb; cases hb) _ rfl
      | false =>
        simp [go_sem]
        unfold ref02_IsTerm.b9
        simp [go_sem, wrap_succ h hs]
        refine hC _ _ ⟨k + 1, by simp, by omega, fun i hik => ?_, rfl⟩ (by simp [iv]; omega)
        by_cases he : i = k
        · rw [he]; simpa using hb
        · exact hall i (by omega)
    unfold ref02_IsTerm.b11
    simp [go_sem, index_bt, h]
    refine SPL_intro (fun h1 => ?_) (fun h1 => ?_) <;> simp at h1
    · exact step _ (by simp [plainN]; omega)
    simp [go_sem, index_bt, h]
    refine SPL_intro (fun h2 => ?_) (fun h2 => ?_) <;> simp at h2
    · exact step _ (by simp [plainN]; omega)
    simp [go_sem, index_bt, h]
    exact step _ (by rw [Bool.eq_iff_iff]; simp [plainN]; omega)
  · unfold ref02_IsTerm.b3
    have fin : ∀ b, b = tmB s → R (.returned (.bool b)) w := fun b hb => hR _ _ ⟨by rw [hb], rfl⟩
    simp [go_sem]
    refine SPL_intro (fun h1 => ?_) (fun h1 => ?_) <;> simp at h1
    · simp [go_sem]
      refine fin _ ?_
      rw [Bool.eq_iff_iff, tmB_iff]
      simp
      constructor
      · intro h2; exact ⟨by omega, by omega, fun i hi => hall i (by omega)⟩
      · intro h2; have := h2.2.1; omega
    · exact no (fun hn => by have := hn.1; omega) _ rfl

theorem ref02_IsName_ct {s : ByteArray} (hs : s.size ≤ maxLen) (w : World) : Ct Try.prog ref02_IsName.id #[.string s] w fun v w' => v = .bool (nmB s) ∧ w = w' := by
  refine ref02_IsName.ct fun R hR => ?_
  have no : ¬ NameP s → R (.returned (.bool false)) w := fun h => hR _ _ ⟨by rw [nmB_no h], rfl⟩
  unfold ref02_IsName.run ref02_IsName.b1 ref02_IsName.b4
  refine ref02_IsName.l6_intro _ _ _ _ (fun x w1 => ∃ k : Nat, x = .int .i64 k ∧ k ≤ s.size ∧ (∀ i, i < k → innerN (bt s i) = true) ∧ (0 < k → (letterN (bt s 0) || decide (bt s 0 = 95)) = true) ∧ w = w1) (fun x _ => s.size - iv x) ⟨0, rfl, by omega, fun i h => by omega, fun h => by omega, rfl⟩ ?_
  rintro _ _ ⟨k, rfl, hk, hall, hfst, rfl⟩ C hC
  unfold ref02_IsName.b7
  simp [go_sem]
  refine SPL_intro (fun h => ?_) (fun h => ?_) <;> simp at h
  · have h12 : ∀ b, b = (letterN (bt s k) || decide (bt s k = 95)) → ref02_IsName.b12 R C (.string s) (.int .i64 k) (.bool b) w := by
      intro b hb
      have h13 : ∀ d, d = (decide (48 ≤ bt s k ∧ bt s k ≤ 57) && decide (0 < k)) → ref02_IsName.b13 R C (.int .i64 k) (.bool b) (.bool d) w := by
        intro d hd
        have bad : (b || d) = false → ref02_IsName.b14 R C (.int .i64 k) (.bool true) w := by
          intro hbd
          unfold ref02_IsName.b14
          simp [go_sem]
          refine no fun hn => ?_
          have h1 := hn.2.2.2 k h
          have h2 := hn.2.2.1
          rw [hb, hd] at hbd
          by_cases h0 : k = 0
          · rw [h0, h2] at hbd
            cases hbd
          · simp [innerN] at h1 hbd
            rcases h1 with h1 | h1 | h1
            · rw [h1] at hbd; simp at hbd
            · exact hbd.1.2 h1
            · have := hbd.2 h1.1 h1.2; omega
        have good : (b || d) = true → ref02_IsName.b14 R C (.int .i64 k) (.bool false) w := by
          intro hbd
          unfold ref02_IsName.b14
          simp [go_sem]
          unfold ref02_IsName.b9
          simp [go_sem, wrap_succ h hs]
          rw [hb, hd] at hbd
          refine hC _ _ ⟨k + 1, by simp, by omega, fun i hi => ?_, fun _ => ?_, rfl⟩ (by simp [iv]; omega)
          · by_cases he : i = k
            · rw [he]
              simp [innerN] at hbd ⊢
              rcases hbd with hbd | hbd
              · rcases hbd with hbd | hbd
                · exact Or.inl hbd
                · exact Or.inr (Or.inl hbd)
              · exact Or.inr (Or.inr hbd.1)
            · exact hall i (by omega)
          · by_cases he : k = 0
            · rw [he] at hbd
              simp at hbd ⊢
              exact hbd
            · exact hfst (by omega)
        unfold ref02_IsName.b13
        cases b with
        | true => simp [go_sem]; exact good rfl
        | false =>
          simp [go_sem]
          cases d with
          | true => exact good rfl
          | false => exact bad rfl
      unfold ref02_IsName.b12
      simp [go_sem, index_bt, h]
      refine SPL_intro (fun h1 => ?_) (fun h1 => ?_)
      · simp [go_sem, index_bt, h]
        refine SPL_intro (fun h2 => ?_) (fun h2 => ?_)
        · simp [go_sem]
          refine h13 _ ?_
          rw [Bool.eq_iff_iff]
          simp at h1 h2 ⊢
          omega
        · refine h13 false ?_
          simp at h1 h2 ⊢
          omega
      · refine h13 false ?_
        simp at h1 ⊢
        omega
    unfold ref02_IsName.b11
    simp [go_sem, index_bt, h]
    have e1 : ∀ c : Nat, letterN c = decide (65 ≤ c ∧ c ≤ 90 ∨ 97 ≤ c ∧ c ≤ 122) := fun c => rfl
    refine SPL_intro (fun h1 => ?_) (fun h1 => ?_)
    all_goals simp [go_sem, index_bt, h]
    · refine SPL_intro (fun h2 => ?_) (fun h2 => ?_)
      · exact h12 true (by simp at h1 h2; simp [e1]; omega)
      · simp [go_sem, index_bt, h]
        refine SPL_intro (fun h3 => ?_) (fun h3 => ?_)
        all_goals simp [go_sem, index_bt, h]
        · refine SPL_intro (fun h4 => ?_) (fun h4 => ?_)
          · exact h12 true (by simp at h3 h4; simp [e1]; omega)
          · simp [go_sem, index_bt, h]
            exact h12 _ (by rw [Bool.eq_iff_iff]; simp at h1 h2 h3 h4; simp [e1]; omega)
        · exact h12 _ (by rw [Bool.eq_iff_iff]; simp at h1 h2 h3; simp [e1]; omega)
    · refine SPL_intro (fun h3 => ?_) (fun h3 => ?_)
      all_goals simp [go_sem, index_bt, h]
      · refine SPL_intro (fun h4 => ?_) (fun h4 => ?_)
        · exact h12 true (by simp at h3 h4; simp [e1]; omega)
        · simp [go_sem, index_bt, h]
          exact h12 _ (by rw [Bool.eq_iff_iff]; simp at h1 h3 h4; simp [e1]; omega)
      · exact h12 _ (by rw [Bool.eq_iff_iff]; simp at h1 h3; simp [e1]; omega)
  · unfold ref02_IsName.b3
    have fin : ∀ b, b = nmB s → R (.returned (.bool b)) w := fun b hb => hR _ _ ⟨by rw [hb], rfl⟩
    simp [go_sem]
    refine SPL_intro (fun h1 => ?_) (fun h1 => ?_) <;> simp at h1
    · simp [go_sem]
      refine fin _ ?_
      rw [Bool.eq_iff_iff, nmB_iff]
      simp
      constructor
      · intro h2; exact ⟨by omega, by omega, hfst (by omega), fun i hi => hall i (by omega)⟩
      · intro h2; have := h2.2.1; omega
    · exact no fun hn => by have := hn.1; omega
end Go.Proofs.Ytkacbjhiobnbfaa

/-
  The rows of this seat in general.
-/
namespace Go.Proofs.Ytkacbjhiobnbfaa
open Go.Px Go.Px.Scan Go.ChangeShapes Go.WideShapes Go.ChangeAt Go.RowKit

theorem own : ownKnob Try.prog.godebug = none := by kernel_rfl
theorem cells9 : Try.prog.cellsOf 9 = 1 := by kernel_rfl
theorem opens9 : Opens Try.prog 9 rStr := opens_str Try.underlying9 cells9 (by kernel_rfl)
theorem opens3 : Opens Try.prog 3 rInt := opens_int Try.underlying3 (by kernel_rfl) (by kernel_rfl)
theorem opens24 : Opens Try.prog 24 (rSlice rInt) := opens_slice Try.underlying24 (by kernel_rfl) (by kernel_rfl) (by decide) opens3
theorem laid_none (P : Program) (w : World) : laidMetH P [] w := ⟨[], rfl, List.nodup_nil, fun _ _ h => by cases h⟩
end Go.Proofs.Ytkacbjhiobnbfaa

/-
  Grammars, plainly: which of them may be.
-/
namespace Go.Px.Scan
open Go.Px

/-- A grammar. -/
structure Gr where
  terms : List (ByteArray × Int)
  nons : List ByteArray
  levels : List Int
  start : Int
  prods : List (Int × List Int × Int)

def addL (acc : List Int) (x : Int) : List Int := if x ∈ acc then acc else acc ++ [x]
/-- The Lefts, in the order in which they first come. -/
def leftsOf (l : List (Int × List Int × Int)) : List Int := l.foldl (fun a p => addL a p.1) []

structure TermOk (g : Gr) (t : ByteArray × Int) : Prop where
  name : TermP t.1
  lo : 0 ≤ t.2
  hi : t.2 ≤ g.levels.length

structure SymsP (g : Gr) (a : Nat) : Prop where
  t0 : g.terms.head? = some (⟨#[]⟩, 0)
  n0 : a < g.nons.length
  t1 : g.terms.length ≤ 65
  n1 : g.nons.length ≤ 64 + a
  sum : g.terms.length - 1 + (g.nons.length - a) ≤ 64
  terms : ∀ t ∈ g.terms.tail, TermOk g t
  levels : ∀ i (h : i < g.levels.length), 1 ≤ g.levels[i] ∧ g.levels[i] ≤ 3 ∧ ∃ t ∈ g.terms.tail, t.2 = (i : Int) + 1
  tnd : (g.terms.tail.map (·.1)).Nodup
  nnd : (g.nons.drop a).Nodup
  nnam : ∀ s ∈ g.nons.drop a, NameP s

structure ProdOk (g : Gr) (a : Nat) (p : Int × List Int × Int) : Prop where
  l0 : (g.terms.length + a : Int) ≤ p.1
  l1 : p.1 < (g.terms.length + g.nons.length : Int)
  v0 : 0 ≤ p.2.2
  v1 : p.2.2 ≤ g.levels.length
  right : ∀ s ∈ p.2.1, 1 ≤ s ∧ s < (g.terms.length + g.nons.length : Int) ∧ ((g.terms.length : Int) ≤ s → (g.terms.length + a : Int) ≤ s)

structure ProdsP (g : Gr) (a : Nat) : Prop where
  c0 : a < g.prods.length
  c1 : g.prods.length ≤ 96 + a
  each : ∀ p ∈ g.prods.drop a, ProdOk g a p
  lefts : (leftsOf (g.prods.drop a)).length + a = g.nons.length
  s0 : (g.terms.length + a : Int) ≤ g.start
  s1 : g.start < (g.terms.length + g.nons.length : Int)

/-- May a grammar be? -/
structure ValidP (g : Gr) : Prop where
  syms : SymsP g 0
  prods : ProdsP g 0
  sorted : (leftsOf g.prods).Pairwise (· ≤ ·)

/-- Is it one with the added production? -/
structure ClosedP (g : Gr) : Prop where
  first : g.nons.head? = some ⟨#[]⟩
  syms : SymsP g 1
  prods : ProdsP g 1
  added : g.prods.head? = some ((g.terms.length : Int), [g.start], 0)

open Classical in
noncomputable def symB (g : Gr) (a : Nat) : Bool := decide (SymsP g a)
open Classical in
noncomputable def prodB (g : Gr) (a : Nat) : Bool := decide (ProdsP g a)
open Classical in
noncomputable def validB (g : Gr) : Bool := decide (ValidP g)
open Classical in
noncomputable def closedB (g : Gr) : Bool := decide (ClosedP g)
theorem symB_iff {g : Gr} {a : Nat} : symB g a = true ↔ SymsP g a := @decide_eq_true_iff _ (_)
theorem prodB_iff {g : Gr} {a : Nat} : prodB g a = true ↔ ProdsP g a := @decide_eq_true_iff _ (_)
theorem validB_iff {g : Gr} : validB g = true ↔ ValidP g := @decide_eq_true_iff _ (_)
theorem closedB_iff {g : Gr} : closedB g = true ↔ ClosedP g := @decide_eq_true_iff _ (_)
theorem bool_no {b : Bool} {p : Prop} (i : b = true ↔ p) (h : ¬ p) : b = false := by
  cases b
  · rfl
  · exact absurd (i.1 rfl) h
theorem bool_eq {a b : Bool} (h : a = true ↔ b = true) : a = b := Bool.eq_iff_iff.2 h

/-! ### Lefts -/
theorem addL_nodup {acc : List Int} (h : acc.Nodup) (x : Int) : (addL acc x).Nodup := by
  unfold addL
  split
  · exact h
  · rename_i hx
    refine List.nodup_append.2 ⟨h, by simp, fun a ha b hb => ?_⟩
    simp at hb
    subst hb
    intro e; subst e; exact hx ha
theorem addL_mem {acc : List Int} {x y : Int} : y ∈ addL acc x ↔ y ∈ acc ∨ y = x := by
  unfold addL
  split
  · rename_i hx
    exact ⟨Or.inl, fun h => h.elim id fun e => e ▸ hx⟩
  · simp
theorem leftsOf_snoc (l : List (Int × List Int × Int)) (p : Int × List Int × Int) : leftsOf (l ++ [p]) = addL (leftsOf l) p.1 := by simp [leftsOf]
theorem foldl_lefts (l : List (Int × List Int × Int)) : ∀ acc : List Int, acc.Nodup → (l.foldl (fun a p => addL a p.1) acc).Nodup ∧ ∀ y, y ∈ l.foldl (fun a p => addL a p.1) acc ↔ y ∈ acc ∨ ∃ p ∈ l, p.1 = y := by
  induction l with
  | nil => intro acc h; exact ⟨h, fun y => by simp⟩
  | cons p r ih =>
    intro acc h
    obtain ⟨h1, h2⟩ := ih (addL acc p.1) (addL_nodup h _)
    refine ⟨h1, fun y => ?_⟩
    rw [List.foldl_cons, h2, addL_mem]
    simp [or_assoc, eq_comm]
theorem leftsOf_nodup (l : List (Int × List Int × Int)) : (leftsOf l).Nodup := (foldl_lefts l [] (by simp)).1
theorem leftsOf_mem {l : List (Int × List Int × Int)} {y : Int} : y ∈ leftsOf l ↔ ∃ p ∈ l, p.1 = y := by
  have := (foldl_lefts l [] (by simp)).2 y
  simpa [leftsOf] using this

/-! ### Counting -/
theorem nodup_le {α : Type} [DecidableEq α] : ∀ {l m : List α}, l.Nodup → (∀ x ∈ l, x ∈ m) → l.length ≤ m.length
  | [], _, _, _ => Nat.zero_le _
  | x :: l, m, h, hs => by
    rw [List.nodup_cons] at h
    have hx := hs x (by simp)
    have := nodup_le (l := l) (m := m.erase x) h.2 fun y hy => (List.mem_erase_of_ne (fun e => h.1 (by rw [← e]; exact hy))).2 (hs y (by simp [hy]))
    rw [List.length_erase_of_mem hx] at this
    have hpos : 0 < m.length := List.length_pos_of_mem hx
    simp
    omega

/-- A row of numbers, each one more. -/
theorem sorted_iff {l : List Int} (hnd : l.Nodup) {t : Int} (hb : ∀ x ∈ l, t ≤ x ∧ x < t + l.length) : l.Pairwise (· ≤ ·) ↔ ∀ i (h : i < l.length), l[i] = t + i := by
  constructor
  · intro hp
    have hlt : ∀ i j (hi : i < j) (hj : j < l.length), l[i] < l[j] := by
      intro i j hi hj
      have h1 := List.pairwise_iff_getElem.1 hp i j (by omega) hj hi
      have h2 := List.pairwise_iff_getElem.1 hnd i j (by omega) hj hi
      have h3 : l[i] ≠ l[j] := h2
      omega
    have lo : ∀ i (h : i < l.length), t + i ≤ l[i] := by
      intro i
      induction i with
      | zero => intro h; have := (hb l[0] (List.getElem_mem h)).1; simpa using this
      | succ i ih =>
        intro h
        have h1 := ih (by omega)
        have h2 := hlt i (i + 1) (by omega) h
        omega
    have hi' : ∀ d i (h : i < l.length), i + d + 1 = l.length → l[i] ≤ t + i := by
      intro d
      induction d with
      | zero => intro i h e; have := (hb l[i] (List.getElem_mem h)).2; omega
      | succ d ih =>
        intro i h e
        have h1 := ih (i + 1) (by omega) (by omega)
        have h2 := hlt i (i + 1) (by omega) (by omega)
        omega
    intro i h
    have := lo i h
    have := hi' (l.length - i - 1) i h (by omega)
    omega
  · intro h
    refine List.pairwise_iff_getElem.2 fun i j hi hj hij => ?_
    rw [h i hi, h j hj]; omega

theorem ProdsP.row {g : Gr} (h : ProdsP g 0) : (leftsOf g.prods).Pairwise (· ≤ ·) ↔ ∀ i (hi : i < (leftsOf g.prods).length), (leftsOf g.prods)[i] = (g.terms.length : Int) + i := by
  have hl := h.lefts
  rw [List.drop_zero] at hl
  refine sorted_iff (leftsOf_nodup _) fun x hx => ?_
  obtain ⟨p, hp, rfl⟩ := leftsOf_mem.1 hx
  have := h.each p (by simpa using hp)
  have h1 := this.l0
  have h2 := this.l1
  omega

/-- No more levels than terminals. -/
theorem SymsP.lev {g : Gr} {a : Nat} (h : SymsP g a) : g.levels.length ≤ 64 := by
  have h1 : ((List.range g.levels.length).map fun i : Nat => (i : Int) + 1).length ≤ (g.terms.tail.map (·.2)).length := by
    refine nodup_le ?_ fun x hx => ?_
    · refine List.pairwise_map.2 ?_
      refine List.Pairwise.imp ?_ (List.nodup_range (n := g.levels.length))
      intro a b hab e
      exact hab (by omega)
    · obtain ⟨i, hi, rfl⟩ := List.mem_map.1 hx
      obtain ⟨_, _, t, ht, e⟩ := h.levels i (by simpa using hi)
      exact List.mem_map.2 ⟨t, ht, e⟩
  have := h.t1
  simp at h1
  omega
end Go.Px.Scan

/-
  Grammars in memory.
-/
namespace Go.Px.Scan
open Go.Px Go.RowKit

def rTerm : Rep (ByteArray × Int) := rStr.prod rInt
def rPr : Rep (Int × List Int × Int) := rInt.prod ((rSlice rInt).prod rInt)
def rGram : Rep Gr := Rep.map ((rSlice rTerm).prod ((rSlice rStr).prod ((rSlice rInt).prod (rInt.prod (rSlice rPr))))) fun g => (g.terms, g.nons, g.levels, g.start, g.prods)

section
variable {w : World} {B : Nat} {A : Option Addr} {n c : Nat}

theorem terms_at {l : List (ByteArray × Int)} (h : (rSlice rTerm).at1 w B (.slice A n c) l) {i : Nat} (hi : i < l.length) :
    ∃ b o, A = some ⟨b, o, none⟩ ∧ b < B ∧ w.cell? ⟨b, o + i * 2, none⟩ = some (.string l[i].1) ∧ w.cell? ⟨b, o + i * 2 + 1, none⟩ = some (.int .i64 l[i].2) ∧ l[i].1.size ≤ maxLen ∧ inI64 l[i].2 := by
  obtain ⟨b, o, ys, hA, hb, ⟨c1, c2, rfl, ⟨rfl, h1⟩, rfl, h2⟩, hc⟩ := slice_at h hi
  exact ⟨b, o, hA, hb, hc 0 _ rfl, hc 1 _ rfl, h1, h2⟩

theorem prods_at {l : List (Int × List Int × Int)} (h : (rSlice rPr).at1 w B (.slice A n c) l) {i : Nat} (hi : i < l.length) :
    ∃ b o v, A = some ⟨b, o, none⟩ ∧ b < B ∧ w.cell? ⟨b, o + i * 3, none⟩ = some (.int .i64 l[i].1) ∧ w.cell? ⟨b, o + i * 3 + 1, none⟩ = some v ∧ w.cell? ⟨b, o + i * 3 + 2, none⟩ = some (.int .i64 l[i].2.2) ∧
      (rSlice rInt).at1 w B v l[i].2.1 ∧ inI64 l[i].1 ∧ inI64 l[i].2.2 := by
  obtain ⟨b, o, ys, hA, hb, ⟨c1, c2, rfl, ⟨rfl, h1⟩, c3, c4, rfl, h2, rfl, h3⟩, hc⟩ := slice_at h hi
  obtain ⟨A', k, rfl, h4⟩ := h2
  exact ⟨b, o, _, hA, hb, hc 0 _ rfl, hc 1 _ rfl, hc 2 _ rfl, ⟨A', k, rfl, h4⟩, h1, h3⟩

/-- A grammar's value. -/
structure GrV (w : World) (B : Nat) (v : Value) (g : Gr) : Prop where
  ex : ∃ A1 c1 A2 c2 A3 c3 A4 c4, v = .agg #[.slice A1 g.terms.length c1, .slice A2 g.nons.length c2, .slice A3 g.levels.length c3, .int .i64 g.start, .slice A4 g.prods.length c4] ∧
    (rSlice rTerm).at1 w B (.slice A1 g.terms.length c1) g.terms ∧ (rSlice rStr).at1 w B (.slice A2 g.nons.length c2) g.nons ∧ (rSlice rInt).at1 w B (.slice A3 g.levels.length c3) g.levels ∧ inI64 g.start ∧ (rSlice rPr).at1 w B (.slice A4 g.prods.length c4) g.prods ∧
    (g.terms.length ≤ c1 ∧ c1 ≤ maxLen) ∧ (g.nons.length ≤ c2 ∧ c2 ≤ maxLen) ∧ (g.levels.length ≤ c3 ∧ c3 ≤ maxLen) ∧ (g.prods.length ≤ c4 ∧ c4 ≤ maxLen)

theorem rGram_open {v : Value} {g : Gr} (h : rGram.atN w B v g) : GrV w B v g := by
  obtain ⟨cs, rfl, x1, y1, e1, h1, x2, y2, e2, h2, x3, y3, e3, h3, x4, y4, e4, ⟨h4, i4⟩, h5⟩ := h
  obtain ⟨A1, c1, f1, l1, m1, _⟩ := id h1
  obtain ⟨A2, c2, f2, l2, m2, _⟩ := id h2
  obtain ⟨A3, c3, f3, l3, m3, _⟩ := id h3
  obtain ⟨A4, c4, f4, l4, m4, _⟩ := id h5
  subst f1 f2 f3 h4 f4 e4 e3 e2 e1
  exact ⟨A1, c1, A2, c2, A3, c3, A4, c4, rfl, h1, h2, h3, i4, h5, ⟨l1, m1⟩, ⟨l2, m2⟩, ⟨l3, m3⟩, ⟨l4, m4⟩⟩

theorem rGram_mk {g : Gr} {A1 A2 A3 A4 : Option Addr} {n1 c1 n2 c2 n3 c3 n4 c4 : Nat} {s : Value} (h1 : (rSlice rTerm).at1 w B (.slice A1 n1 c1) g.terms) (h2 : (rSlice rStr).at1 w B (.slice A2 n2 c2) g.nons) (h3 : (rSlice rInt).at1 w B (.slice A3 n3 c3) g.levels)
    (hs : s = .int .i64 g.start) (h4 : inI64 g.start) (h5 : (rSlice rPr).at1 w B (.slice A4 n4 c4) g.prods) : rGram.atN w B (.agg #[.slice A1 n1 c1, .slice A2 n2 c2, .slice A3 n3 c3, s, .slice A4 n4 c4]) g := by
  subst hs
  exact ⟨_, rfl, [_], _, rfl, h1, [_], _, rfl, h2, [_], _, rfl, h3, [_], _, rfl, ⟨rfl, h4⟩, h5⟩

theorem rGram_below {w' : World} {v : Value} {g : Gr} (h : rGram.atN w B v g) (hb : Below B w w') : rGram.atN w' B v g := by
  obtain ⟨cs, rfl, hc⟩ := h
  exact ⟨cs, rfl, rGram.keep hc (Nat.le_refl _) hb.block⟩
theorem rGram_up {B' : Nat} {v : Value} {g : Gr} (h : rGram.atN w B v g) (hB : B ≤ B') : rGram.atN w B' v g := by
  obtain ⟨cs, rfl, hc⟩ := h
  exact ⟨cs, rfl, rGram.keep hc hB fun _ _ => rfl⟩

theorem flat_one {α β : Type} (f : α → β) (l : List α) : l.flatMap (fun x => [f x]) = l.map f := by
  induction l with
  | nil => rfl
  | cons x r ih => simp [ih]
/-- A part of a slice. -/
theorem slice_drop {α : Type} {r : Rep α} {l : List α} {b o k : Nat} (h : (rSlice r).at1 w B (.slice (some ⟨b, o, none⟩) l.length c) l) (hk : k ≤ l.length) : (rSlice r).at1 w B (.slice (some ⟨b, o + k * r.size, none⟩) (l.length - k) (c - k)) (l.drop k) := by
  obtain ⟨A', c', hv, h1, h2, h3, h4⟩ := h
  injection hv with hv _
  injection hv with hA _ hc
  subst hc
  refine ⟨_, c - k, by rw [List.length_drop], by rw [List.length_drop]; omega, by omega, trivial, fun hpos => ?_⟩
  rw [List.length_drop] at hpos
  obtain ⟨b', o', e, hb, hcell⟩ := h4 (by omega)
  rw [← hA] at e
  injection e with e
  injection e with e1 e2
  subst e1 e2
  refine ⟨b, o + k * r.size, rfl, hb, fun i x hi => ?_⟩
  rw [List.getElem?_drop] at hi
  obtain ⟨ys, hy, hu⟩ := hcell (k + i) x hi
  refine ⟨ys, hy, fun j u hj => ?_⟩
  have := hu j u hj
  rw [Nat.add_mul] at this
  rw [show o + k * r.size + (i * r.size + j) = o + (k * r.size + i * r.size + j) by omega]
  exact this
/-- .. as the model has it. -/
theorem slice_from {α : Type} {r : Rep α} {l : List α} {b o o' k : Nat} (h : (rSlice r).at1 w B (.slice (some ⟨b, o, none⟩) l.length c) l) (hk : k ≤ l.length) (ho : o' = o + k * r.size) :
    (rSlice r).at1 w B (.slice (if c = k then some ⟨b, o, none⟩ else some ⟨b, o', none⟩) (l.length - k) (c - k)) (l.drop k) := by
  subst ho
  by_cases e : c = k
  · obtain ⟨A', c', hv, h1, h2, h3, h4⟩ := id h
    injection hv with hv _
    injection hv with hA _ hc
    have hl : l.length = k := by omega
    rw [if_pos e]
    refine ⟨_, c - k, by rw [List.length_drop], by rw [List.length_drop]; omega, by omega, trivial, fun hpos => ?_⟩
    rw [List.length_drop] at hpos
    omega
  · rw [if_neg e]
    exact slice_drop h hk
end
end Go.Px.Scan

/-
  Rows with grammars.
-/
namespace Go.Proofs.Ytkacbjhiobnbfaa
open Go.Px Go.Px.Scan Go.ChangeShapes Go.WideShapes Go.ChangeAt Go.RowKit
theorem opens106 : Opens Try.prog 106 rTerm := opens_struct Try.underlying106 (by kernel_rfl) (by kernel_rfl) (opensF_cons opens9 (opensF_one opens3))
theorem opens22 : Opens Try.prog 22 (rSlice rTerm) := opens_slice Try.underlying22 (by kernel_rfl) (by kernel_rfl) (by decide) opens106
theorem opens23 : Opens Try.prog 23 (rSlice rStr) := opens_slice Try.underlying23 (by kernel_rfl) (by kernel_rfl) (by decide) opens9
theorem opens47 : Opens Try.prog 47 rPr := opens_struct Try.underlying47 (by kernel_rfl) (by kernel_rfl) (opensF_cons opens3 (opensF_cons opens24 (opensF_one opens3)))
theorem opens25 : Opens Try.prog 25 (rSlice rPr) := opens_slice Try.underlying25 (by kernel_rfl) (by kernel_rfl) (by decide) opens47
theorem opens27 : Opens Try.prog 27 rGram := opens_map (g := fun a => ⟨a.1, a.2.1, a.2.2.1, a.2.2.2.1, a.2.2.2.2⟩) (fun _ => rfl)
  (opens_struct Try.underlying27 (by kernel_rfl) (by kernel_rfl) (opensF_cons opens22 (opensF_cons opens23 (opensF_cons opens24 (opensF_cons opens3 (opensF_one opens25))))))
end Go.Proofs.Ytkacbjhiobnbfaa
namespace Go.Px.Scan
open Go.Px
theorem sum_ge {α : Type} {f : α → Nat} {l : List α} (h : ∀ x, 1 ≤ f x) : l.length ≤ (l.map f).sum := by
  induction l with
  | nil => simp
  | cons y r ih =>
    rw [List.map_cons, List.sum_cons, List.length_cons]
    have := h y; omega
theorem bulk_ints (l : List Int) : l.length ≤ (rSlice rInt).bulk l := by
  show l.length ≤ (l.map rInt.bulk).sum + 1
  have := sum_ge (f := rInt.bulk) (l := l) (fun _ => Nat.le_refl 1)
  omega
end Go.Px.Scan
namespace Go.Proofs.Ytkacbjhiobnbfaa
open Go.Px
theorem bulkOf {H : Type} : BulkOf (H := H) Rows.uptoBulk Rows.uptoBulkAll where
  str b := by simp [Rows.uptoBulk]
  lit l := by cases l <;> simp [Rows.uptoBulk]
  nil := by simp [Rows.uptoBulk]
  slice e s := by simp [Rows.uptoBulk]
  agg p := by simp [Rows.uptoBulk]
  all0 := by simp [Rows.uptoBulkAll]
  allc d r := by simp [Rows.uptoBulkAll]
end Go.Proofs.Ytkacbjhiobnbfaa

/-
  Trees, plainly.
-/
namespace Go.Px.Scan
open Go.Px

/-- A node: its symbol, production, token and kids. -/
abbrev Nd := Int × Int × Int × List Int
def rNd : Rep Nd := rInt.prod (rInt.prod (rInt.prod (rSlice rInt)))
section
variable {w : World} {B : Nat} {A : Option Addr} {n c : Nat}
theorem nodes_at {l : List Nd} (h : (rSlice rNd).at1 w B (.slice A n c) l) {i : Nat} (hi : i < l.length) :
    ∃ b o v, A = some ⟨b, o, none⟩ ∧ b < B ∧ w.cell? ⟨b, o + i * 4, none⟩ = some (.int .i64 l[i].1) ∧ w.cell? ⟨b, o + i * 4 + 1, none⟩ = some (.int .i64 l[i].2.1) ∧ w.cell? ⟨b, o + i * 4 + 2, none⟩ = some (.int .i64 l[i].2.2.1) ∧ w.cell? ⟨b, o + i * 4 + 3, none⟩ = some v ∧
      (rSlice rInt).at1 w B v l[i].2.2.2 ∧ inI64 l[i].1 ∧ inI64 l[i].2.1 ∧ inI64 l[i].2.2.1 := by
  obtain ⟨b, o, ys, hA, hb, ⟨c1, c2, rfl, ⟨rfl, h1⟩, c3, c4, rfl, ⟨rfl, h2⟩, c5, c6, rfl, ⟨rfl, h3⟩, h4⟩, hc⟩ := slice_at h hi
  obtain ⟨A', k, rfl, h5⟩ := h4
  exact ⟨b, o, _, hA, hb, hc 0 _ rfl, hc 1 _ rfl, hc 2 _ rfl, hc 3 _ rfl, ⟨A', k, rfl, h5⟩, h1, h2, h3⟩
end

/-- May a node be where it is? -/
def okN (n : Nat) (x : Nd) : Prop := 0 ≤ x.1 ∧ ((x.2.1 = -1 ∧ 0 ≤ x.2.2.1 ∧ x.2.2.2 = []) ∨ (0 ≤ x.2.1 ∧ x.2.2.1 = 0 ∧ ∀ k ∈ x.2.2.2, 0 ≤ k ∧ k < n))
instance (n : Nat) (x : Nd) : Decidable (okN n x) := inferInstanceAs (Decidable (_ ∧ _))
def kidsN (x : Nd) : List Nat := x.2.2.2.map Int.toNat
def freshN (met ks : List Nat) : Prop := ks.Nodup ∧ ∀ k ∈ ks, k ∉ met
instance (met ks : List Nat) : Decidable (freshN met ks) := inferInstanceAs (Decidable (_ ∧ _))
def zN : Nd := (0, 0, 0, [])
/-- What comes next. -/
def nextW (rt : Bool) (x : Nd) (ws : List Nat) : List Nat := (if rt then (kidsN x).reverse else kidsN x) ++ ws
/-- The nodes below: what is out, what is to be done (the next one first). -/
def walkF (l : List Nd) (rt : Bool) : Nat → List Nat → List Nat → Option (List Nat)
  | _, out, [] => some out
  | 0, _, _ :: _ => none
  | f + 1, out, n :: ws =>
    if okN n (l.getD n zN) ∧ freshN (n :: (out ++ ws)) (kidsN (l.getD n zN)) then walkF l rt f (out ++ [n]) (nextW rt (l.getD n zN) ws) else none
def walkP (l : List Nd) (rt : Bool) (root : Int) : Option (List Nat) := if 0 ≤ root ∧ root < l.length then walkF l rt l.length [] [root.toNat] else none
/-- .. with one who looks at each. -/
def lookF {σ : Type} (l : List Nd) (rt : Bool) (V : σ → Nat → Option σ) : Nat → σ → List Nat → List Nat → Option σ
  | _, s, _, [] => some s
  | 0, _, _, _ :: _ => none
  | f + 1, s, out, n :: ws =>
    if okN n (l.getD n zN) then (V s n).bind fun s' => if freshN (n :: (out ++ ws)) (kidsN (l.getD n zN)) then lookF l rt V f s' (out ++ [n]) (nextW rt (l.getD n zN) ws) else none else none
def lookP {σ : Type} (l : List Nd) (rt : Bool) (V : σ → Nat → Option σ) (s : σ) (root : Int) : Option σ := if 0 ≤ root ∧ root < l.length then lookF l rt V l.length s [] [root.toNat] else none
/-- One after the other. -/
def looks {σ : Type} (V : σ → Nat → Option σ) (s : σ) (l : List Nat) : Option σ := l.foldl (fun s n => s.bind fun s => V s n) (some s)
theorem looks_none {σ : Type} (V : σ → Nat → Option σ) (l : List Nat) : l.foldl (fun s n => s.bind fun s => V s n) (none : Option σ) = none := by
  induction l with
  | nil => rfl
  | cons x r ih => simpa using ih
theorem walkF_pre {l : List Nd} {rt : Bool} : ∀ {f : Nat} {out ws r : List Nat}, walkF l rt f out ws = some r → ∃ t, r = out ++ t
  | f, out, [], r, h => by
    have : out = r := by cases f <;> (simp only [walkF] at h; exact Option.some.inj h)
    exact ⟨[], by simp [this]⟩
  | 0, out, n :: ws, r, h => by simp [walkF] at h
  | f + 1, out, n :: ws, r, h => by
    simp only [walkF] at h
    split at h
    · obtain ⟨t, e⟩ := walkF_pre h
      exact ⟨n :: t, by rw [e]; simp⟩
    · cases h
theorem lookF_walk {σ : Type} {l : List Nd} {rt : Bool} {V : σ → Nat → Option σ} : ∀ {f : Nat} {s : σ} {out ws : List Nat}, lookF l rt V f s out ws = (walkF l rt f out ws).bind fun r => looks V s (r.drop out.length)
  | f, s, out, [] => by cases f <;> simp [lookF, walkF, looks]
  | 0, s, out, n :: ws => by simp [lookF, walkF]
  | f + 1, s, out, n :: ws => by
    simp only [lookF, walkF]
    by_cases h1 : okN n (l.getD n zN)
    · rw [if_pos h1]
      by_cases h2 : freshN (n :: (out ++ ws)) (kidsN (l.getD n zN))
      · rw [if_pos ⟨h1, h2⟩]
        have ih : ∀ s', lookF l rt V f s' (out ++ [n]) (nextW rt (l.getD n zN) ws) = _ := fun s' => lookF_walk
        simp only [if_pos h2]
        cases hw : walkF l rt f (out ++ [n]) (nextW rt (l.getD n zN) ws) with
        | none =>
          cases V s n with
          | none => rfl
          | some s' => simp only [Option.bind_some]; rw [ih, hw]; rfl
        | some r =>
          obtain ⟨t, e⟩ := walkF_pre hw
          have ed : r.drop out.length = n :: t := by rw [e]; simp
          have ed2 : r.drop (out ++ [n]).length = t := by rw [e, List.drop_left]
          simp only [Option.bind_some]
          rw [ed]
          cases hv : V s n with
          | none => simp [looks, hv, looks_none]
          | some s' =>
            simp only [Option.bind_some]
            rw [ih, hw, Option.bind_some, ed2]
            simp [looks, hv]
      · rw [if_neg (fun h => h2 h.2)]
        cases V s n with
        | none => rfl
        | some s' => simp only [Option.bind_some, if_neg h2]; rfl
    · rw [if_neg h1, if_neg (fun h => h1 h.1)]; rfl
theorem lookP_walk {σ : Type} {l : List Nd} {rt : Bool} {V : σ → Nat → Option σ} {s : σ} {root : Int} : lookP l rt V s root = (walkP l rt root).bind fun r => looks V s r := by
  unfold lookP walkP
  split
  · rw [lookF_walk]; simp
  · rfl
end Go.Px.Scan

/-
  This seat's types.
-/
namespace Go.Proofs.Ytkacbjhiobnbfaa
open Go.Px Go.RowKit
theorem uInts : Try.prog.underlying 24 = some (.slice 3) := Try.underlying24
theorem uStrs : Try.prog.underlying 23 = some (.slice 9) := Try.underlying23
theorem uTerms : Try.prog.underlying 22 = some (.slice 106) := Try.underlying22
theorem uProds : Try.prog.underlying 25 = some (.slice 47) := Try.underlying25
theorem iInt : (Try.prog.info? 3).map (fun i => (i.zero, i.size, i.bytes)) = some (some (.int .i64 0), 1, 8) := by kernel_rfl
theorem iStr : (Try.prog.info? 9).map (fun i => (i.zero, i.size, i.bytes)) = some (some (.string ⟨#[]⟩), 1, 16) := by kernel_rfl
theorem iTerm : (Try.prog.info? 106).map (fun i => (i.zero, i.size, i.bytes)) = some (some (.agg #[.string ⟨#[]⟩, .int .i64 0]), 2, 24) := by kernel_rfl
theorem iProd : (Try.prog.info? 47).map (fun i => (i.zero, i.size, i.bytes)) = some (some (.agg #[.int .i64 0, .slice none 0 0, .int .i64 0]), 3, 40) := by kernel_rfl
theorem mStr : MapTy Try.prog kStr 167 9 3 where
  tm := Try.underlying167
  te := Try.underlying3
  keyed := Maps.string_keyed Try.underlying9
  key a ha := WideMaps.keyOf_string_mk Try.underlying9 ha
  zero w := by simp [go_sem]
theorem mInt : MapTy Try.prog kInt 179 3 3 where
  tm := Try.underlying179
  te := Try.underlying3
  keyed := Maps.int_keyed Try.underlying3
  key a ha := Maps.keyOf_int_mk Try.underlying3 (by
    have hm : IntKind.i64.min = -9223372036854775808 := by decide
    obtain ⟨h1, h2⟩ := ha
    simp [Lit.wf, hm]
    omega)
  zero w := by simp [go_sem]
theorem mkStr (w : World) : (Instr.makeMap 167 none).run Try.prog w = .ok (.map (some w.heap.size)) (w.alloc (.map #[] 0)) := by
  simp [Instr.makeMap, run_underlying Try.underlying167, go_sem]
theorem mkInt (w : World) : (Instr.makeMap 179 none).run Try.prog w = .ok (.map (some w.heap.size)) (w.alloc (.map #[] 0)) := by
  simp [Instr.makeMap, run_underlying Try.underlying179, go_sem]
theorem bTerm2 (s : ByteArray) (x : Int) (w : World) : (Instr.build 106 #[(0, .string s), (1, .int .i64 x)]).run Try.prog w = .ok (.agg #[.string s, .int .i64 x]) w := by simp [go_sem]
theorem bTerm1 (s : ByteArray) (w : World) : (Instr.build 106 #[(0, .string s)]).run Try.prog w = .ok (.agg #[.string s, .int .i64 0]) w := by simp [go_sem]
theorem bProd02 (x y : Int) (w : World) : (Instr.build 47 #[(0, .int .i64 x), (2, .int .i64 y)]).run Try.prog w = .ok (.agg #[.int .i64 x, .slice none 0 0, .int .i64 y]) w := by simp [go_sem]
theorem bGram02 (a b : Option Addr) (n c m d : Nat) (w : World) : (Instr.build 27 #[(0, .slice a n c), (2, .slice b m d)]).run Try.prog w = .ok (.agg #[.slice a n c, .slice none 0 0, .slice b m d, .int .i64 0, .slice none 0 0]) w := by simp [go_sem]
theorem bInts2 (x y : Int) (w : World) : (Instr.buildSlice 24 2 #[(0, .int .i64 x), (1, .int .i64 y)]).run Try.prog w = .ok (.slice (some ⟨w.heap.size, 0, none⟩) 2 2) (w.alloc (.cells #[.int .i64 x, .int .i64 y] 3)) := by simp [go_sem]
theorem bBytes2 (x y : Int) (w : World) : (Instr.buildSlice 98 2 #[(0, .int .u8 x), (1, .int .u8 y)]).run Try.prog w = .ok (.slice (some ⟨w.heap.size, 0, none⟩) 2 2) (w.alloc (.cells #[.int .u8 x, .int .u8 y] 5)) := by simp [go_sem]
attribute [go_sem ↓] bBytes2 bInts2 bTerm2 bTerm1 bProd02 bGram02
end Go.Proofs.Ytkacbjhiobnbfaa

/-
  The document's answer: terminals, levels, nonterminals that fit.
-/
namespace Go.Proofs.Ytkacbjhiobnbfaa
open Go.Px Go.Px.Scan Go.RowKit
set_option maxHeartbeats 1000000
set_option linter.unusedSimpArgs false
set_option linter.unusedVariables false
set_option maxRecDepth 100000
attribute [-go_sem] Builtin.append_

/-- A grammar that was put into a box: what is read of it, as long as nothing old turns. -/
structure GRd (w : World) (B q : Nat) (g : Gr) (A1 : Option Addr) (c1 : Nat) (A2 : Option Addr) (c2 : Nat) (A3 : Option Addr) (c3 : Nat) (A4 : Option Addr) (c4 : Nat) : Prop where
  k : (w.cell? ⟨q, 0, none⟩ = some (.slice A1 g.terms.length c1) ∧ w.cell? ⟨q, 1, none⟩ = some (.slice A2 g.nons.length c2) ∧ w.cell? ⟨q, 2, none⟩ = some (.slice A3 g.levels.length c3) ∧ w.cell? ⟨q, 3, none⟩ = some (.int .i64 g.start) ∧ w.cell? ⟨q, 4, none⟩ = some (.slice A4 g.prods.length c4))
  r1 : (rSlice rTerm).at1 w B (.slice A1 g.terms.length c1) g.terms
  r2 : (rSlice rStr).at1 w B (.slice A2 g.nons.length c2) g.nons
  r3 : (rSlice rInt).at1 w B (.slice A3 g.levels.length c3) g.levels
  r4 : (rSlice rPr).at1 w B (.slice A4 g.prods.length c4) g.prods
  sz : B ≤ w.heap.size

theorem box_all {w : World} {B : Nat} {v : Value} {g : Gr} (h : rGram.atN w B v g) (hB : B ≤ w.heap.size) : ∃ A1 c1 A2 c2 A3 c3 A4 c4, v = .agg #[.slice A1 g.terms.length c1, .slice A2 g.nons.length c2, .slice A3 g.levels.length c3, .int .i64 g.start, .slice A4 g.prods.length c4] ∧
    (g.terms.length ≤ maxLen ∧ g.nons.length ≤ maxLen ∧ g.levels.length ≤ maxLen ∧ g.prods.length ≤ maxLen) ∧ inI64 g.start ∧ Chg noB w (w.alloc (.cells #[.slice A1 g.terms.length c1, .slice A2 g.nons.length c2, .slice A3 g.levels.length c3, .int .i64 g.start, .slice A4 g.prods.length c4] 27)) ∧
    ∀ w', Chg noB (w.alloc (.cells #[.slice A1 g.terms.length c1, .slice A2 g.nons.length c2, .slice A3 g.levels.length c3, .int .i64 g.start, .slice A4 g.prods.length c4] 27)) w' → GRd w' B w.heap.size g A1 c1 A2 c2 A3 c3 A4 c4 := by
  obtain ⟨A1, c1, A2, c2, A3, c3, A4, c4, rfl, h1, h2, h3, h4, h5, ⟨l1, m1⟩, ⟨l2, m2⟩, ⟨l3, m3⟩, ⟨l4, m4⟩⟩ := (rGram_open h).ex
  have h0 := (St.refl noB w).alloc #[.slice A1 g.terms.length c1, .slice A2 g.nons.length c2, .slice A3 g.levels.length c3, .int .i64 g.start, .slice A4 g.prods.length c4] 27
  refine ⟨A1, c1, A2, c2, A3, c3, A4, c4, rfl, ⟨by omega, by omega, by omega, by omega⟩, h4, h0.chg, fun w' hc => ?_⟩
  have h1' := h0.old hc
  have k0 := h1'.box 0 rfl
  simp [boxAt] at k0
  have hbl := h1'.chg.below hB fun _ _ => id
  exact ⟨k0.1, Rep.below h1 hbl, Rep.below h2 hbl, Rep.below h3 hbl, Rep.below h5 hbl, by have := h1'.chg.size; omega⟩

theorem Symbols_ct {w : World} {B : Nat} {v : Value} {g : Gr} (h : rGram.atN w B v g) (hB : B ≤ w.heap.size) (hs : g.terms.length + g.nons.length ≤ 1000) : Ct Try.prog ref02_Symbols.id #[v] w fun r w' => r = .int .i64 ((g.terms.length : Int) + g.nons.length) ∧ Chg noB w w' := by
  refine ref02_Symbols.ct fun R hR => ?_
  obtain ⟨A1, c1, A2, c2, A3, c3, A4, c4, rfl, _, _, hc0, hg⟩ := box_all h hB
  unfold ref02_Symbols.run
  have ws : IntKind.i64.wrap ((g.terms.length : Int) + g.nons.length) = (g.terms.length : Int) + g.nons.length := IntWalk.i64_in _ (by omega)
  simp -dsimp [go_sem, ws]
  exact hR _ _ ⟨rfl, hc0⟩

theorem toList_inj' {a b : ByteArray} : a.toList = b.toList ↔ a = b := by
  constructor
  · intro h; rw [ByteArray.toList_eq, ByteArray.toList_eq] at h; exact bs_ext h
  · rintro rfl; rfl

/-- The document's terminals. -/
def TermsP (g : Gr) : Prop := g.terms.head? = some (⟨#[]⟩, 0) ∧ (∀ t ∈ g.terms.tail, TermOk g t) ∧ (g.terms.tail.map (·.1)).Nodup
open Classical in
noncomputable def termsB (g : Gr) : Bool := decide (TermsP g)
theorem termsB_iff {g : Gr} : termsB g = true ↔ TermsP g := @decide_eq_true_iff _ (_)

theorem termsFit_ct {w : World} {B : Nat} {v : Value} {g : Gr} (h : rGram.atN w B v g) (hB : B ≤ w.heap.size) : Ct Try.prog ref02_termsFit.id #[v] w fun r w' => r = .bool (termsB g) ∧ Chg noB w w' := by
  refine ref02_termsFit.ct fun R hR => ?_
  obtain ⟨A1, c1, A2, c2, A3, c3, A4, c4, rfl, ⟨m1, m2, m3, m4⟩, _, hc0, hg⟩ := box_all h hB
  have no : ∀ w', Chg noB w w' → ¬ TermsP g → R (.returned (.bool false)) w' := fun w' hc hn => hR _ _ ⟨by rw [bool_no termsB_iff hn], hc⟩
  unfold ref02_termsFit.run
  simp -dsimp [go_sem]
  generalize w.alloc (.cells #[.slice A1 g.terms.length c1, .slice A2 g.nons.length c2, .slice A3 g.levels.length c3, .int .i64 g.start, .slice A4 g.prods.length c4] 27) = w1 at hc0 hg ⊢
  generalize w.heap.size = q at hg ⊢
  have z1 := hg w1 (Chg.refl _ _)
  refine SPL_intro (fun q1 => ?_) (fun q1 => ?_) <;> simp at q1
  · simp -dsimp [go_sem]
    exact no _ hc0 fun hs => by have := hs.1; rw [q1] at this; cases this
  have q1' : 0 < g.terms.length := List.length_pos_iff.2 q1
  obtain ⟨b1, o1, rfl, hb1, d1, d2, _, _⟩ := terms_at z1.r1 q1'
  simp at d1 d2
  have hh : g.terms.head? = some g.terms[0] := by rw [List.head?_eq_getElem?, List.getElem?_eq_getElem q1']
  simp -dsimp [go_sem, z1.k, q1', d1, d2]
  refine SPL_intro (fun q2 => ?_) (fun q2 => ?_) <;> simp at q2
  · simp -dsimp [go_sem]
    refine no _ hc0 fun hs => q2 ?_
    have := hs.1; rw [hh] at this; injection this with this; rw [this, ByteArray.toList_eq]
  simp -dsimp [go_sem, z1.k, q1', d1, d2]
  refine SPL_intro (fun q3 => ?_) (fun q3 => ?_) <;> simp at q3
  · refine no _ hc0 fun hs => q3 ?_
    have := hs.1; rw [hh] at this; injection this with this; rw [this]
  have ht0 : g.terms.head? = some (⟨#[]⟩, 0) := by
    rw [hh]; congr 1
    exact Prod.ext (bs_ext (by rw [← ByteArray.toList_eq]; exact q2)) q3
  obtain ⟨t0, tl, hE⟩ : ∃ t tl, g.terms = t :: tl := by
    cases e : g.terms with
    | nil => exact absurd e q1
    | cons t r => exact ⟨t, r, rfl⟩
  have hlen : g.terms.length = tl.length + 1 := by rw [hE]; rfl
  have htl : g.terms.tail = tl := by rw [hE]; rfl
  have hel : ∀ i (hi : i < tl.length), g.terms[i + 1]'(by omega) = tl[i] := fun i hi => by simp [hE]
  simp -dsimp [go_sem]
  refine ref02_termsFit.l7_intro _ _ _ _ (fun y w' => ∃ j k : Nat, y = .int .i64 j ∧ j = k + 1 ∧ k ≤ tl.length ∧ Chg noB w1 w' ∧ (∀ t ∈ tl.take k, TermOk g t) ∧ ((tl.take k).map (·.1)).Nodup) (fun y _ => tl.length + 1 - iv y) ⟨1, 0, rfl, rfl, by omega, Chg.refl _ _, by simp, by simp⟩ ?_
  rintro _ w2 ⟨j, k, rfl, hj, hk, hcw, hall, hnd⟩ C hC
  have z2 := hg w2 hcw
  simp -dsimp [go_sem, z2.k]
  refine SPL_intro (fun p1 => ?_) (fun p1 => ?_) <;> simp at p1
  · have hk1 : k < tl.length := by omega
    obtain ⟨b2, o2, e2, hb2, f1, f2, f3, f4⟩ := terms_at z2.r1 p1
    injection e2 with e2; injection e2 with e2 e3; subst e2 e3
    have hej : g.terms[j] = tl[k] := by subst hj; exact hel k hk1
    rw [hej] at f1 f2 f3 f4
    have bad : ¬ TermOk g tl[k] → ¬ TermsP g := fun hn hs => hn (hs.2.1 _ (by rw [htl]; exact List.getElem_mem hk1))
    simp -dsimp [go_sem, z2.k, p1, f1]
    refine CALL_of (ref02_IsTerm_ct f3 w2) ?_
    rintro _ _ ⟨rfl, rfl⟩
    have hcd := hcw.drew
    have zd := hg _ hcd
    obtain ⟨b3, o3, e3, hb3, f1', f2', _, _⟩ := terms_at zd.r1 p1
    injection e3 with e3; injection e3 with e3 e4; subst e3 e4
    rw [hej] at f1' f2'
    cases hT : tmB tl[k].1 with
    | false =>
      simp -dsimp [go_sem]
      exact no _ (hc0.trans hcd) (bad fun hs => by rw [tmB_iff.2 hs.name] at hT; cases hT)
    | true =>
      simp -dsimp [go_sem, zd.k, p1, f1', f2']
      refine SPL_intro (fun p2 => ?_) (fun p2 => ?_) <;> simp at p2
      · simp -dsimp [go_sem]
        exact no _ (hc0.trans hcd) (bad fun hs => by have := hs.lo; omega)
      simp -dsimp [go_sem, zd.k, p1, f1', f2']
      refine SPL_intro (fun p3 => ?_) (fun p3 => ?_) <;> simp at p3
      · exact no _ (hc0.trans hcd) (bad fun hs => by have := hs.hi; omega)
      simp -dsimp [go_sem]
      refine ref02_termsFit.l16_intro _ _ _ _ _ _ (fun y w' => ∃ i n : Nat, y = .int .i64 i ∧ i = n + 1 ∧ n ≤ k ∧ Chg noB w1 w' ∧ ∀ t ∈ tl.take n, t.1 ≠ tl[k].1) (fun y _ => k + 1 - iv y) ⟨1, 0, rfl, rfl, by omega, hcd, by simp⟩ ?_
      rintro _ w3 ⟨i, n, rfl, hi, hn, hc3, hne⟩ C' hC'
      simp -dsimp [go_sem]
      refine SPL_intro (fun p4 => ?_) (fun p4 => ?_) <;> simp at p4
      · have hn1 : n < tl.length := by omega
        have hil : i < g.terms.length := by omega
        have z3 := hg _ hc3.drew
        obtain ⟨b4, o4, e4, hb4, x1, _⟩ := terms_at z3.r1 p1
        injection e4 with e4; injection e4 with e4 e5; subst e4 e5
        obtain ⟨b5, o5, e5, hb5, y1, _⟩ := terms_at z3.r1 hil
        injection e5 with e5; injection e5 with e5 e6; subst e5 e6
        have hei : g.terms[i] = tl[n] := by subst hi; exact hel n hn1
        rw [hej] at x1
        rw [hei] at y1
        have wi : IntKind.i64.wrap ((i : Int) + 1) = (i : Int) + 1 := IntWalk.i64_in _ (by unfold maxLen at m1; omega)
        simp -dsimp [go_sem, z3.k, p1, hil, x1, y1]
        refine SPL_intro (fun p5 => ?_) (fun p5 => ?_) <;> simp at p5
        · refine no _ (hc0.trans hc3.drew) fun hs => ?_
          have := List.pairwise_iff_getElem.1 hs.2.2 n k (by simp [htl]; omega) (by simp [htl]; omega) (by omega)
          simp [htl] at this
          exact this (toList_inj'.1 p5)
        · simp -dsimp [go_sem, wi]
          refine hC' _ _ ⟨i + 1, n + 1, by simp, by omega, by omega, hc3.drew, fun t ht => ?_⟩ (by simp [iv]; omega)
          rw [List.take_succ_eq_append_getElem hn1] at ht
          rcases List.mem_append.1 ht with ht | ht
          · exact hne t ht
          · rw [List.mem_singleton.1 ht]
            exact fun e => p5 (by rw [e])
      · have hnk : n = k := by omega
        subst hnk
        have wj : IntKind.i64.wrap ((j : Int) + 1) = (j : Int) + 1 := IntWalk.i64_in _ (by unfold maxLen at m1; omega)
        simp -dsimp [go_sem, wj]
        have htk : tl.take (n + 1) = tl.take n ++ [tl[n]] := List.take_succ_eq_append_getElem hk1
        refine hC _ _ ⟨j + 1, n + 1, by simp, by omega, by omega, hc3, fun t ht => ?_, ?_⟩ (by simp [iv]; omega)
        · rw [htk] at ht
          rcases List.mem_append.1 ht with ht | ht
          · exact hall t ht
          · rw [List.mem_singleton.1 ht]; exact ⟨tmB_iff.1 hT, by omega, by omega⟩
        · rw [htk, List.map_append]
          refine List.nodup_append.2 ⟨hnd, by simp, fun a ha b hb => ?_⟩
          obtain ⟨t, ht, rfl⟩ := List.mem_map.1 ha
          simp at hb
          subst hb
          exact hne t ht
  · have hka : k = tl.length := by omega
    subst hka
    rw [List.take_length] at hall hnd
    simp -dsimp [go_sem]
    refine hR _ _ ⟨?_, hc0.trans hcw⟩
    rw [termsB_iff.2 ⟨ht0, by rw [htl]; exact hall, by rw [htl]; exact hnd⟩]
end Go.Proofs.Ytkacbjhiobnbfaa

/-
  The document's answer: levels, nonterminals, productions that fit.
-/
namespace Go.Proofs.Ytkacbjhiobnbfaa
open Go.Px Go.Px.Scan Go.RowKit
set_option maxHeartbeats 1000000
set_option linter.unusedSimpArgs false
set_option linter.unusedVariables false
set_option maxRecDepth 100000
attribute [-go_sem] Builtin.append_

def LevelsP (g : Gr) : Prop := ∀ i (h : i < g.levels.length), 1 ≤ g.levels[i] ∧ g.levels[i] ≤ 3 ∧ ∃ t ∈ g.terms, t.2 = (i : Int) + 1
open Classical in
noncomputable def levelsB (g : Gr) : Bool := decide (LevelsP g)
theorem levelsB_iff {g : Gr} : levelsB g = true ↔ LevelsP g := @decide_eq_true_iff _ (_)

theorem levelsFit_ct {w : World} {B : Nat} {v : Value} {g : Gr} (h : rGram.atN w B v g) (hB : B ≤ w.heap.size) : Ct Try.prog ref02_levelsFit.id #[v] w fun r w' => r = .bool (levelsB g) ∧ Chg noB w w' := by
  refine ref02_levelsFit.ct fun R hR => ?_
  obtain ⟨A1, c1, A2, c2, A3, c3, A4, c4, rfl, ⟨m1, m2, m3, m4⟩, _, hc0, hg⟩ := box_all h hB
  have no : ∀ w', Chg noB w w' → ¬ LevelsP g → R (.returned (.bool false)) w' := fun w' hc hn => hR _ _ ⟨by rw [bool_no levelsB_iff hn], hc⟩
  unfold ref02_levelsFit.run
  simp -dsimp [go_sem]
  generalize w.alloc (.cells #[.slice A1 g.terms.length c1, .slice A2 g.nons.length c2, .slice A3 g.levels.length c3, .int .i64 g.start, .slice A4 g.prods.length c4] 27) = w1 at hc0 hg ⊢
  generalize w.heap.size = q at hg ⊢
  refine ref02_levelsFit.l6_intro _ _ _ _ (fun y w' => ∃ k : Nat, y = .int .i64 k ∧ k ≤ g.levels.length ∧ Chg noB w1 w' ∧ ∀ i (h : i < g.levels.length), i < k → 1 ≤ g.levels[i] ∧ g.levels[i] ≤ 3 ∧ ∃ t ∈ g.terms, t.2 = (i : Int) + 1) (fun y _ => g.levels.length - iv y) ⟨0, rfl, by omega, Chg.refl _ _, fun i h h0 => by omega⟩ ?_
  rintro _ w2 ⟨k, rfl, hk, hcw, hall⟩ C hC
  have z2 := hg w2 hcw
  simp -dsimp [go_sem, z2.k]
  refine SPL_intro (fun p1 => ?_) (fun p1 => ?_) <;> simp at p1
  · have wk : IntKind.i64.wrap ((k : Int) + 1) = (k : Int) + 1 := IntWalk.i64_in _ (by unfold maxLen at m3; omega)
    simp -dsimp [go_sem]
    refine ref02_levelsFit.l17_intro _ _ _ _ _ _ _ (fun x y w' => ∃ (j : Nat) (b : Bool), y = .int .i64 j ∧ x = .bool b ∧ j ≤ g.terms.length ∧ Chg noB w1 w' ∧ (b = true ↔ ∃ t ∈ g.terms.take j, t.2 = (k : Int) + 1)) (fun _ y _ => g.terms.length - iv y) ⟨0, false, rfl, rfl, by omega, hcw, by simp⟩ ?_
    rintro _ _ w3 ⟨j, b, rfl, rfl, hj, hc3, hb⟩ C' hC'
    have z3 := hg w3 hc3
    simp -dsimp [go_sem, z3.k]
    refine SPL_intro (fun p2 => ?_) (fun p2 => ?_) <;> simp at p2
    · have wj : IntKind.i64.wrap ((j : Int) + 1) = (j : Int) + 1 := IntWalk.i64_in _ (by unfold maxLen at m1; omega)
      have htk : g.terms.take (j + 1) = g.terms.take j ++ [g.terms[j]] := List.take_succ_eq_append_getElem p2
      obtain ⟨b4, o4, rfl, hb4, x1, x2, _⟩ := terms_at z3.r1 p2
      have mem : (∃ t ∈ g.terms.take (j + 1), t.2 = (k : Int) + 1) ↔ (∃ t ∈ g.terms.take j, t.2 = (k : Int) + 1) ∨ g.terms[j].2 = (k : Int) + 1 := by
        rw [htk]
        constructor
        · rintro ⟨t, ht, e⟩
          rcases List.mem_append.1 ht with ht | ht
          · exact Or.inl ⟨t, ht, e⟩
          · rw [List.mem_singleton.1 ht] at e; exact Or.inr e
        · rintro (⟨t, ht, e⟩ | e)
          · exact ⟨t, List.mem_append_left _ ht, e⟩
          · exact ⟨_, List.mem_append_right _ (List.mem_singleton.2 rfl), e⟩
      cases b with
      | true =>
        simp -dsimp [go_sem, wj]
        refine hC' _ _ _ ⟨j + 1, true, by simp, rfl, by omega, hc3, ?_⟩ (by simp [iv]; omega)
        rw [mem]; exact ⟨fun _ => Or.inl (hb.1 rfl), fun _ => rfl⟩
      | false =>
        simp -dsimp [go_sem, z3.k, p2, x1, x2, wj, wk]
        refine hC' _ _ _ ⟨j + 1, _, by simp, rfl, by omega, hc3, ?_⟩ (by simp [iv]; omega)
        rw [mem, beq_iff_eq]
        constructor
        · exact Or.inr
        · rintro (h1 | h1)
          · exact absurd (hb.2 h1) (by simp)
          · exact h1
    · have hja : j = g.terms.length := by omega
      subst hja
      rw [List.take_length] at hb
      have bad : ¬ (1 ≤ g.levels[k] ∧ g.levels[k] ≤ 3 ∧ ∃ t ∈ g.terms, t.2 = (k : Int) + 1) → ¬ LevelsP g := fun hn hs => hn (hs k p1)
      cases b with
      | false =>
        simp -dsimp [go_sem]
        exact no _ (hc0.trans hc3) (bad fun hs => by have := hb.2 hs.2.2; cases this)
      | true =>
        obtain ⟨b5, o5, rfl, hb5, y1, _⟩ := Go.Px.ints_at z3.r3 p1
        simp -dsimp [go_sem, z3.k, p1, y1]
        refine SPL_intro (fun p3 => ?_) (fun p3 => ?_) <;> simp at p3
        · simp -dsimp [go_sem]
          exact no _ (hc0.trans hc3) (bad fun hs => by omega)
        simp -dsimp [go_sem, z3.k, p1, y1]
        refine SPL_intro (fun p4 => ?_) (fun p4 => ?_) <;> simp at p4
        · exact no _ (hc0.trans hc3) (bad fun hs => by omega)
        simp -dsimp [go_sem, wk]
        refine hC _ _ ⟨k + 1, by simp, by omega, hc3, fun i hi hik => ?_⟩ (by simp [iv]; omega)
        by_cases e : i = k
        · subst e; exact ⟨by omega, by omega, hb.1 rfl⟩
        · exact hall i hi (by omega)
  · simp -dsimp [go_sem]
    refine hR _ _ ⟨?_, hc0.trans hcw⟩
    rw [levelsB_iff.2 fun i hi => hall i hi (by omega)]

def NonsP (g : Gr) (a : Nat) : Prop := (g.nons.drop a).Nodup ∧ ∀ s ∈ g.nons.drop a, NameP s
open Classical in
noncomputable def nonsB (g : Gr) (a : Nat) : Bool := decide (NonsP g a)
theorem nonsB_iff {g : Gr} {a : Nat} : nonsB g a = true ↔ NonsP g a := @decide_eq_true_iff _ (_)

theorem nonsFit_ct {w : World} {B : Nat} {v : Value} {g : Gr} (h : rGram.atN w B v g) (hB : B ≤ w.heap.size) (a : Nat) (ha : a ≤ 1) : Ct Try.prog ref02_nonsFit.id #[v, .int .i64 a] w fun r w' => r = .bool (nonsB g a) ∧ Chg noB w w' := by
  refine ref02_nonsFit.ct fun R hR => ?_
  obtain ⟨A1, c1, A2, c2, A3, c3, A4, c4, rfl, ⟨m1, m2, m3, m4⟩, _, hc0, hg⟩ := box_all h hB
  have no : ∀ w', Chg noB w w' → ¬ NonsP g a → R (.returned (.bool false)) w' := fun w' hc hn => hR _ _ ⟨by rw [bool_no nonsB_iff hn], hc⟩
  unfold ref02_nonsFit.run
  simp -dsimp [go_sem]
  generalize w.alloc (.cells #[.slice A1 g.terms.length c1, .slice A2 g.nons.length c2, .slice A3 g.levels.length c3, .int .i64 g.start, .slice A4 g.prods.length c4] 27) = w1 at hc0 hg ⊢
  generalize w.heap.size = q at hg ⊢
  generalize hE : g.nons.drop a = nl
  have hnl : nl.length = g.nons.length - a := by rw [← hE]; simp
  have hel : ∀ i (hi : i < nl.length), g.nons[a + i]'(by omega) = nl[i] := fun i hi => by simp [← hE]
  refine ref02_nonsFit.l6_intro _ _ _ _ _ (fun y w' => ∃ j k : Nat, y = .int .i64 j ∧ j = a + k ∧ (k ≤ nl.length) ∧ Chg noB w1 w' ∧ (nl.take k).Nodup ∧ ∀ s ∈ nl.take k, NameP s) (fun y _ => g.nons.length + a - iv y) ⟨a, 0, rfl, rfl, by omega, Chg.refl _ _, by simp, by simp⟩ ?_
  rintro _ w2 ⟨j, k, rfl, hj, hk, hcw, hnd, hall⟩ C hC
  have z2 := hg w2 hcw
  simp -dsimp [go_sem, z2.k]
  refine SPL_intro (fun p1 => ?_) (fun p1 => ?_) <;> simp at p1
  · have hk1 : k < nl.length := by omega
    obtain ⟨b4, o4, rfl, hb4, x1, x2⟩ := Go.Px.strs_at z2.r2 p1
    have hej : g.nons[j] = nl[k] := by subst hj; exact hel k hk1
    rw [hej] at x1 x2
    have wj : IntKind.i64.wrap ((j : Int) + 1) = (j : Int) + 1 := IntWalk.i64_in _ (by unfold maxLen at m2; omega)
    simp -dsimp [go_sem, z2.k, p1, x1]
    refine CALL_of (ref02_IsName_ct x2 w2) ?_
    rintro _ _ ⟨rfl, rfl⟩
    cases hT : nmB nl[k] with
    | false =>
      simp -dsimp [go_sem]
      exact no _ (hc0.trans hcw) fun hs => by rw [nmB_iff.2 (hs.2 _ (by rw [hE]; exact List.getElem_mem hk1))] at hT; cases hT
    | true =>
      simp -dsimp [go_sem]
      refine ref02_nonsFit.l13_intro _ _ _ _ _ _ (fun y w' => ∃ i n : Nat, y = .int .i64 i ∧ i = a + n ∧ n ≤ k ∧ Chg noB w1 w' ∧ ∀ s ∈ nl.take n, s ≠ nl[k]) (fun y _ => a + k - iv y) ⟨a, 0, rfl, rfl, by omega, hcw, by simp⟩ ?_
      rintro _ w3 ⟨i, n, rfl, hi, hn, hc3, hne⟩ C' hC'
      simp -dsimp [go_sem]
      refine SPL_intro (fun p4 => ?_) (fun p4 => ?_) <;> simp at p4
      · have hn1 : n < nl.length := by omega
        have hil : i < g.nons.length := by omega
        have z3 := hg _ hc3.drew
        obtain ⟨b5, o5, e4, hb5, y1, _⟩ := Go.Px.strs_at z3.r2 p1
        injection e4 with e4; injection e4 with e4 e5; subst e4 e5
        obtain ⟨b6, o6, e4, hb6, y2, _⟩ := Go.Px.strs_at z3.r2 hil
        injection e4 with e4; injection e4 with e4 e5; subst e4 e5
        have hei : g.nons[i] = nl[n] := by subst hi; exact hel n hn1
        rw [hej] at y1
        rw [hei] at y2
        have wi : IntKind.i64.wrap ((i : Int) + 1) = (i : Int) + 1 := IntWalk.i64_in _ (by unfold maxLen at m2; omega)
        simp -dsimp [go_sem, z3.k, p1, hil, y1, y2]
        refine SPL_intro (fun p5 => ?_) (fun p5 => ?_) <;> simp at p5
        · refine no _ (hc0.trans hc3.drew) fun hs => ?_
          have h9 := hs.1
          rw [hE] at h9
          exact List.pairwise_iff_getElem.1 h9 n k hn1 hk1 (by omega) (toList_inj'.1 p5)
        · simp -dsimp [go_sem, wi]
          refine hC' _ _ ⟨i + 1, n + 1, by simp, by omega, by omega, hc3.drew, fun t ht => ?_⟩ (by simp [iv]; omega)
          rw [List.take_succ_eq_append_getElem hn1] at ht
          rcases List.mem_append.1 ht with ht | ht
          · exact hne t ht
          · rw [List.mem_singleton.1 ht]
            exact fun e => p5 (by rw [e])
      · have hnk : n = k := by omega
        subst hnk
        simp -dsimp [go_sem, wj]
        have htk : nl.take (n + 1) = nl.take n ++ [nl[n]] := List.take_succ_eq_append_getElem hk1
        refine hC _ _ ⟨j + 1, n + 1, by simp, by omega, by omega, hc3, ?_, fun t ht => ?_⟩ (by simp [iv]; omega)
        · rw [htk]
          refine List.nodup_append.2 ⟨hnd, by simp, fun x hx y hy => ?_⟩
          rw [List.mem_singleton.1 hy]
          exact hne x hx
        · rw [htk] at ht
          rcases List.mem_append.1 ht with ht | ht
          · exact hall t ht
          · rw [List.mem_singleton.1 ht]; exact nmB_iff.1 hT
  · have hka : k = nl.length := by omega
    subst hka
    rw [List.take_length] at hall hnd
    simp -dsimp [go_sem]
    refine hR _ _ ⟨?_, hc0.trans hcw⟩
    rw [nonsB_iff.2 (by unfold NonsP; rw [hE]; exact ⟨hnd, hall⟩)]
end Go.Proofs.Ytkacbjhiobnbfaa

/-
  No text twice.
-/
namespace Go.Proofs.Ytkacbjhiobnbfaa
open Go.Px Go.Px.Scan Go.RowKit
set_option maxHeartbeats 1000000
set_option linter.unusedSimpArgs false
set_option linter.unusedVariables false
set_option maxRecDepth 100000
attribute [-go_sem] Builtin.append_

theorem unlike_ct {w : World} {B : Nat} {v : Value} {l : List ByteArray} (h : (rSlice rStr).at1 w B v l) (hB : B ≤ w.heap.size) : Ct Try.prog gram_unlike.id #[v] w fun r w' => r = .bool (decide l.Nodup) ∧ Chg noB w w' := by
  refine gram_unlike.ct fun R hR => ?_
  obtain ⟨A, c, rfl, hl, hm, _⟩ := slice_form h
  unfold gram_unlike.run
  simp -dsimp [go_sem, mkStr]
  have h0 := (St.refl noB w).map Try.prog kStr 9 3
  generalize hq : w.heap.size = q at h0 ⊢
  generalize w.alloc (.map #[] 0) = w1 at h0 ⊢
  refine gram_unlike.l6_intro _ _ _ _ _ _ _ (fun x w1 => ∃ (k n : Nat) (f : ByteArray → Int), x = .int .i64 k ∧ k ≤ l.length ∧ St noB w w1 [mapC Try.prog kStr 9 3 (.map (some q)) n f] ∧ n ≤ k ∧ (n = k ↔ (l.take k).Nodup) ∧ (∀ s, f s ≠ 0 ↔ s ∈ l.take k) ∧ ∀ s, 0 ≤ f s ∧ f s ≤ k) (fun x _ => l.length - iv x) ⟨0, 0, _, rfl, by omega, h0, by omega, by simp, by simp, by simp⟩ ?_
  rintro _ w1 ⟨k, n, f, rfl, hk, hst, hn, hnd, hmem, hf⟩ C hC
  simp -dsimp [go_sem]
  refine SPL_intro (fun h2 => ?_) (fun h2 => ?_) <;> simp at h2
  · obtain ⟨b1, o1, rfl, hb1, hc1, hr1⟩ := Go.Px.strs_at (Rep.below h (hst.chg.below hB fun _ _ => id)) h2
    have wk := wrap_succ h2 (Nat.le_trans hl hm)
    have hg : (Instr.lookup 167 (.map (some q)) (.string l[k]) false).run Try.prog w1 = _ := hst.mapGet mStr 0 rfl l[k] hr1
    have hfk := hf l[k]
    have hkm : k < maxLen := by omega
    have wf : IntKind.i64.wrap (f l[k] + 1) = f l[k] + 1 := IntWalk.i64_in _ (by unfold maxLen at hkm; omega)
    obtain ⟨w2, hrun, hst2⟩ := hst.mapSet mStr 0 rfl l[k] hr1 (by omega) (x := f l[k] + 1) (by unfold inI64; unfold maxLen at hkm; omega) (by omega)
    have hrun' : (Instr.mapUpdate 167 (.map (some q)) (.string l[k]) (.int .i64 (f l[k] + 1))).run Try.prog w1 = _ := hrun
    simp -dsimp [go_sem, h2, hc1, hg, wf, hrun', wk]
    have htk : l.take (k + 1) = l.take k ++ [l[k]] := List.take_succ_eq_append_getElem h2
    refine hC _ _ ⟨k + 1, _, _, by simp, by omega, hst2, ?_, ?_, ?_, ?_⟩ (by simp [iv]; omega)
    · split <;> omega
    · rw [htk]
      by_cases h0 : f l[k] = 0
      · have hno : l[k] ∉ l.take k := fun hm => (hmem l[k]).2 hm h0
        rw [if_pos h0]
        constructor
        · intro e
          refine List.nodup_append.2 ⟨hnd.1 (by omega), by simp, fun a ha b hb e' => ?_⟩
          simp at hb
          subst hb; subst e'; exact hno ha
        · intro hd
          have := hnd.2 (List.nodup_append.1 hd).1
          omega
      · rw [if_neg h0]
        have hyes := (hmem l[k]).1 h0
        constructor
        · intro e; omega
        · intro hd
          exact absurd rfl ((List.nodup_append.1 hd).2.2 _ hyes _ (by simp))
    · intro s
      rw [htk]
      by_cases hs : s = l[k]
      · subst hs
        simp only [if_true, List.mem_append, List.mem_singleton, or_true, iff_true]
        have := hf l[k]; omega
      · simp only [if_neg hs, List.mem_append, List.mem_singleton, hs, or_false]; exact hmem s
    · intro s
      have := hf s
      by_cases hs : s = l[k]
      · simp only [if_pos hs]; omega
      · simp only [if_neg hs]; omega
  · have hka : k = l.length := by omega
    subst hka
    rw [List.take_length] at hnd
    obtain ⟨F, ho, _⟩ := hst.get (k := 0) rfl
    have hlen := ho.1.len mStr 3
    simp -dsimp [go_sem, hlen]
    refine hR _ _ ⟨?_, hst.chg⟩
    congr 1
    refine decide_eq_decide.2 ?_
    rw [← hnd]; omega
end Go.Proofs.Ytkacbjhiobnbfaa
