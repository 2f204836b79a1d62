/-
  Texts of this claim: Gm1, Gm2, Gm3, Gm4, Gm5, Gm6.
-/
import Derived.Test.YtkacbjhiobnbfaaGa
import Derived.Test.YtkacbjhiobnbfaaSa
import Derived.Test.YtkacbjhiobnbfaaPa
import Derived.Lib.OthersKept
import Derived.Laws.RangeAny
import Derived.Lib.UnsafeStr
import Derived.Lib.BufferWrite
import Derived.Laws.MakeOwn
/-
  Names and terminals' texts in package gram and in the document's answer.
-/
namespace Go.Px.Scan
open Classical in
noncomputable def nmB (s : ByteArray) : Bool := decide (NameP s)
open Classical in
noncomputable def tmB (s : ByteArray) : Bool := decide (TermP s)
theorem nmB_iff {s : ByteArray} : nmB s = true ↔ NameP s := @decide_eq_true_iff _ (_)
theorem tmB_iff {s : ByteArray} : tmB s = true ↔ TermP s := @decide_eq_true_iff _ (_)
theorem nmB_no {s : ByteArray} (h : ¬ NameP s) : nmB s = false := by rw [Bool.eq_false_iff]; exact fun h' => h (nmB_iff.1 h')
theorem tmB_no {s : ByteArray} (h : ¬ TermP s) : tmB s = false := by rw [Bool.eq_false_iff]; exact fun h' => h (tmB_iff.1 h')
end Go.Px.Scan

namespace Go.Proofs.Ytkacbjhiobnbfaa
open Go.Px Go.Px.Scan Go.RowKit
set_option maxHeartbeats 1000000
set_option linter.unusedSimpArgs false

theorem bytes_of {p : Nat → Prop} (h : ∀ c : Fin 256, p c.val) (c : Nat) (hc : c < 256) : p c := h ⟨c, hc⟩
theorem or32 (c : Nat) (hc : c < 256) : (decide (97 ≤ bits BinOp.or IntKind.u8 (c : Int) 32) && decide (bits BinOp.or IntKind.u8 (c : Int) 32 ≤ 122)) = letterN c :=
  bytes_of (p := fun c => (decide (97 ≤ bits BinOp.or IntKind.u8 (c : Int) 32) && decide (bits BinOp.or IntKind.u8 (c : Int) 32 ≤ 122)) = letterN c) (by decide +kernel) c hc

theorem isTerm1_ct (r : Int) (w : World) : Ct Try.prog gram_isTerm_1.id #[.int .i32 r] w fun v w' => v = .bool (decide (r < 32 ∨ 126 < r ∨ r = 39)) ∧ w = w' := by
  refine gram_isTerm_1.ct fun R hR => ?_
  unfold gram_isTerm_1.run gram_isTerm_1.b1
  simp [go_sem]
  refine SPL_intro (fun h => ?_) (fun h => ?_) <;> simp at h
  · exact hR _ _ ⟨by simp [h], rfl⟩
  · simp [go_sem]
    refine SPL_intro (fun h2 => ?_) (fun h2 => ?_) <;> simp at h2
    · exact hR _ _ ⟨by simp [h2], rfl⟩
    · simp [go_sem]
      refine hR _ _ ⟨?_, rfl⟩
      congr 1
      rw [Bool.eq_iff_iff]
      simp
      omega

theorem chg_iter {w : World} {k : Nat} (s : ByteArray) (pos : Nat) : Chg (· = k) w (w.iterAt k s pos) :=
  ⟨rfl, rfl, rfl, by rw [Lib.iterAt_size]; exact Nat.le_refl _, fun i _ hi => Lib.iterAt_other w k i s pos hi⟩

theorem IndexFunc_ct {s : ByteArray} (hs : s.size ≤ maxLen) (w : World) : Ct Try.prog strings_IndexFunc.id #[.string s, .func (.func gram_isTerm_1.id) #[] #[]] w fun v w' => (∃ i, v = .int .i64 i ∧ (0 ≤ i ↔ ¬ ∀ j, j < s.size → plainN (bt s j) = true)) ∧ Chg (fun _ => False) w w' := by
  refine strings_IndexFunc.ct fun R hR => ?_
  unfold strings_IndexFunc.run strings_IndexFunc.b1
  refine CALL_of (S := fun v w' => (∃ i, v = .int .i64 i ∧ (0 ≤ i ↔ ¬ ∀ j, j < s.size → plainN (bt s j) = true)) ∧ Chg (fun _ => False) w w') (strings_indexFunc.ct fun R hR => ?_) (fun v w' h => hR v w' h)
  unfold strings_indexFunc.run strings_indexFunc.b1 strings_indexFunc.b4
  simp [go_sem]
  have hc0 : Chg (fun _ => False) w (w.iter s 0) := (Chg.refl _ _).alloc _
  have hk0 : (w.iter s 0).heap[w.heap.size]? = some (.stringIter s 0) := World.iter_heap w s 0
  refine strings_indexFunc.l6_intro _ _ _ _ _ (fun W => ∃ j, j ≤ s.size ∧ W.heap[w.heap.size]? = some (.stringIter s j) ∧ (∀ i, i < j → plainN (bt s i) = true) ∧ Chg (fun _ => False) w W) (fun W => s.size - W.iterPos w.heap.size) ⟨0, Nat.zero_le _, hk0, fun i h => by omega, hc0⟩ ?_
  rintro W ⟨j, hj, hk, hall, hc⟩ C hC
  unfold strings_indexFunc.b7
  by_cases hlt : j < s.size
  · have hb : (s[j]'hlt).toNat = bt s j := by unfold bt; rw [dif_pos hlt]
    rw [RUN_eq, Lib.run_next_any_at W w.heap.size s j 0 hk hlt, RES_ok]
    simp [go_sem]
    refine CALLY_of (isTerm1_ct _ _) ?_
    rintro _ _ ⟨rfl, rfl⟩
    simp [go_sem]
    have hci : Chg (fun _ => False) w (W.iterAt w.heap.size s (j + (Utf8.decode s j).2)) := hc.trans' (chg_iter s _) (fun i hi h => by omega)
    refine SPL_intro (fun h => ?_) (fun h => ?_)
    · refine hR _ _ ⟨⟨j, rfl, ?_⟩, hci⟩
      refine ⟨fun _ hp => ?_, fun _ => by omega⟩
      have h1 := hp j hlt
      have h2 : bt s j < 128 := by simp [plainN] at h1; omega
      rw [decode_ascii s j hlt (by rw [hb]; exact h2), hb] at h
      simp [plainN] at h1 h
      omega
    · have hlow : bt s j < 128 := by
        rcases Nat.lt_or_ge (bt s j) 128 with h2 | h2
        · exact h2
        · have := (decode_high s j hlt (by rw [hb]; exact h2)).1
          simp at h
          omega
      have hd := decode_ascii s j hlt (by rw [hb]; exact hlow)
      rw [hd] at h hci ⊢
      rw [hb] at h
      simp at h
      refine hC _ ⟨j + 1, hlt, Lib.iterAt_heap _ _ _ _ _ hk, fun i hi => ?_, hci⟩ ?_
      · by_cases he : i = j
        · rw [he]; simp [plainN]; omega
        · exact hall i (by omega)
      · unfold World.iterPos
        rw [Lib.iterAt_heap _ _ _ _ _ hk, hk]
        simp; omega
  · rw [RUN_eq, Lib.run_next_end_at W w.heap.size s j 0 hk hlt, RES_ok]
    simp [go_sem]
    unfold strings_indexFunc.b3
    refine hR _ _ ⟨⟨-1, rfl, ?_⟩, hc⟩
    refine ⟨fun h => by omega, fun h => absurd (fun i hi => hall i (by omega)) h⟩

theorem str_empty {s : ByteArray} : (s.toList == []) = decide (s.size = 0) := by
  rw [ByteArray.toList_eq]
  by_cases h : s.size = 0
  · have : s.data.toList = [] := List.eq_nil_of_length_eq_zero (by simpa using h)
    simp [this, h]
  · have : s.data.toList ≠ [] := fun e => h (by have := congrArg List.length e; simpa using this)
    rw [beq_eq_false_iff_ne.2 this]; simp [h]

theorem size_of_nil {s : ByteArray} (h : s.toList = []) : s.size = 0 := by
  rw [ByteArray.toList_eq] at h
  have h2 : s.data.toList.length = s.size := by simp
  rw [h] at h2
  exact h2.symm

theorem isTerm_ct {s : ByteArray} (hs : s.size ≤ maxLen) (w : World) : Ct Try.prog gram_isTerm.id #[.string s] w fun v w' => v = .bool (tmB s) ∧ Chg (fun _ => False) w w' := by
  refine gram_isTerm.ct fun R hR => ?_
  have no : ¬ TermP s → R (.returned (.bool false)) w := fun h => hR _ _ ⟨by rw [tmB_no h], Chg.refl _ _⟩
  unfold gram_isTerm.run gram_isTerm.b1
  simp [go_sem]
  refine SPL_intro (fun h => ?_) (fun h => ?_)
  · have hpos : 0 < s.size := by
      rcases Nat.eq_zero_or_pos s.size with h0 | h0
      · have := str_empty (s := s)
        rw [h0] at this
        simp at this h
        exact absurd this h
      · exact h0
    simp [go_sem]
    refine SPL_intro (fun h2 => ?_) (fun h2 => ?_) <;> simp at h2
    · refine CALL_of (IndexFunc_ct hs w) ?_
      rintro _ w1 ⟨⟨i, rfl, hi⟩, hc⟩
      simp [go_sem]
      refine hR _ _ ⟨?_, hc⟩
      congr 1
      rw [Bool.eq_iff_iff, tmB_iff, decide_eq_true_iff]
      constructor
      · intro h3
        refine ⟨hpos, by omega, ?_⟩
        exact Classical.byContradiction fun h4 => by have := hi.2 h4; omega
      · intro h3
        rcases Int.lt_or_le i 0 with h4 | h4
        · exact h4
        · exact absurd h3.2.2 (hi.1 h4)
    · exact no fun h3 => by have := h3.2.1; omega
  · refine no fun h3 => ?_
    have h4 := h3.1
    have h5 : s.toList = [] := by simpa using h
    have h6 := size_of_nil h5
    omega

theorem isName_ct {s : ByteArray} (hs : s.size ≤ maxLen) (w : World) : Ct Try.prog gram_isName.id #[.string s] w fun v w' => v = .bool (nmB s) ∧ Chg (fun _ => False) w w' := by
  refine gram_isName.ct fun R hR => ?_
  have no : ¬ NameP s → R (.returned (.bool false)) w := fun h => hR _ _ ⟨by rw [nmB_no h], Chg.refl _ _⟩
  unfold gram_isName.run gram_isName.b1 gram_isName.b4
  simp [go_sem]
  refine gram_isName.l6_intro _ _ _ _ _ (fun x w1 => ∃ k : Nat, x = .int .i64 k ∧ k ≤ s.size ∧ (∀ i, i < k → innerN (bt s i) = true) ∧ (0 < k → (letterN (bt s 0) || decide (bt s 0 = 95)) = true) ∧ w = w1) (fun x _ => s.size - iv x) ⟨0, rfl, by omega, fun i h => by omega, fun h => by omega, rfl⟩ ?_
  rintro _ _ ⟨k, rfl, hk, hall, hfst, rfl⟩ C hC
  unfold gram_isName.b7
  simp [go_sem]
  refine SPL_intro (fun h => ?_) (fun h => ?_) <;> simp at h
  · have step : ∀ b, (b = false → innerN (bt s k) = true ∧ (k = 0 → (letterN (bt s 0) || decide (bt s 0 = 95)) = true)) → (b = true → ¬ NameP s) → gram_isName.b12 R C (.int .i64 k) (.bool b) w := by
      intro b h1 h2
      unfold gram_isName.b12
      cases b with
      | true => simp [go_sem]; exact no (h2 rfl)
      | false =>
        simp [go_sem]
        unfold gram_isName.b9
        simp [go_sem, wrap_succ h hs]
        refine hC _ _ ⟨k + 1, by simp, by omega, fun i hi => ?_, fun _ => ?_, rfl⟩ (by simp [iv]; omega)
        · by_cases he : i = k
          · rw [he]; exact (h1 rfl).1
          · exact hall i (by omega)
        · by_cases he : k = 0
          · exact (h1 rfl).2 he
          · exact hfst (by omega)
    have hb := bt_lt s k
    have hor := or32 (bt s k) hb
    have noK : innerN (bt s k) = false → ¬ NameP s := fun h1 h2 => by rw [h2.2.2.2 k h] at h1; cases h1
    have no0 : k = 0 → letterN (bt s k) = false → bt s k ≠ 95 → ¬ NameP s := fun h1 h2 h3 h4 => by
      have := h4.2.2.1
      rw [← h1, h2] at this
      simp at this
      exact h3 this
    have h95 : bt s k = 95 → ∀ b, b = false → gram_isName.b12 R C (.int .i64 k) (.bool b) w := fun h1 b hb => step b (fun _ => ⟨by rw [h1]; rfl, fun h0 => by rw [h0] at h1; rw [h1]; rfl⟩) (fun e => by rw [hb] at e; cases e)
    have hlet : letterN (bt s k) = true → gram_isName.b12 R C (.int .i64 k) (.bool false) w := fun h1 => step false (fun _ => ⟨by simp [innerN, h1], fun h0 => by rw [h0] at h1; rw [h1]; rfl⟩) (fun e => by cases e)
    unfold gram_isName.b11
    simp [go_sem, index_bt, h]
    refine SPL_intro (fun h1 => ?_) (fun h1 => ?_)
    · have h95' : bt s k ≠ 95 := by simp at h1; omega
      simp [go_sem]
      -- no letter
      have nolet : letterN (bt s k) = false → (k = 0 → gram_isName.b12 R C (.int .i64 k) (.bool true) w) ∧ (¬ k = 0 → bt s k < 48 → gram_isName.b12 R C (.int .i64 k) (.bool true) w) ∧ (¬ k = 0 → 48 ≤ bt s k → gram_isName.b12 R C (.int .i64 k) (.bool (decide ((57 : Int) < bt s k))) w) := fun hl => by
        refine ⟨fun h0 => step _ (fun e => by cases e) (fun _ => no0 h0 hl h95'), fun h0 h48 => step _ (fun e => by cases e) (fun _ => noK ?_), fun h0 h48 => step _ (fun e => ⟨?_, fun e0 => absurd e0 h0⟩) (fun e => noK ?_)⟩
        · simp [innerN, hl]; omega
        · simp at e; simp [innerN]; omega
        · simp at e; simp [innerN, hl]; omega
      refine SPL_intro (fun h2 => ?_) (fun h2 => ?_)
      · have hl : letterN (bt s k) = false := by rw [← hor]; simp at h2 ⊢; omega
        obtain ⟨n1, n2, n3⟩ := nolet hl
        simp [go_sem]
        refine SPL_intro (fun h3 => ?_) (fun h3 => ?_)
        · exact n1 (by simpa using h3)
        · have hk0 : ¬ k = 0 := by simpa using h3
          simp [go_sem]
          refine SPL_intro (fun h4 => ?_) (fun h4 => ?_)
          · exact n2 hk0 (by simp at h4; omega)
          · simp [go_sem]
            exact n3 hk0 (by simp at h4; omega)
      · simp [go_sem]
        refine SPL_intro (fun h3 => ?_) (fun h3 => ?_)
        · have hl : letterN (bt s k) = false := by rw [← hor]; simp at h2 h3 ⊢; omega
          obtain ⟨n1, n2, n3⟩ := nolet hl
          simp [go_sem]
          refine SPL_intro (fun h5 => ?_) (fun h5 => ?_)
          · exact n1 (by simpa using h5)
          · have hk0 : ¬ k = 0 := by simpa using h5
            simp [go_sem]
            refine SPL_intro (fun h4 => ?_) (fun h4 => ?_)
            · exact n2 hk0 (by simp at h4; omega)
            · simp [go_sem]
              exact n3 hk0 (by simp at h4; omega)
        · exact hlet (by rw [← hor]; simp at h2 h3 ⊢; omega)
    · exact h95 (by simp at h1; omega) false rfl
  · unfold gram_isName.b3
    have fin : ∀ b, b = nmB s → R (.returned (.bool b)) w := fun b hb => hR _ _ ⟨by rw [hb], Chg.refl _ _⟩
    simp [go_sem]
    refine SPL_intro (fun h1 => ?_) (fun h1 => ?_)
    · have hpos : 0 < s.size := by
        rcases Nat.eq_zero_or_pos s.size with h0 | h0
        · have := str_empty (s := s)
          rw [h0] at this
          simp at this h1
          exact absurd this h1
        · exact h0
      simp [go_sem]
      refine fin _ ?_
      rw [Bool.eq_iff_iff, nmB_iff]
      simp
      constructor
      · intro h2
        exact ⟨hpos, by omega, hfst (by omega), fun i hi => hall i (by omega)⟩
      · intro h2; have := h2.2.1; omega
    · refine no fun h3 => ?_
      have h4 := h3.1
      have h5 : s.toList = [] := by simpa using h1
      have h6 := size_of_nil h5
      omega

theorem ref02_IsTerm_ct {s : ByteArray} (hs : s.size ≤ maxLen) (w : World) : Ct Try.prog ref02_IsTerm.id #[.string s] w fun v w' => v = .bool (tmB s) ∧ w = w' := by
  refine ref02_IsTerm.ct fun R hR => ?_
  have no : ¬ TermP s → ∀ v, v = Value.bool false → R (.returned v) w := fun h v hv => hR _ _ ⟨by rw [hv, tmB_no h], rfl⟩
  unfold ref02_IsTerm.run ref02_IsTerm.b1 ref02_IsTerm.b4
  refine ref02_IsTerm.l6_intro _ _ _ _ (fun x w1 => ∃ k : Nat, x = .int .i64 k ∧ k ≤ s.size ∧ (∀ i, i < k → plainN (bt s i) = true) ∧ w = w1) (fun x _ => s.size - iv x) ⟨0, rfl, by omega, fun i h => by omega, rfl⟩ ?_
  rintro _ _ ⟨k, rfl, hk, hall, rfl⟩ C hC
  unfold ref02_IsTerm.b7
  simp [go_sem]
  refine SPL_intro (fun h => ?_) (fun h => ?_) <;> simp at h
  · have step : ∀ b, b = !(plainN (bt s k)) → ref02_IsTerm.b12 R C (.int .i64 k) (.bool b) w := by
      intro b hb
      unfold ref02_IsTerm.b12
      cases b with
      | true =>
        simp [go_sem]
        exact no (fun hn => by have := hn.2.2 k h; rw [this] at hb; cases hb) _ rfl
      | false =>
        simp [go_sem]
        unfold ref02_IsTerm.b9
        simp [go_sem, wrap_succ h hs]
        refine hC _ _ ⟨k + 1, by simp, by omega, fun i hik => ?_, rfl⟩ (by simp [iv]; omega)
        by_cases he : i = k
        · rw [he]; simpa using hb
        · exact hall i (by omega)
    unfold ref02_IsTerm.b11
    simp [go_sem, index_bt, h]
    refine SPL_intro (fun h1 => ?_) (fun h1 => ?_) <;> simp at h1
    · exact step _ (by simp [plainN]; omega)
    simp [go_sem, index_bt, h]
    refine SPL_intro (fun h2 => ?_) (fun h2 => ?_) <;> simp at h2
    · exact step _ (by simp [plainN]; omega)
    simp [go_sem, index_bt, h]
    exact step _ (by rw [Bool.eq_iff_iff]; simp [plainN]; omega)
  · unfold ref02_IsTerm.b3
    have fin : ∀ b, b = tmB s → R (.returned (.bool b)) w := fun b hb => hR _ _ ⟨by rw [hb], rfl⟩
    simp [go_sem]
    refine SPL_intro (fun h1 => ?_) (fun h1 => ?_) <;> simp at h1
    · simp [go_sem]
      refine fin _ ?_
      rw [Bool.eq_iff_iff, tmB_iff]
      simp
      constructor
      · intro h2; exact ⟨by omega, by omega, fun i hi => hall i (by omega)⟩
      · intro h2; have := h2.2.1; omega
    · exact no (fun hn => by have := hn.1; omega) _ rfl

theorem ref02_IsName_ct {s : ByteArray} (hs : s.size ≤ maxLen) (w : World) : Ct Try.prog ref02_IsName.id #[.string s] w fun v w' => v = .bool (nmB s) ∧ w = w' := by
  refine ref02_IsName.ct fun R hR => ?_
  have no : ¬ NameP s → R (.returned (.bool false)) w := fun h => hR _ _ ⟨by rw [nmB_no h], rfl⟩
  unfold ref02_IsName.run ref02_IsName.b1 ref02_IsName.b4
  refine ref02_IsName.l6_intro _ _ _ _ (fun x w1 => ∃ k : Nat, x = .int .i64 k ∧ k ≤ s.size ∧ (∀ i, i < k → innerN (bt s i) = true) ∧ (0 < k → (letterN (bt s 0) || decide (bt s 0 = 95)) = true) ∧ w = w1) (fun x _ => s.size - iv x) ⟨0, rfl, by omega, fun i h => by omega, fun h => by omega, rfl⟩ ?_
  rintro _ _ ⟨k, rfl, hk, hall, hfst, rfl⟩ C hC
  unfold ref02_IsName.b7
  simp [go_sem]
  refine SPL_intro (fun h => ?_) (fun h => ?_) <;> simp at h
  · have h12 : ∀ b, b = (letterN (bt s k) || decide (bt s k = 95)) → ref02_IsName.b12 R C (.string s) (.int .i64 k) (.bool b) w := by
      intro b hb
      have h13 : ∀ d, d = (decide (48 ≤ bt s k ∧ bt s k ≤ 57) && decide (0 < k)) → ref02_IsName.b13 R C (.int .i64 k) (.bool b) (.bool d) w := by
        intro d hd
        have bad : (b || d) = false → ref02_IsName.b14 R C (.int .i64 k) (.bool true) w := by
          intro hbd
          unfold ref02_IsName.b14
          simp [go_sem]
          refine no fun hn => ?_
          have h1 := hn.2.2.2 k h
          have h2 := hn.2.2.1
          rw [hb, hd] at hbd
          by_cases h0 : k = 0
          · rw [h0, h2] at hbd
            cases hbd
          · simp [innerN] at h1 hbd
            rcases h1 with h1 | h1 | h1
            · rw [h1] at hbd; simp at hbd
            · exact hbd.1.2 h1
            · have := hbd.2 h1.1 h1.2; omega
        have good : (b || d) = true → ref02_IsName.b14 R C (.int .i64 k) (.bool false) w := by
          intro hbd
          unfold ref02_IsName.b14
          simp [go_sem]
          unfold ref02_IsName.b9
          simp [go_sem, wrap_succ h hs]
          rw [hb, hd] at hbd
          refine hC _ _ ⟨k + 1, by simp, by omega, fun i hi => ?_, fun _ => ?_, rfl⟩ (by simp [iv]; omega)
          · by_cases he : i = k
            · rw [he]
              simp [innerN] at hbd ⊢
              rcases hbd with hbd | hbd
              · rcases hbd with hbd | hbd
                · exact Or.inl hbd
                · exact Or.inr (Or.inl hbd)
              · exact Or.inr (Or.inr hbd.1)
            · exact hall i (by omega)
          · by_cases he : k = 0
            · rw [he] at hbd
              simp at hbd ⊢
              exact hbd
            · exact hfst (by omega)
        unfold ref02_IsName.b13
        cases b with
        | true => simp [go_sem]; exact good rfl
        | false =>
          simp [go_sem]
          cases d with
          | true => exact good rfl
          | false => exact bad rfl
      unfold ref02_IsName.b12
      simp [go_sem, index_bt, h]
      refine SPL_intro (fun h1 => ?_) (fun h1 => ?_)
      · simp [go_sem, index_bt, h]
        refine SPL_intro (fun h2 => ?_) (fun h2 => ?_)
        · simp [go_sem]
          refine h13 _ ?_
          rw [Bool.eq_iff_iff]
          simp at h1 h2 ⊢
          omega
        · refine h13 false ?_
          simp at h1 h2 ⊢
          omega
      · refine h13 false ?_
        simp at h1 ⊢
        omega
    unfold ref02_IsName.b11
    simp [go_sem, index_bt, h]
    have e1 : ∀ c : Nat, letterN c = decide (65 ≤ c ∧ c ≤ 90 ∨ 97 ≤ c ∧ c ≤ 122) := fun c => rfl
    refine SPL_intro (fun h1 => ?_) (fun h1 => ?_)
    all_goals simp [go_sem, index_bt, h]
    · refine SPL_intro (fun h2 => ?_) (fun h2 => ?_)
      · exact h12 true (by simp at h1 h2; simp [e1]; omega)
      · simp [go_sem, index_bt, h]
        refine SPL_intro (fun h3 => ?_) (fun h3 => ?_)
        all_goals simp [go_sem, index_bt, h]
        · refine SPL_intro (fun h4 => ?_) (fun h4 => ?_)
          · exact h12 true (by simp at h3 h4; simp [e1]; omega)
          · simp [go_sem, index_bt, h]
            exact h12 _ (by rw [Bool.eq_iff_iff]; simp at h1 h2 h3 h4; simp [e1]; omega)
        · exact h12 _ (by rw [Bool.eq_iff_iff]; simp at h1 h2 h3; simp [e1]; omega)
    · refine SPL_intro (fun h3 => ?_) (fun h3 => ?_)
      all_goals simp [go_sem, index_bt, h]
      · refine SPL_intro (fun h4 => ?_) (fun h4 => ?_)
        · exact h12 true (by simp at h3 h4; simp [e1]; omega)
        · simp [go_sem, index_bt, h]
          exact h12 _ (by rw [Bool.eq_iff_iff]; simp at h1 h3 h4; simp [e1]; omega)
      · exact h12 _ (by rw [Bool.eq_iff_iff]; simp at h1 h3; simp [e1]; omega)
  · unfold ref02_IsName.b3
    have fin : ∀ b, b = nmB s → R (.returned (.bool b)) w := fun b hb => hR _ _ ⟨by rw [hb], rfl⟩
    simp [go_sem]
    refine SPL_intro (fun h1 => ?_) (fun h1 => ?_) <;> simp at h1
    · simp [go_sem]
      refine fin _ ?_
      rw [Bool.eq_iff_iff, nmB_iff]
      simp
      constructor
      · intro h2; exact ⟨by omega, by omega, hfst (by omega), fun i hi => hall i (by omega)⟩
      · intro h2; have := h2.2.1; omega
    · exact no fun hn => by have := hn.1; omega
end Go.Proofs.Ytkacbjhiobnbfaa

/-
  strings.Clone.
-/
namespace Go.Proofs.Ytkacbjhiobnbfaa
open Go.Px Go.Px.Scan Go.RowKit
set_option maxHeartbeats 1000000
set_option linter.unusedSimpArgs false

theorem info_u8 : (Try.prog.info? 5).map (fun i => (i.zero, i.size, i.bytes)) = some (some (.int .u8 0), 1, 1) := by kernel_rfl
theorem info_parts {P : Program} {e : TypeId} {z : Value} {sz b : Nat} (h : (P.info? e).map (fun i => (i.zero, i.size, i.bytes)) = some (some z, sz, b)) : ∃ i, P.info? e = some i ∧ i.zero = some z ∧ i.size = sz ∧ i.bytes = b := by
  cases hq : P.info? e with
  | none => rw [hq] at h; cases h
  | some i => rw [hq] at h; simp at h; exact ⟨i, rfl, h.1, h.2.1, h.2.2⟩

theorem chg_modify {w : World} {g : Nat} (f : Obj → Obj) : Chg (· = g) w { w with heap := w.heap.modify g f } :=
  ⟨rfl, rfl, rfl, by simp, fun k _ hk => by rw [Array.getElem?_modify]; simp [Ne.symm hk]⟩
theorem chg_setRow {w : World} {g : Nat} (cs : Array Value) : Chg (· = g) w (w.setRow g cs) := chg_modify _
theorem chg_freeze {w : World} {a : Addr} {n : Nat} : Chg (· = a.block) w (w.freeze a n) := by
  unfold World.freeze
  split
  · exact Chg.refl _ _
  · exact chg_modify _

theorem slClone_ct {s : ByteArray} (hs : s.size ≤ 1000) (w : World) : Ct Try.prog internal_stringslite_Clone.id #[.string s] w fun v w' => v = .string s ∧ Chg (fun _ => False) w w' := by
  refine internal_stringslite_Clone.ct fun R hR => ?_
  obtain ⟨i0, hi, hz0, hz1, hz2⟩ := info_parts info_u8
  unfold internal_stringslite_Clone.run internal_stringslite_Clone.b1
  simp [go_sem]
  refine SPL_intro (fun h => ?_) (fun h => ?_) <;> simp at h
  · refine hR _ _ ⟨?_, Chg.refl _ _⟩
    rw [h]; rfl
  · have hpos : 0 < s.size := by
      rcases Nat.eq_zero_or_pos s.size with h0 | h0
      · exact absurd (bs_ext (by rw [show s.data.toList = [] from List.eq_nil_of_length_eq_zero (by simpa using h0)]; rfl)) h
      · exact h0
    simp [go_sem]
    rw [run_makeSlice w 98 5 i0 _ Try.underlying98 hi hz0 .i64 .i64 s.size s.size (by omega) (by omega) (by rw [hz1]; omega) (by rw [hz2]; omega) (by omega), RES_ok]
    have hcs : (madeCells (Value.int IntKind.u8 0).cells ((s.size : Int).toNat * i0.size)).size = s.size := by rw [size_madeCells, hz1]; simp
    generalize madeCells (Value.int IntKind.u8 0).cells ((s.size : Int).toNat * i0.size) = cs at hcs ⊢
    have hg1 : (w.alloc (.cells cs 5)).heap[w.heap.size]? = some (.cells cs 5 (0, 0)) := World.alloc_heap_new w _
    have hc1 : Chg (fun _ => False) w (w.alloc (.cells cs 5)) := (Chg.refl _ _).alloc _
    generalize w.alloc (.cells cs 5) = w1 at hg1 hc1 ⊢
    have hs1 := hc1.size
    rw [RUN_eq, Int.toNat_natCast, Lib.run_copy_row_string w1 98 9 3 5 w.heap.size 0 s.size s.size s cs 5 Try.underlying98 (by rw [hi, Option.map_some, hz1]) hg1 (Nat.le_refl _) (by omega), RES_ok]
    have hrow : (cs.toList.take 0 ++ Lib.byteCells s.data.toList ++ cs.toList.drop (0 + s.size)).toArray = (Lib.byteCells s.data.toList).toArray := by
      rw [List.take_zero, List.nil_append, List.drop_of_length_le (by simp; omega), List.append_nil]
    rw [hrow]
    have hc2 : Chg (fun _ => False) w (w1.setRow w.heap.size (Lib.byteCells s.data.toList).toArray) := hc1.trans' (chg_setRow _) (fun i hi h => by omega)
    have hg2 : (w1.setRow w.heap.size (Lib.byteCells s.data.toList).toArray).heap[w.heap.size]? = some (.cells (Lib.byteCells s.data.toList).toArray 5 (0, 0)) := by
      unfold World.setRow
      rw [Array.getElem?_modify, if_pos rfl, hg1]
      rfl
    generalize w1.setRow w.heap.size (Lib.byteCells s.data.toList).toArray = w2 at hc2 hg2 ⊢
    have hp : (0 : Int) < s.size := by omega
    simp [go_sem, hpos, hp]
    have hl : s.data.toList ≠ [] := fun e => by
      have h3 : s.data.toList.length = s.size := by simp
      rw [e] at h3; simp at h3; omega
    have hln : s.data.toList.length = s.size := by simp
    have hrun := Lib.run_unsafeString_row (P := Try.prog) (w := w2) 155 3 9 5 Try.underlying155 (by kernel_rfl) w.heap.size s.size (by
      unfold World.shape?
      rw [hg2]
      simp [Lib.byteCells]) s.data.toList hl (by omega) (by omega) (fun j x hj => by
        rw [Addr.add_lit]
        simp only [World.cell?, hg2, Nat.zero_add]
        simp [Lib.byteCells, hj])
    rw [hln] at hrun
    rw [hrun, RES_ok]
    refine hR _ _ ⟨by cases s; rfl, hc2.trans' chg_freeze (fun i hi h => ?_)⟩
    simp at h; omega

theorem Clone_ct {s : ByteArray} (hs : s.size ≤ 1000) (w : World) : Ct Try.prog strings_Clone.id #[.string s] w fun v w' => v = .string s ∧ Chg (fun _ => False) w w' := by
  refine strings_Clone.ct fun R hR => ?_
  unfold strings_Clone.run strings_Clone.b1
  exact CALL_of (slClone_ct hs w) fun v w' h => hR v w' h
end Go.Proofs.Ytkacbjhiobnbfaa

/-
  A builder's names.
-/
namespace Go.Px.Scan
open Go.Px
/-- The place of a text in a list; its length where it isn't there. -/
def posN : List ByteArray → ByteArray → Nat
  | [], _ => 0
  | x :: r, s => if x = s then 0 else posN r s + 1
theorem posN_le (l : List ByteArray) (s : ByteArray) : posN l s ≤ l.length := by
  induction l with
  | nil => exact Nat.le_refl _
  | cons x r ih => unfold posN; split <;> simp; omega
theorem posN_in {l : List ByteArray} {s : ByteArray} (h : s ∈ l) : posN l s < l.length ∧ l[posN l s]? = some s := by
  induction l with
  | nil => cases h
  | cons x r ih =>
    unfold posN
    by_cases hx : x = s
    · rw [if_pos hx]; simp [hx]
    · rw [if_neg hx]
      have := ih (by rcases List.mem_cons.1 h with h | h; exact absurd h.symm hx; exact h)
      exact ⟨by simp; exact this.1, by simpa using this.2⟩
theorem posN_no {l : List ByteArray} {s : ByteArray} (h : s ∉ l) : posN l s = l.length := by
  induction l with
  | nil => rfl
  | cons x r ih =>
    unfold posN
    simp at h
    rw [if_neg (fun e => h.1 e.symm), ih h.2]; rfl
theorem posN_iff {l : List ByteArray} {s : ByteArray} : posN l s < l.length ↔ s ∈ l := by
  constructor
  · intro h
    exact Classical.byContradiction fun h2 => by rw [posN_no h2] at h; omega
  · exact fun h => (posN_in h).1
theorem posN_snoc (l : List ByteArray) (x s : ByteArray) : posN (l ++ [x]) s = if posN l s < l.length then posN l s else if x = s then l.length else l.length + 1 := by
  induction l with
  | nil => simp [posN]
  | cons y r ih =>
    have e1 : posN (y :: (r ++ [x])) s = if y = s then 0 else posN (r ++ [x]) s + 1 := rfl
    have e2 : posN (y :: r) s = if y = s then 0 else posN r s + 1 := rfl
    rw [List.cons_append, e1, e2, ih]
    by_cases hy : y = s
    · simp [hy]
    · simp only [if_neg hy, List.length_cons]
      by_cases h : posN r s < r.length
      · have h2 : posN r s + 1 < r.length + 1 := by omega
        simp only [if_pos h, if_pos h2]
      · have h2 : ¬ posN r s + 1 < r.length + 1 := by omega
        simp only [if_neg h, if_neg h2]
        split <;> rfl
/-- A text's handle; 0: it has none. -/
def posH (l : List ByteArray) (s : ByteArray) : Int := if posN l s < l.length then (posN l s : Int) + 1 else 0
theorem posH_zero {l : List ByteArray} {s : ByteArray} : posH l s = 0 ↔ s ∉ l := by
  unfold posH
  split
  · rename_i h; constructor
    · intro h2; omega
    · intro h2; exact absurd (posN_iff.1 h) h2
  · rename_i h; exact ⟨fun _ h2 => h (posN_iff.2 h2), fun _ => rfl⟩
theorem posH_snoc {l : List ByteArray} {x : ByteArray} (hx : x ∉ l) (s : ByteArray) : posH (l ++ [x]) s = if s = x then (l.length : Int) + 1 else posH l s := by
  unfold posH
  rw [posN_snoc, List.length_append]
  by_cases hs : s = x
  · subst hs
    have : ¬ posN l s < l.length := fun h => hx (posN_iff.1 h)
    simp [this]
  · have : ¬ x = s := fun e => hs e.symm
    have hle := posN_le l s
    by_cases h : posN l s < l.length
    · simp [h, hs]; intro h2; omega
    · simp [h, hs, this]
end Go.Px.Scan

namespace Go.Proofs.Ytkacbjhiobnbfaa
open Go.Px Go.Px.Scan Go.RowKit
set_option maxHeartbeats 1000000
set_option linter.unusedSimpArgs false

theorem mapTy : MapTy Try.prog kStr 167 9 3 where
  tm := Try.underlying167
  te := Try.underlying3
  keyed := Maps.string_keyed Try.underlying9
  key a ha := WideMaps.keyOf_string_mk Try.underlying9 ha
  zero w := by simp [go_sem]

/-- What is owned, with its block's mark. -/
def Row (w : World) (T : Nat → Nat) (tag : Nat) (e size : Nat) (v : Value) (n : Nat) (xs : List Value) : Prop := w.ownsRow 0 e size v n xs ∧ ∀ i, v.ownBlock = some i → T i = tag

theorem ownsRow_keep {F : Nat → Prop} {w w' : World} {base e size : Nat} {v : Value} {n : Nat} {xs : List Value} (h : w.ownsRow base e size v n xs) (hc : Chg F w w') (hF : ∀ i, v.ownBlock = some i → ¬ F i) : w'.ownsRow base e size v n xs := by
  refine ⟨h.1, ?_⟩
  rcases h.2 with h2 | ⟨g, cap, cur, hv, hb, hg, hr⟩
  · exact Or.inl h2
  · refine Or.inr ⟨g, cap, cur, hv, hb, ?_, hr⟩
    rw [hc.block g (Array.getElem?_eq_some_iff.1 hg).1 (hF g (by rw [hv]; rfl))]
    exact hg
theorem Row.keep {F : Nat → Prop} {w w' : World} {T T' : Nat → Nat} {tag e size : Nat} {v : Value} {n : Nat} {xs : List Value} (h : Row w T tag e size v n xs) (hc : Chg F w w') (hF : ∀ i, T i = tag → ¬ F i) (hT : ∀ i, i < w.heap.size → T' i = T i) : Row w' T' tag e size v n xs :=
  ⟨ownsRow_keep h.1 hc fun i hi => hF i (h.2 i hi), fun i hi => by rw [hT i (ownsRow_block h.1 hi).2]; exact h.2 i hi⟩

/-- Names in the builder's block, from the o-th cell on. -/
structure Nm (w : World) (T : Nat → Nat) (b o tx tm : Nat) (v m : Value) (l : List ByteArray) : Prop where
  c0 : w.cell? ⟨b, o, none⟩ = some v
  c1 : w.cell? ⟨b, o + 1, none⟩ = some m
  f0 : w.frozen? ⟨b, o, none⟩ = false
  f1 : w.frozen? ⟨b, o + 1, none⟩ = false
  row : Row w T tx 9 1 v l.length (l.map Value.string)
  map : MapOf Try.prog kStr 9 3 w m l.length (posH l)
  tag : ∀ i, m = .map (some i) → T i = tm

theorem Nm.keep {F : Nat → Prop} {w w' : World} {T T' : Nat → Nat} {b o tx tm : Nat} {v m : Value} {l : List ByteArray} (h : Nm w T b o tx tm v m l) (hc : Chg F w w') (hb : ¬ F b) (hx : ∀ i, T i = tx → ¬ F i) (hm : ∀ i, T i = tm → ¬ F i) (hT : ∀ i, i < w.heap.size → T' i = T i) : Nm w' T' b o tx tm v m l :=
  ⟨hc.at h.c0 hb, hc.at h.c1 hb, (hc.frozen (p := ⟨b, o, none⟩) (World.block_lt_of_cell? _ _ h.c0) hb).trans h.f0, (hc.frozen (p := ⟨b, o + 1, none⟩) (World.block_lt_of_cell? _ _ h.c1) hb).trans h.f1,
    h.row.keep hc hx hT, h.map.chg hc fun i hi => hm i (h.tag i hi), fun i hi => by rw [hT i (h.map.lt hi)]; exact h.tag i hi⟩

theorem own_shape {w : World} {base e size : Nat} {v : Value} {n : Nat} {xs : List Value} (h : w.ownsRow base e size v n xs) : ∃ a c, v = .slice a n c := by
  rcases h.2 with ⟨h1, h2⟩ | ⟨g, cap, cur, he, _⟩
  · exact ⟨none, 0, by rw [h1, h2]⟩
  · exact ⟨_, _, he⟩
theorem row_len {w : World} {T : Nat → Nat} {tag e size : Nat} {v : Value} {n : Nat} {xs : List Value} (h : Row w T tag e size v n xs) : ∃ a c, v = .slice a n c := own_shape h.1

theorem find_ct {w : World} {T : Nat → Nat} {b o tx tm : Nat} {v m : Value} {l : List ByteArray} (h : Nm w T b o tx tm v m l) {s : ByteArray} (hs : s.size ≤ maxLen) : Ct Try.prog gram_names_find.id #[.pointer (some ⟨b, o, none⟩), .string s] w fun r w' => r = .int .i64 (posH l s) ∧ w = w' := by
  refine gram_names_find.ct fun R hR => ?_
  unfold gram_names_find.run gram_names_find.b1
  have hl := h.map.lookup mapTy s hs
  simp [go_sem, h.c0, h.c1]
  rw [show (Value.string s) = kStr.val s from rfl, hl, RES_ok]
  exact hR _ _ ⟨rfl, rfl⟩

theorem size_ct {w : World} {T : Nat → Nat} {b o tx tm : Nat} {v m : Value} {l : List ByteArray} (h : Nm w T b o tx tm v m l) : Ct Try.prog gram_names_size.id #[.pointer (some ⟨b, o, none⟩)] w fun r w' => r = .int .i64 l.length ∧ w = w' := by
  refine gram_names_size.ct fun R hR => ?_
  obtain ⟨a, c, hv⟩ := row_len h.row
  have hc0 := h.c0
  rw [hv] at hc0
  unfold gram_names_size.run gram_names_size.b1
  simp [go_sem, hc0]
  exact hR _ _ ⟨rfl, rfl⟩
end Go.Proofs.Ytkacbjhiobnbfaa

/-
  A builder's names: a new one.
-/
namespace Go.Px
/-- Nothing has turned but cells J of block b, and blocks F. -/
structure Fr (b : Nat) (J F : Nat → Prop) (w w' : World) : Prop where
  chg : Chg (fun i => i = b ∨ F i) w w'
  cell : ∀ j, ¬ J j → w'.cell? ⟨b, j, none⟩ = w.cell? ⟨b, j, none⟩
  frz : ∀ j, w'.frozen? ⟨b, j, none⟩ = w.frozen? ⟨b, j, none⟩
section
variable {b : Nat} {J F G : Nat → Prop} {w w' w'' : World}
theorem Fr.refl (w : World) : Fr b J F w w := ⟨Chg.refl _ _, fun _ _ => rfl, fun _ => rfl⟩
theorem Fr.trans (h : Fr b J F w w') (k : Fr b J F w' w'') : Fr b J F w w'' := ⟨h.chg.trans k.chg, fun j hj => (k.cell j hj).trans (h.cell j hj), fun j => (k.frz j).trans (h.frz j)⟩
theorem Fr.of (hc : Chg G w w') (hb : b < w.heap.size) (hG : ¬ G b) (hF : ∀ i, i < w.heap.size → G i → F i) : Fr b J F w w' :=
  ⟨hc.mono fun i hi h => Or.inr (hF i hi h), fun j _ => hc.cell (p := ⟨b, j, none⟩) hb hG, fun j => hc.frozen (p := ⟨b, j, none⟩) hb hG⟩
theorem Fr.set {j : Nat} (hj : J j) (u : Value) : Fr b J F w (w.setCell ⟨b, j, none⟩ u) :=
  ⟨(Chg.refl _ _).setCell (p := ⟨b, j, none⟩) (Or.inl (Or.inl rfl)) _, fun i hi => by
    rw [World.cell?_setCell_other]
    intro e
    injection e with _ e
    exact hi (e ▸ hj), fun i => World.frozen?_setCell _ _ _ _⟩
theorem Fr.mono {J' F' : Nat → Prop} (h : Fr b J F w w') (hJ : ∀ j, J j → J' j) (hF : ∀ i, F i → F' i) : Fr b J' F' w w' :=
  ⟨h.chg.mono fun i _ hi => hi.imp id (hF i), fun j hj => h.cell j fun hj' => hj (hJ j hj'), h.frz⟩
/-- New blocks may be turned later. -/
theorem Fr.trans' (h : Fr b J F w w') (k : Fr b J G w' w'') (hG : ∀ i, i < w.heap.size → G i → F i) : Fr b J F w w'' :=
  ⟨h.chg.trans' k.chg fun i hi hg => hg.imp id (hG i hi), fun j hj => (k.cell j hj).trans (h.cell j hj), fun j => (k.frz j).trans (h.frz j)⟩
end
end Go.Px

namespace Go.Proofs.Ytkacbjhiobnbfaa
open Go.Px Go.Px.Scan Go.RowKit
set_option maxHeartbeats 1000000
set_option linter.unusedSimpArgs false

theorem info_str : (Try.prog.info? 9).map (fun i => (i.zero, i.size, i.bytes)) = some (some (.string ⟨#[]⟩), 1, 16) := by kernel_rfl

/-- What a new name leaves behind. -/
structure NmNew (w : World) (T : Nat → Nat) (b o tx tm : Nat) (l : List ByteArray) (w' : World) (T' : Nat → Nat) (v' m' : Value) : Prop where
  nm : Nm w' T' b o tx tm v' m' l
  fr : Fr b (fun j => j = o ∨ j = o + 1) (fun i => T i = tx ∨ T i = tm) w w'
  old : ∀ i, i < w.heap.size → T' i = T i
  new : ∀ i, T' i ≠ 0 → T i = T' i ∨ (w.heap.size ≤ i ∧ (T' i = tx ∨ T' i = tm))
  lt : ∀ i, T' i ≠ 0 → i < w'.heap.size

set_option maxRecDepth 100000 in
theorem intern2_ok {R : Ending → World → Prop} {w : World} {T : Nat → Nat} {b o tx tm mb : Nat} {v : Value} {l : List ByteArray} (h : Nm w T b o tx tm v (.map (some mb)) l) {s : ByteArray} (hs : s.size ≤ 1000) (hno : s ∉ l) (hl : l.length ≤ 1000)
    (hT : ∀ i, T i ≠ 0 → i < w.heap.size) (hx : tx ≠ 0) (hm : tm ≠ 0) (hxm : tx ≠ tm) (hbx : T b ≠ tx) (hbm : T b ≠ tm)
    (hR : ∀ w' T' v', NmNew w T b o tx tm (l ++ [s]) w' T' v' (.map (some mb)) → R (.returned (.int .i64 ((l.length : Int) + 1))) w') : gram_names_intern.b2 R (.pointer (some ⟨b, o, none⟩)) (.string s) w := by
  have hmb := h.map.lt rfl
  have htm := h.tag mb rfl
  have hbw : b < w.heap.size := World.block_lt_of_cell? _ _ h.c0
  obtain ⟨i0, hi, hz0, hz1, hz2⟩ := info_parts info_str
  obtain ⟨a, c, hv⟩ := row_len h.row
  unfold gram_names_intern.b2
  generalize hap : Builtin.append_ = ap
  simp [go_sem, h.c0, h.c1]
  refine CALL_of (Clone_ct hs w.drew) ?_
  rintro _ w1 ⟨rfl, hc1⟩
  have hc1' : Chg (fun _ => False) w w1 := (Chg.refl _ _).drew.trans hc1
  have h1 := h.keep (T' := T) hc1' id (fun _ _ => id) (fun _ _ => id) (fun _ _ => rfl)
  have hs1 := hc1'.size
  have hb1 : b < w1.heap.size := Nat.lt_of_lt_of_le hbw hs1
  have hc2 : Chg (fun _ => False) w1 (w1.alloc (.cells #[.string s] 9)) := (Chg.refl _ _).alloc _
  have h2 := h1.keep (T' := T) hc2 id (fun _ _ => id) (fun _ _ => id) (fun _ _ => rfl)
  simp [go_sem, h1.c0, h1.c1, h2.c0]
  rw [← hap]
  clear hap ap
  have hn : ∀ j u, ([.string s] : List Value)[j]? = some u → (w1.alloc (.cells #[.string s] 9)).cell? ((⟨w1.heap.size, 0, none⟩ : Addr).add j) = some u := alloc_cells w1 [.string s] 9 rfl
  have hs2 := hc2.size
  generalize w1.alloc (.cells #[.string s] 9) = w2 at hc2 h2 hn hs2 ⊢
  refine append_own 23 23 9 Try.underlying23 hi hz0 hz1 hz2 rfl (by omega) h2.row.1 rfl hn ?_ (by unfold maxLen; omega) (by unfold maxBytes; omega) (Nat.zero_le _) ?_
  · intro u hu
    simp at hu
    subst hu; rfl
  intro g c3 w3 ho3 hg3 hgb
  have hc3 : Chg (fun i => T i = tx) w2 w3 := grown_chg hg3 fun k hk => h2.row.2 k hk
  have hs3 := hc3.size
  have hc03 : Chg (fun i => T i = tx) w w3 := ((hc1'.trans hc2).mono fun _ _ h => h.elim).trans hc3
  have k0 := hc3.at h2.c0 hbx
  have k1 := hc3.at h2.c1 hbx
  have kf0 := (hc3.frozen (p := ⟨b, o, none⟩) (by simp; omega) hbx).trans h2.f0
  have kf1 := (hc3.frozen (p := ⟨b, o + 1, none⟩) (by simp; omega) hbx).trans h2.f1
  have kmap := h2.map.chg hc3 (fun i hi he => by have := h2.tag i hi; omega)
  simp [go_sem, k0, kf0, k1]
  have k1' : (w3.setCell ⟨b, o, none⟩ (.slice (some ⟨g, 0, none⟩) (l.length + 1) c3)).cell? ⟨b, o + 1, none⟩ = some (.map (some mb)) := by
    exact (World.cell?_setCell_other _ _ _ _ (by simp)).trans k1
  have k0' : (w3.setCell ⟨b, o, none⟩ (.slice (some ⟨g, 0, none⟩) (l.length + 1) c3)).cell? ⟨b, o, none⟩ = some (.slice (some ⟨g, 0, none⟩) (l.length + 1) c3) := World.cell?_setCell_same _ _ _ k0
  have hc4 : Chg (· = b) w3 (w3.setCell ⟨b, o, none⟩ (.slice (some ⟨g, 0, none⟩) (l.length + 1) c3)) := (Chg.refl (· = b) w3).setCell (p := ⟨b, o, none⟩) (Or.inl rfl) _
  have kmap4 := kmap.chg hc4 (fun i hi he => by have := h2.tag i hi; rw [he] at this; exact hbm this)
  have ho4 := ownsRow_keep ho3 hc4 (fun i hi he => by
    have hgi : g = i := by injection hi
    have e : g = b := hgi.trans he
    rcases hgb with hgb | hgb
    · exact hbx (h2.row.2 b (by rw [hgb, e]))
    · omega)
  have hf4 : ∀ j, (w3.setCell ⟨b, o, none⟩ (.slice (some ⟨g, 0, none⟩) (l.length + 1) c3)).frozen? ⟨b, j, none⟩ = w3.frozen? ⟨b, j, none⟩ := fun j => World.frozen?_setCell _ _ _ _
  have hF4 : Fr b (fun j => j = o ∨ j = o + 1) (fun i => T i = tx ∨ T i = tm) w (w3.setCell ⟨b, o, none⟩ (.slice (some ⟨g, 0, none⟩) (l.length + 1) c3)) :=
    (Fr.of hc03 hbw hbx (fun i _ h => Or.inl h)).trans (Fr.set (Or.inl rfl) _)
  have hs4 := hc4.size
  generalize w3.setCell ⟨b, o, none⟩ (.slice (some ⟨g, 0, none⟩) (l.length + 1) c3) = w4 at k1' k0' hc4 kmap4 ho4 hf4 hF4 hs4 ⊢
  obtain ⟨w5, hrun, hmap5, hg5⟩ := (kmap4.chg (F := fun _ => False) (Chg.refl _ _).drew (fun _ _ => id)).update mapTy s (by show s.size ≤ maxLen; unfold maxLen; omega) (by unfold maxLen; omega) (x := (l.length : Int) + 1) (by unfold inI64; omega) (by omega)
  rw [show (Value.string s) = kStr.val s from rfl, hrun]
  have hc5 : Chg (· = mb) w4 w5 := ((Chg.refl _ w4).drew).trans (grown_chg hg5 fun k hk => by injection hk with hk; exact hk.symm)
  have hmbb : mb ≠ b := fun e => hbm (by rw [← e]; exact htm)
  have hs5 := hc5.size
  have q0 := hc5.at k0' (fun e => hmbb e.symm)
  have q1 := hc5.at k1' (fun e => hmbb e.symm)
  simp [go_sem, q0]
  have hpos : posH l s = 0 := posH_zero.2 hno
  have hgm : g ≠ mb := fun e => by
    rcases hgb with hgb | hgb
    · have h9 := h2.row.2 g hgb
      rw [e, htm] at h9
      exact hxm h9.symm
    · omega
  refine hR w5 (fun i => if i = g then tx else T i) (.slice (some ⟨g, 0, none⟩) (l.length + 1) c3) ⟨⟨q0, q1, ?_, ?_, ⟨?_, ?_⟩, ?_, ?_⟩, ?_, ?_, ?_, ?_⟩
  · rw [hc5.frozen (p := ⟨b, o, none⟩) (by simp; omega) (fun e => hmbb e.symm), hf4 o]; exact kf0
  · rw [hc5.frozen (p := ⟨b, o + 1, none⟩) (by simp; omega) (fun e => hmbb e.symm), hf4 (o + 1)]; exact kf1
  · rw [List.length_append, List.map_append]
    exact ownsRow_keep ho4 hc5 (fun i hi he => by injection hi with hi; exact hgm (hi.trans he))
  · intro i hi
    injection hi with hi
    simp [← hi]
  · rw [hpos, if_pos rfl] at hmap5
    rw [List.length_append]
    have : posH (l ++ [s]) = fun c => if c = s then (l.length : Int) + 1 else posH l c := funext fun c => posH_snoc hno c
    rw [this]
    rcases hmap5 with ⟨e, _⟩ | ⟨b', e, D, d1, d2, d3, d4⟩
    · cases e
    · refine Or.inr ⟨b', e, D, d1, d2, fun a => ?_, fun a ha => ?_⟩
      · rw [d3 a]; by_cases hh : a = s <;> simp [hh]
      · have h9 := d4 a ha
        by_cases hh : a = s
        · simp [hh]; omega
        · simp [hh] at h9 ⊢; exact h9
  · intro i hi
    injection hi with hi
    injection hi with hi
    rw [← hi, if_neg (fun e => hgm e.symm)]; exact htm
  · exact hF4.trans (Fr.of hc5 (by omega) (fun e => hmbb e.symm) (fun i _ e => Or.inr (by rw [e]; exact htm)))
  · intro i hi
    by_cases hig : i = g
    · rcases hgb with hgb | hgb
      · rw [if_pos hig, hig]; exact (h2.row.2 g hgb).symm
      · omega
    · rw [if_neg hig]
  · intro i hi
    by_cases hig : i = g
    · rw [if_pos hig]
      rcases hgb with hgb | hgb
      · left; rw [hig]; exact h2.row.2 g hgb
      · right; exact ⟨by omega, Or.inl rfl⟩
    · rw [if_neg hig]; exact Or.inl rfl
  · intro i hi
    by_cases hig : i = g
    · have := (ownsRow_block ho4 (k := g) rfl).2
      omega
    · rw [if_neg hig] at hi
      have := hT i hi
      omega

theorem map_eq_nil (x : Option Nat) (w : World) : (binOp BinOp.eql 167 (.map x) (.map none)).run Try.prog w = .ok (.bool x.isNone) w := by
  simp only [binOp, Op.equal]
  rw [show Op.maxDepth = 9999 + 1 from rfl]
  unfold Op.equalIn
  cases x <;> simp [run_underlying Try.underlying167, go_sem]
theorem run_makeMap41 (w : World) : (Instr.makeMap 167 none).run Try.prog w = .ok (.map (some w.heap.size)) (w.alloc (.map #[] 0)) := by
  simp [Instr.makeMap, run_underlying Try.underlying167, go_sem]

theorem intern_ct {w : World} {T : Nat → Nat} {b o tx tm : Nat} {v m : Value} {l : List ByteArray} (h : Nm w T b o tx tm v m l) {s : ByteArray} (hs : s.size ≤ 1000) (hno : s ∉ l) (hl : l.length ≤ 1000)
    (hT : ∀ i, T i ≠ 0 → i < w.heap.size) (hx : tx ≠ 0) (hm : tm ≠ 0) (hxm : tx ≠ tm) (hbx : T b ≠ tx) (hbm : T b ≠ tm) :
    Ct Try.prog gram_names_intern.id #[.pointer (some ⟨b, o, none⟩), .string s] w fun r w' => r = .int .i64 ((l.length : Int) + 1) ∧ ∃ T' v' m', NmNew w T b o tx tm (l ++ [s]) w' T' v' m' := by
  refine gram_names_intern.ct fun R hR => ?_
  have hbw : b < w.heap.size := World.block_lt_of_cell? _ _ h.c0
  unfold gram_names_intern.run gram_names_intern.b1
  have hmm : m = .map none ∨ ∃ mb, m = .map (some mb) := by
    rcases h.map with ⟨e, _⟩ | ⟨mb, e, _⟩
    · exact Or.inl e
    · exact Or.inr ⟨mb, e⟩
  rcases hmm with rfl | ⟨mb, rfl⟩
  · have hn0 : l.length = 0 ∧ posH l = fun _ => 0 := by
      rcases h.map with ⟨_, e, hf⟩ | ⟨mb, e, _⟩
      · exact ⟨e, funext hf⟩
      · cases e
    simp [go_sem, h.c0, h.c1]
    rw [map_eq_nil]
    simp [go_sem, run_makeMap41]
    have hc1 : Chg (fun _ => False) w (w.alloc (.map #[] 0)) := (Chg.refl _ _).alloc _
    have hm1 := MapOf.made Try.prog kStr 9 3 w
    have hs1 : (w.alloc (.map #[] 0)).heap.size = w.heap.size + 1 := by simp
    have k0 := hc1.at h.c0 id
    have k1 := hc1.at h.c1 id
    have kf0 := (hc1.frozen (p := ⟨b, o, none⟩) hbw id).trans h.f0
    have kf1 := (hc1.frozen (p := ⟨b, o + 1, none⟩) hbw id).trans h.f1
    have krow := ownsRow_keep h.row.1 hc1 (fun _ _ => id)
    generalize w.alloc (.map #[] 0) = w1 at hc1 hm1 hs1 k0 k1 kf0 kf1 krow ⊢
    simp [k1, kf1]
    have hc2 : Chg (· = b) w1 (w1.setCell ⟨b, o + 1, none⟩ (.map (some w.heap.size))) := (Chg.refl (· = b) w1).setCell (p := ⟨b, o + 1, none⟩) (Or.inl rfl) _
    have hF : Fr b (fun j => j = o ∨ j = o + 1) (fun i => T i = tx ∨ T i = tm) w (w1.setCell ⟨b, o + 1, none⟩ (.map (some w.heap.size))) := (Fr.of hc1 hbw id (fun _ _ h => h.elim)).trans (Fr.set (Or.inr rfl) _)
    have q0 : (w1.setCell ⟨b, o + 1, none⟩ (.map (some w.heap.size))).cell? ⟨b, o, none⟩ = some v := (World.cell?_setCell_other _ _ _ _ (by simp)).trans k0
    have q1 : (w1.setCell ⟨b, o + 1, none⟩ (.map (some w.heap.size))).cell? ⟨b, o + 1, none⟩ = some (.map (some w.heap.size)) := World.cell?_setCell_same _ _ _ k1
    have qf : ∀ j, (w1.setCell ⟨b, o + 1, none⟩ (.map (some w.heap.size))).frozen? ⟨b, j, none⟩ = w1.frozen? ⟨b, j, none⟩ := fun j => World.frozen?_setCell _ _ _ _
    have qs : (w1.setCell ⟨b, o + 1, none⟩ (.map (some w.heap.size))).heap.size = w1.heap.size := by simp
    have qm := hm1.chg hc2 (fun i hi e => by injection hi with hi; injection hi with hi; omega)
    have qrow := ownsRow_keep krow hc2 (fun i hi e => by
      have := h.row.2 i hi
      rw [e] at this
      exact hbx this)
    generalize w1.setCell ⟨b, o + 1, none⟩ (.map (some w.heap.size)) = w2 at hc2 hF q0 q1 qf qs qm qrow ⊢
    have h2 : Nm w2 (fun i => if i = w.heap.size then tm else T i) b o tx tm v (.map (some w.heap.size)) l := by
      refine ⟨q0, q1, by rw [qf]; exact kf0, by rw [qf]; exact kf1, ⟨qrow, fun i hi => ?_⟩, ?_, fun i hi => ?_⟩
      · have := (ownsRow_block h.row.1 hi).2
        simp [Nat.ne_of_lt this, h.row.2 i hi]
      · rw [hn0.1, hn0.2]; exact qm
      · injection hi with hi; injection hi with hi; simp [hi]
    rw [RESU_ok]
    refine intern2_ok h2 hs hno hl (fun i hi => ?_) hx hm hxm (by simp [Nat.ne_of_lt hbw, hbx]) (by simp [Nat.ne_of_lt hbw, hbm]) fun w' T' v' hN => hR _ _ ⟨rfl, T', v', _, ⟨hN.nm, ?_, fun i hi => ?_, fun i hi => ?_, hN.lt⟩⟩
    · by_cases e : i = w.heap.size
      · omega
      · simp [e] at hi; have := hT i hi; omega
    · refine hF.trans' (hN.fr) (fun i hi hg => ?_)
      simp [Nat.ne_of_lt hi] at hg
      exact hg
    · rw [hN.old i (by omega)]; simp [Nat.ne_of_lt hi]
    · rcases hN.new i hi with e | ⟨e1, e2⟩
      · by_cases e' : i = w.heap.size
        · right
          simp [e'] at e
          exact ⟨by omega, Or.inr (by rw [e']; exact e.symm)⟩
        · simp [e'] at e; exact Or.inl e
      · exact Or.inr ⟨by omega, e2⟩
  · simp [go_sem, h.c0, h.c1]
    rw [map_eq_nil]
    simp [go_sem]
    exact intern2_ok h hs hno hl hT hx hm hxm hbx hbm fun w' T' v' hN => hR _ _ ⟨rfl, T', v', _, hN⟩
end Go.Proofs.Ytkacbjhiobnbfaa

/-
  A builder in memory.
-/
namespace Go.Px.Scan
/-- A builder's state. -/
structure BS where
  terms : List (ByteArray × Int)
  nons : List ByteArray
  levels : List Int
  rules : List (Int × List Int × Int)
  start : Int
/-- What always holds of one. -/
structure BSok (S : BS) : Prop where
  syms : S.terms.length + S.nons.length ≤ 64
  tnam : ∀ t ∈ S.terms, TermP t.1
  nnam : ∀ t ∈ S.nons, NameP t
  tnd : (S.terms.map (·.1)).Nodup
  nnd : S.nons.Nodup
  lev : S.levels.length ≤ S.terms.length
  grd : ∀ t ∈ S.terms, 0 ≤ t.2 ∧ t.2 ≤ S.levels.length
  prods : S.rules.length ≤ 96
end Go.Px.Scan

namespace Go.Proofs.Ytkacbjhiobnbfaa
open Go.Px Go.Px.Scan Go.RowKit
set_option maxHeartbeats 1000000
attribute [-go_sem] Builtin.append_
set_option linter.unusedSimpArgs false

/-- The right side of a rule. -/
structure RightAt (w : World) (T : Nat → Nat) (v : Value) (l : List Int) : Prop where
  rd : (rSlice rInt).at1 w w.heap.size v l
  tg : l ≠ [] → ∀ i, v.ownBlock = some i → T i = 9

theorem RightAt.keep {F : Nat → Prop} {w w' : World} {T T' : Nat → Nat} {v : Value} {l : List Int} (h : RightAt w T v l) (hc : Chg F w w') (hF : ∀ i, T i = 9 → ¬ F i) (hT : ∀ i, i < w.heap.size → T' i = T i) : RightAt w' T' v l := by
  obtain ⟨⟨A, c, hv, h1, h2, h3, h4⟩, ht⟩ := h
  injection hv with hv
  subst hv
  refine ⟨⟨A, c, rfl, h1, h2, h3, fun hpos => ?_⟩, fun hne i hi => ?_⟩
  · obtain ⟨b, o, rfl, hb, hcell⟩ := h4 hpos
    have htb := ht (fun e => by rw [e] at hpos; simp at hpos) b rfl
    refine ⟨b, o, rfl, Nat.lt_of_lt_of_le hb hc.size, fun i x hi => ?_⟩
    obtain ⟨ys, hy, hj⟩ := hcell i x hi
    exact ⟨ys, hy, fun j u hu => (hc.cell (p := ⟨b, o + (i * rInt.size + j), none⟩) hb (hF b htb)).trans (hj j u hu)⟩
  · have hpos : 0 < l.length := by cases l with
      | nil => exact absurd rfl hne
      | cons x r => simp
    obtain ⟨b, o, rfl, hb, _⟩ := h4 hpos
    have htb := ht hne b rfl
    injection hi with hi
    rw [← hi, hT b hb]; exact htb

def ruleC (r : Int × List Int × Int) (v : Value) : List Value := [.int .i64 r.1, v, .int .i64 r.2.2]

structure BV where
  vt : Value
  vm : Value
  vn : Value
  vk : Value
  vg : Value
  vl : Value
  vr : Value
  rs : List Value

structure Bld (w : World) (T : Nat → Nat) (b : Nat) (V : BV) (S : BS) : Prop where
  tag : T b = 1
  lt : ∀ i, T i ≠ 0 → i < w.heap.size
  terms : Nm w T b 0 2 3 V.vt V.vm (S.terms.map (·.1))
  nons : Nm w T b 2 4 5 V.vn V.vk S.nons
  cg : w.cell? ⟨b, 4, none⟩ = some V.vg
  cl : w.cell? ⟨b, 5, none⟩ = some V.vl
  cr : w.cell? ⟨b, 6, none⟩ = some V.vr
  cs : w.cell? ⟨b, 7, none⟩ = some (.int .i64 S.start)
  fz : ∀ j, j < 8 → w.frozen? ⟨b, j, none⟩ = false
  graded : Row w T 6 3 1 V.vg S.terms.length (S.terms.map fun t => .int .i64 t.2)
  levels : Row w T 7 3 1 V.vl S.levels.length (S.levels.map (.int .i64 ·))
  rules : Row w T 8 178 3 V.vr S.rules.length ((S.rules.zip V.rs).flatMap fun x => ruleC x.1 x.2)
  rlen : V.rs.length = S.rules.length
  rights : ∀ (i : Nat) r v, S.rules[i]? = some r → V.rs[i]? = some v → RightAt w T v r.2.1
  ok : BSok S

/-- Nothing of a builder has turned. -/
theorem Bld.keep {F : Nat → Prop} {w w' : World} {T : Nat → Nat} {b : Nat} {V : BV} {S : BS} (h : Bld w T b V S) (hc : Chg F w w') (hF : ∀ i, T i ≠ 0 → ¬ F i) : Bld w' T b V S := by
  have hb : b < w.heap.size := h.lt b (by rw [h.tag]; omega)
  have hFb : ¬ F b := hF b (by rw [h.tag]; omega)
  have ht : ∀ k, k ≠ 0 → ∀ i, T i = k → ¬ F i := fun k hk i hi => hF i (by omega)
  exact ⟨h.tag, fun i hi => Nat.lt_of_lt_of_le (h.lt i hi) hc.size, h.terms.keep hc hFb (ht 2 (by omega)) (ht 3 (by omega)) (fun _ _ => rfl), h.nons.keep hc hFb (ht 4 (by omega)) (ht 5 (by omega)) (fun _ _ => rfl),
    hc.at h.cg hFb, hc.at h.cl hFb, hc.at h.cr hFb, hc.at h.cs hFb, fun j hj => (hc.frozen (p := ⟨b, j, none⟩) hb hFb).trans (h.fz j hj),
    h.graded.keep hc (ht 6 (by omega)) (fun _ _ => rfl), h.levels.keep hc (ht 7 (by omega)) (fun _ _ => rfl), h.rules.keep hc (ht 8 (by omega)) (fun _ _ => rfl), h.rlen,
    fun i r v hr hv => (h.rights i r v hr hv).keep hc (ht 9 (by omega)) (fun _ _ => rfl), h.ok⟩

/-- What an operation leaves. -/
structure After (w : World) (T : Nat → Nat) (b : Nat) (S' : BS) (w' : World) : Prop where
  ex : ∃ T' V', Bld w' T' b V' S' ∧ (∀ i, i < w.heap.size → T' i = T i)
  chg : Chg (fun i => T i ≠ 0) w w'

theorem After.same {w w' : World} {T : Nat → Nat} {b : Nat} {V : BV} {S : BS} (h : Bld w T b V S) (hc : Chg (fun _ => False) w w') : After w T b S w' :=
  ⟨⟨T, V, h.keep hc (fun _ _ => id), fun _ _ => rfl⟩, hc.mono fun _ _ h => h.elim⟩

theorem Nm.fr {J F : Nat → Prop} {w w' : World} {T T' : Nat → Nat} {b o tx tm : Nat} {v m : Value} {l : List ByteArray} (h : Nm w T b o tx tm v m l) (hf : Fr b J F w w') (ho : ¬ J o) (ho1 : ¬ J (o + 1)) (hx : ∀ i, T i = tx → ¬ (i = b ∨ F i)) (hm : ∀ i, T i = tm → ¬ (i = b ∨ F i)) (hT : ∀ i, i < w.heap.size → T' i = T i) : Nm w' T' b o tx tm v m l :=
  ⟨(hf.cell o ho).trans h.c0, (hf.cell (o + 1) ho1).trans h.c1, (hf.frz o).trans h.f0, (hf.frz (o + 1)).trans h.f1,
    h.row.keep hf.chg hx hT, h.map.chg hf.chg fun i hi => hm i (h.tag i hi), fun i hi => by rw [hT i (h.map.lt hi)]; exact h.tag i hi⟩

/-- What Term answers, and leaves. -/
noncomputable def termA (S : BS) (s : ByteArray) : Int × Int × BS :=
  if tmB s = false then (0, 1, S)
  else if posH (S.terms.map (·.1)) s ≠ 0 then (posH (S.terms.map (·.1)) s, 0, S)
  else if 64 ≤ S.terms.length + S.nons.length then (0, 11, S)
  else ((S.terms.length : Int) + 1, 0, { S with terms := S.terms ++ [(s, 0)] })

theorem info_int : (Try.prog.info? 3).map (fun i => (i.zero, i.size, i.bytes)) = some (some (.int .i64 0), 1, 8) := by kernel_rfl
theorem posH_pos (l : List ByteArray) (s : ByteArray) : 0 ≤ posH l s := by unfold posH; split <;> omega

set_option maxRecDepth 100000 in
theorem term3_ok {R : Ending → World → Prop} {w w1 : World} {T : Nat → Nat} {b : Nat} {V : BV} {S : BS} (h : Bld w T b V S) {s : ByteArray} (hs : s.size ≤ maxLen) (htp : TermP s) (ht : tmB s = true) (hc1 : Chg (fun _ => False) w w1)
    (hR : ∀ v w', v = .tuple #[.int .i64 (termA S s).1, .int .i64 (termA S s).2.1] ∧ After w T b (termA S s).2.2 w' → R (.returned v) w') : gram_Builder_Term.b3 R (.pointer (some ⟨b, 0, none⟩)) (.string s) w1 := by
  have hsy := h.ok.syms
  have hbw : b < w.heap.size := h.lt b (by rw [h.tag]; omega)
  unfold gram_Builder_Term.b3
  have h1 := h.keep hc1 (fun _ _ => id)
  simp [go_sem]
  refine CALL_of (find_ct h1.terms hs) ?_
  rintro _ _ ⟨rfl, rfl⟩
  simp [go_sem]
  have hpp := posH_pos (S.terms.map (·.1)) s
  refine SPL_intro (fun h2 => ?_) (fun h2 => ?_) <;> simp at h2
  · have ha : termA S s = (posH (S.terms.map (·.1)) s, 0, S) := by unfold termA; rw [if_neg (by simp [ht]), if_pos (by omega)]
    rw [ha] at hR
    exact hR _ _ ⟨rfl, After.same h hc1⟩
  · have hz : posH (S.terms.map (·.1)) s = 0 := by omega
    have hno : s ∉ S.terms.map (·.1) := posH_zero.1 hz
    simp [go_sem]
    have h1d := h1.keep (F := fun _ => False) (Chg.refl _ _).drew (fun _ _ => id)
    refine CALL_of (size_ct h1d.terms) ?_
    rintro _ _ ⟨rfl, rfl⟩
    refine CALL_of (size_ct h1d.nons) ?_
    rintro _ _ ⟨rfl, rfl⟩
    have wsum : IntKind.i64.wrap (((S.terms.map (·.1)).length : Int) + S.nons.length) = ((S.terms.map (·.1)).length : Int) + S.nons.length := IntWalk.i64_in _ (by rw [List.length_map]; omega)
    rw [List.length_map] at wsum ⊢
    simp [go_sem, wsum]
    refine SPL_intro (fun h3 => ?_) (fun h3 => ?_) <;> simp at h3
    · have ha : termA S s = (0, 11, S) := by unfold termA; rw [if_neg (by simp [ht]), if_neg (by simp [hz]), if_pos (by omega)]
      rw [ha] at hR
      exact hR _ _ ⟨rfl, After.same h hc1.drew⟩
    · have ha : termA S s = ((S.terms.length : Int) + 1, 0, { S with terms := S.terms ++ [(s, 0)] }) := by unfold termA; rw [if_neg (by simp [ht]), if_neg (by simp [hz]), if_neg (by omega)]
      rw [ha] at hR
      obtain ⟨a, c, hv⟩ := row_len h1.graded
      have hcg := h1.cg
      rw [hv] at hcg
      simp [go_sem, hcg]
      obtain ⟨i0, hi, hz0, hz1, hz2⟩ := info_parts info_int
      have hc2 : Chg (fun _ => False) w1 (w1.alloc (Obj.cells #[Value.int IntKind.i64 0] 3)).drew := ((Chg.refl _ _).alloc _).drew
      have h2 := h1.keep hc2 (fun _ _ => id)
      have hn : ∀ j u, ([.int .i64 0] : List Value)[j]? = some u → (w1.alloc (Obj.cells #[Value.int IntKind.i64 0] 3)).drew.cell? ((⟨w1.heap.size, 0, none⟩ : Addr).add j) = some u := by
        intro j u hj
        simpa using alloc_cells w1 [.int .i64 0] 3 rfl j u hj
      have hs2 := hc2.size
      generalize (w1.alloc (Obj.cells #[Value.int IntKind.i64 0] 3)).drew = w2 at hc2 h2 hn hs2 ⊢
      have hrow := h2.graded.1
      rw [hv] at hrow
      refine append_own 24 24 3 Try.underlying24 hi hz0 hz1 hz2 rfl (by omega) hrow rfl hn ?_ (by unfold maxLen; omega) (by unfold maxBytes; omega) (Nat.zero_le _) ?_
      · intro u hu
        simp at hu
        subst hu; rfl
      intro g c3 w3 ho3 hg3 hgb
      have hgt : (Value.slice a S.terms.length c).ownBlock = some g → T g = 6 := fun e => h2.graded.2 g (by rw [hv]; exact e)
      have hc3 : Chg (fun i => T i = 6) w2 w3 := grown_chg hg3 fun k hk => h2.graded.2 k (by rw [hv]; exact hk)
      have hs3 := hc3.size
      have hw2 : b < w2.heap.size := h2.lt b (by rw [h.tag]; omega)
      have htb : T b ≠ 6 := by rw [h.tag]; omega
      have hgb' : g ≠ b := by
        rcases hgb with hgb | hgb
        · intro e; exact htb (by rw [← e]; exact hgt hgb)
        · omega
      have k4 := hc3.at h2.cg htb
      have kf4 := (hc3.frozen (p := ⟨b, 4, none⟩) hw2 htb).trans (h2.fz 4 (by omega))
      simp [go_sem, k4, kf4]
      have hF4 : Fr b (fun j => j = 4) (fun i => T i = 6) w2 (w3.setCell ⟨b, 4, none⟩ (.slice (some ⟨g, 0, none⟩) (S.terms.length + 1) c3)) :=
        (Fr.of hc3 hw2 htb (fun i _ h => h)).trans (Fr.set (J := fun j => j = 4) (j := 4) rfl _)
      have kc4 : (w3.setCell ⟨b, 4, none⟩ (.slice (some ⟨g, 0, none⟩) (S.terms.length + 1) c3)).cell? ⟨b, 4, none⟩ = some (.slice (some ⟨g, 0, none⟩) (S.terms.length + 1) c3) := World.cell?_setCell_same _ _ _ k4
      have hc4 : Chg (· = b) w3 (w3.setCell ⟨b, 4, none⟩ (.slice (some ⟨g, 0, none⟩) (S.terms.length + 1) c3)) := (Chg.refl (· = b) w3).setCell (p := ⟨b, 4, none⟩) (Or.inl rfl) _
      have hs4 : (w3.setCell ⟨b, 4, none⟩ (.slice (some ⟨g, 0, none⟩) (S.terms.length + 1) c3)).heap.size = w3.heap.size := by simp
      have ho4 := ownsRow_keep ho3 hc4 (fun i hi he => by injection hi with hi; exact hgb' (hi.trans he))
      have hg4 := (ownsRow_block ho4 (k := g) rfl).2
      generalize w3.setCell ⟨b, 4, none⟩ (.slice (some ⟨g, 0, none⟩) (S.terms.length + 1) c3) = w4 at hF4 kc4 hs4 ho4 hg4 ⊢
      have hT1 : ∀ i, i < w2.heap.size → (fun i => if i = g then 6 else T i) i = T i := by
        intro i hi
        by_cases e : i = g
        · rcases hgb with hgb | hgb
          · simp [e]; exact (hgt hgb).symm
          · omega
        · simp [e]
      generalize hT1d : (fun i => if i = g then 6 else T i) = T1 at hT1
      have hT1g : ∀ i, T1 i = if i = g then 6 else T i := fun i => by rw [← hT1d]
      have ne : ∀ k, k ≠ 1 → k ≠ 6 → ∀ i, T i = k → ¬ (i = b ∨ T i = 6) := fun k h1' h6 i hi he => by
        rcases he with he | he
        · rw [he, h.tag] at hi; omega
        · omega
      have hb1 : T1 b = 1 := by rw [hT1 b hw2]; exact h.tag
      have hsz16 : s.size ≤ 1000 := by have := htp.2.1; omega
      have ht4 := h2.terms.fr hF4 (by omega) (by omega) (ne 2 (by omega) (by omega)) (ne 3 (by omega) (by omega)) hT1
      refine CALL_of (intern_ct ht4 hsz16 hno (by rw [List.length_map]; omega) (fun i hi => ?_) (by omega) (by omega) (by omega) (by rw [hb1]; omega) (by rw [hb1]; omega)) ?_
      · by_cases e : i = g
        · rw [e]; exact hg4
        · have := h2.lt i (by rw [hT1g i, if_neg e] at hi; exact hi)
          omega
      rintro _ w5 ⟨rfl, T5, v5, m5, hN⟩
      have hb4 : b < w4.heap.size := by omega
      have hT5 : ∀ i, i < w2.heap.size → T5 i = T i := fun i hi => (hN.old i (by omega)).trans (hT1 i hi)
      have ne1 : ∀ k, k ≠ 1 → k ≠ 2 → k ≠ 3 → ∀ i, T1 i = k → ¬ (i = b ∨ (T1 i = 2 ∨ T1 i = 3)) := fun k h1' h2' h3' i hi he => by
        rcases he with he | he
        · rw [he, hb1] at hi; omega
        · omega
      have hF45 : Fr b (fun j => j = 4 ∨ j = 0 ∨ j = 1) (fun i => T i = 6 ∨ T i = 2 ∨ T i = 3) w2 w5 :=
        (hF4.mono (fun j hj => Or.inl hj) (fun i hi => Or.inl hi)).trans' (hN.fr.mono (fun j hj => by omega) (fun i hi => hi)) (fun i hi hg => by rw [hT1 i hi] at hg; exact Or.inr hg)
      have neA : ∀ k, k ≠ 1 → k ≠ 2 → k ≠ 3 → k ≠ 6 → ∀ i, T i = k → ¬ (i = b ∨ (T i = 6 ∨ T i = 2 ∨ T i = 3)) := fun k h1' h2' h3' h6' i hi he => by
        rcases he with he | he
        · rw [he, h.tag] at hi; omega
        · omega
      refine hR _ _ ⟨?_, ⟨T5, { V with vt := v5, vm := m5, vg := .slice (some ⟨g, 0, none⟩) (S.terms.length + 1) c3 }, ⟨?_, hN.lt, ?_, ?_, ?_, ?_, ?_, ?_, ?_, ?_, ?_, ?_, h2.rlen, ?_, ?_⟩, ?_⟩, ?_⟩
      · simp
      · rw [hT5 b hw2]; exact h.tag
      · rw [List.map_append]; exact hN.nm
      · exact h2.nons.fr hF45 (by omega) (by omega) (neA 4 (by omega) (by omega) (by omega) (by omega)) (neA 5 (by omega) (by omega) (by omega) (by omega)) hT5
      · exact (hN.fr.cell 4 (by omega)).trans kc4
      · exact (hF45.cell 5 (by omega)).trans h2.cl
      · exact (hF45.cell 6 (by omega)).trans h2.cr
      · exact (hF45.cell 7 (by omega)).trans h2.cs
      · exact fun j hj => (hF45.frz j).trans (h2.fz j hj)
      · have hr4 : Row w4 T1 6 3 1 (.slice (some ⟨g, 0, none⟩) (S.terms.length + 1) c3) (S.terms.length + 1) ((S.terms.map fun t => .int .i64 t.2) ++ [.int .i64 0]) :=
          ⟨ho4, fun i hi => by injection hi with hi; rw [hT1g, if_pos hi.symm]⟩
        have := hr4.keep (T' := T5) hN.fr.chg (ne1 6 (by omega) (by omega) (by omega)) hN.old
        rw [List.length_append, List.map_append]
        exact this
      · have := h2.levels.keep (T' := T5) hF45.chg (neA 7 (by omega) (by omega) (by omega) (by omega)) hT5
        exact this
      · exact h2.rules.keep (T' := T5) hF45.chg (neA 8 (by omega) (by omega) (by omega) (by omega)) hT5
      · exact fun i r v hr hv => (h2.rights i r v hr hv).keep hF45.chg (neA 9 (by omega) (by omega) (by omega) (by omega)) hT5
      · refine ⟨?_, ?_, h.ok.nnam, ?_, h.ok.nnd, ?_, ?_, h.ok.prods⟩
        · simp; omega
        · intro t ht; simp at ht; rcases ht with ht | rfl
          · exact h.ok.tnam t ht
          · exact htp
        · rw [List.map_append]
          refine List.nodup_append.2 ⟨h.ok.tnd, by simp, fun a' ha' b' hb' => ?_⟩
          simp at hb'; subst hb'
          intro e; subst e; exact hno ha'
        · have := h.ok.lev; simp; omega
        · intro t ht; simp at ht; rcases ht with ht | rfl
          · exact h.ok.grd t ht
          · simp
      · exact fun i hi => hT5 i (by have := hc1.size; omega)
      · refine ((hc1.trans hc2).mono fun _ _ h => h.elim).trans (hF45.chg.mono fun i hi he => ?_)
        rcases he with he | he
        · rw [he, h.tag]; omega
        · omega

set_option maxRecDepth 100000 in
theorem Term_ct {w : World} {T : Nat → Nat} {b : Nat} {V : BV} {S : BS} (h : Bld w T b V S) {s : ByteArray} (hs : s.size ≤ maxLen) :
    Ct Try.prog gram_Builder_Term.id #[.pointer (some ⟨b, 0, none⟩), .string s] w fun v w' => v = .tuple #[.int .i64 (termA S s).1, .int .i64 (termA S s).2.1] ∧ After w T b (termA S s).2.2 w' := by
  refine gram_Builder_Term.ct fun R hR => ?_
  have hbw : b < w.heap.size := h.lt b (by rw [h.tag]; omega)
  have hsy := h.ok.syms
  cases ht : tmB s with
  | false =>
    have ha : termA S s = (0, 1, S) := by unfold termA; rw [if_pos ht]
    rw [ha] at hR
    unfold gram_Builder_Term.run gram_Builder_Term.b1 gram_Builder_Term.b4
    simp [go_sem]
    refine CALL_of (isTerm_ct hs w) ?_
    rintro _ w1 ⟨rfl, hc1⟩
    rw [ht]
    simp [go_sem]
    unfold gram_Builder_Term.b5
    simp [go_sem]
    exact hR _ _ ⟨rfl, After.same h hc1⟩
  | true =>
    have htp : TermP s := tmB_iff.1 ht
    unfold gram_Builder_Term.run gram_Builder_Term.b1 gram_Builder_Term.b4
    simp [go_sem]
    refine CALL_of (isTerm_ct hs w) ?_
    rintro _ w1 ⟨rfl, hc1⟩
    rw [ht]
    simp [go_sem]
    unfold gram_Builder_Term.b5
    simp [go_sem]
    refine term3_ok h hs htp ht hc1 hR
end Go.Proofs.Ytkacbjhiobnbfaa

/-
  No builder, a zero one. (The law GramNil's own part lies with its claim.)
-/
namespace Go.Proofs.Ytkacbjhiobnbfaa
open Go.Px Go.Px.Scan Go.RowKit
set_option maxHeartbeats 1000000
set_option linter.unusedSimpArgs false
attribute [-go_sem] Builtin.append_

def zeroB : Array Value := #[.slice none 0 0, .map none, .slice none 0 0, .map none, .slice none 0 0, .slice none 0 0, .slice none 0 0, .int .i64 0]
def S0 : BS := ⟨[], [], [], [], 0⟩
def V0 : BV := ⟨.slice none 0 0, .map none, .slice none 0 0, .map none, .slice none 0 0, .slice none 0 0, .slice none 0 0, []⟩

theorem Row.nil (w : World) (T : Nat → Nat) (tag e size : Nat) : Row w T tag e size (.slice none 0 0) 0 [] := ⟨⟨by simp, Or.inl ⟨rfl, rfl⟩⟩, fun i hi => by cases hi⟩

theorem Nm.zero {w : World} {T : Nat → Nat} {b o tx tm : Nat} (c0 : w.cell? ⟨b, o, none⟩ = some (.slice none 0 0)) (c1 : w.cell? ⟨b, o + 1, none⟩ = some (.map none)) (f0 : w.frozen? ⟨b, o, none⟩ = false) (f1 : w.frozen? ⟨b, o + 1, none⟩ = false) : Nm w T b o tx tm (.slice none 0 0) (.map none) [] :=
  ⟨c0, c1, f0, f1, Row.nil _ _ _ _ _, by
    have : posH [] = fun _ => 0 := funext fun c => by simp [posH, posN]
    rw [this]; exact MapOf.nil, fun i hi => by cases hi⟩

def T0 (n : Nat) : Nat → Nat := fun i => if i = n then 1 else 0
theorem T0_ne {n i : Nat} (h : T0 n i ≠ 0) : i = n := by
  unfold T0 at h
  split at h
  · assumption
  · exact absurd rfl h

theorem Bld.zero (w : World) {n : Nat} (hn : n = w.heap.size) : Bld (w.alloc (.cells zeroB 174)) (T0 n) n V0 S0 where
  tag := by simp [T0]
  lt i hi := by
    have := T0_ne hi
    simp; omega
  terms := Nm.zero (new_cell w _ _ hn 0) (new_cell w _ _ hn 1) (new_frozen w _ _ hn 0) (new_frozen w _ _ hn 1)
  nons := Nm.zero (new_cell w _ _ hn 2) (new_cell w _ _ hn 3) (new_frozen w _ _ hn 2) (new_frozen w _ _ hn 3)
  cg := new_cell w _ _ hn 4
  cl := new_cell w _ _ hn 5
  cr := new_cell w _ _ hn 6
  cs := new_cell w _ _ hn 7
  fz j _ := new_frozen w _ _ hn j
  graded := Row.nil _ _ _ _ _
  levels := Row.nil _ _ _ _ _
  rules := Row.nil _ _ _ _ _
  rlen := rfl
  rights i r v h := by cases h
  ok := ⟨by simp [S0], by simp [S0], by simp [S0], by simp [S0], by simp [S0], by simp [S0], by simp [S0], by simp [S0]⟩

theorem New_ct (w : World) : Ct Try.prog gram_New.id #[] w fun r w' => r = .pointer (some ⟨w.heap.size, 0, none⟩) ∧ w.alloc (.cells zeroB 174) = w' := by
  refine gram_New.ct fun R hR => ?_
  unfold gram_New.run gram_New.b1
  simp [go_sem]
  exact hR _ _ ⟨rfl, rfl⟩

end Go.Proofs.Ytkacbjhiobnbfaa

