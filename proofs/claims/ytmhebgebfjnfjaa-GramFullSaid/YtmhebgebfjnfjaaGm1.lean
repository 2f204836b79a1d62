/-
  Names and terminals' texts in package gram and in the document's answer.
-/
import Derived.Test.YtmhebgebfjnfjaaT02G
import Derived.Test.YtmhebgebfjnfjaaT02Lib
import Derived.Test.YtmhebgebfjnfjaaT02R
import Derived.Test.YtmhebgebfjnfjaaScSpec3
import Derived.Test.YtmhebgebfjnfjaaPxMap
import Derived.Lib.OthersKept
import Derived.Laws.RangeAny
namespace Go.Px.Scan
open Classical in
noncomputable def nmB (s : ByteArray) : Bool := decide (NameP s)
open Classical in
noncomputable def tmB (s : ByteArray) : Bool := decide (TermP s)
theorem nmB_iff {s : ByteArray} : nmB s = true ↔ NameP s := @decide_eq_true_iff _ (_)
theorem tmB_iff {s : ByteArray} : tmB s = true ↔ TermP s := @decide_eq_true_iff _ (_)
theorem nmB_no {s : ByteArray} (h : ¬ NameP s) : nmB s = false := by rw [Bool.eq_false_iff]; exact fun h' => h (nmB_iff.1 h')
theorem tmB_no {s : ByteArray} (h : ¬ TermP s) : tmB s = false := by rw [Bool.eq_false_iff]; exact fun h' => h (tmB_iff.1 h')
end Go.Px.Scan

namespace Go.Proofs.Ytmhebgebfjnfjaa
open Go.Px Go.Px.Scan Go.RowKit
set_option maxHeartbeats 1000000
set_option linter.unusedSimpArgs false

theorem bytes_of {p : Nat → Prop} (h : ∀ c : Fin 256, p c.val) (c : Nat) (hc : c < 256) : p c := h ⟨c, hc⟩
theorem or32 (c : Nat) (hc : c < 256) : (decide (97 ≤ bits BinOp.or IntKind.u8 (c : Int) 32) && decide (bits BinOp.or IntKind.u8 (c : Int) 32 ≤ 122)) = letterN c :=
  bytes_of (p := fun c => (decide (97 ≤ bits BinOp.or IntKind.u8 (c : Int) 32) && decide (bits BinOp.or IntKind.u8 (c : Int) 32 ≤ 122)) = letterN c) (by decide +kernel) c hc

theorem isTerm1_ct (r : Int) (w : World) : Ct Try.prog gram_isTerm_1.id #[.int .i32 r] w fun v w' => v = .bool (decide (r < 32 ∨ 126 < r ∨ r = 39)) ∧ w = w' := by
  refine gram_isTerm_1.ct fun R hR => ?_
  unfold gram_isTerm_1.run gram_isTerm_1.b1
  simp [go_sem]
  refine SPL_intro (fun h => ?_) (fun h => ?_) <;> simp at h
  · exact hR _ _ ⟨by simp [h], rfl⟩
  · simp [go_sem]
    refine SPL_intro (fun h2 => ?_) (fun h2 => ?_) <;> simp at h2
    · exact hR _ _ ⟨by simp [h2], rfl⟩
    · simp [go_sem]
      refine hR _ _ ⟨?_, rfl⟩
      congr 1
      rw [Bool.eq_iff_iff]
      simp
      omega

theorem chg_iter {w : World} {k : Nat} (s : ByteArray) (pos : Nat) : Chg (· = k) w (w.iterAt k s pos) :=
  ⟨rfl, rfl, rfl, by rw [Lib.iterAt_size]; exact Nat.le_refl _, fun i _ hi => Lib.iterAt_other w k i s pos hi⟩

theorem IndexFunc_ct {s : ByteArray} (hs : s.size ≤ maxLen) (w : World) : Ct Try.prog strings_IndexFunc.id #[.string s, .func (.func gram_isTerm_1.id) #[] #[]] w fun v w' => (∃ i, v = .int .i64 i ∧ (0 ≤ i ↔ ¬ ∀ j, j < s.size → plainN (bt s j) = true)) ∧ Chg (fun _ => False) w w' := by
  refine strings_IndexFunc.ct fun R hR => ?_
  unfold strings_IndexFunc.run strings_IndexFunc.b1
  refine CALL_of (S := fun v w' => (∃ i, v = .int .i64 i ∧ (0 ≤ i ↔ ¬ ∀ j, j < s.size → plainN (bt s j) = true)) ∧ Chg (fun _ => False) w w') (strings_indexFunc.ct fun R hR => ?_) (fun v w' h => hR v w' h)
  unfold strings_indexFunc.run strings_indexFunc.b1 strings_indexFunc.b4
  simp [go_sem]
  have hc0 : Chg (fun _ => False) w (w.iter s 0) := (Chg.refl _ _).alloc _
  have hk0 : (w.iter s 0).heap[w.heap.size]? = some (.stringIter s 0) := World.iter_heap w s 0
  refine strings_indexFunc.l6_intro _ _ _ _ _ (fun W => ∃ j, j ≤ s.size ∧ W.heap[w.heap.size]? = some (.stringIter s j) ∧ (∀ i, i < j → plainN (bt s i) = true) ∧ Chg (fun _ => False) w W) (fun W => s.size - W.iterPos w.heap.size) ⟨0, Nat.zero_le _, hk0, fun i h => by omega, hc0⟩ ?_
  rintro W ⟨j, hj, hk, hall, hc⟩ C hC
  unfold strings_indexFunc.b7
  by_cases hlt : j < s.size
  · have hb : (s[j]'hlt).toNat = bt s j := by unfold bt; rw [dif_pos hlt]
    rw [RUN_eq, Lib.run_next_any_at W w.heap.size s j 0 hk hlt, RES_ok]
    simp [go_sem]
    refine CALLY_of (isTerm1_ct _ _) ?_
    rintro _ _ ⟨rfl, rfl⟩
    simp [go_sem]
    have hci : Chg (fun _ => False) w (W.iterAt w.heap.size s (j + (Utf8.decode s j).2)) := hc.trans' (chg_iter s _) (fun i hi h => by omega)
    refine SPL_intro (fun h => ?_) (fun h => ?_)
    · refine hR _ _ ⟨⟨j, rfl, ?_⟩, hci⟩
      refine ⟨fun _ hp => ?_, fun _ => by omega⟩
      have h1 := hp j hlt
      have h2 : bt s j < 128 := by simp [plainN] at h1; omega
      rw [decode_ascii s j hlt (by rw [hb]; exact h2), hb] at h
      simp [plainN] at h1 h
      omega
    · have hlow : bt s j < 128 := by
        rcases Nat.lt_or_ge (bt s j) 128 with h2 | h2
        · exact h2
        · have := (decode_high s j hlt (by rw [hb]; exact h2)).1
          simp at h
          omega
      have hd := decode_ascii s j hlt (by rw [hb]; exact hlow)
      rw [hd] at h hci ⊢
      rw [hb] at h
      simp at h
      refine hC _ ⟨j + 1, hlt, Lib.iterAt_heap _ _ _ _ _ hk, fun i hi => ?_, hci⟩ ?_
      · by_cases he : i = j
        · rw [he]; simp [plainN]; omega
        · exact hall i (by omega)
      · unfold World.iterPos
        rw [Lib.iterAt_heap _ _ _ _ _ hk, hk]
        simp; omega
  · rw [RUN_eq, Lib.run_next_end_at W w.heap.size s j 0 hk hlt, RES_ok]
    simp [go_sem]
    unfold strings_indexFunc.b3
    refine hR _ _ ⟨⟨-1, rfl, ?_⟩, hc⟩
    refine ⟨fun h => by omega, fun h => absurd (fun i hi => hall i (by omega)) h⟩

theorem str_empty {s : ByteArray} : (s.toList == []) = decide (s.size = 0) := by
  rw [ByteArray.toList_eq]
  by_cases h : s.size = 0
  · have : s.data.toList = [] := List.eq_nil_of_length_eq_zero (by simpa using h)
    simp [this, h]
  · have : s.data.toList ≠ [] := fun e => h (by have := congrArg List.length e; simpa using this)
    rw [beq_eq_false_iff_ne.2 this]; simp [h]

theorem size_of_nil {s : ByteArray} (h : s.toList = []) : s.size = 0 := by
  rw [ByteArray.toList_eq] at h
  have h2 : s.data.toList.length = s.size := by simp
  rw [h] at h2
  exact h2.symm

theorem isTerm_ct {s : ByteArray} (hs : s.size ≤ maxLen) (w : World) : Ct Try.prog gram_isTerm.id #[.string s] w fun v w' => v = .bool (tmB s) ∧ Chg (fun _ => False) w w' := by
  refine gram_isTerm.ct fun R hR => ?_
  have no : ¬ TermP s → R (.returned (.bool false)) w := fun h => hR _ _ ⟨by rw [tmB_no h], Chg.refl _ _⟩
  unfold gram_isTerm.run gram_isTerm.b1
  simp [go_sem]
  refine SPL_intro (fun h => ?_) (fun h => ?_)
  · have hpos : 0 < s.size := by
      rcases Nat.eq_zero_or_pos s.size with h0 | h0
      · have := str_empty (s := s)
        rw [h0] at this
        simp at this h
        exact absurd this h
      · exact h0
    simp [go_sem]
    refine SPL_intro (fun h2 => ?_) (fun h2 => ?_) <;> simp at h2
    · refine CALL_of (IndexFunc_ct hs w) ?_
      rintro _ w1 ⟨⟨i, rfl, hi⟩, hc⟩
      simp [go_sem]
      refine hR _ _ ⟨?_, hc⟩
      congr 1
      rw [Bool.eq_iff_iff, tmB_iff, decide_eq_true_iff]
      constructor
      · intro h3
        refine ⟨hpos, by omega, ?_⟩
        exact Classical.byContradiction fun h4 => by have := hi.2 h4; omega
      · intro h3
        rcases Int.lt_or_le i 0 with h4 | h4
        · exact h4
        · exact absurd h3.2.2 (hi.1 h4)
    · exact no fun h3 => by have := h3.2.1; omega
  · refine no fun h3 => ?_
    have h4 := h3.1
    have h5 : s.toList = [] := by simpa using h
    have h6 := size_of_nil h5
    omega

theorem isName_ct {s : ByteArray} (hs : s.size ≤ maxLen) (w : World) : Ct Try.prog gram_isName.id #[.string s] w fun v w' => v = .bool (nmB s) ∧ Chg (fun _ => False) w w' := by
  refine gram_isName.ct fun R hR => ?_
  have no : ¬ NameP s → R (.returned (.bool false)) w := fun h => hR _ _ ⟨by rw [nmB_no h], Chg.refl _ _⟩
  unfold gram_isName.run gram_isName.b1 gram_isName.b4
  simp [go_sem]
  refine gram_isName.l6_intro _ _ _ _ _ (fun x w1 => ∃ k : Nat, x = .int .i64 k ∧ k ≤ s.size ∧ (∀ i, i < k → innerN (bt s i) = true) ∧ (0 < k → (letterN (bt s 0) || decide (bt s 0 = 95)) = true) ∧ w = w1) (fun x _ => s.size - iv x) ⟨0, rfl, by omega, fun i h => by omega, fun h => by omega, rfl⟩ ?_
  rintro _ _ ⟨k, rfl, hk, hall, hfst, rfl⟩ C hC
  unfold gram_isName.b7
  simp [go_sem]
  refine SPL_intro (fun h => ?_) (fun h => ?_) <;> simp at h
  · have step : ∀ b, (b = false → innerN (bt s k) = true ∧ (k = 0 → (letterN (bt s 0) || decide (bt s 0 = 95)) = true)) → (b = true → ¬ NameP s) → gram_isName.b12 R C (.int .i64 k) (.bool b) w := by
      intro b h1 h2
      unfold gram_isName.b12
      cases b with
      | true => simp [go_sem]; exact no (h2 rfl)
      | false =>
        simp [go_sem]
        unfold gram_isName.b9
        simp [go_sem, wrap_succ h hs]
        refine hC _ _ ⟨k + 1, by simp, by omega, fun i hi => ?_, fun _ => ?_, rfl⟩ (by simp [iv]; omega)
        · by_cases he : i = k
          · rw [he]; exact (h1 rfl).1
          · exact hall i (by omega)
        · by_cases he : k = 0
          · exact (h1 rfl).2 he
          · exact hfst (by omega)
    have hb := bt_lt s k
    have hor := or32 (bt s k) hb
    have noK : innerN (bt s k) = false → ¬ NameP s := fun h1 h2 => by rw [h2.2.2.2 k h] at h1; cases h1
    have no0 : k = 0 → letterN (bt s k) = false → bt s k ≠ 95 → ¬ NameP s := fun h1 h2 h3 h4 => by
      have := h4.2.2.1
      rw [← h1, h2] at this
      simp at this
      exact h3 this
    have h95 : bt s k = 95 → ∀ b, b = false → gram_isName.b12 R C (.int .i64 k) (.bool b) w := fun h1 b hb => step b (fun _ => ⟨by rw [h1]; rfl, fun h0 => by rw [h0] at h1; rw [h1]; rfl⟩) (fun e => by rw [hb] at e; cases e)
    have hlet : letterN (bt s k) = true → gram_isName.b12 R C (.int .i64 k) (.bool false) w := fun h1 => step false (fun _ => ⟨by simp [innerN, h1], fun h0 => by rw [h0] at h1; rw [h1]; rfl⟩) (fun e => by cases e)
    unfold gram_isName.b11
    simp [go_sem, index_bt, h]
    refine SPL_intro (fun h1 => ?_) (fun h1 => ?_)
    · have h95' : bt s k ≠ 95 := by simp at h1; omega
      simp [go_sem]
      -- no letter
      have nolet : letterN (bt s k) = false → (k = 0 → gram_isName.b12 R C (.int .i64 k) (.bool true) w) ∧ (¬ k = 0 → bt s k < 48 → gram_isName.b12 R C (.int .i64 k) (.bool true) w) ∧ (¬ k = 0 → 48 ≤ bt s k → gram_isName.b12 R C (.int .i64 k) (.bool (decide ((57 : Int) < bt s k))) w) := fun hl => by
        refine ⟨fun h0 => step _ (fun e => by cases e) (fun _ => no0 h0 hl h95'), fun h0 h48 => step _ (fun e => by cases e) (fun _ => noK ?_), fun h0 h48 => step _ (fun e => ⟨?_, fun e0 => absurd e0 h0⟩) (fun e => noK ?_)⟩
        · simp [innerN, hl]; omega
        · simp at e; simp [innerN]; omega
        · simp at e; simp [innerN, hl]; omega
      refine SPL_intro (fun h2 => ?_) (fun h2 => ?_)
      · have hl : letterN (bt s k) = false := by rw [← hor]; simp at h2 ⊢; omega
        obtain ⟨n1, n2, n3⟩ := nolet hl
        simp [go_sem]
        refine SPL_intro (fun h3 => ?_) (fun h3 => ?_)
        · exact n1 (by simpa using h3)
        · have hk0 : ¬ k = 0 := by simpa using h3
          simp [go_sem]
          refine SPL_intro (fun h4 => ?_) (fun h4 => ?_)
          · exact n2 hk0 (by simp at h4; omega)
          · simp [go_sem]
            exact n3 hk0 (by simp at h4; omega)
      · simp [go_sem]
        refine SPL_intro (fun h3 => ?_) (fun h3 => ?_)
        · have hl : letterN (bt s k) = false := by rw [← hor]; simp at h2 h3 ⊢; omega
          obtain ⟨n1, n2, n3⟩ := nolet hl
          simp [go_sem]
          refine SPL_intro (fun h5 => ?_) (fun h5 => ?_)
          · exact n1 (by simpa using h5)
          · have hk0 : ¬ k = 0 := by simpa using h5
            simp [go_sem]
            refine SPL_intro (fun h4 => ?_) (fun h4 => ?_)
            · exact n2 hk0 (by simp at h4; omega)
            · simp [go_sem]
              exact n3 hk0 (by simp at h4; omega)
        · exact hlet (by rw [← hor]; simp at h2 h3 ⊢; omega)
    · exact h95 (by simp at h1; omega) false rfl
  · unfold gram_isName.b3
    have fin : ∀ b, b = nmB s → R (.returned (.bool b)) w := fun b hb => hR _ _ ⟨by rw [hb], Chg.refl _ _⟩
    simp [go_sem]
    refine SPL_intro (fun h1 => ?_) (fun h1 => ?_)
    · have hpos : 0 < s.size := by
        rcases Nat.eq_zero_or_pos s.size with h0 | h0
        · have := str_empty (s := s)
          rw [h0] at this
          simp at this h1
          exact absurd this h1
        · exact h0
      simp [go_sem]
      refine fin _ ?_
      rw [Bool.eq_iff_iff, nmB_iff]
      simp
      constructor
      · intro h2
        exact ⟨hpos, by omega, hfst (by omega), fun i hi => hall i (by omega)⟩
      · intro h2; have := h2.2.1; omega
    · refine no fun h3 => ?_
      have h4 := h3.1
      have h5 : s.toList = [] := by simpa using h1
      have h6 := size_of_nil h5
      omega

theorem ref02_IsTerm_ct {s : ByteArray} (hs : s.size ≤ maxLen) (w : World) : Ct Try.prog ref02_IsTerm.id #[.string s] w fun v w' => v = .bool (tmB s) ∧ w = w' := by
  refine ref02_IsTerm.ct fun R hR => ?_
  have no : ¬ TermP s → ∀ v, v = Value.bool false → R (.returned v) w := fun h v hv => hR _ _ ⟨by rw [hv, tmB_no h], rfl⟩
  unfold ref02_IsTerm.run ref02_IsTerm.b1 ref02_IsTerm.b4
  refine ref02_IsTerm.l6_intro _ _ _ _ (fun x w1 => ∃ k : Nat, x = .int .i64 k ∧ k ≤ s.size ∧ (∀ i, i < k → plainN (bt s i) = true) ∧ w = w1) (fun x _ => s.size - iv x) ⟨0, rfl, by omega, fun i h => by omega, rfl⟩ ?_
  rintro _ _ ⟨k, rfl, hk, hall, rfl⟩ C hC
  unfold ref02_IsTerm.b7
  simp [go_sem]
  refine SPL_intro (fun h => ?_) (fun h => ?_) <;> simp at h
  · have step : ∀ b, b = !(plainN (bt s k)) → ref02_IsTerm.b12 R C (.int .i64 k) (.bool b) w := by
      intro b hb
      unfold ref02_IsTerm.b12
      cases b with
      | true =>
        simp [go_sem]
        exact no (fun hn => by have := hn.2.2 k h; rw [this] at hb; cases hb) _ rfl
      | false =>
        simp [go_sem]
        unfold ref02_IsTerm.b9
        simp [go_sem, wrap_succ h hs]
        refine hC _ _ ⟨k + 1, by simp, by omega, fun i hik => ?_, rfl⟩ (by simp [iv]; omega)
        by_cases he : i = k
        · rw [he]; simpa using hb
        · exact hall i (by omega)
    unfold ref02_IsTerm.b11
    simp [go_sem, index_bt, h]
    refine SPL_intro (fun h1 => ?_) (fun h1 => ?_) <;> simp at h1
    · exact step _ (by simp [plainN]; omega)
    simp [go_sem, index_bt, h]
    refine SPL_intro (fun h2 => ?_) (fun h2 => ?_) <;> simp at h2
    · exact step _ (by simp [plainN]; omega)
    simp [go_sem, index_bt, h]
    exact step _ (by rw [Bool.eq_iff_iff]; simp [plainN]; omega)
  · unfold ref02_IsTerm.b3
    have fin : ∀ b, b = tmB s → R (.returned (.bool b)) w := fun b hb => hR _ _ ⟨by rw [hb], rfl⟩
    simp [go_sem]
    refine SPL_intro (fun h1 => ?_) (fun h1 => ?_) <;> simp at h1
    · simp [go_sem]
      refine fin _ ?_
      rw [Bool.eq_iff_iff, tmB_iff]
      simp
      constructor
      · intro h2; exact ⟨by omega, by omega, fun i hi => hall i (by omega)⟩
      · intro h2; have := h2.2.1; omega
    · exact no (fun hn => by have := hn.1; omega) _ rfl

theorem ref02_IsName_ct {s : ByteArray} (hs : s.size ≤ maxLen) (w : World) : Ct Try.prog ref02_IsName.id #[.string s] w fun v w' => v = .bool (nmB s) ∧ w = w' := by
  refine ref02_IsName.ct fun R hR => ?_
  have no : ¬ NameP s → R (.returned (.bool false)) w := fun h => hR _ _ ⟨by rw [nmB_no h], rfl⟩
  unfold ref02_IsName.run ref02_IsName.b1 ref02_IsName.b4
  refine ref02_IsName.l6_intro _ _ _ _ (fun x w1 => ∃ k : Nat, x = .int .i64 k ∧ k ≤ s.size ∧ (∀ i, i < k → innerN (bt s i) = true) ∧ (0 < k → (letterN (bt s 0) || decide (bt s 0 = 95)) = true) ∧ w = w1) (fun x _ => s.size - iv x) ⟨0, rfl, by omega, fun i h => by omega, fun h => by omega, rfl⟩ ?_
  rintro _ _ ⟨k, rfl, hk, hall, hfst, rfl⟩ C hC
  unfold ref02_IsName.b7
  simp [go_sem]
  refine SPL_intro (fun h => ?_) (fun h => ?_) <;> simp at h
  · have h12 : ∀ b, b = (letterN (bt s k) || decide (bt s k = 95)) → ref02_IsName.b12 R C (.string s) (.int .i64 k) (.bool b) w := by
      intro b hb
      have h13 : ∀ d, d = (decide (48 ≤ bt s k ∧ bt s k ≤ 57) && decide (0 < k)) → ref02_IsName.b13 R C (.int .i64 k) (.bool b) (.bool d) w := by
        intro d hd
        have bad : (b || d) = false → ref02_IsName.b14 R C (.int .i64 k) (.bool true) w := by
          intro hbd
          unfold ref02_IsName.b14
          simp [go_sem]
          refine no fun hn => ?_
          have h1 := hn.2.2.2 k h
          have h2 := hn.2.2.1
          rw [hb, hd] at hbd
          by_cases h0 : k = 0
          · rw [h0, h2] at hbd
            cases hbd
          · simp [innerN] at h1 hbd
            rcases h1 with h1 | h1 | h1
            · rw [h1] at hbd; simp at hbd
            · exact hbd.1.2 h1
            · have := hbd.2 h1.1 h1.2; omega
        have good : (b || d) = true → ref02_IsName.b14 R C (.int .i64 k) (.bool false) w := by
          intro hbd
          unfold ref02_IsName.b14
          simp [go_sem]
          unfold ref02_IsName.b9
          simp [go_sem, wrap_succ h hs]
          rw [hb, hd] at hbd
          refine hC _ _ ⟨k + 1, by simp, by omega, fun i hi => ?_, fun _ => ?_, rfl⟩ (by simp [iv]; omega)
          · by_cases he : i = k
            · rw [he]
              simp [innerN] at hbd ⊢
              rcases hbd with hbd | hbd
              · rcases hbd with hbd | hbd
                · exact Or.inl hbd
                · exact Or.inr (Or.inl hbd)
              · exact Or.inr (Or.inr hbd.1)
            · exact hall i (by omega)
          · by_cases he : k = 0
            · rw [he] at hbd
              simp at hbd ⊢
              exact hbd
            · exact hfst (by omega)
        unfold ref02_IsName.b13
        cases b with
        | true => simp [go_sem]; exact good rfl
        | false =>
          simp [go_sem]
          cases d with
          | true => exact good rfl
          | false => exact bad rfl
      unfold ref02_IsName.b12
      simp [go_sem, index_bt, h]
      refine SPL_intro (fun h1 => ?_) (fun h1 => ?_)
      · simp [go_sem, index_bt, h]
        refine SPL_intro (fun h2 => ?_) (fun h2 => ?_)
        · simp [go_sem]
          refine h13 _ ?_
          rw [Bool.eq_iff_iff]
          simp at h1 h2 ⊢
          omega
        · refine h13 false ?_
          simp at h1 h2 ⊢
          omega
      · refine h13 false ?_
        simp at h1 ⊢
        omega
    unfold ref02_IsName.b11
    simp [go_sem, index_bt, h]
    have e1 : ∀ c : Nat, letterN c = decide (65 ≤ c ∧ c ≤ 90 ∨ 97 ≤ c ∧ c ≤ 122) := fun c => rfl
    refine SPL_intro (fun h1 => ?_) (fun h1 => ?_)
    all_goals simp [go_sem, index_bt, h]
    · refine SPL_intro (fun h2 => ?_) (fun h2 => ?_)
      · exact h12 true (by simp at h1 h2; simp [e1]; omega)
      · simp [go_sem, index_bt, h]
        refine SPL_intro (fun h3 => ?_) (fun h3 => ?_)
        all_goals simp [go_sem, index_bt, h]
        · refine SPL_intro (fun h4 => ?_) (fun h4 => ?_)
          · exact h12 true (by simp at h3 h4; simp [e1]; omega)
          · simp [go_sem, index_bt, h]
            exact h12 _ (by rw [Bool.eq_iff_iff]; simp at h1 h2 h3 h4; simp [e1]; omega)
        · exact h12 _ (by rw [Bool.eq_iff_iff]; simp at h1 h2 h3; simp [e1]; omega)
    · refine SPL_intro (fun h3 => ?_) (fun h3 => ?_)
      all_goals simp [go_sem, index_bt, h]
      · refine SPL_intro (fun h4 => ?_) (fun h4 => ?_)
        · exact h12 true (by simp at h3 h4; simp [e1]; omega)
        · simp [go_sem, index_bt, h]
          exact h12 _ (by rw [Bool.eq_iff_iff]; simp at h1 h3 h4; simp [e1]; omega)
      · exact h12 _ (by rw [Bool.eq_iff_iff]; simp at h1 h3; simp [e1]; omega)
  · unfold ref02_IsName.b3
    have fin : ∀ b, b = nmB s → R (.returned (.bool b)) w := fun b hb => hR _ _ ⟨by rw [hb], rfl⟩
    simp [go_sem]
    refine SPL_intro (fun h1 => ?_) (fun h1 => ?_) <;> simp at h1
    · simp [go_sem]
      refine fin _ ?_
      rw [Bool.eq_iff_iff, nmB_iff]
      simp
      constructor
      · intro h2; exact ⟨by omega, by omega, hfst (by omega), fun i hi => hall i (by omega)⟩
      · intro h2; have := h2.2.1; omega
    · exact no fun hn => by have := hn.1; omega
end Go.Proofs.Ytmhebgebfjnfjaa
