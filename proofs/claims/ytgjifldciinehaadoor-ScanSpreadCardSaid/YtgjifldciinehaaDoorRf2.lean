/-
  The document's answer: one word.
-/
import Derived.Test.YtgjifldciinehaaDoorRf1
import Derived.Test.YtgjifldciinehaaDoorSc6
namespace Go.Proofs.YtgjifldciinehaaDoor
open Go.Px Go.Px.Scan Go.RowKit
set_option maxHeartbeats 1000000
set_option linter.unusedSimpArgs false

def wdV' (kd : Int) (t : ByteArray) (k : Int) : Value := .agg #[.int .i64 kd, .string t, .int .i64 k]

def OneR (s : ByteArray) (i : Nat) (v : Value) : Prop :=
  match oneS s i with
  | .bad k => v = .tuple #[wdV' 0 ⟨#[]⟩ 0, .int .i64 0, .int .i64 k]
  | .word kd a e n => v = .tuple #[wdV' kd (s.extract a e) i, .int .i64 n, .int .i64 (-1)]

theorem chg3 {w : World} {q : Nat} (a b c : Value) : Chg (· = q) w (((w.setCell ⟨q, 0, none⟩ a).setCell ⟨q, 1, none⟩ b).setCell ⟨q, 2, none⟩ c) :=
  (((Chg.refl (· = q) w).setCell (p := ⟨q, 0, none⟩) (Or.inl rfl) _).setCell (p := ⟨q, 1, none⟩) (Or.inl rfl) _).setCell (p := ⟨q, 2, none⟩) (Or.inl rfl) _

theorem ref_One_ct {s : ByteArray} {i : Nat} (hi : i < s.size) (hs : s.size ≤ maxLen) (w : World) : Ct Tryd.prog ref03_One.id #[.string s, .int .i64 i] w fun v w' => OneR s i v ∧ Chg (fun _ => False) w w' := by
  refine ref03_One.ct fun R hR => ?_
  unfold ref03_One.run ref03_One.b1
  simp [go_sem, index_bt, hi, wrap_succ hi hs]
  generalize hw1 : w.alloc (Obj.cells #[Value.int IntKind.i64 0, Value.string { data := #[] }, Value.int IntKind.i64 0] 42) = w1
  have hc1 : Chg (fun _ => False) w w1 := by rw [← hw1]; exact (Chg.refl _ _).alloc _
  have ht1 : Tri w1 w.heap.size 0 ⟨#[]⟩ 0 := by rw [← hw1]; exact ⟨new_cell _ _ _ rfl 0, new_cell _ _ _ rfl 1, new_cell _ _ _ rfl 2, new_frozen _ _ _ rfl 0, new_frozen _ _ _ rfl 1, new_frozen _ _ _ rfl 2⟩
  have hqw : w.heap.size = w.heap.size := rfl
  generalize hq : w.heap.size = q at ht1 ⊢
  clear hw1 hqw
  -- each way out
  have out : ∀ {w2 : World} {v : Value} {a b c : Value}, Chg (fun _ => False) w w2 → OneR s i v → R (.returned v) (((w2.setCell ⟨q, 0, none⟩ a).setCell ⟨q, 1, none⟩ b).setCell ⟨q, 2, none⟩ c) := by
    intro w2 v a b c h2 hv
    exact hR _ _ ⟨hv, h2.trans' (chg3 a b c) (fun i hi e => by omega)⟩
  have badR : ∀ {k}, oneS s i = .bad k → OneR s i (.tuple #[wdV' 0 ⟨#[]⟩ 0, .int .i64 0, .int .i64 (k : Nat)]) := by
    intro k h; unfold OneR; rw [h]
  have wordR : ∀ {kd a e n : Nat}, oneS s i = .word kd a e n → OneR s i (.tuple #[wdV' kd (s.extract a e) i, .int .i64 n, .int .i64 (-1)]) := by
    intro kd a e n h; unfold OneR; rw [h]
  obtain ⟨k1, hk1⟩ : ∃ k1, k1 = i + 1 := ⟨_, rfl⟩
  have hcast : ((i : Int) + 1) = (k1 : Int) := by omega
  rw [hcast]
  have wrapk : IntKind.i64.wrap ((i : Int) + 1) = (k1 : Int) := by rw [wrap_succ hi hs]; omega
  have sub16 : ∀ k, i ≤ k → k ≤ s.size → IntKind.i64.wrap ((k : Int) - i) = ((k - i : Nat) : Int) := by
    intro k h1 h2; unfold maxLen at *; rw [IntWalk.i64_in _ (by omega)]; omega
  -- a name
  have nm : signN (bt s i) = false → ¬ bt s i = 37 → ¬ bt s i = 39 → (letterN (bt s i) || decide (bt s i = 95)) = true →
      ref03_One.l13 R (.string s) (.int .i64 i) (.pointer (some ⟨q, 0, none⟩)) (.int .i64 k1) w1 := by
    intro h0 h37 h39 hl
    have hone : oneS s i = (if runS innerN s i 16 < s.size ∧ innerN (bt s (runS innerN s i 16)) = true then .bad (runS innerN s i 16) else .word 1 i (runS innerN s i 16) (runS innerN s i 16)) := by
      unfold oneS
      rw [if_neg (by simp [h0]), if_neg h37, if_neg h39, if_pos hl]
    refine ref03_One.l13_intro _ _ _ _ _ _ (fun x w2 => ∃ k : Nat, x = .int .i64 k ∧ w1 = w2 ∧ i < k ∧ k ≤ i + 16 ∧ k ≤ s.size ∧ runS innerN s i 16 = runS innerN s k (i + 16 - k)) (fun x _ => s.size - iv x) ⟨k1, rfl, rfl, by omega, by omega, by omega, ?_⟩ ?_
    · have e : runS innerN s i 16 = if i < s.size && innerN (bt s i) then runS innerN s (i + 1) 15 else i := rfl
      rw [e, inner_of_letter hl, hk1]
      simp [hi]
    rintro _ _ ⟨k, rfl, rfl, hik, hk16, hks, hr⟩ C hC
    have fin : runS innerN s i 16 = k → (¬ (k < s.size ∧ innerN (bt s k) = true)) → ref03_One.b11 R (.string s) (.int .i64 i) (.pointer (some ⟨q, 0, none⟩)) (.int .i64 k) w1 := by
      intro he hno
      unfold ref03_One.b11
      simp [go_sem, ht1.c0, ht1.c1, ht1.c2, ht1.f0, ht1.f1, ht1.f2, World.cell?_setCell_other, hks, show i ≤ k by omega]
      exact out hc1 (wordR (kd := 1) (by rw [hone, he, if_neg hno]))
    have stop : (¬ (k < s.size ∧ innerN (bt s k) = true)) → runS innerN s i 16 = k := by
      intro hno
      rw [hr]
      cases hn : i + 16 - k with
      | zero => rfl
      | succ n =>
        unfold runS
        rw [if_neg]
        intro h; simp at h; exact hno h
    unfold ref03_One.b16
    simp [go_sem]
    refine SPL_intro (fun h1 => ?_) (fun h1 => ?_) <;> simp at h1
    · simp [go_sem, index_bt, h1]
      refine CALL_of (ref_inner_ct _ _) ?_
      rintro _ _ ⟨rfl, rfl⟩
      unfold ref03_One.b17
      refine SPL_intro (fun h2 => ?_) (fun h2 => ?_)
      · unfold ref03_One.b15
        by_cases h16 : k = i + 16
        · have h16' : IntKind.i64.wrap ((k : Int) - i) = 16 := by rw [sub16 k (by omega) hks]; omega
          simp [go_sem, h16', ht1.c0, ht1.c1, ht1.c2, ht1.f0, ht1.f1, ht1.f2, World.cell?_setCell_other]
          have he : runS innerN s i 16 = k := by rw [hr, h16, Nat.sub_self]; rfl
          exact out hc1 (badR (by rw [hone, he, if_pos ⟨h1, h2⟩]))
        · have h16' : (IntKind.i64.wrap ((k : Int) - i) == 16) = false := by rw [sub16 k (by omega) hks]; simp; omega
          simp [go_sem, h16', wrap_succ h1 hs]
          refine hC _ _ ⟨k + 1, rfl, rfl, by omega, by omega, by omega, ?_⟩ (by simp [iv]; omega)
          rw [hr]
          obtain ⟨n, hn⟩ : ∃ n, i + 16 - k = n + 1 := ⟨i + 15 - k, by omega⟩
          rw [hn, show i + 16 - (k + 1) = n by omega]
          conv => lhs; unfold runS
          rw [if_pos (by simp [h1, h2])]
      · have hno : ¬ (k < s.size ∧ innerN (bt s k) = true) := fun h => by rw [h.2] at h2; cases h2
        exact fin (stop hno) hno
    · have hno : ¬ (k < s.size ∧ innerN (bt s k) = true) := fun h => by omega
      unfold ref03_One.b17
      simp only [SPL_false]
      exact fin (stop hno) hno
  -- a quoted one
  have qt : signN (bt s i) = false → bt s i = 39 → ref03_One.l26 R (.string s) (.int .i64 i) (.pointer (some ⟨q, 0, none⟩)) (.int .i64 k1) w1 := by
    intro h0 h39
    have hone : oneS s i = (if i + 1 < runS plainN s (i + 1) 16 ∧ runS plainN s (i + 1) 16 < s.size ∧ bt s (runS plainN s (i + 1) 16) = 39 then .word 2 (i + 1) (runS plainN s (i + 1) 16) (runS plainN s (i + 1) 16 + 1) else .bad (runS plainN s (i + 1) 16)) := by
      unfold oneS
      rw [if_neg (by simp [h0]), if_neg (by omega), if_pos h39]
    refine ref03_One.l26_intro _ _ _ _ _ _ (fun x w2 => ∃ k : Nat, x = .int .i64 k ∧ w1 = w2 ∧ i < k ∧ k ≤ i + 17 ∧ k ≤ s.size ∧ runS plainN s (i + 1) 16 = runS plainN s k (i + 17 - k)) (fun x _ => s.size - iv x) ⟨k1, rfl, rfl, by omega, by omega, by omega, ?_⟩ ?_
    · rw [hk1, show i + 17 - (i + 1) = 16 by omega]
    rintro _ _ ⟨k, rfl, rfl, hik, hk17, hks, hr⟩ C hC
    have stop : (¬ (k < s.size ∧ plainN (bt s k) = true ∧ k < i + 17)) → runS plainN s (i + 1) 16 = k := by
      intro hno
      rw [hr]
      cases hn : i + 17 - k with
      | zero => rfl
      | succ n =>
        unfold runS
        rw [if_neg]
        intro h; simp at h; exact hno ⟨h.1, h.2, by omega⟩
    have bad : runS plainN s (i + 1) 16 = k → ¬ (i + 1 < k ∧ k < s.size ∧ bt s k = 39) → ref03_One.b24 R (.string s) (.int .i64 i) (.pointer (some ⟨q, 0, none⟩)) (.int .i64 k) (.bool true) w1 := by
      intro he hno
      unfold ref03_One.b24
      simp [go_sem, ht1.c0, ht1.c1, ht1.c2, ht1.f0, ht1.f1, ht1.f2, World.cell?_setCell_other]
      exact out hc1 (badR (by rw [hone, he, if_neg hno]))
    have good : runS plainN s (i + 1) 16 = k → (i + 1 < k ∧ k < s.size ∧ bt s k = 39) → ref03_One.b24 R (.string s) (.int .i64 i) (.pointer (some ⟨q, 0, none⟩)) (.int .i64 k) (.bool false) w1 := by
      intro he hyes
      unfold ref03_One.b24
      simp only [SPL_false]
      unfold ref03_One.b22
      have e1 : (k1 : Int) ≤ k := by omega
      have hwr := wrap_succ hyes.2.1 hs
      simp [go_sem, ht1.c0, ht1.c1, ht1.c2, ht1.f0, ht1.f1, ht1.f2, World.cell?_setCell_other, hks, wrapk, hwr, show k1 ≤ k by omega]
      have e2 : ((k : Int) + 1) = ((k + 1 : Nat) : Int) := by omega
      rw [e2]
      refine out hc1 (wordR (kd := 2) (a := k1) (e := k) (n := k + 1) ?_)
      rw [hone, he, if_pos hyes, hk1]
    have after : (¬ (k < s.size ∧ plainN (bt s k) = true ∧ k < i + 17)) → ref03_One.b23 R (.string s) (.int .i64 i) (.pointer (some ⟨q, 0, none⟩)) (.int .i64 k) w1 := by
      intro hno
      have he := stop hno
      unfold ref03_One.b23
      simp [go_sem]
      refine SPL_intro (fun h1 => ?_) (fun h1 => ?_) <;> simp at h1
      · exact bad he (fun h => by omega)
      · simp [go_sem, index_bt, h1]
        refine SPL_intro (fun h2 => ?_) (fun h2 => ?_) <;> simp at h2
        · exact bad he (fun h => by omega)
        · simp [go_sem, wrapk]
          by_cases hkk : k = k1
          · rw [show ((k : Int) == (k1 : Int)) = true by simp; omega]
            exact bad he (fun h => by omega)
          · rw [show ((k : Int) == (k1 : Int)) = false by simp; omega]
            exact good he ⟨by omega, h1, by omega⟩
    have no30 : (¬ (k < s.size ∧ plainN (bt s k) = true ∧ k < i + 17)) → ref03_One.b30 R C (.string s) (.int .i64 i) (.pointer (some ⟨q, 0, none⟩)) (.int .i64 k) (.bool false) w1 := by
      intro hno
      unfold ref03_One.b30
      simp only [SPL_false]
      exact after hno
    unfold ref03_One.b29
    simp [go_sem]
    refine SPL_intro (fun h1 => ?_) (fun h1 => ?_) <;> simp at h1
    · simp [go_sem, index_bt, h1]
      refine SPL_intro (fun h2 => ?_) (fun h2 => ?_) <;> simp at h2
      · simp [go_sem, index_bt, h1]
        refine SPL_intro (fun h3 => ?_) (fun h3 => ?_) <;> simp at h3
        · simp [go_sem, index_bt, h1]
          refine SPL_intro (fun h4 => ?_) (fun h4 => ?_) <;> simp at h4
          · simp [go_sem, sub16 k (by omega) hks]
            by_cases h17 : k - i ≤ 16
            · rw [show decide (((k - i : Nat) : Int) ≤ 16) = true by simp; omega]
              unfold ref03_One.b30
              simp only [SPL_true]
              unfold ref03_One.b28
              simp [go_sem, wrap_succ h1 hs]
              refine hC _ _ ⟨k + 1, rfl, rfl, by omega, by omega, by omega, ?_⟩ (by simp [iv]; omega)
              rw [hr]
              obtain ⟨n, hn⟩ : ∃ n, i + 17 - k = n + 1 := ⟨i + 16 - k, by omega⟩
              rw [hn, show i + 17 - (k + 1) = n by omega]
              conv => lhs; unfold runS
              rw [if_pos (by simp [h1, plainN]; omega)]
            · rw [show decide (((k - i : Nat) : Int) ≤ 16) = false by simp; omega]
              exact no30 (fun h => by omega)
          · exact no30 (fun h => by have := h.2.1; simp [plainN] at this; omega)
        · exact no30 (fun h => by have := h.2.1; simp [plainN] at this; omega)
      · exact no30 (fun h => by have := h.2.1; simp [plainN] at this; omega)
    · exact no30 (fun h => by omega)
  -- an order
  have od : signN (bt s i) = false → bt s i = 37 → ref03_One.l36 R (.string s) (.int .i64 i) (.pointer (some ⟨q, 0, none⟩)) (.int .i64 k1) w1 := by
    intro h0 h37
    have hone : oneS s i = (if (ordS s i (i + 1)).2 && whole (s.extract i (ordS s i (i + 1)).1) then .word 3 i (ordS s i (i + 1)).1 (ordS s i (i + 1)).1 else .bad (ordS s i (i + 1)).1) := by
      unfold oneS
      rw [if_neg (by simp [h0]), if_pos h37]
    refine ref03_One.l36_intro _ _ _ _ _ _ (fun x w2 => ∃ k : Nat, x = .int .i64 k ∧ Chg (fun _ => False) w1 w2 ∧ i < k ∧ k ≤ s.size ∧ ordS s i k = ordS s i (i + 1)) (fun x _ => s.size - iv x) ⟨k1, rfl, Chg.refl _ _, by omega, by omega, by rw [hk1]⟩ ?_
    rintro _ w2 ⟨k, rfl, hc2, hik, hks, hr⟩ C hC
    have stop : ∀ {w3}, Chg (fun _ => False) w1 w3 → ¬ (k < s.size ∧ letterN (bt s k) = true) → ref03_One.b34 R (.string s) (.int .i64 i) (.pointer (some ⟨q, 0, none⟩)) (.int .i64 k) w3 := by
      intro w3 hc3 hno
      have he : ordS s i (i + 1) = (k, true) := by rw [← hr]; unfold ordS; rw [if_neg hno]
      rw [he] at hone
      unfold ref03_One.b34
      simp [go_sem, hks, show i ≤ k by omega]
      refine CALL_of (ref_begun_ct _ true _) ?_
      rintro _ w4 ⟨rfl, hc4⟩
      have ht4 := (ht1.chg hc3 id).chg hc4 id
      have hc5 := (hc1.trans hc3).trans hc4
      simp only [if_true]
      cases hw : whole (s.extract i k) with
      | true =>
        simp [go_sem, ht4.c0, ht4.c1, ht4.c2, ht4.f0, ht4.f1, ht4.f2, World.cell?_setCell_other, hks, show i ≤ k by omega]
        exact out hc5 (wordR (kd := 3) (by rw [hone]; simp [hw]))
      | false =>
        simp [go_sem, ht4.c0, ht4.c1, ht4.c2, ht4.f0, ht4.f1, ht4.f2, World.cell?_setCell_other]
        exact out hc5 (badR (by rw [hone]; simp [hw]))
    unfold ref03_One.b39
    simp [go_sem]
    refine SPL_intro (fun h1 => ?_) (fun h1 => ?_) <;> simp at h1
    · simp [go_sem, index_bt, h1]
      refine CALL_of (ref_letter_ct _ _) ?_
      rintro _ _ ⟨rfl, rfl⟩
      unfold ref03_One.b40
      refine SPL_intro (fun h2 => ?_) (fun h2 => ?_)
      · unfold ref03_One.b38
        have e1 : (0 : Int) ≤ k + 1 ∧ (k : Int) + 1 ≤ s.size := by omega
        have e2 : (i : Int) ≤ k + 1 := by omega
        simp [go_sem, wrap_succ h1 hs, e1, e2]
        refine CALL_of (ref_begun_ct _ false _) ?_
        rintro _ w4 ⟨rfl, hc4⟩
        have ht4 := (ht1.chg hc2 id).chg hc4 id
        have hc5 := (hc1.trans hc2).trans hc4
        simp only [Bool.false_eq_true, if_false]
        cases hw : Scan.begun (s.extract i (k + 1)) with
        | true =>
          simp [go_sem, wrap_succ h1 hs]
          refine hC _ _ ⟨k + 1, rfl, hc2.trans hc4, by omega, by omega, ?_⟩ (by simp [iv]; omega)
          rw [← hr]
          conv => rhs; unfold ordS
          rw [if_pos ⟨h1, h2⟩, if_pos hw]
        | false =>
          have he : ordS s i (i + 1) = (k, false) := by rw [← hr]; unfold ordS; rw [if_pos ⟨h1, h2⟩, if_neg (by simp [hw])]
          simp [go_sem, ht4.c0, ht4.c1, ht4.c2, ht4.f0, ht4.f1, ht4.f2, World.cell?_setCell_other]
          exact out hc5 (badR (by rw [hone, he]; rfl))
      · exact stop hc2 (fun h => by rw [h.2] at h2; cases h2)
    · unfold ref03_One.b40
      simp only [SPL_false]
      exact stop hc2 (fun h => by omega)
  have rest : signN (bt s i) = false → ref03_One.b8 R (.string s) (.int .i64 i) (.pointer (some ⟨q, 0, none⟩)) (.int .u8 (bt s i)) (.int .i64 k1) w1 := by
    intro h0
    have h18 : (letterN (bt s i) || decide (bt s i = 95)) = false → ref03_One.b9 R (.string s) (.int .i64 i) (.pointer (some ⟨q, 0, none⟩)) (.int .u8 (bt s i)) (.int .i64 k1) (.bool false) w1 := by
      intro hl
      unfold ref03_One.b9
      simp only [SPL_false]
      unfold ref03_One.b18
      simp [go_sem]
      unfold ref03_One.b19
      refine SPL_intro (fun h1 => ?_) (fun h1 => ?_) <;> simp at h1
      · exact qt h0 (by omega)
      · unfold ref03_One.b31
        simp [go_sem]
        unfold ref03_One.b32
        refine SPL_intro (fun h2 => ?_) (fun h2 => ?_) <;> simp at h2
        · exact od h0 (by omega)
        · unfold ref03_One.b41 ref03_One.b3
          simp [go_sem, ht1.c0, ht1.c1, ht1.c2, ht1.f0, ht1.f1, ht1.f2, World.cell?_setCell_other]
          refine out hc1 (badR ?_)
          unfold oneS
          rw [if_neg (by simp [h0]), if_neg (by omega), if_neg (by omega), if_neg (by simp [hl])]
    have hname : (letterN (bt s i) || decide (bt s i = 95)) = true → ref03_One.b9 R (.string s) (.int .i64 i) (.pointer (some ⟨q, 0, none⟩)) (.int .u8 (bt s i)) (.int .i64 k1) (.bool true) w1 := by
      intro hl
      unfold ref03_One.b9
      simp only [SPL_true]
      have hne : ¬ bt s i = 37 ∧ ¬ bt s i = 39 := by
        simp [letterN] at hl
        omega
      exact nm h0 hne.1 hne.2 hl
    unfold ref03_One.b8
    refine CALL_of (ref_letter_ct _ _) ?_
    rintro _ _ ⟨rfl, rfl⟩
    refine SPL_intro (fun h1 => ?_) (fun h1 => ?_)
    · exact hname (by simp [h1])
    · simp [go_sem]
      by_cases h95 : bt s i = 95
      · rw [show (((bt s i : Nat) : Int) == 95) = true by simp; omega]
        exact hname (by simp [h95])
      · rw [show (((bt s i : Nat) : Int) == 95) = false by simp; omega]
        exact h18 (by simp [h1, h95])
  have first : ∀ bl, bl = signN (bt s i) → ref03_One.b6 R (.string s) (.int .i64 i) (.pointer (some ⟨q, 0, none⟩)) (.int .u8 (bt s i)) (.int .i64 k1) (.bool bl) w1 := by
    intro bl hbl
    unfold ref03_One.b6
    refine SPL_intro (fun h1 => ?_) (fun h1 => ?_) <;> rw [hbl] at h1
    · unfold ref03_One.b7
      simp [go_sem, ht1.c0, ht1.c1, ht1.c2, ht1.f0, ht1.f1, ht1.f2, World.cell?_setCell_other, show i ≤ k1 by omega, show k1 ≤ s.size by omega]
      exact out hc1 (wordR (kd := 4) (by unfold oneS; rw [if_pos h1, hk1]))
    · exact rest h1
  unfold ref03_One.b5
  simp [go_sem]
  refine SPL_intro (fun h1 => ?_) (fun h1 => ?_) <;> simp at h1
  · exact first _ (by simp [signN]; omega)
  simp [go_sem]
  refine SPL_intro (fun h2 => ?_) (fun h2 => ?_) <;> simp at h2
  · exact first _ (by simp [signN]; omega)
  simp [go_sem]
  exact first _ (by rw [Bool.eq_iff_iff]; simp [signN]; omega)
end Go.Proofs.YtgjifldciinehaaDoor
