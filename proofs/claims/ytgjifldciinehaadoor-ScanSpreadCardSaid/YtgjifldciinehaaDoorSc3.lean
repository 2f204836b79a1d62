/-
  The scanner skips blanks.
-/
import Derived.Test.YtgjifldciinehaaDoorSc2
import Derived.Test.YtgjifldciinehaaDoorScSpec2
namespace Go.Proofs.YtgjifldciinehaaDoor
open Go.Px Go.Px.Scan Go.RowKit
set_option maxHeartbeats 1000000
set_option linter.unusedSimpArgs false

theorem skip_ct {w : World} {b : Nat} {s : ByteArray} {k : Nat} (h : Sc w b s k) :
    Ct Tryd.prog scan_scanner_skip.id #[.pointer (some ⟨b, 0, none⟩)] w fun v w' => v = .bool (decide (skipS s false k < s.size)) ∧ Sc w' b s (skipS s false k) ∧ Chg (· = b) w w' := by
  refine scan_scanner_skip.ct fun R hR => ?_
  unfold scan_scanner_skip.run scan_scanner_skip.b1
  have hsz := h.sz
  refine scan_scanner_skip.l2_intro _ _ _ (fun w1 => ∃ j, Sc w1 b s j ∧ Chg (· = b) w w1 ∧ skipS s false j = skipS s false k) (left s b) ⟨k, h, Chg.refl _ _, rfl⟩ ?_
  rintro w1 ⟨j, h1, hc1, hs1⟩ C2 hC2
  refine scan_scanner_skip.l12_intro _ _ _ _ (fun w2 => ∃ i, Sc w2 b s i ∧ Chg (· = b) w w2 ∧ skipS s false i = skipS s false k ∧ j ≤ i) (left s b) ⟨j, h1, hc1, hs1, Nat.le_refl _⟩ ?_
  rintro w2 ⟨i, h2, hc2, hs2, hji⟩ C12 hC12
  have fin : ∀ w3, Sc w3 b s i → Chg (· = b) w w3 → skipS s false k = i → scan_scanner_skip.b5 R C2 (.pointer (some ⟨b, 0, none⟩)) w3 := by
    intro w3 h3 hc3 he
    unfold scan_scanner_skip.b5
    simp [go_sem, h3.c0, h3.c1]
    exact hR _ _ ⟨by simp [he], by rw [he]; exact h3.drew, hc3.drew⟩
  have next : ∀ w3, Sc w3 b s i → Chg (· = b) w w3 → (i < s.size → blankN (bt s i) = false) → scan_scanner_skip.b6 R C2 (.pointer (some ⟨b, 0, none⟩)) w3 := by
    intro w3 h3 hc3 hb
    unfold scan_scanner_skip.b6
    simp [go_sem, h3.c0, h3.c1]
    refine SPL_intro (fun h4 => ?_) (fun h4 => ?_) <;> simp at h4
    · simp [go_sem, h3.c0, h3.c1, index_bt, h4]
      unfold scan_scanner_skip.b7
      refine SPL_intro (fun h5 => ?_) (fun h5 => ?_) <;> simp at h5
      · have h5 : bt s i = 35 := by omega
        unfold scan_scanner_skip.b8
        simp [go_sem, h3.c0, h3.c1, h3.le]
        refine CALL_of (IndexByte_ct _ 10 _) ?_
        rintro _ w4 ⟨rfl, hw4⟩
        have h4' : Sc w4 b s i := by rw [← hw4]; exact h3.drew.drew
        have hc4 : Chg (· = b) w w4 := by rw [← hw4]; exact hc3.drew.drew
        clear hw4
        have jump : ∀ w5 n, Sc w5 b s i → Chg (· = b) w w5 → i + n ≤ s.size → (∀ m, i ≤ m → m < i + n → bt s m ≠ 10) → (i + n = s.size ∨ bt s (i + n) = 10) → scan_scanner_skip.b9 R C2 (.pointer (some ⟨b, 0, none⟩)) (.int .i64 (n : Nat)) w5 := by
          intro w5 n h5' hc5 hn hno hend
          have hadd : IntKind.i64.wrap ((i : Int) + n) = ((i + n : Nat) : Int) := by unfold maxLen at *; rw [IntWalk.i64_in _ (by omega)]; omega
          have hn1 : n ≠ 0 := by
            rintro rfl
            rcases hend with h9 | h9
            · omega
            · simp at h9; omega
          unfold scan_scanner_skip.b9
          simp [go_sem, h5'.c0, h5'.c1, h5'.fr, hadd]
          have h6 := h5'.set (i + n) hn
          have e : ((i : Int) + n) = ((i + n : Nat) : Int) := by omega
          try rw [e]
          refine hC2 _ ⟨i + n, h6, hc5.setCell (Or.inl rfl) _, ?_⟩ ?_
          · rw [← hs2]; exact (skip_hash h4 h5 hn (by omega) hno hend).symm
          · rw [h6.left, h1.left]; omega
        generalize hq : Lib.indexByte (s.extract i s.size).data.toList ((10 : Int).toNat.toUInt8) = q
        rcases index_at (s := s) (k := i) (c := 10) h3.le with ⟨he, hno⟩ | ⟨o, he, ho, hb10, hno⟩
        · obtain rfl : -1 = q := he.symm.trans hq
          have hsub : IntKind.i64.wrap ((s.size : Int) - i) = ((s.size - i : Nat) : Int) := by unfold maxLen at *; rw [IntWalk.i64_in _ (by omega)]; omega
          simp [go_sem, h4'.c0, h4'.c1, hsub]
          refine jump _ _ h4'.drew hc4.drew (by omega) (fun m hm1 hm2 => hno m hm1 (by omega)) (Or.inl (by omega))
        · obtain rfl : (o : Int) = q := he.symm.trans hq
          simp [go_sem, show ¬ ((o : Int) < 0) by omega]
          exact jump _ _ h4' hc4 (by omega) hno (Or.inr hb10)
      · unfold scan_scanner_skip.b10
        refine fin _ h3.drew hc3.drew ?_
        rw [← hs2]; exact skip_none h4 (hb h4) (by omega)
    · unfold scan_scanner_skip.b7
      simp only [SPL_false]
      unfold scan_scanner_skip.b10
      refine fin _ h3.drew hc3.drew ?_
      rw [← hs2]; exact skip_end h4
  unfold scan_scanner_skip.b15
  simp [go_sem, h2.c0, h2.c1]
  refine SPL_intro (fun h4 => ?_) (fun h4 => ?_) <;> simp at h4
  · simp [go_sem, h2.c0, h2.c1, index_bt, h4]
    refine CALL_of (IndexByte_ct _ _ _) ?_
    rintro _ w4 ⟨rfl, hw4⟩
    have h4' : Sc w4 b s i := by rw [← hw4]; exact h2.drew
    have hc4 : Chg (· = b) w w4 := by rw [← hw4]; exact hc2.drew
    clear hw4
    have hbl := blank_index (bt s i) (bt_lt s i)
    simp [go_sem]
    simp at hbl
    rw [hbl]
    unfold scan_scanner_skip.b16
    refine SPL_intro (fun h5 => ?_) (fun h5 => ?_)
    · unfold scan_scanner_skip.b14
      simp [go_sem, h4'.c0, h4'.c1, h4'.fr, wrap_succ h4 hsz]
      refine hC12 _ ⟨i + 1, h4'.inc h4, hc4.setCell (Or.inl rfl) _, ?_, by omega⟩ ?_
      · rw [← hs2]; exact (skip_blank h4 h5).symm
      · rw [(h4'.inc h4).left, h2.left]; omega
    · exact next _ h4' hc4 (fun _ => h5)
  · unfold scan_scanner_skip.b16
    simp only [SPL_false]
    exact next _ h2.drew hc2.drew (fun h => absurd h (by omega))
end Go.Proofs.YtgjifldciinehaaDoor
