/-
  ScanNames: the law's contract.
-/
import Derived.Test.YtgjifldciinehaaDoorLw5
namespace Go.Proofs.YtgjifldciinehaaDoor
open Go.Px Go.Px.Scan Go.RowKit
set_option maxHeartbeats 1000000
set_option linter.unusedSimpArgs false

open Classical in
/-- Is a text just this one word? -/
noncomputable def justB (t : ByteArray) (kd : Int) (s : ByteArray) : Bool := decide (wordsS t = ([(kd, s, 0)], none))
theorem justB_iff {t s : ByteArray} {kd : Int} : justB t kd s = true ↔ wordsS t = ([(kd, s, 0)], none) := @decide_eq_true_iff _ (_)
theorem justB_no {t s : ByteArray} {kd : Int} (h : ¬ wordsS t = ([(kd, s, 0)], none)) : justB t kd s = false := by rw [Bool.eq_false_iff]; exact fun h' => h (justB_iff.1 h')

theorem b4_ok {R : Ending → World → Prop} {w : World} {B : Nat} {s : ByteArray} {n t q : Value} (hs : s.size ≤ maxLen) (hO : Ord w B) (hB : B ≤ w.heap.size)
    (hK : ∀ w', Chg (fun _ => False) w w' → law03_ScanNames.b5 R n t q (.bool (justB s 1 s)) w') : law03_ScanNames.b4 R (.string s) n t q w := by
  unfold law03_ScanNames.b4
  refine CALL_of (Words2_ct hs hO hB) ?_
  intro v w1 h
  refine h.elim fun sl h => ?_
  rw [h.1]
  have hl := h.2.2.1
  have hc1 := h.2.2.2
  clear h
  cases ho : (wordsS s).2 with
  | some k =>
    simp [go_sem, mi, mishV]
    have hf : justB s 1 s = false := justB_no fun h => by rw [h] at ho; cases ho
    have := hK _ (hc1.alloc (.cells #[.int .i64 10, .int .i64 k, .slice none 0 0] 30))
    rw [hf] at this
    exact this
  | none =>
    have hw : wl s = (wordsS s).1 := by unfold wl; rw [ho]
    refine (slice_form hl).elim fun A h => h.elim fun c h => ?_
    have hcap := h.2.1
    rw [h.1] at hl ⊢
    clear h
    simp [go_sem, mi, mishV]
    have hc2 := hc1.alloc (.cells #[.int .i64 0, .int .i64 0, .slice none 0 0] 30)
    have hl2 := Rep.below hl (((Chg.refl (fun _ => False) w1).alloc (.cells #[.int .i64 0, .int .i64 0, .slice none 0 0] 30)).below (Nat.le_refl _) fun _ _ => id)
    generalize w1.alloc (.cells #[.int .i64 0, .int .i64 0, .slice none 0 0] 30) = w2 at hc2 hl2 ⊢
    refine SPL_intro (fun h => ?_) (fun h => ?_)
    · have hlen : (wl s).length = 1 := by simp at h; omega
      refine (wds_at hl2 (i := 0) (by omega)).elim fun b h => h.elim fun o h => ?_
      have hA := h.1
      have h0 := h.2.2.1
      have h1 := h.2.2.2.1
      have h2 := h.2.2.2.2
      clear h
      subst hA
      simp at h0 h1 h2
      simp [go_sem, hlen, h0, h1, h2]
      have yes := hK _ hc2
      by_cases hj : wordsS s = ([(1, s, 0)], none)
      · have e0 : (wl s)[0] = (1, s, 0) := by simp [hw, hj]
        rw [justB_iff.2 hj] at yes
        simp [e0, RES_ok]
        exact yes
      · rw [justB_no hj] at yes
        have hnot : (wl s)[0].1 = 1 → (wl s)[0].2.1.toList = s.toList → (wl s)[0].2.2 = 0 → False := fun a1 a2 a3 => hj (by
          have e0 : (wl s)[0] = (1, s, 0) := Prod.ext a1 (Prod.ext (bs_ext (by simpa [ByteArray.toList_eq] using a2)) a3)
          have e1 : (wordsS s).1 = [(1, s, 0)] := by
            rw [← hw]
            refine List.ext_getElem (by simp [hlen]) fun i h1 h2 => ?_
            have hi : i = 0 := by simp at h2; exact h2
            subst hi; exact e0
          exact Prod.ext e1 ho)
        split
        · split
          · split
            · rename_i a1 a2 a3; exact (hnot a1 a2 a3).elim
            · rw [RES_ok]; exact yes
          · rw [RES_ok]; exact yes
        · rw [RES_ok]; exact yes
    · have hf : justB s 1 s = false := justB_no fun he => by rw [hw, he] at h; simp at h
      have := hK _ hc2
      rw [hf] at this
      exact this
theorem b3_ok {R : Ending → World → Prop} {w : World} {B : Nat} {s : ByteArray} {n t : Value} (hs : s.size ≤ reachN) (hO : Ord w B) (hB : B ≤ w.heap.size)
    (hK : ∀ w', Chg (fun _ => False) w w' → law03_ScanNames.b4 R (.string s) n t (.bool (justB (quo s) 2 s)) w') : law03_ScanNames.b3 R (.string s) n t w := by
  unfold law03_ScanNames.b3
  have e9 : ¬ 9223372036854775807 < 1 + s.size := by unfold reachN at hs; omega
  have e10 : ¬ 9223372036854775807 < 1 + s.size + 1 := by unfold reachN at hs; omega
  simp [go_sem, e9, e10]
  have hq : (quo s).size ≤ maxLen := by rw [quo_size]; unfold maxLen; unfold reachN at hs; omega
  rw [show (({ data := #[39] } : ByteArray) ++ s) ++ ({ data := #[39] } : ByteArray) = quo s from rfl]
  refine CALL_of (Words2_ct hq hO hB) ?_
  intro v w1 h
  refine h.elim fun sl h => ?_
  rw [h.1]
  have hl := h.2.2.1
  have hc1 := h.2.2.2
  clear h
  cases ho : (wordsS (quo s)).2 with
  | some k =>
    simp [go_sem, mi, mishV]
    have hf : justB (quo s) 2 s = false := justB_no fun h => by rw [h] at ho; cases ho
    have := hK _ (hc1.alloc (.cells #[.int .i64 10, .int .i64 k, .slice none 0 0] 30))
    rw [hf] at this
    exact this
  | none =>
    have hw : wl (quo s) = (wordsS (quo s)).1 := by unfold wl; rw [ho]
    refine (slice_form hl).elim fun A h => h.elim fun c h => ?_
    have hcap := h.2.1
    rw [h.1] at hl ⊢
    clear h
    simp [go_sem, mi, mishV]
    have hc2 := hc1.alloc (.cells #[.int .i64 0, .int .i64 0, .slice none 0 0] 30)
    have hl2 := Rep.below hl (((Chg.refl (fun _ => False) w1).alloc (.cells #[.int .i64 0, .int .i64 0, .slice none 0 0] 30)).below (Nat.le_refl _) fun _ _ => id)
    generalize w1.alloc (.cells #[.int .i64 0, .int .i64 0, .slice none 0 0] 30) = w2 at hc2 hl2 ⊢
    refine SPL_intro (fun h => ?_) (fun h => ?_)
    · have hlen : (wl (quo s)).length = 1 := by simp at h; omega
      refine (wds_at hl2 (i := 0) (by omega)).elim fun b h => h.elim fun o h => ?_
      have hA := h.1
      have h0 := h.2.2.1
      have h1 := h.2.2.2.1
      have h2 := h.2.2.2.2
      clear h
      subst hA
      simp at h0 h1 h2
      simp [go_sem, hlen, h0, h1, h2]
      have yes := hK _ hc2
      by_cases hj : wordsS (quo s) = ([(2, s, 0)], none)
      · have e0 : (wl (quo s))[0] = (2, s, 0) := by simp [hw, hj]
        rw [justB_iff.2 hj] at yes
        simp [e0, RES_ok]
        exact yes
      · rw [justB_no hj] at yes
        have hnot : (wl (quo s))[0].1 = 2 → (wl (quo s))[0].2.1.toList = s.toList → (wl (quo s))[0].2.2 = 0 → False := fun a1 a2 a3 => hj (by
          have e0 : (wl (quo s))[0] = (2, s, 0) := Prod.ext a1 (Prod.ext (bs_ext (by simpa [ByteArray.toList_eq] using a2)) a3)
          have e1 : (wordsS (quo s)).1 = [(2, s, 0)] := by
            rw [← hw]
            refine List.ext_getElem (by simp [hlen]) fun i h1 h2 => ?_
            have hi : i = 0 := by simp at h2; exact h2
            subst hi; exact e0
          exact Prod.ext e1 ho)
        split
        · split
          · split
            · rename_i a1 a2 a3; exact (hnot a1 a2 a3).elim
            · rw [RES_ok]; exact yes
          · rw [RES_ok]; exact yes
        · rw [RES_ok]; exact yes
    · have hf : justB (quo s) 2 s = false := justB_no fun he => by rw [hw, he] at h; simp at h
      have := hK _ hc2
      rw [hf] at this
      exact this

theorem ScanNames_ct {w : World} {B : Nat} {s : ByteArray} (hs : s.size ≤ reachN) (hO : Ord w B) (hB : B ≤ w.heap.size) : Ct Tryd.prog law03_ScanNames.id #[.string s] w fun v w' => v = .bool true ∧ Chg (fun _ => False) w w' := by
  have hm : s.size ≤ maxLen := by unfold maxLen; unfold reachN at hs; omega
  refine law03_ScanNames.ct fun R hR => ?_
  unfold law03_ScanNames.run law03_ScanNames.b1
  refine CALL_of (awake_ct hO hB) ?_
  intro v w1 h; rw [h.1]; have hc1 := h.2; clear h
  simp [go_sem]
  refine CALL_of (IsName_ct (hO.chg hc1 hB fun _ _ => id) (Nat.le_trans hB hc1.size)) ?_
  intro v w2 h; rw [h.1, nameS_eq]; have hc2 := hc1.trans h.2; clear h
  refine CALL_of (IsTerm_ct hm) ?_
  intro v w3 h; rw [h.1, termS_eq]; have hc3 := hc2.trans h.2; clear h
  unfold law03_ScanNames.b6
  refine CALL_of (ref_IsName_ct hm _) ?_
  intro v w4 h; rw [h.1, ← h.2]; clear h
  simp [go_sem]
  refine CALL_of (ref_IsTerm_ct hm _) ?_
  intro v w5 h; rw [h.1, ← h.2]; clear h
  have last : law03_ScanNames.b7 R (.string s) (.bool (nameB s)) (.bool (termB s)) (.bool false) w3 := by
    unfold law03_ScanNames.b7
    simp [go_sem]
    refine b3_ok hs (hO.chg hc3 hB fun _ _ => id) (Nat.le_trans hB hc3.size) fun w6 hc6 => ?_
    have hc36 := hc3.trans hc6
    refine b4_ok hm (hO.chg hc36 hB fun _ _ => id) (Nat.le_trans hB hc36.size) fun w7 hc7 => ?_
    unfold law03_ScanNames.b5
    have e1 : justB (quo s) 2 s = termB s := by rw [Bool.eq_iff_iff, justB_iff, termB_iff, quo_words]
    have e2 : justB s 1 s = nameB s := by rw [Bool.eq_iff_iff, justB_iff, nameB_iff, name_words]
    rw [e1, e2]
    simp [go_sem]
    exact hR _ _ ⟨rfl, hc36.trans hc7⟩
  simp [go_sem]
  cases hn : nameB s with
  | true =>
    have ht : termB s = true := termB_iff.2 (nameB_iff.1 hn).term
    rw [hn, ht] at last
    simp [go_sem, ht]
    exact last
  | false =>
    rw [hn] at last
    simp [go_sem]
    exact last
end Go.Proofs.YtgjifldciinehaaDoor
