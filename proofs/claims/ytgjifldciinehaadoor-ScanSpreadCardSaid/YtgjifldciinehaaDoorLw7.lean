/-
  ScanBegins: the law's contract.
-/
import Derived.Test.YtgjifldciinehaaDoorLw4
import Derived.Test.YtgjifldciinehaaDoorScSpec5
namespace Go.Proofs.YtgjifldciinehaaDoor
open Go.Px Go.Px.Scan Go.RowKit
set_option maxHeartbeats 1000000
set_option linter.unusedSimpArgs false

/-- A mishap in a block. -/
structure MiAt (w : World) (q : Nat) (a b : Int) : Prop where
  c0 : w.cell? ⟨q, 0, none⟩ = some (.int .i64 a)
  c1 : w.cell? ⟨q, 1, none⟩ = some (.int .i64 b)
theorem MiAt.chg {w w' : World} {q : Nat} {a b : Int} (h : MiAt w q a b) (hc : Chg (fun _ => False) w w') : MiAt w' q a b := ⟨hc.at h.c0 id, hc.at h.c1 id⟩
theorem MiAt.new (w : World) (a b : Int) (v : Value) : MiAt (w.alloc (.cells #[.int .i64 a, .int .i64 b, v] 30)) w.heap.size a b := ⟨new_cell _ _ _ rfl 0, new_cell _ _ _ rfl 1⟩

theorem big_words {s : ByteArray} (h : 8192 < s.size) : wordsS s = ([], some 8192) := by unfold wordsS; rw [if_pos h]
theorem small_words {s : ByteArray} (h : ¬ 8192 < s.size) : wordsS s = allS s 0 := by unfold wordsS; rw [if_neg h]
theorem wl_none {s : ByteArray} (h : (wordsS s).2 = none) : wl s = (wordsS s).1 := by unfold wl; rw [h]

theorem app_bt {s t : ByteArray} {i : Nat} (h : i < s.size) : bt (s ++ t) i = bt s i := by
  rw [bt_list, bt_list]
  simp only [ByteArray.data_append, Array.toList_append, List.getD_eq_getElem?_getD]
  rw [List.getElem?_append_left (by simpa using h)]
theorem app_bt2 {s t : ByteArray} (i : Nat) : bt (s ++ t) (s.size + i) = bt t i := by
  rw [bt_list, bt_list]
  simp only [ByteArray.data_append, Array.toList_append, List.getD_eq_getElem?_getD]
  rw [List.getElem?_append_right (by simp)]
  simp
theorem extract_bt {s : ByteArray} {e i : Nat} (he : e ≤ s.size) (h : i < e) : bt (s.extract 0 e) i = bt s i := by
  rw [bt_list, bt_list]
  have := Lib.extract_toList s 0 e
  rw [ByteArray.toList_eq] at this
  rw [this]
  simp only [List.getD_eq_getElem?_getD, List.drop_zero, List.getElem?_take]
  rw [if_pos (by omega)]

/-- Words of a text without a bad place. -/
theorem Words_none_ct {w : World} {B : Nat} {s : ByteArray} (ho : (wordsS s).2 = none) (hs : s.size ≤ maxLen) (hO : Ord w B) (hB : B ≤ w.heap.size) :
    Ct Tryd.prog scan_Words.id #[.string s] w fun v w' => ∃ A c, v = .tuple #[.slice A (wordsS s).1.length c, .agg #[.int .i64 0, .int .i64 0, .slice none 0 0]] ∧ (wordsS s).1.length ≤ c ∧ (rSlice rWd).at1 w' w'.heap.size (.slice A (wordsS s).1.length c) (wordsS s).1 ∧ Chg (fun _ => False) w w' :=
  (Words2_ct hs hO hB).mono fun v w' h => by
    obtain ⟨sl, h1, _, h3, h4⟩ := h
    rw [wl_none ho] at h3
    obtain ⟨A, c, rfl, hl, _, _⟩ := slice_form h3
    rw [ho] at h1
    exact ⟨A, c, h1, hl, h3, h4⟩
theorem Words_some_ct {w : World} {B k : Nat} {s : ByteArray} (ho : (wordsS s).2 = some k) (hs : s.size ≤ maxLen) (hO : Ord w B) (hB : B ≤ w.heap.size) :
    Ct Tryd.prog scan_Words.id #[.string s] w fun v w' => v = .tuple #[.slice none 0 0, .agg #[.int .i64 10, .int .i64 k, .slice none 0 0]] ∧ Chg (fun _ => False) w w' :=
  (Words_ct hs hO hB).mono fun v w' h => by
    have h1 := h.1
    unfold WordsR at h1
    rw [ho] at h1
    exact ⟨h1, h.2⟩

theorem ScanBegins_ct {w : World} {B : Nat} {s mo : ByteArray} (hs : s.size ≤ reachN) (hmo : mo.size ≤ reachN) (hO : Ord w B) (hB : B ≤ w.heap.size) : Ct Tryd.prog law03_ScanBegins.id #[.string s, .string mo] w fun v w' => v = .bool true ∧ Chg (fun _ => False) w w' := by
  have hm : s.size ≤ maxLen := by unfold maxLen; unfold reachN at hs; omega
  refine law03_ScanBegins.ct fun R hR => ?_
  cases ho : (wordsS s).2 with
  | none =>
    unfold law03_ScanBegins.run law03_ScanBegins.b1
    refine CALL_of (awake_ct hO hB) ?_
    intro v w1 h; rw [h.1]; have hc1 := h.2; clear h
    simp [go_sem]
    refine CALL_of (Words_none_ct ho hm (hO.chg hc1 hB fun _ _ => id) (Nat.le_trans hB hc1.size)) ?_
    intro v w2 h
    refine h.elim fun A h => h.elim fun c h => ?_
    rw [h.1]
    have hc2 := hc1.trans h.2.2.2
    clear h
    simp [go_sem]
    have hq := MiAt.new w2 0 0 (.slice none 0 0)
    have hc3 := hc2.alloc (.cells #[.int .i64 0, .int .i64 0, .slice none 0 0] 30)
    generalize w2.alloc (.cells #[.int .i64 0, .int .i64 0, .slice none 0 0] 30) = w3 at hq hc3 ⊢
    have e9 : ¬ 9223372036854775807 < s.size + 2 := by unfold reachN at hs; omega
    simp [go_sem, e9, hq.c0]
    have ht : (s ++ (⟨#[32, 10]⟩ : ByteArray)).size = s.size + 2 := by simp [ByteArray.size_append]; rfl
    have fin : ∀ w', Chg (fun _ => False) w w' → R (.returned (.bool true)) w' := fun w' h => hR _ _ ⟨rfl, h⟩
    have htm : (s ++ (⟨#[32, 10]⟩ : ByteArray)).size ≤ maxLen := by rw [ht]; unfold maxLen; unfold reachN at hs; omega
    have h32 : bt (s ++ (⟨#[32, 10]⟩ : ByteArray)) s.size = 32 := app_bt2 0
    have h10 : bt (s ++ (⟨#[32, 10]⟩ : ByteArray)) (s.size + 1) = 10 := app_bt2 1
    have hpre : ∀ j, j < s.size → bt (s ++ (⟨#[32, 10]⟩ : ByteArray)) j = bt s j := fun j hj => app_bt hj
    generalize (s ++ (⟨#[32, 10]⟩ : ByteArray)) = t at ht htm h32 h10 hpre ⊢
    have hO3 := hO.chg hc3 hB fun _ _ => id
    have wr : IntKind.i64.wrap ((s.size : Int) + 2) = (s.size : Int) + 2 := IntWalk.i64_in _ (by unfold reachN at hs; omega)
    by_cases hbig : 8192 < t.size
    · refine CALL_of (Words_some_ct (k := 8192) (by rw [big_words hbig]) htm hO3 (Nat.le_trans hB hc3.size)) ?_
      intro v w4 h
      rw [h.1]
      have hc4 := hc3.trans h.2
      clear h
      simp [go_sem, wr]
      refine SPL_intro (fun h => ?_) (fun h => ?_)
      · exact fin _ (hc4.alloc _)
      · simp at h; omega
    · have hsm : ¬ 8192 < s.size := by omega
      have ha := all_app ht hpre h32 h10 0 (Nat.zero_le _) (by rw [← small_words hsm]; exact ho)
      rw [← small_words hsm, ← small_words hbig] at ha
      refine CALL_of (Words_none_ct ha.1 htm hO3 (Nat.le_trans hB hc3.size)) ?_
      intro v w4 h
      refine h.elim fun A h => h.elim fun c h => ?_
      rw [h.1]
      have hc4 := hc3.trans h.2.2.2
      clear h
      rw [ha.2]
      simp [go_sem, wr]
      refine SPL_intro (fun h => ?_) (fun h => ?_)
      · exact fin _ (hc4.alloc _)
      · simp [go_sem]
        exact fin _ (hc4.alloc _)
  | some k =>
    have hks : k ≤ s.size := by
      by_cases hb : 8192 < s.size
      · rw [big_words hb] at ho; simp at ho; omega
      · rw [small_words hb] at ho; exact (all_ge 0 k ho).2
    have ek : ¬ ((k : Int) < 0) := by omega
    have ek2 : ¬ ((s.size : Int) < (k : Int)) := by omega
    unfold law03_ScanBegins.run law03_ScanBegins.b1
    refine CALL_of (awake_ct hO hB) ?_
    intro v w1 h; rw [h.1]; have hc1 := h.2; clear h
    simp [go_sem]
    refine CALL_of (Words_some_ct ho hm (hO.chg hc1 hB fun _ _ => id) (Nat.le_trans hB hc1.size)) ?_
    intro v w2 h
    rw [h.1]
    have hc2 := hc1.trans h.2
    clear h
    simp [go_sem]
    have hq := MiAt.new w2 10 k (.slice none 0 0)
    have hc3 := hc2.alloc (.cells #[.int .i64 10, .int .i64 k, .slice none 0 0] 30)
    generalize w2.alloc (.cells #[.int .i64 10, .int .i64 k, .slice none 0 0] 30) = w3 at hq hc3 ⊢
    generalize w2.heap.size = q at hq ⊢
    unfold law03_ScanBegins.b11
    simp [go_sem, hq.c0, hq.c1, ek, ek2]
    have fin : ∀ w', Chg (fun _ => False) w w' → R (.returned (.bool true)) w' := fun w' h => hR _ _ ⟨rfl, h⟩
    unfold law03_ScanBegins.b12
    simp [go_sem]
    unfold law03_ScanBegins.b3
    simp [go_sem]
    refine SPL_intro (fun h => ?_) (fun h => ?_) <;> simp at h
    · rw [big_words (by omega)] at ho
      simp at ho
      subst ho
      simp [go_sem, hq.c1]
      exact fin _ hc3
    · have hsm : ¬ 8192 < s.size := by omega
      rw [small_words hsm] at ho
      have ek3 : (k : Int) ≤ (s.size : Int) := by omega
      have hex : (s.extract 0 k).size = k := by rw [extract_size (Nat.zero_le _) hks]; omega
      have hag : ∀ j, j < k → bt (s.extract 0 k) j = bt s j := fun j hj => extract_bt hks hj
      have hh := all_head 0 k ho hex (Nat.zero_le _) hag
      -- what stands behind
      have last : ∀ w', Chg (fun _ => False) w3 w' → law03_ScanBegins.b6 R (.string s) (.string mo) (.pointer (some ⟨q, 0, none⟩)) w' := by
        intro w' hc'
        have hq' := hq.chg hc'
        have hcw := hc3.trans hc'
        unfold law03_ScanBegins.b6
        simp [go_sem, hq'.c0, hq'.c1]
        refine SPL_intro (fun h => ?_) (fun h => ?_) <;> simp at h
        · exact fin _ hcw
        · have hlt : k < s.size := by omega
          have wk := wrap_succ hlt hm
          have hx2 : (s.extract 0 (k + 1)).size = k + 1 := by rw [extract_size (Nat.zero_le _) hlt]; omega
          have e9 : ¬ 9223372036854775807 < min (k + 1) s.size + mo.size := by unfold reachN at hs hmo; omega
          have hle : (k : Int) + 1 ≤ s.size := by omega
          have hle0 : (0 : Int) ≤ (k : Int) + 1 := by omega
          have htn : ((k : Int) + 1).toNat = k + 1 := by omega
          simp [go_sem, hq'.c0, hq'.c1, wk, hle, hle0, htn, e9]
          refine SPL_intro (fun h2 => fin _ hcw) (fun h2 => ?_)
          have hos : (s.extract 0 (k + 1) ++ mo).size = k + 1 + mo.size := by rw [ByteArray.size_append, hx2]
          have hob : ¬ 8192 < (s.extract 0 (k + 1) ++ mo).size := by
            simp at h2; omega
          have hag2 : ∀ j, j ≤ k → bt (s.extract 0 (k + 1) ++ mo) j = bt s j := fun j hj => by
            rw [app_bt (by omega), extract_bt hlt (by omega)]
          have hbad := all_bad_loc 0 k ho hlt (by omega) hag2
          have hom : (s.extract 0 (k + 1) ++ mo).size ≤ maxLen := by unfold maxLen; unfold reachN at hs hmo; omega
          rw [← small_words hob] at hbad
          refine CALL_of (Words_some_ct hbad hom (hO.chg hcw hB fun _ _ => id) (Nat.le_trans hB hcw.size)) ?_
          intro v w4 h
          rw [h.1]
          have hc4 := h.2
          clear h
          have hq4 := hq'.chg (hc4.alloc (.cells #[.int .i64 10, .int .i64 k, .slice none 0 0] 30))
          simp [go_sem, hq4.c1]
          exact fin _ ((hcw.trans hc4).alloc _)
      have last8 : ∀ w', Chg (fun _ => False) w3 w' → law03_ScanBegins.b8 R (.string s) (.string mo) (.pointer (some ⟨q, 0, none⟩)) (.bool false) w' := by
        intro w' hc'
        unfold law03_ScanBegins.b8
        simp [go_sem]
        exact last w' hc'
      simp [go_sem, hq.c1, hks]
      have hO3 := hO.chg hc3 hB fun _ _ => id
      have hsm2 : ¬ 8192 < (s.extract 0 k).size := by omega
      have hexm : (s.extract 0 k).size ≤ maxLen := by omega
      generalize s.extract 0 k = hd at hex hag hh hsm2 hexm ⊢
      refine hh.elim (fun h0 => ?_) (fun h0 => ?_)
      · have h0' := h0
        rw [← small_words hsm2] at h0'
        refine CALL_of (Words_none_ct h0' hexm hO3 (Nat.le_trans hB hc3.size)) ?_
        intro v w4 h
        refine h.elim fun A h => h.elim fun c h => ?_
        rw [h.1]
        have hc4 := h.2.2.2
        clear h
        simp [go_sem]
        have hn := MiAt.new w4 0 0 (.slice none 0 0)
        have hc5 := hc4.alloc (.cells #[.int .i64 0, .int .i64 0, .slice none 0 0] 30)
        generalize w4.alloc (.cells #[.int .i64 0, .int .i64 0, .slice none 0 0] 30) = w5 at hn hc5 ⊢
        unfold law03_ScanBegins.b9
        simp [go_sem, hn.c0, hn.c1]
        unfold law03_ScanBegins.b10
        simp [go_sem]
        unfold law03_ScanBegins.b7
        simp [go_sem, hn.c0, hn.c1]
        refine SPL_intro (fun h => ?_) (fun h => last8 w5 hc5)
        simp [go_sem]
        refine SPL_intro (fun h2 => ?_) (fun h2 => last8 w5 hc5)
        have hz : 0 < hd.size := by simpa using h2
        have e0 : (hd[0]'hz).toNat = bt hd 0 := by unfold bt; rw [dif_pos hz]
        simp [go_sem, hz, e0]
        refine SPL_intro (fun h3 => ?_) (fun h3 => last8 w5 hc5)
        simp [go_sem, hz, e0]
        by_cases h35 : bt hd 0 = 35
        · simp [h35]
          exact last8 w5 hc5
        · exfalso
          refine all_some hz (by simp at h3; omega) h35 h0 ?_
          rw [← small_words hsm2]
          simpa using h
      · have h0' := h0
        rw [← small_words hsm2] at h0'
        refine CALL_of (Words_some_ct h0' hexm hO3 (Nat.le_trans hB hc3.size)) ?_
        intro v w4 h
        rw [h.1]
        have hc4 := h.2
        clear h
        simp [go_sem]
        have hn := MiAt.new w4 10 k (.slice none 0 0)
        have hc5 := hc4.alloc (.cells #[.int .i64 10, .int .i64 k, .slice none 0 0] 30)
        generalize w4.alloc (.cells #[.int .i64 10, .int .i64 k, .slice none 0 0] 30) = w5 at hn hc5 ⊢
        have hq5 := hq.chg hc5
        unfold law03_ScanBegins.b9
        simp [go_sem, hn.c0, hn.c1, hq5.c0, hq5.c1]
        unfold law03_ScanBegins.b10
        simp [go_sem]
        unfold law03_ScanBegins.b7
        simp [go_sem, hn.c0, hn.c1]
        exact last8 w5 hc5
end Go.Proofs.YtgjifldciinehaaDoor
