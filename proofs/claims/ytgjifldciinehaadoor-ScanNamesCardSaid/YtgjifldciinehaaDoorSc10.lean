/-
  scan.Each: an iterator over the words.
-/
import Derived.Test.YtgjifldciinehaaDoorSc7
import Derived.Test.YtgjifldciinehaaDoorPxRange
set_option linter.unusedVariables false
namespace Go.Proofs.YtgjifldciinehaaDoor
open Go.Px Go.Px.Scan Go.RowKit
set_option maxHeartbeats 1000000
set_option linter.unusedSimpArgs false

theorem each_y_ct {w : World} {b B n l : Nat} {s : ByteArray} {J Jx : List Wd → World → Prop}
    (hJ : ∀ pre A A', n ≤ A.heap.size → J pre A → Chg (fun i => n ≤ i ∧ i < n + 1) A A' → J pre A') (hJx : ∀ pre A A', n ≤ A.heap.size → Jx pre A → Chg (fun i => n ≤ i ∧ i < n + 1) A A' → Jx pre A')
    (hY : ∀ pre x W1, n + 1 ≤ W1.heap.size → J pre W1 → pre ++ [x] <+: (allS s 0).1 → YieldAt Fence.wide 0 Tryd.prog l #[wdV x] W1 fun e W' =>
      (e = .returned (.bool true) ∧ J (pre ++ [x]) W' ∧ Chg (fun i => B ≤ i ∧ ¬ (n ≤ i ∧ i < n + 1)) W1 W') ∨ (e = .returned (.bool false) ∧ Jx (pre ++ [x]) W' ∧ Chg (fun i => B ≤ i ∧ ¬ (n ≤ i ∧ i < n + 1)) W1 W'))
    (h : Sc w b s 0) (hO : Ord w B) (hB : B ≤ n) (hn : n = b) (h0 : J [] w) :
    Ct Tryd.prog scan_scanner_each.id #[.pointer (some ⟨b, 0, none⟩), .func (.yield l) #[] #[]] w fun _ w' => n ≤ w'.heap.size ∧ (J (allS s 0).1 w' ∨ ∃ pre, pre ≠ [] ∧ pre <+: (allS s 0).1 ∧ Jx pre w') := by
  refine scan_scanner_each.ct fun R hR => ?_
  have hsz := h.sz
  have hb := h.lt
  have hmon : ∀ {A A'}, Chg (· = b) A A' → Chg (fun i => n ≤ i ∧ i < n + 1) A A' := fun h => h.mono fun i _ e => by omega
  unfold scan_scanner_each.run scan_scanner_each.b1
  refine scan_scanner_each.l5_intro _ _ _ _ (fun w1 => ∃ j pre, Sc w1 b s j ∧ J pre w1 ∧ Ord w1 B ∧ pre ++ (allS s j).1 = (allS s 0).1) (left s b)
    ⟨0, [], h, h0, hO, rfl⟩ ?_
  rintro w1 ⟨j, pre, h1, hi1, hO1, ha1⟩ C hC
  unfold scan_scanner_each.b6
  refine CALL_of (skip_ct h1) ?_
  rintro _ w2 ⟨rfl, h2, hc2⟩
  have hlt := h2.lt
  have hlt1 := h1.lt
  have hi2 := hJ _ _ _ (by omega) hi1 (hmon hc2)
  have hO2 := hO1.chg hc2 (by omega) (fun i hi e => by omega)
  refine SPL_intro (fun h3 => ?_) (fun h3 => ?_) <;> simp at h3
  · refine CALL_of (next_ct h2 h3 hO2 (by omega)) ?_
    rintro v w3 ⟨hn', hc3⟩
    have hi3 := hJ _ _ _ (by omega) hi2 (hmon hc3)
    have hO3 := hO2.chg hc3 (by omega) (fun i hi e => by omega)
    unfold nextIs at hn'
    cases h4 : oneS s (skipS s false j) with
    | bad k =>
      rw [h4] at hn'
      obtain ⟨⟨kd, t, at', rfl⟩, h5⟩ := hn'
      have hlt3 := h5.lt
      rw [all_bad h3 h4] at ha1
      simp [go_sem, World.cell?_alloc_lt, h5.lt, h5.c1]
      have hc4 : Chg (fun i => n ≤ i ∧ i < n + 1) w3 (w3.alloc (Obj.cells #[Value.int IntKind.i64 kd, Value.string t, Value.int IntKind.i64 at'] 36)) := (Chg.refl _ _).alloc _
      refine hR _ _ ⟨by simp; omega, Or.inl ?_⟩
      rw [← ha1]; simpa using hJ _ _ _ (by omega) hi3 hc4
    | word kd a e k =>
      rw [h4] at hn'
      obtain ⟨rfl, h5⟩ := hn'
      have hlt3 := h5.lt
      rw [all_word h3 h4] at ha1
      simp [go_sem]
      have hc4 : Chg (fun i => n ≤ i ∧ i < n + 1) w3 (w3.alloc (Obj.cells #[Value.int IntKind.i64 kd, Value.string (s.extract a e), Value.int IntKind.i64 (skipS s false j)] 36)) := (Chg.refl _ _).alloc _
      have hc40 : Chg (fun _ => False) w3 (w3.alloc (Obj.cells #[Value.int IntKind.i64 kd, Value.string (s.extract a e), Value.int IntKind.i64 (skipS s false j)] 36)) := (Chg.refl _ _).alloc _
      have h6 := h5.chg hc40 id
      have hO4 := hO3.chg hc40 (by omega) (fun _ _ => id)
      have hi4 := hJ _ _ _ (by omega) hi3 hc4
      generalize w3.alloc (Obj.cells #[Value.int IntKind.i64 kd, Value.string (s.extract a e), Value.int IntKind.i64 (skipS s false j)] 36) = w4 at *
      have hlt4 := h6.lt
      refine CALLY_yield (hY pre ((kd : Int), s.extract a e, (skipS s false j : Int)) w4 (by omega) hi4 ?_) ?_
      · rw [← ha1]; exact ⟨(allS s k).1, by simp⟩
      · rintro _ w5 (⟨rfl, hi5, hc5⟩ | ⟨rfl, hi5, hc5⟩)
        · refine ⟨_, rfl, ?_⟩
          simp [go_sem]
          have h7 := h6.chg hc5 (by omega)
          have hone := one_word h3 h4
          refine hC _ ⟨k, pre ++ [((kd : Int), s.extract a e, (skipS s false j : Int))], h7, hi5, hO4.chg hc5 (by omega) (fun i hi h => by omega), ?_⟩ ?_
          · rw [← ha1]; simp
          · rw [h7.left, h1.left]
            have := skip_ge s false j
            omega
        · refine ⟨_, rfl, ?_⟩
          have h7 := h6.chg hc5 (by omega)
          have hlt7 := h7.lt
          simp [go_sem]
          unfold scan_scanner_each.b3
          refine hR _ _ ⟨by omega, Or.inr ⟨_, by simp, ?_, hi5⟩⟩
          rw [← ha1]; exact ⟨(allS s k).1, by simp⟩
  · unfold scan_scanner_each.b3
    rw [all_end (by omega)] at ha1
    refine hR _ _ ⟨by omega, Or.inl ?_⟩
    rw [← ha1]; simpa using hi2

theorem Each1_seq {w : World} {p B : Nat} {s : ByteArray} (hp : w.cell? ⟨p, 0, none⟩ = some (.string s)) (hs : s.size ≤ maxLen) (hO : Ord w B) (hB : B ≤ w.heap.size) :
    SeqC Tryd.prog scan_Each_1.id #[.pointer (some ⟨p, 0, none⟩)] (fun x : Wd => #[wdV x]) B 1 (fun xs => xs = (allS s 0).1) (fun pre => pre ≠ [] ∧ pre <+: (allS s 0).1) (fun pre => pre <+: (allS s 0).1) w := by
  intro l J Jx W hW hJ hJx hY h0
  have hWs := hW.size
  have hp' := hW.at hp id
  have hO' := hO.chg hW hB (fun _ _ => id)
  refine Calls.mono (R := RT fun _ w' => W.heap.size ≤ w'.heap.size ∧ (J (allS s 0).1 w' ∨ ∃ pre, pre ≠ [] ∧ pre <+: (allS s 0).1 ∧ Jx pre w')) (scan_Each_1.ct fun R hR => ?_).2 ?_
  · unfold scan_Each_1.run scan_Each_1.b1
    simp [go_sem, hp']
    generalize hw1 : W.alloc (Obj.cells #[Value.string s, Value.int IntKind.i64 0] 56) = w1
    have hc : Chg (fun _ => False) W w1 := by rw [← hw1]; exact (Chg.refl _ _).alloc _
    have hsc : Sc w1 W.heap.size s 0 := by
      rw [← hw1]
      exact ⟨new_cell _ _ _ rfl 0, new_cell _ _ _ rfl 1, new_frozen _ _ _ rfl 1, Nat.zero_le _, hs⟩
    clear hw1
    refine CALL_of (each_y_ct hJ hJx hY hsc (hO'.chg hc (by omega) (fun _ _ => id)) (by omega) rfl (hJ _ _ _ (Nat.le_refl _) h0 (hc.mono fun _ _ h => h.elim))) ?_
    rintro _ w2 h2
    exact hR _ _ h2
  · intro e w' he
    cases e with
    | returned v =>
      obtain ⟨h1, h2 | ⟨pre, h3, h4, h5⟩⟩ := he
      · exact ⟨⟨v, rfl⟩, h1, Or.inl ⟨_, rfl, h2⟩⟩
      · exact ⟨⟨v, rfl⟩, h1, Or.inr ⟨pre, ⟨h3, h4⟩, h5⟩⟩
    | _ => exact he.elim
end Go.Proofs.YtgjifldciinehaaDoor
