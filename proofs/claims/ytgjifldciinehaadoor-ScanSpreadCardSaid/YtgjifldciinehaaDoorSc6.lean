/-
  The scanner's next word.
-/
import Derived.Test.YtgjifldciinehaaDoorSc5
namespace Go.Proofs.YtgjifldciinehaaDoor
open Go.Px Go.Px.Scan Go.RowKit
set_option maxHeartbeats 1000000
set_option linter.unusedSimpArgs false

theorem extract_isEmpty {s : ByteArray} {a e : Nat} (hae : a ≤ e) (he : e ≤ s.size) : (s.extract a e).toList.isEmpty = decide (e ≤ a) := by
  have hlen : (s.extract a e).toList.length = e - a := by
    rw [Lib.extract_toList]
    have : s.data.toList.length = s.size := by simp
    simp only [List.length_take, List.length_drop, this]
    omega
  rw [Bool.eq_iff_iff, List.isEmpty_iff_length_eq_zero, hlen]
  simp
  omega

/-- What 'next' tells: the word, or that there is none. -/
def nextIs (s : ByteArray) (k : Nat) (v : Value) (w' : World) (b : Nat) : Prop :=
  match oneS s k with
  | .bad j => (∃ kd t at', v = .tuple #[.agg #[.int .i64 kd, .string t, .int .i64 at'], .bool false]) ∧ Sc w' b s j
  | .word kd a e n => v = .tuple #[.agg #[.int .i64 kd, .string (s.extract a e), .int .i64 k], .bool true] ∧ Sc w' b s n

/-- A word's cells. -/
structure Tri (w : World) (q : Nat) (kd : Int) (t : ByteArray) (k : Int) : Prop where
  c0 : w.cell? ⟨q, 0, none⟩ = some (.int .i64 kd)
  c1 : w.cell? ⟨q, 1, none⟩ = some (.string t)
  c2 : w.cell? ⟨q, 2, none⟩ = some (.int .i64 k)
  f0 : w.frozen? ⟨q, 0, none⟩ = false
  f1 : w.frozen? ⟨q, 1, none⟩ = false
  f2 : w.frozen? ⟨q, 2, none⟩ = false

theorem Tri.lt {w q kd t k} (h : Tri w q kd t k) : q < w.heap.size := World.block_lt_of_cell? w _ h.c0
theorem Tri.chg {F : Nat → Prop} {w w' q kd t k} (h : Tri w q kd t k) (hc : Chg F w w') (hF : ¬ F q) : Tri w' q kd t k :=
  ⟨hc.at h.c0 hF, hc.at h.c1 hF, hc.at h.c2 hF, (hc.frozen (p := ⟨q, 0, none⟩) h.lt hF).trans h.f0, (hc.frozen (p := ⟨q, 1, none⟩) h.lt hF).trans h.f1, (hc.frozen (p := ⟨q, 2, none⟩) h.lt hF).trans h.f2⟩

/-- The tail: the word is loaded and stored as the result. -/
theorem next_tail {R : Ending → World → Prop} {w : World} {q : Nat} {kd : Int} {t : ByteArray} {k : Int} {kd' : Int} {t' : ByteArray} {k' : Int} {ok : Bool} (hw : Tri w (q + 1) kd t k) (hr : Tri w q kd' t' k')
    (hR : ∀ w', Chg (· = q) w w' → R (.returned (.tuple #[.agg #[.int .i64 kd, .string t, .int .i64 k], .bool ok])) w') :
    scan_scanner_next.b16 R (.pointer (some ⟨q, 0, none⟩)) (.pointer (some ⟨q + 1, 0, none⟩)) (.bool ok) w := by
  unfold scan_scanner_next.b16
  simp [go_sem, hw.c0, hw.c1, hw.c2, hr.c0, hr.c1, hr.c2, hr.f0, hr.f1, hr.f2, World.cell?_setCell_other]
  exact hR _ ((((Chg.refl (· = q) w).setCell (p := ⟨q, 0, none⟩) (Or.inl rfl) _).setCell (p := ⟨q, 1, none⟩) (Or.inl rfl) _).setCell (p := ⟨q, 2, none⟩) (Or.inl rfl) _)

theorem extract_one {s : ByteArray} {k : Nat} (hk : k < s.size) : s.extract k (k + 1) = ⟨#[(bt s k).toUInt8]⟩ := by
  rw [Lib.extract_eq]
  congr 1
  have hk' : k < s.data.toList.length := by simpa using hk
  rw [show k + 1 - k = 1 by omega, List.drop_eq_getElem_cons hk', List.take_succ_cons, List.take_zero, bt_list]
  simp [List.getD, List.getElem?_eq_getElem hk']

theorem next_ct {w : World} {b k B : Nat} {s : ByteArray} (h : Sc w b s k) (hk : k < s.size) (hO : Ord w B) (hB : B ≤ b) :
    Ct Tryd.prog scan_scanner_next.id #[.pointer (some ⟨b, 0, none⟩)] w fun v w' => nextIs s k v w' b ∧ Chg (· = b) w w' := by
  refine scan_scanner_next.ct fun R hR => ?_
  have hsz := h.sz
  have hb := h.lt
  unfold scan_scanner_next.run scan_scanner_next.b1
  simp [go_sem, h.c0, h.c1, World.cell?_alloc_lt, hb]
  obtain ⟨w1, hw1⟩ : ∃ w1, w1 = (w.alloc (Obj.cells #[Value.int IntKind.i64 0, Value.string { data := #[] }, Value.int IntKind.i64 0] 36)).alloc (Obj.cells #[Value.int IntKind.i64 0, Value.string { data := #[] }, Value.int IntKind.i64 ↑k] 36) := ⟨_, rfl⟩
  rw [← hw1]
  have c1 : Chg (· = b) w w1 := by rw [hw1]; exact ((Chg.refl _ _).alloc _).alloc _
  have c0 : Chg (fun _ => False) w w1 := by rw [hw1]; exact ((Chg.refl _ _).alloc _).alloc _
  have hr1 : Tri w1 w.heap.size 0 ⟨#[]⟩ 0 := by rw [hw1]; constructor <;> first | (rw [World.cell?_alloc_lt _ _ _ (by simp)]; simp) | (rw [World.frozen?_alloc_old _ _ _ (by simp)]; simp)
  have ht1 : Tri w1 (w.heap.size + 1) 0 ⟨#[]⟩ k := by
    rw [hw1]
    have e : w.heap.size + 1 = (w.alloc (Obj.cells #[Value.int IntKind.i64 0, Value.string { data := #[] }, Value.int IntKind.i64 0] 36)).heap.size := by simp
    rw [e]
    constructor <;> simp
  have h1 : Sc w1 b s k := h.chg c0 id
  have hO1 : Ord w1 B := hO.chg c0 (by omega) (fun _ _ => id)
  clear hw1
  have hqw : w.heap.size ≤ w.heap.size := Nat.le_refl _
  generalize hq : w.heap.size = q at hr1 ht1 hb hqw ⊢
  have fin : ∀ {w2 w3}, Chg (fun i => i = b ∨ q ≤ i) w w2 → Chg (· = q) w2 w3 → Chg (· = b) w w3 := fun h2 h3 =>
    (h2.trans' h3 (fun i hi e => by omega)).mono (fun i hi e => by omega)
  have c1' : Chg (fun i => i = b ∨ q ≤ i) w w1 := c1.mono (fun i _ e => Or.inl e)
  have fin2 : ∀ {w2}, Chg (fun i => i = b ∨ q ≤ i) w w2 → Chg (· = b) w w2 := fun h2 => h2.mono (fun i hi e => by omega)
  -- where there is no word
  have none3 : ∀ {w2 kd t}, oneS s k = .bad k → Sc w2 b s k → Tri w2 q 0 ⟨#[]⟩ 0 → Tri w2 (q + 1) kd t k → Chg (fun i => i = b ∨ q ≤ i) w w2 → scan_scanner_next.b3 R (.pointer (some ⟨q, 0, none⟩)) (.pointer (some ⟨q + 1, 0, none⟩)) w2 := by
    intro w2 kd t he h2 hr hw hc
    unfold scan_scanner_next.b3
    simp [go_sem, hw.c0, hw.c1, hw.c2, hr.c0, hr.c1, hr.c2, hr.f0, hr.f1, hr.f2, World.cell?_setCell_other]
    have hc3 := ((((Chg.refl (· = q) w2).setCell (p := ⟨q, 0, none⟩) (Or.inl rfl) (.int .i64 kd)).setCell (p := ⟨q, 1, none⟩) (Or.inl rfl) (.string t)).setCell (p := ⟨q, 2, none⟩) (Or.inl rfl) (.int .i64 k))
    refine hR _ _ ⟨?_, fin hc hc3⟩
    unfold nextIs
    rw [he]
    exact ⟨⟨_, _, _, rfl⟩, h2.chg hc3 (by omega)⟩
  unfold scan_scanner_next.b4
  simp [go_sem, h1.c0, h1.c1, index_bt, hk]
  unfold scan_scanner_next.b6
  refine CALL_of (IndexByte_ct _ _ _) ?_
  rintro _ w2 ⟨rfl, hw2⟩
  have h2 : Sc w2 b s k := by rw [← hw2]; exact h1.drew
  have hr2 : Tri w2 q 0 ⟨#[]⟩ 0 := by rw [← hw2]; exact ⟨hr1.c0, hr1.c1, hr1.c2, hr1.f0, hr1.f1, hr1.f2⟩
  have ht2 : Tri w2 (q + 1) 0 ⟨#[]⟩ k := by rw [← hw2]; exact ⟨ht1.c0, ht1.c1, ht1.c2, ht1.f0, ht1.f1, ht1.f2⟩
  have hO2 : Ord w2 B := by rw [← hw2]; exact hO1.chg (F := fun _ => False) (Chg.refl _ _).drew (by have := h1.lt; omega) (fun _ _ => id)
  have hc2 : Chg (fun i => i = b ∨ q ≤ i) w w2 := by rw [← hw2]; exact c1'.drew
  clear hw2 hO1 hr1 ht1 h1
  have hsg := sign_index (bt s k) (bt_lt s k)
  simp at hsg
  simp [go_sem]
  rw [hsg]
  clear hsg
  unfold scan_scanner_next.b7
  refine SPL_intro (fun h3 => ?_) (fun h3 => ?_)
  · unfold scan_scanner_next.b8
    have hx := extract_one hk
    simp [go_sem, h2.c0, h2.c1, h2.fr, wrap_succ hk hsz, ht2.c0, ht2.c1, ht2.c2, hr2.c0, hr2.c1, hr2.c2, ht2.f0, ht2.f1, hr2.f0, hr2.f1, hr2.f2, World.cell?_setCell_other, show ¬ b = q by omega, show ¬ b = q + 1 by omega, show ¬ q + 1 = b by omega, show ¬ q = b by omega]
    have henc : Utf8.encode ((bt s k : Nat) : Int) = s.extract k (k + 1) := by
      rw [hx]
      simp [signN] at h3
      rcases h3 with h3 | h3 | h3 <;> rw [h3] <;> rfl
    rw [henc]
    have hc5 := hc2.setCell (p := ⟨b, 1, none⟩) (Or.inl (Or.inl rfl)) (.int .i64 ((k : Int) + 1))
    have h5 := h2.inc hk
    have hc6 := (((((Chg.refl (fun i => q ≤ i) (w2.setCell ⟨b, 1, none⟩ (.int .i64 ((k : Int) + 1)))).setCell (p := ⟨q + 1, 0, none⟩) (Or.inl (by simp)) (.int .i64 4)).setCell (p := ⟨q + 1, 1, none⟩) (Or.inl (by simp)) (.string (s.extract k (k + 1)))).setCell
      (p := ⟨q, 0, none⟩) (Or.inl (by simp)) (.int .i64 4)).setCell (p := ⟨q, 1, none⟩) (Or.inl (by simp)) (.string (s.extract k (k + 1)))).setCell (p := ⟨q, 2, none⟩) (Or.inl (by simp)) (.int .i64 k)
    refine hR _ _ ⟨?_, fin2 (hc5.trans' hc6 fun i _ e => Or.inr e)⟩
    unfold nextIs oneS
    rw [if_pos h3]
    exact ⟨rfl, h5.chg hc6 (by omega)⟩
  · have sign0 : ∀ o : One, (if signN (bt s k) = true then One.word 4 k (k + 1) (k + 1) else o) = o := fun o => by rw [if_neg (by simp [h3])]
    unfold scan_scanner_next.b9
    simp [go_sem]
    unfold scan_scanner_next.b10
    refine SPL_intro (fun h4 => ?_) (fun h4 => ?_) <;> simp at h4
    · have h4 : bt s k = 37 := by omega
      unfold scan_scanner_next.b11
      refine CALL_of (order_ct h2 hk hO2 hB) ?_
      rintro _ w3 ⟨rfl, h5, hc5⟩
      generalize ht : (if (ordS s k (k + 1)).2 = true then s.extract k (ordS s k (k + 1)).1 else ⟨#[]⟩) = t
      have hr3 := hr2.chg hc5 (by omega)
      have ht3 := ht2.chg hc5 (by omega)
      have hO3 := hO2.chg hc5 (by have := h2.lt; omega) (fun i hi e => by omega)
      have hc3 := hc2.trans' hc5 (fun i _ e => Or.inl e)
      obtain ⟨A, c, hg, hsl⟩ := hO3.glob
      simp [go_sem, ht3.c0, ht3.c1, ht3.c2, ht3.f0, ht3.f1, World.cell?_setCell_other, hg]
      generalize hw4 : ((w3.setCell { block := q + 1, off := 0 } (Value.int IntKind.i64 3)).setCell { block := q + 1, off := 1 } (Value.string t)).drew = w4
      have hc34 : Chg (· = q + 1) w3 w4 := by rw [← hw4]; exact (((Chg.refl (· = q + 1) w3).setCell (p := ⟨q + 1, 0, none⟩) (Or.inl rfl) _).setCell (p := ⟨q + 1, 1, none⟩) (Or.inl rfl) _).drew
      have ht4 : Tri w4 (q + 1) 3 t k := by
        rw [← hw4]
        constructor <;> simp [go_sem, ht3.c0, ht3.c1, ht3.c2, ht3.f0, ht3.f1, ht3.f2, World.cell?_setCell_other]
      have hr4 := hr3.chg hc34 (by omega)
      have h6 := h5.chg hc34 (by omega)
      have hsl4 := Rep.below hsl (hc34.below (B := B) (by have := h5.lt; omega) (fun i hi e => by omega))
      have hc4 := hc3.trans' hc34 (fun i _ e => Or.inr (by omega))
      clear hw4
      refine CALL_of (Contains_ct (l := ordersL) (by decide) hsl4 t) ?_
      rintro _ _ ⟨rfl, rfl⟩
      simp [go_sem, ht4.c0, ht4.c1, ht4.c2, hr4.c0, hr4.c1, hr4.c2, hr4.f0, hr4.f1, hr4.f2, World.cell?_setCell_other]
      have hc5' := ((((Chg.refl (· = q) w4).setCell (p := ⟨q, 0, none⟩) (Or.inl rfl) (.int .i64 3)).setCell (p := ⟨q, 1, none⟩) (Or.inl rfl) (.string t)).setCell (p := ⟨q, 2, none⟩) (Or.inl rfl) (.int .i64 k))
      refine hR _ _ ⟨?_, fin2 (hc4.trans' hc5' (fun i _ e => Or.inr (by omega)))⟩
      have h7 := h6.chg hc5' (by omega)
      unfold nextIs oneS
      rw [sign0, if_pos h4]
      cases ho : (ordS s k (k + 1)).2 with
      | true =>
        rw [ho, if_pos rfl] at ht
        have hwh : (ordersL.any fun o => t.toList == o.toList) = whole t := rfl
        rw [Bool.true_and, ht]
        cases hw : whole t with
        | true => exact ⟨by rw [hwh, hw, ht]; rfl, h7⟩
        | false => exact ⟨⟨_, _, _, by rw [hwh, hw]⟩, h7⟩
      | false =>
        rw [ho] at ht
        have ht' : t = ⟨#[]⟩ := by rw [← ht]; rfl
        have hno : (ordersL.any fun o => t.toList == o.toList) = false := by rw [ht']; decide +kernel
        exact ⟨⟨_, _, _, by rw [hno]⟩, h7⟩
    · have pct0 : ∀ o o' : One, (if bt s k = 37 then o' else o) = o := fun o o' => by rw [if_neg (by omega)]
      unfold scan_scanner_next.b12
      simp [go_sem]
      unfold scan_scanner_next.b13
      refine SPL_intro (fun h4 => ?_) (fun h4 => ?_) <;> simp at h4
      · have h4 : bt s k = 39 := by omega
        unfold scan_scanner_next.b14
        simp [go_sem, h2.c0, h2.c1, h2.fr, wrap_succ hk hsz]
        have h5 := h2.inc hk
        have hc5 : Chg (· = b) w2 (w2.setCell ⟨b, 1, none⟩ (.int .i64 ((k : Int) + 1))) := Chg.setCell (F := (· = b)) (p := ⟨b, 1, none⟩) (Chg.refl _ _) (Or.inl rfl) _
        refine CALL_of (run_ct 16 (by omega) h5 (p := plainN) (fun c hc w => plain_ct c w)) ?_
        rintro _ w3 ⟨rfl, h6, hc6⟩
        have hc7 := hc5.trans hc6
        generalize he : runS plainN s (k + 1) 16 = e at *
        have hr3 := hr2.chg hc7 (by omega)
        have ht3 := ht2.chg hc7 (by omega)
        have hc3 := hc2.trans' hc7 (fun i _ e => Or.inl e)
        clear hc5 hc6 hc7 h5
        simp [go_sem, ht3.c0, ht3.c1, ht3.c2, ht3.f0, ht3.f1, World.cell?_setCell_other]
        generalize hw4 : ((w3.setCell { block := q + 1, off := 0 } (Value.int IntKind.i64 2)).setCell { block := q + 1, off := 1 } (Value.string (s.extract (k + 1) e))) = w4
        have hc34 : Chg (· = q + 1) w3 w4 := by rw [← hw4]; exact (((Chg.refl (· = q + 1) w3).setCell (p := ⟨q + 1, 0, none⟩) (Or.inl rfl) _).setCell (p := ⟨q + 1, 1, none⟩) (Or.inl rfl) _)
        have ht4 : Tri w4 (q + 1) 2 (s.extract (k + 1) e) k := by
          rw [← hw4]
          constructor <;> simp [go_sem, ht3.c0, ht3.c1, ht3.c2, ht3.f0, ht3.f1, ht3.f2, World.cell?_setCell_other]
        have hr4 := hr3.chg hc34 (by omega)
        have h7 := h6.chg hc34 (by omega)
        have hc4 := hc3.trans' hc34 (fun i _ e => Or.inr (by omega))
        clear hw4
        have hke : k + 1 ≤ e := by rw [← he]; exact run_ge _ _ _ _
        rw [extract_isEmpty hke h6.le]
        have quote0 : ∀ {w5 ok}, Tri w5 (q + 1) 2 (s.extract (k + 1) e) k → Tri w5 q 0 ⟨#[]⟩ 0 → Chg (fun i => i = b ∨ q ≤ i) w w5 → (Sc w5 b s (if ok then e + 1 else e)) → ok = decide (k + 1 < e ∧ e < s.size ∧ bt s e = 39) →
            scan_scanner_next.b16 R (.pointer (some ⟨q, 0, none⟩)) (.pointer (some ⟨q + 1, 0, none⟩)) (.bool ok) w5 := by
          intro w5 ok hw hr hc h8 hok
          refine next_tail hw hr fun w6 hc6 => hR _ _ ⟨?_, fin hc hc6⟩
          have h9 := h8.chg hc6 (by omega)
          unfold nextIs oneS
          rw [sign0, pct0, if_pos h4, he]
          cases ok with
          | true => rw [if_pos (of_decide_eq_true hok.symm)]; exact ⟨rfl, h9⟩
          | false => rw [if_neg (of_decide_eq_false hok.symm)]; exact ⟨⟨_, _, _, rfl⟩, h9⟩
        refine SPL_intro (fun h8 => ?_) (fun h8 => ?_) <;> simp at h8
        · refine CALL_of (sees_ct h7 (p := quoteN) (fun c hc w => quote_ct c w)) ?_
          rintro _ w5 ⟨rfl, hw5⟩
          have ht5 : Tri w5 (q + 1) 2 (s.extract (k + 1) e) k := by rw [← hw5]; exact ⟨ht4.c0, ht4.c1, ht4.c2, ht4.f0, ht4.f1, ht4.f2⟩
          have hr5 : Tri w5 q 0 ⟨#[]⟩ 0 := by rw [← hw5]; exact ⟨hr4.c0, hr4.c1, hr4.c2, hr4.f0, hr4.f1, hr4.f2⟩
          have h9 : Sc w5 b s e := by rw [← hw5]; exact h7.drew
          have hc5 : Chg (fun i => i = b ∨ q ≤ i) w w5 := by rw [← hw5]; exact hc4.drew
          clear hw5
          unfold scan_scanner_next.b15
          refine SPL_intro (fun h10 => ?_) (fun h10 => ?_)
          · have h11 := h10
            simp [quoteN] at h11
            rw [h10]
            simp [go_sem, h9.c0, h9.c1, h9.fr, wrap_succ h11.1 hsz]
            have hc6 : Chg (· = b) w5 (w5.setCell ⟨b, 1, none⟩ (.int .i64 ((e : Int) + 1))) := Chg.setCell (F := (· = b)) (p := ⟨b, 1, none⟩) (Chg.refl _ _) (Or.inl rfl) _
            exact quote0 (ht5.chg hc6 (by omega)) (hr5.chg hc6 (by omega)) (hc5.trans' hc6 (fun i _ e => Or.inl e)) (h9.inc h11.1) (decide_eq_true ⟨h8, h11.1, h11.2⟩).symm
          · have h11 := h10
            simp [quoteN] at h11
            rw [h10]
            exact quote0 ht5 hr5 hc5 h9 (decide_eq_false (fun h12 => h11 h12.2.1 h12.2.2)).symm
        · unfold scan_scanner_next.b15
          simp only [SPL_false]
          exact quote0 ht4 hr4 hc4 h7 (decide_eq_false (fun h12 => by omega)).symm
      · have quo0 : ∀ o o' : One, (if bt s k = 39 then o' else o) = o := fun o o' => by rw [if_neg (by omega)]
        unfold scan_scanner_next.b17
        refine CALL_of (letter_ct _ _ (bt_lt s k)) ?_
        rintro _ _ ⟨rfl, rfl⟩
        have name : (letterN (bt s k) || decide (bt s k = 95)) = true → scan_scanner_next.b18 R (.pointer (some ⟨b, 0, none⟩)) (.pointer (some ⟨q, 0, none⟩)) (.pointer (some ⟨q + 1, 0, none⟩)) (.bool true) w2 := by
          intro hl
          unfold scan_scanner_next.b18
          simp only [SPL_true]
          refine CALL_of (run_ct 16 (by omega) h2 (p := innerN) (fun c hc w => inner_ct c w hc)) ?_
          rintro _ w3 ⟨rfl, h6, hc6⟩
          generalize he : runS innerN s k 16 = e at *
          have hr3 := hr2.chg hc6 (by omega)
          have ht3 := ht2.chg hc6 (by omega)
          have hc3 := hc2.trans' hc6 (fun i _ e => Or.inl e)
          simp [go_sem, ht3.c0, ht3.c1, ht3.c2, ht3.f0, ht3.f1, World.cell?_setCell_other]
          generalize hw4 : ((w3.setCell { block := q + 1, off := 0 } (Value.int IntKind.i64 1)).setCell { block := q + 1, off := 1 } (Value.string (s.extract k e))).drew = w4
          have hc34 : Chg (· = q + 1) w3 w4 := by rw [← hw4]; exact (((Chg.refl (· = q + 1) w3).setCell (p := ⟨q + 1, 0, none⟩) (Or.inl rfl) _).setCell (p := ⟨q + 1, 1, none⟩) (Or.inl rfl) _).drew
          have ht4 : Tri w4 (q + 1) 1 (s.extract k e) k := by
            rw [← hw4]
            constructor <;> simp [go_sem, ht3.c0, ht3.c1, ht3.c2, ht3.f0, ht3.f1, ht3.f2, World.cell?_setCell_other]
          have hr4 := hr3.chg hc34 (by omega)
          have h7 := h6.chg hc34 (by omega)
          have hc4 := hc3.trans' hc34 (fun i _ e => Or.inr (by omega))
          clear hw4
          refine CALL_of (sees_ct h7 (p := innerN) (fun c hc w => inner_ct c w hc)) ?_
          rintro _ _ ⟨rfl, rfl⟩
          simp [go_sem, ht4.c0, ht4.c1, ht4.c2, hr4.c0, hr4.c1, hr4.c2, hr4.f0, hr4.f1, hr4.f2, World.cell?_setCell_other]
          have hc5' := ((((Chg.refl (· = q) w4).setCell (p := ⟨q, 0, none⟩) (Or.inl rfl) (.int .i64 1)).setCell (p := ⟨q, 1, none⟩) (Or.inl rfl) (.string (s.extract k e))).setCell (p := ⟨q, 2, none⟩) (Or.inl rfl) (.int .i64 k)).drew
          refine hR _ _ ⟨?_, fin hc4 hc5'⟩
          have h9 := h7.chg hc5' (by omega)
          unfold nextIs oneS
          rw [sign0, pct0, quo0, if_pos hl, he]
          by_cases hin : e < s.size ∧ innerN (bt s e) = true
          · rw [if_pos hin]
            have hno : (!decide (e < s.size) || !innerN (bt s e)) = false := by simp [hin.1, hin.2]
            exact ⟨⟨_, _, _, by rw [hno]⟩, h9⟩
          · rw [if_neg hin]
            refine ⟨?_, h9⟩
            have : (!decide (e < s.size) || !innerN (bt s e)) = true := by
              by_cases h1 : e < s.size
              · have := fun h2 => hin ⟨h1, h2⟩
                simp at this
                simp [this]
              · simp [h1]
            rw [this]; rfl
        refine SPL_intro (fun h5 => ?_) (fun h5 => ?_)
        · exact name (by simp [h5])
        · simp [go_sem]
          by_cases h95 : bt s k = 95
          · rw [show (((bt s k : Nat) : Int) == 95) = true by simp; omega]
            exact name (by simp [h95])
          · rw [show (((bt s k : Nat) : Int) == 95) = false by simp; omega]
            unfold scan_scanner_next.b18
            simp only [SPL_false]
            refine none3 ?_ h2 hr2 ht2 hc2
            unfold oneS
            rw [sign0, pct0, quo0, if_neg (by simp [h5, h95])]
end Go.Proofs.YtgjifldciinehaaDoor
