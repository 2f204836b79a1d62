/-
  Texts of this claim: Sh5, Sh6, Sh7a.
-/
import Derived.Test.YtkacbjhiobnbfaaMe
import Derived.Test.YtkacbjhiobnbfaaMa
/-
  A builder's text.
-/
namespace Go.Proofs.Ytkacbjhiobnbfaa
open Go.Px Go.Px.Scan Go.RowKit
set_option maxHeartbeats 1000000
set_option linter.unusedSimpArgs false
set_option linter.unusedVariables false
set_option maxRecDepth 100000
attribute [-go_sem] Builtin.append_

section
variable {w : World} {F : Nat → Prop} {t : TypeId} {b : Nat} {vs : List Value} {l : Txt}
theorem pg_len (h : (pgC 5 t b vs l).ok w F) : ∃ A c, w.cell? ⟨b, 1, none⟩ = some (.slice A l.length c) := by
  obtain ⟨⟨av, A, c⟩, hav, hp⟩ := h
  exact ⟨A, c, ((St.enter hp).box 0 rfl).1.2.1⟩
theorem Len_ct (h : (pgC 5 t b vs l).ok w F) : Ct Try.prog strings_Builder_Len.id #[.pointer (some ⟨b, 0, none⟩)] w fun v w' => v = .int .i64 l.length ∧ w = w' := by
  refine strings_Builder_Len.ct fun R hR => ?_
  obtain ⟨A, c, y⟩ := pg_len h
  unfold strings_Builder_Len.run
  simp -dsimp [go_sem, y]
  exact hR _ _ ⟨rfl, rfl⟩

theorem txt_froze {w : World} {F : Nat → Prop} {g c : Nat} {l : Txt} {a : Option Addr} (h : (txtC 5 a l.length c l).ok w F) (ha : a = some ⟨g, 0, none⟩) : Chg F w (w.freeze ⟨g, 0, none⟩ l.length) ∧ (txtC 5 a l.length c l).ok (w.freeze ⟨g, 0, none⟩ l.length) F := by
  rcases h.2 with ⟨h0, _⟩ | ⟨g', cur, fz, ha', hF, hg, hfz, hnc, hcm, hcs, htake⟩
  · rw [ha] at h0; cases h0
  rw [ha] at ha'
  injection ha' with ha'; injection ha' with ha'
  subst ha'
  unfold World.freeze
  split
  · exact ⟨Chg.refl _ _, h⟩
  · refine ⟨⟨rfl, rfl, rfl, by simp, fun k hk hn => ?_⟩, rfl, ?_⟩
    · simp only [Array.getElem?_modify]
      rw [if_neg (by intro e; subst e; exact hn hF)]
    · obtain ⟨lo, hi⟩ := fz
      refine .inr ⟨g, cur, (if lo == hi then (0, 0 + l.length) else (min lo 0, max hi (0 + l.length))), ha, hF, ?_, Or.inl ?_, hnc, hcm, hcs, htake⟩
      · simp [Array.getElem?_modify, hg]
      · have hfz : hi ≤ l.length := by rcases hfz with h | h; exact h; cases h.1
        split <;> simp <;> omega

theorem String_ct (h : (pgC 5 t b vs l).ok w F) : Ct Try.prog strings_Builder_String.id #[.pointer (some ⟨b, 0, none⟩)] w fun v w' => v = .string (BA l) ∧ DoneC F w (pgC 5 t b vs l) w' := by
  refine strings_Builder_String.ct fun R hR => ?_
  obtain ⟨⟨av, A, c⟩, hav, hp⟩ := h
  have s0 := (St.enter hp).old (Chg.refl noB _).drew
  have y0 := s0.box 0 rfl
  simp [boxAt] at y0
  have fin : ∀ w' : World, St F w w' [boxC b t (av :: .slice A l.length c :: vs), txtC 5 A l.length c l] → DoneC F w (pgC 5 t b vs l) w' := fun w' hs =>
    DoneC.of_st hs fun F' hok => ⟨(av, A, c), hav, hok⟩
  obtain ⟨_, hnc, hcm, hnil⟩ := s0.txtSize 1 rfl
  unfold strings_Builder_String.run
  simp -dsimp [go_sem, y0]
  generalize w.drew = w1 at s0 ⊢
  clear y0
  have y0 := s0.box 0 rfl
  simp [boxAt] at y0
  dsimp only at hnc hcm hnil
  cases A with
  | none =>
    obtain ⟨h0, hc0⟩ := hnil rfl
    have hl : l = [] := List.length_eq_zero_iff.1 h0
    subst hl; subst hc0
    rw [Lib.run_unsafeSliceData_nil, RES_ok]
    simp -dsimp [go_sem, y0]
    rw [Lib.run_unsafeString_none, RES_ok]
    exact hR _ _ ⟨rfl, fin _ s0⟩
  | some a =>
    obtain ⟨F1, ho, _, hs1⟩ := s0.opn (k := 1) rfl
    rcases ho.2 with ⟨hv, _⟩ | ⟨g, cur, fz, hv, hFg, hg, hfz, hnc', hcm', hcs, htake⟩
    · cases hv
    injection hv with hv1
    subst hv1
    by_cases hl : l = []
    · subst hl
      by_cases hc0 : c = 0
      · subst hc0
        have hsh : w1.shape? g = some (5, cur.size) := by simp [World.shape?, hg]
        rw [Lib.run_unsafeSliceData_zero w1 _ 155 5 Try.underlying155 ⟨g, 0, none⟩ _ _ hsh, RES_ok]
        have s2 := s0.old (Chg.alloc (Chg.refl noB _) (.view ⟨g, 0, none⟩ 5))
        have y2 := s2.box 0 rfl
        generalize w1.alloc (.view ⟨g, 0, none⟩ 5) = w2 at s2 y2 ⊢
        simp [boxAt] at y2
        simp -dsimp [go_sem, y2]
        rw [Lib.run_unsafeString_none, RES_ok]
        exact hR _ _ ⟨rfl, fin _ s2⟩
      · rw [Lib.run_unsafeSliceData_row w1 _ _ _ _ _ hc0, RES_ok]
        simp -dsimp [go_sem, y0]
        rw [Lib.run_unsafeString_none, RES_ok]
        exact hR _ _ ⟨rfl, fin _ s0⟩
    · have hpos : 0 < l.length := List.length_pos_iff.2 hl
      have hc0 : c ≠ 0 := by omega
      rw [Lib.run_unsafeSliceData_row w1 _ _ _ _ _ hc0, RES_ok]
      have hsh : w1.shape? g = some (5, cur.size) := by simp [World.shape?, hg]
      have hu := Lib.run_unsafeString_row w1 155 3 9 5 Try.underlying155 (by kernel_rfl) g cur.size hsh l hl (by simp at hcs; omega) (by unfold maxLen at hcm; omega) (fun j x hj => txt_cells hg htake j _ (by simp [byC, hj]))
      simp -dsimp [go_sem, y0, hu]
      have hfr := txt_froze ho rfl
      have s2 := hs1 _ _ hfr.1 ((txtC 5 (some ⟨g, 0, none⟩) l.length c l).keep hfr.2 (Chg.refl noB _) (fun _ _ _ => id) fun _ _ e => Or.inl e)
      exact hR _ _ ⟨rfl, fin _ s2⟩
end
end Go.Proofs.Ytkacbjhiobnbfaa

/-
  Row and Symbol.
-/
namespace Go.Proofs.Ytkacbjhiobnbfaa
open Go.Px Go.Px.Scan Go.RowKit
set_option maxHeartbeats 1000000
set_option linter.unusedSimpArgs false
set_option linter.unusedVariables false
set_option maxRecDepth 100000
attribute [-go_sem] Builtin.append_
attribute [-go_sem] show_Row.b5 show_Row.b3

theorem IndexFuncI2_ct {w : World} {B : Nat} {v : Value} {l : List Int} (h : (rSlice rInt).at1 w B v l) (hB : B ≤ w.heap.size) {g : FuncId} {first cap : Array Value} {p : Int → Bool}
    (hp : ∀ x ∈ l, inI64 x → ∀ w1, Chg noB w w1 → Ct Try.prog g (first.toList ++ [Value.int .i64 x] ++ cap.toList).toArray w1 fun v w' => v = .bool (p x) ∧ Chg noB w1 w') :
    Ct Try.prog slices_IndexFunc_int_int.id #[v, .func (.func g) first cap] w fun r w' => (∃ i, r = .int .i64 i ∧ (0 ≤ i ↔ l.any p = true) ∧ i ≤ l.length) ∧ Chg noB w w' := by
  refine slices_IndexFunc_int_int.ct fun R hR => ?_
  obtain ⟨A, c, rfl, hl, hm, _⟩ := slice_form h
  unfold slices_IndexFunc_int_int.run slices_IndexFunc_int_int.b1 slices_IndexFunc_int_int.b4
  simp -dsimp [go_sem]
  refine slices_IndexFunc_int_int.l6_intro _ _ _ _ _ _ (fun x w1 => ∃ k : Nat, x = .int .i64 k ∧ k ≤ l.length ∧ (l.take k).any p = false ∧ Chg noB w w1) (fun x _ => l.length - iv x) ⟨0, rfl, by omega, by simp, Chg.refl _ _⟩ ?_
  rintro _ w1 ⟨k, rfl, hk, hall, hcw⟩ C hC
  unfold slices_IndexFunc_int_int.b7
  simp -dsimp [go_sem]
  refine SPL_intro (fun h2 => ?_) (fun h2 => ?_) <;> simp at h2
  · obtain ⟨b1, o1, rfl, hb1, hc1, hr1⟩ := Go.Px.ints_at (Rep.below h (hcw.below hB fun _ _ => id)) h2
    have wk := wrap_succ h2 (Nat.le_trans hl hm)
    simp -dsimp [go_sem, h2, hc1]
    refine CALLY_of (hp l[k] (List.getElem_mem h2) hr1 _ hcw) ?_
    rintro _ w2 ⟨rfl, hc2⟩
    refine SPL_intro (fun h3 => ?_) (fun h3 => ?_)
    · refine hR _ _ ⟨⟨k, rfl, ?_, by omega⟩, hcw.trans hc2⟩
      refine ⟨fun _ => List.any_eq_true.2 ⟨_, List.getElem_mem h2, h3⟩, fun _ => by omega⟩
    · simp -dsimp [go_sem, wk]
      refine hC _ _ ⟨k + 1, by simp, by omega, ?_, hcw.trans hc2⟩ (by simp [iv]; omega)
      rw [List.take_succ_eq_append_getElem h2, List.any_append, hall]
      simp [h3]
  · have hka : k = l.length := by omega
    rw [hka, List.take_length] at hall
    unfold slices_IndexFunc_int_int.b3
    exact hR _ _ ⟨⟨-1, rfl, by rw [hall]; simp, by omega⟩, hcw⟩

theorem ContainsFuncI2_ct {w : World} {B : Nat} {v : Value} {l : List Int} (h : (rSlice rInt).at1 w B v l) (hB : B ≤ w.heap.size) {g : FuncId} {first cap : Array Value} {p : Int → Bool}
    (hp : ∀ x ∈ l, inI64 x → ∀ w1, Chg noB w w1 → Ct Try.prog g (first.toList ++ [Value.int .i64 x] ++ cap.toList).toArray w1 fun v w' => v = .bool (p x) ∧ Chg noB w1 w') :
    Ct Try.prog slices_ContainsFunc_int_int.id #[v, .func (.func g) first cap] w fun r w' => r = .bool (l.any p) ∧ Chg noB w w' := by
  refine slices_ContainsFunc_int_int.ct fun R hR => ?_
  unfold slices_ContainsFunc_int_int.run slices_ContainsFunc_int_int.b1
  refine CALL_of (IndexFuncI2_ct h hB hp) ?_
  rintro _ w1 ⟨⟨i, rfl, hi, _⟩, hc⟩
  simp -dsimp [go_sem]
  refine hR _ _ ⟨?_, hc⟩
  congr 1
  cases ha : l.any p
  · rw [ha] at hi; simpa using hi
  · rw [ha] at hi; simpa using hi

theorem isSymbol_ct {w : World} {F : Nat → Prop} {b : Nat} {A1 A2 A3 A4 : Option Addr} {c1 c2 c3 c4 : Nat} {g : Gr} {l : Txt} (hp : (pgG b [.slice A1 g.terms.length c1, .slice A2 g.nons.length c2, .slice A3 g.levels.length c3, .int .i64 g.start, .slice A4 g.prods.length c4] l).ok w F) (h1 : g.terms.length ≤ 1000) (h2 : g.nons.length ≤ 1000) (s : Int) :
    Ct Try.prog show_page_isSymbol.id #[.pointer (some ⟨b, 0, none⟩), .int .i64 s] w fun v w' => v = .bool (decide (isSymP g s)) ∧ Chg noB w w' := by
  refine show_page_isSymbol.ct fun R hR => ?_
  have y0 := pg_cells hp
  simp [boxAt] at y0
  have wk : IntKind.i64.wrap ((g.terms.length : Int) + (g.nons.length : Int)) = (g.terms.length : Int) + g.nons.length := IntWalk.i64_in _ (by omega)
  unfold show_page_isSymbol.run
  simp -dsimp [go_sem]
  refine SPL_intro (fun p => ?_) (fun p => ?_) <;> simp at p
  · simp -dsimp [go_sem, y0, wk]
    refine hR _ _ ⟨?_, (Chg.refl _ _).drew⟩
    unfold isSymP
    congr 1
    simp [p]
  · refine hR _ _ ⟨?_, (Chg.refl _ _).drew⟩
    unfold isSymP
    congr 1
    exact (decide_eq_false (by rintro ⟨h, _⟩; omega)).symm

theorem BA_extract (l : Txt) (a b : Nat) : (BA l).extract a b = BA ((l.take b).drop a) := by
  apply tx_inj
  rw [tx_BA]
  unfold tx BA
  rw [ByteArray.data_extract]
  simp [List.extract_eq_take_drop, List.drop_take]
theorem HasPrefix_ct (l : Txt) (w : World) : Ct Try.prog internal_stringslite_HasPrefix.id #[.string (BA l), .string ⟨#[32]⟩] w fun v w' => v = .bool (l.head? == some 32) ∧ w = w' := by
  refine internal_stringslite_HasPrefix.ct fun R hR => ?_
  unfold internal_stringslite_HasPrefix.run
  have hsz : (⟨#[32]⟩ : ByteArray).size = 1 := rfl
  simp -dsimp [go_sem, hsz, BA_size]
  cases l with
  | nil =>
    simp -dsimp [go_sem]
    exact hR _ _ ⟨rfl, rfl⟩
  | cons x r =>
    have h1 : (1 : Int) ≤ (r.length : Int) + 1 := by omega
    simp -dsimp [go_sem, hsz, BA_size, h1]
    refine hR _ _ ⟨?_, rfl⟩
    rw [ByteArray.toList_eq, BA_extract]
    simp [BA]
theorem TrimPrefix_ct (l : Txt) (w : World) (hl : l = [] ∨ l.head? = some 32) : Ct Try.prog strings_TrimPrefix.id #[.string (BA l), .string ⟨#[32]⟩] w fun v w' => v = .string (BA (l.drop 1)) ∧ w = w' := by
  refine strings_TrimPrefix.ct fun R hR => ?_
  unfold strings_TrimPrefix.run
  simp -dsimp [go_sem]
  have hsz : (⟨#[32]⟩ : ByteArray).size = 1 := rfl
  refine CALL_of (S := fun v w' => v = .string (BA (l.drop 1)) ∧ w = w') (internal_stringslite_TrimPrefix.ct fun R hR => ?_) ?_
  · unfold internal_stringslite_TrimPrefix.run
    simp -dsimp [go_sem]
    refine CALL_of (HasPrefix_ct l w) ?_
    rintro _ _ ⟨rfl, rfl⟩
    rcases hl with rfl | hl
    · simp -dsimp [go_sem]
      exact hR _ _ ⟨rfl, rfl⟩
    · rw [hl]
      have hpos : (1 : Int) ≤ (l.length : Int) := by cases l with | nil => simp at hl | cons x r => simp; omega
      simp -dsimp [go_sem, hsz, BA_size, hpos]
      refine hR _ _ ⟨?_, rfl⟩
      rw [BA_extract, List.take_length]
  · rintro _ _ ⟨rfl, rfl⟩
    exact hR _ _ ⟨rfl, rfl⟩

theorem namesT_head (g : Gr) (l : List Int) : namesT g l = [] ∨ (namesT g l).head? = some 32 := by
  cases l with
  | nil => exact Or.inl rfl
  | cons x r => exact Or.inr (by rw [namesT_cons]; rfl)

section
variable {w : World} {B : Nat} {vg : Value} {g : Gr}
theorem Row_ct (h : rGram.atN w B vg g) (hB : B ≤ w.heap.size) {u : Value} {l : List Int} {B' : Nat} (hu : (rSlice rInt).at1 w B' u l) (hB' : B' ≤ w.heap.size) (hl : l.length ≤ 1000000000000) :
    Ct Try.prog show_Row.id #[vg, u] w fun v w' => v = .tuple #[.string (BA (if rowOk g l then rowT g l else [])), .int .i64 (if rowOk g l then 0 else 1)] ∧ Chg noB w w' := by
  refine show_Row.ct fun R hR => ?_
  obtain ⟨A1, c1, A2, c2, A3, c3, A4, c4, rfl, h1, h2, h3, hst, h4, k1, k2, k3, k4⟩ := (rGram_open h).ex
  have s0 := (St.refl noB w).alloc #[.slice A1 g.terms.length c1, .slice A2 g.nons.length c2, .slice A3 g.levels.length c3, .int .i64 g.start, .slice A4 g.prods.length c4] 27
  unfold show_Row.run
  simp -dsimp [go_sem]
  have hg1 : rGram.atN _ B _ g := rGram_below h (s0.chg.below hB fun _ _ => id)
  have hB1 := s0.chg.size
  generalize w.alloc (.cells #[.slice A1 g.terms.length c1, .slice A2 g.nons.length c2, .slice A3 g.levels.length c3, .int .i64 g.start, .slice A4 g.prods.length c4] 27) = w1 at s0 hg1 hB1 ⊢
  refine CALL_of (open_ct hg1 (by omega)) ?_
  rintro _ w2 ⟨b, vs, rfl, hvs, hs2⟩
  have hvs' : vs = [.slice A1 g.terms.length c1, .slice A2 g.nons.length c2, .slice A3 g.levels.length c3, .int .i64 g.start, .slice A4 g.prods.length c4] := by
    injection hvs with hvs
    have := congrArg Array.toList hvs; simpa using this.symm
  subst hvs'
  have s2 := (s0.seq hs2).alloc #[.pointer (some ⟨b, 0, none⟩)] 88
  simp -dsimp [go_sem]
  generalize w2.heap.size = pb at s2 ⊢
  generalize w2.alloc (.cells #[.pointer (some ⟨b, 0, none⟩)] 88) = w3 at s2 ⊢
  have hno : ∀ w', Chg noB w w' → rowOk g l = false → show_Row.b5 R u (.pointer (some ⟨pb, 0, none⟩)) (.bool true) w' := by
    intro w' hc hf
    unfold show_Row.b5
    simp -dsimp [go_sem]
    refine hR _ _ ⟨?_, hc⟩
    rw [hf]; rfl
  cases he : eitherB g with
  | false =>
    simp -dsimp [go_sem]
    exact hno _ s2.chg (by unfold rowOk; rw [he]; rfl)
  | true =>
    have hbd := either_bound (eitherB_iff.1 he)
    have hu3 := Rep.below hu (s2.chg.below hB' fun _ _ => id)
    simp -dsimp [go_sem]
    refine CALL_of (ContainsFuncI2_ct (p := fun s => !decide (isSymP g s)) hu3 (by have := s2.chg.size; omega) fun x hx hi w4 hc4 => ?_) ?_
    · refine show_Row_1.ct fun R hR => ?_
      have s4 := s2.old hc4
      have y4 := s4.box 2 rfl
      simp [boxAt] at y4
      unfold show_Row_1.run
      simp -dsimp [go_sem, y4]
      obtain ⟨F, ho, _⟩ := s4.get (k := 1) rfl
      refine CALL_of (isSymbol_ct ho (by have := hbd.t1; omega) (by have := hbd.n1; omega) x) ?_
      rintro _ w5 ⟨rfl, hc5⟩
      simp -dsimp [go_sem]
      refine hR _ _ ⟨?_, hc5⟩
      simp
    · rintro _ w4 ⟨rfl, hc4⟩
      have s4 := s2.old hc4
      cases ha : l.any fun s => !decide (isSymP g s) with
      | true =>
        refine hno _ s4.chg ?_
        unfold rowOk
        rw [he, Bool.true_and]
        cases hall : l.all fun s => decide (isSymP g s) with
        | false => rfl
        | true =>
          obtain ⟨x, hx, hx2⟩ := List.any_eq_true.1 ha
          have := List.all_eq_true.1 hall x hx
          rw [this] at hx2; cases hx2
      | false =>
        have hall : ∀ s ∈ l, isSymP g s := fun s hs => by
          have := List.any_eq_false.1 ha s hs
          simpa using this
        have hok : rowOk g l = true := by
          unfold rowOk
          rw [he, Bool.true_and, List.all_eq_true]
          exact fun s hs => by simpa using hall s hs
        have y4 := s4.box 2 rfl
        simp [boxAt] at y4
        unfold show_Row.b5
        simp -dsimp [go_sem]
        unfold show_Row.b3
        simp -dsimp [go_sem, y4]
        have hlen := namesT_len hbd l
        refine CALL_piece s4 1 rfl (fun F' ho hF => names_ct (w := w4) (B := B) (g := g) ⟨ho, rGram_below h (s4.chg.below hB fun _ _ => id), fun i hi => ?_, by have := s4.chg.size; omega, hbd⟩ (ws := l) (fun w' hc => ⟨B', ?_⟩) hall (by simp; unfold maxBytes; omega)) ?_
        · by_cases e : i < w.heap.size
          · exact absurd ((hF i hi).2 e) id
          · omega
        · have hch : Chg F' w w' := (s4.chg.mono fun _ _ (e : noB _) => e.elim).trans' hc fun _ _ e => e
          exact Rep.below hu (hch.below hB' fun i hi e => (hF i e).2 (by omega))
        intro F5 v5 w5 hd5 hs5
        have s5 := hs5 _ hd5
        have y5 := s5.box 2 rfl
        simp [boxAt] at y5
        simp -dsimp [go_sem, y5]
        refine CALL_piece s5 1 rfl (fun F' ho hF => String_ct ho) ?_
        rintro F6 v6 w6 ⟨rfl, hd6⟩ hs6
        have s6 := hs6 _ hd6
        simp only [List.nil_append]
        refine CALL_of (TrimPrefix_ct _ w6 (namesT_head g l)) ?_
        rintro _ _ ⟨rfl, rfl⟩
        simp -dsimp [go_sem]
        refine hR _ _ ⟨?_, s6.chg⟩
        rw [hok]; simp [rowT]
end
end Go.Proofs.Ytkacbjhiobnbfaa

/-
  A symbol's text.
-/
namespace Go.Proofs.Ytkacbjhiobnbfaa
open Go.Px Go.Px.Scan Go.RowKit
set_option maxHeartbeats 1000000
set_option linter.unusedSimpArgs false
set_option linter.unusedVariables false
set_option maxRecDepth 100000
attribute [-go_sem] Builtin.append_
section
variable {w : World} {B : Nat} {vg : Value} {g : Gr}
theorem Symbol_ct (h : rGram.atN w B vg g) (hB : B ≤ w.heap.size) {s : Int} (hs : inI64 s) :
    Ct Try.prog show_Symbol.id #[vg, .int .i64 s] w fun v w' => v = .tuple #[.string (BA (if rowOk g [s] then symT g s else [])), .int .i64 (if rowOk g [s] then 0 else 1)] ∧ Chg noB w w' := by
  refine show_Symbol.ct fun R hR => ?_
  obtain ⟨A1, c1, A2, c2, A3, c3, A4, c4, rfl, h1, h2, h3, hst, h4, k1, k2, k3, k4⟩ := (rGram_open h).ex
  have s0 := (St.refl noB w).alloc #[.slice A1 g.terms.length c1, .slice A2 g.nons.length c2, .slice A3 g.levels.length c3, .int .i64 g.start, .slice A4 g.prods.length c4] 27
  unfold show_Symbol.run
  simp -dsimp [go_sem]
  rw [show w.heap.size + 1 = (w.alloc (.cells #[.slice A1 g.terms.length c1, .slice A2 g.nons.length c2, .slice A3 g.levels.length c3, .int .i64 g.start, .slice A4 g.prods.length c4] 27)).heap.size by simp]
  generalize w.alloc (.cells #[.slice A1 g.terms.length c1, .slice A2 g.nons.length c2, .slice A3 g.levels.length c3, .int .i64 g.start, .slice A4 g.prods.length c4] 27) = w1 at s0 ⊢
  have hc1 : Chg noB w1 (w1.alloc (.cells #[.int .i64 s] 3)) := (Chg.refl _ _).alloc _
  have hc2 := s0.chg.trans hc1
  have hu : (rSlice rInt).at1 (w1.alloc (.cells #[.int .i64 s] 3)) (w1.heap.size + 1) (.slice (some ⟨w1.heap.size, 0, none⟩) 1 1) [s] := lit_int (X := noB) (fun _ e => e.elim) hs (Chg.refl _ _)
  refine CALL_of (Row_ct (rGram_below h (hc2.below hB fun _ _ => id)) (by have := hc2.size; omega) hu (by simp) (by simp)) ?_
  rintro _ w3 ⟨rfl, hc3⟩
  simp -dsimp [go_sem]
  refine hR _ _ ⟨?_, hc2.trans hc3⟩
  congr 2
  simp [rowT, namesT, wordsT]

end
end Go.Proofs.Ytkacbjhiobnbfaa

