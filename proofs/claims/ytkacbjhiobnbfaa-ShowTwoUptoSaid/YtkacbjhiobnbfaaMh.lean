/-
  Texts of this claim: Rf3, Rf4.
-/
import Derived.Test.YtkacbjhiobnbfaaMg
/-
  The document's Text.
-/
namespace Go.Proofs.Ytkacbjhiobnbfaa
open Go.Px Go.Px.Scan Go.RowKit
set_option maxHeartbeats 1000000
set_option linter.unusedSimpArgs false
set_option linter.unusedVariables false
set_option maxRecDepth 100000
attribute [-go_sem] Builtin.append_
attribute [-go_sem] ref05_terms.b7 ref05_terms.b12 ref05_terms.b9 ref05_terms.b3

section
variable {w : World} {B : Nat} {vg : Value} {g : Gr}
theorem namesT_len1 (hbd : EBound g) (f : Int → Bool) {k : Nat} (hk : k ≤ g.terms.length - 1) : (namesT g (termsN g f k)).length ≤ 1300 := by
  have h1 := namesT_len hbd (termsN g f k)
  have h2 := termsN_len g f k
  have h3 := hbd.t1
  omega
theorem refterms_ct (h : rGram.atN w B vg g) (hB : B ≤ w.heap.size) (hbd : EBound g) {lv : Int} (hlv : inI64 lv) {f : Int → Bool} (hf : ∀ x, f x = (decide (lv < 0) || (x == lv))) :
    Ct Try.prog ref05_terms.id #[vg, .int .i64 lv] w fun v w' => v = .string (BA (namesT g (termsL g f))) ∧ Chg noB w w' := by
  refine ref05_terms.ct fun R hR => ?_
  obtain ⟨A1, c1, A2, c2, A3, c3, A4, c4, rfl, _, _, hc0, hg⟩ := box_all h hB
  have ht1 := hbd.t1
  have ht0 := hbd.t0
  unfold ref05_terms.run
  simp -dsimp [go_sem]
  generalize w.alloc (.cells #[.slice A1 g.terms.length c1, .slice A2 g.nons.length c2, .slice A3 g.levels.length c3, .int .i64 g.start, .slice A4 g.prods.length c4] 27) = w1 at hc0 hg ⊢
  generalize w.heap.size = q at hg ⊢
  refine ref05_terms.l6_intro _ _ _ _ _ _ (fun x y w' => ∃ k : Nat, y = .int .i64 ((k + 1 : Nat) : Int) ∧ k ≤ g.terms.length - 1 ∧ x = .string (BA (namesT g (termsN g f k))) ∧ Chg noB w1 w') (fun _ y _ => g.terms.length - iv y) ⟨0, rfl, Nat.zero_le _, rfl, Chg.refl _ _⟩ ?_
  rintro _ _ w2 ⟨k, rfl, hk, rfl, hc2⟩ C hC
  have z := hg w2 hc2
  have hnl := namesT_len1 hbd f hk
  unfold ref05_terms.b7
  push_cast
  simp -dsimp [go_sem, z.k]
  have wk : IntKind.i64.wrap ((k : Int) + 1 + 1) = (k : Int) + 1 + 1 := IntWalk.i64_in _ (by omega)
  have hsn := termsN_succ g f k
  refine SPL_intro (fun p => ?_) (fun p => ?_) <;> simp at p
  · have hk1 : k + 1 < g.terms.length := by omega
    have hsym : isSymP g ((k : Int) + 1) := ⟨by omega, by omega⟩
    have hsl := symT_len hbd ((k : Int) + 1)
    have out : ∀ (w' : World) (t : Txt), Chg noB w1 w' → t = namesT g (termsN g f (k + 1)) → ref05_terms.b9 R C (.string (BA t)) (.int .i64 ((k : Int) + 1)) w' := by
      intro w' t hc ht
      unfold ref05_terms.b9
      simp -dsimp [go_sem, wk]
      exact hC _ _ _ ⟨k + 1, by simp, by omega, by rw [ht], hc⟩ (by simp [iv]; omega)
    have yes : ∀ w', Chg noB w1 w' → f (levelAt g ((k : Int) + 1)) = true → ref05_terms.b12 R C (.pointer (some ⟨q, 0, none⟩)) (.string (BA (namesT g (termsN g f k)))) (.int .i64 ((k : Int) + 1)) (.bool true) w' := by
      intro w' hc hfk
      have z' := hg w' hc
      have q1 : ¬ 9223372036854775807 < (namesT g (termsN g f k)).length + 1 := by omega
      have q2 : ¬ 9223372036854775807 < (namesT g (termsN g f k)).length + 1 + (symT g ((k : Int) + 1)).length := by omega
      unfold ref05_terms.b12
      simp -dsimp [go_sem, z'.k, BA_size, q1]
      have hcw := hc0.trans hc
      refine CALL_of (refsym_ct (rGram_below h (hcw.below hB fun _ _ => id)) z'.sz hbd hsym) ?_
      rintro _ w3 ⟨rfl, hc3⟩
      have e32 : (⟨#[32]⟩ : ByteArray) = BA [32] := rfl
      simp -dsimp [go_sem, BA_size, q2, e32, BA_append]
      refine out _ _ (hc.trans hc3) ?_
      rw [hsn, hfk, if_pos rfl, namesT_append]
      simp [namesT, wordsT]
    have no : ∀ w', Chg noB w1 w' → f (levelAt g ((k : Int) + 1)) = false → ref05_terms.b12 R C (.pointer (some ⟨q, 0, none⟩)) (.string (BA (namesT g (termsN g f k)))) (.int .i64 ((k : Int) + 1)) (.bool false) w' := by
      intro w' hc hfk
      unfold ref05_terms.b12
      simp -dsimp [go_sem]
      refine out _ _ hc ?_
      rw [hsn, hfk, if_neg (by simp), List.append_nil]
    have hfl := hf (levelAt g ((k : Int) + 1))
    simp -dsimp [go_sem]
    refine SPL_intro (fun p2 => ?_) (fun p2 => ?_)
    · refine yes _ hc2 ?_
      rw [hfl, p2]; rfl
    · obtain ⟨b3, o3, e3, _, _, x3, _, z3⟩ := terms_at z.r1 hk1
      have hlev : levelAt g ((k : Int) + 1) = g.terms[k + 1].2 := by rw [show (k : Int) + 1 = ((k + 1 : Nat) : Int) by omega, levelAt_get hk1]
      rw [hlev] at hfl yes no
      have hk1' : (k : Int) + 1 < (g.terms.length : Int) := by omega
      have hk2 : (0 : Int) ≤ (k : Int) + 1 := by omega
      have hk3 : ((k : Int) + 1).toNat = k + 1 := by omega
      simp -dsimp [go_sem, z.k, e3, hk1', hk2, hk3, x3]
      rw [p2, Bool.false_or] at hfl
      cases hx : (g.terms[k + 1].2 == lv) with
      | true => exact yes _ hc2 (by rw [hfl, hx])
      | false => exact no _ hc2 (by rw [hfl, hx])
  · have hkl : k = g.terms.length - 1 := by omega
    unfold ref05_terms.b3
    refine hR _ _ ⟨?_, hc0.trans hc2⟩
    rw [hkl]; rfl
end
end Go.Proofs.Ytkacbjhiobnbfaa

/-
  The document's Text, whole.
-/
namespace Go.Proofs.Ytkacbjhiobnbfaa
open Go.Px Go.Px.Scan Go.RowKit
set_option maxHeartbeats 1000000
set_option linter.unusedSimpArgs false
set_option linter.unusedVariables false
set_option maxRecDepth 100000
attribute [-go_sem] Builtin.append_
attribute [-go_sem] ref05_Text.b6 ref05_Text.b12 ref05_Text.b17 ref05_Text.b21 ref05_Text.b24 ref05_Text.b27 ref05_Text.b31 ref05_Text.b28 ref05_Text.b25 ref05_Text.b22 ref05_Text.b23 ref05_Text.b19 ref05_Text.b36 ref05_Text.b37 ref05_Text.b33 ref05_Text.b14 ref05_Text.b10 ref05_Text.b7 ref05_Text.b4 ref05_Text.b41 ref05_Text.b38 ref05_Text.b2 ref05_Text.b20 ref05_Text.b32

theorem bStrs4 (a b c d : ByteArray) (w : World) : (Instr.buildSlice 23 4 #[(0, .string a), (1, .string b), (2, .string c), (3, .string d)]).run Try.prog w = .ok (.slice (some ⟨w.heap.size, 0, none⟩) 4 4) (w.alloc (.cells #[.string a, .string b, .string c, .string d] 9)) := by
  simp [go_sem, cells_string]
attribute [go_sem ↓] bStrs4
abbrev rgcs (g : Gr) (A1 : Option Addr) (c1 : Nat) (A2 : Option Addr) (c2 : Nat) (A3 : Option Addr) (c3 : Nat) (A4 : Option Addr) (c4 : Nat) : List Value := [.slice A1 g.terms.length c1, .slice A2 g.nons.length c2, .slice A3 g.levels.length c3, .int .i64 g.start, .slice A4 g.prods.length c4]
section
variable {w : World} {B q : Nat} {g : Gr} {A1 A2 A3 A4 : Option Addr} {c1 c2 c3 c4 : Nat}
theorem rgcs_at (h : rGram.atN w B (.agg (rgcs g A1 c1 A2 c2 A3 c3 A4 c4).toArray) g) : (rSlice rTerm).at1 w B (.slice A1 g.terms.length c1) g.terms ∧ (rSlice rStr).at1 w B (.slice A2 g.nons.length c2) g.nons ∧ (rSlice rInt).at1 w B (.slice A3 g.levels.length c3) g.levels ∧ inI64 g.start ∧ (rSlice rPr).at1 w B (.slice A4 g.prods.length c4) g.prods := by
  obtain ⟨a1, d1, a2, d2, a3, d3, a4, d4, hv, h1, h2, h3, h4, h5, _⟩ := (rGram_open h).ex
  injection hv with hv
  have hv := congrArg Array.toList hv
  simp at hv
  obtain ⟨⟨rfl, rfl⟩, ⟨rfl, rfl⟩, ⟨rfl, rfl⟩, rfl, rfl⟩ := hv
  exact ⟨h1, h2, h3, h4, h5⟩

/-- What the document's Text works with. -/
structure TxR (w : World) (B q : Nat) (vs : List Value) (g : Gr) (L : List Ch) (w' : World) (a : Option Addr) (c : Nat) (t : Txt) : Prop where
  st : St noB w w' (boxC q 27 vs :: txtM false 5 a t.length c t :: L)
  rd : rGram.atN w B (.agg vs.toArray) g
  hB : B ≤ w.heap.size
  bd : EBound g
theorem TxR.read {vs : List Value} {L : List Ch} {w1 w' : World} {a : Option Addr} {c : Nat} {t : Txt} (h : TxR w B q vs g L w1 a c t) (hc : Chg noB w1 w') : rGram.atN w' B (.agg vs.toArray) g ∧ B ≤ w'.heap.size :=
  ⟨rGram_below h.rd ((h.st.chg.trans hc).below h.hB fun _ _ => id), by have := (h.st.chg.trans hc).size; have := h.hB; omega⟩
theorem TxR.next {vs : List Value} {L L' : List Ch} {w1 w' : World} {a a' : Option Addr} {c c' : Nat} {t t' : Txt} (h : TxR w B q vs g L w1 a c t) (hs : St noB w w' (boxC q 27 vs :: txtM false 5 a' t'.length c' t' :: L')) : TxR w B q vs g L' w' a' c' t' := ⟨hs, h.rd, h.hB, h.bd⟩
theorem TxR.old {vs : List Value} {L : List Ch} {w1 w' : World} {a : Option Addr} {c : Nat} {t : Txt} (h : TxR w B q vs g L w1 a c t) (hc : Chg noB w1 w') : TxR w B q vs g L w' a c t := h.next (h.st.old hc)
theorem TxR.drop {vs : List Value} {L : List Ch} {w1 : World} {a : Option Addr} {c : Nat} {t : Txt} (h : TxR w B q vs g L w1 a c t) : TxR w B q vs g [] w1 a c t := h.next (h.st.take 2)
/-- A string is laid behind the text. -/
theorem TxR.app {X : Pan} {vs : List Value} {L : List Ch} {w1 : World} {a : Option Addr} {c : Nat} {t : Txt} {K : Value → World → Prop} (h : TxR w B q vs g L w1 a c t) (s : ByteArray) (hb : t.length + s.size ≤ maxBytes) (hK : ∀ a' c' w' t', t' = t ++ tx s → TxR w B q vs g L w' a' c' t' → K (.slice a' t'.length c') w') :
    RES X ((Builtin.append_ #[98, 9] 98 #[.slice a t.length c, .string s]).run Try.prog w1) K := by
  refine h.st.txtStr 1 rfl ruBytes Try.underlying9 riByte s hb ?_
  intro a' c' w' hs
  have e : t.length + s.size = (t ++ tx s).length := by rw [List.length_append, tx_len]
  rw [e] at hs ⊢
  exact hK _ _ _ _ rfl (h.next hs)
/-- A symbol is asked for. -/
theorem TxR.sym {X : Pan} {L : List Ch} {w1 w2 : World} {a : Option Addr} {c : Nat} {t : Txt} {s : Int} {K : Value → World → Prop} (h : TxR w B q (rgcs g A1 c1 A2 c2 A3 c3 A4 c4) g L w1 a c t) (hc : Chg noB w1 w2) (hs : isSymP g s) (hK : ∀ w', TxR w B q (rgcs g A1 c1 A2 c2 A3 c3 A4 c4) g L w' a c t → K (.string (BA (symT g s))) w') :
    CALL Try.prog X ref05_symbol.id #[.agg #[.slice A1 g.terms.length c1, .slice A2 g.nons.length c2, .slice A3 g.levels.length c3, .int .i64 g.start, .slice A4 g.prods.length c4], .int .i64 s] w2 K := by
  refine CALL_of (refsym_ct (h.read hc).1 (h.read hc).2 h.bd hs) ?_
  rintro _ w' ⟨rfl, hc'⟩
  exact hK w' (h.old (hc.trans hc'))

theorem endP_rok {R : Ending → World → Prop} {C : Value → Value → World → Prop} (hR : ∀ v w', v = .tuple #[.string (BA (textA g)), .int .i64 (textE g)] ∧ Chg noB w w' → R (.returned v) w') (he : eitherB g = true) {k : Nat} (hk : k < g.prods.length) (hk1 : k ≤ 1000) {t t0 : Txt}
    {w1 : World} {a : Option Addr} {c : Nat} {L : List Ch} (h : TxR w B q (rgcs g A1 c1 A2 c2 A3 c3 A4 c4) g L w1 a c t) (hl : t.length + 3 ≤ maxBytes) (ht0 : textN g k = some t0) (hns : ¬ symT g g.prods[k].1 = tStart) (ht : t ++ tEndl = t0 ++ prodT g g.prods[k])
    (hC : ∀ a' c' w' t', textN g (k + 1) = some t' → TxR w B q (rgcs g A1 c1 A2 c2 A3 c3 A4 c4) g [] w' a' c' t' → C (.slice a' t'.length c') (.int .i64 ((k : Int) + 1)) w') :
    ref05_Text.b17 R C (.slice a t.length c) (.int .i64 k) w1 := by
  have wk : IntKind.i64.wrap ((k : Int) + 1) = (k : Int) + 1 := IntWalk.i64_in _ (by omega)
  have hsn := textN_succ g hk
  rw [ht0] at hsn
  simp only [addP, Option.bind_some] at hsn
  rw [if_neg hns, ← ht] at hsn
  unfold ref05_Text.b17
  simp -dsimp [go_sem]
  refine h.app _ hl ?_
  intro a' c' w' t' ht' h'
  have ht' : t' = t ++ tEndl := ht'
  rw [← ht'] at hsn
  simp -dsimp [go_sem]
  refine SPL_intro (fun p3 => ?_) (fun p3 => ?_)
  · have p3 : 8192 < t'.length := by
      have : (8192 : Int) < (t'.length : Int) := by simpa using p3
      omega
    rw [if_pos p3] at hsn
    refine hR _ _ ⟨?_, h'.st.chg⟩
    unfold textA textE
    rw [he, textO_none hsn]; rfl
  · have p3 : ¬ 8192 < t'.length := by
      have : ¬ (8192 : Int) < (t'.length : Int) := by simpa using p3
      omega
    rw [if_neg p3] at hsn
    unfold ref05_Text.b12
    simp -dsimp [go_sem, wk]
    exact hC _ _ _ _ hsn h'.drop

/-- A production's level. -/
theorem grade_rok {R : Ending → World → Prop} {C : Value → Value → World → Prop} (hR : ∀ v w', v = .tuple #[.string (BA (textA g)), .int .i64 (textE g)] ∧ Chg noB w w' → R (.returned v) w') (he : eitherB g = true) {k : Nat} (hk : k < g.prods.length) (hk1 : k ≤ 1000) {t t0 : Txt}
    {pb : Nat} {Ar : Option Addr} {cr : Nat} {p : Int × List Int × Int} (hp : g.prods[k] = p)
    {w1 : World} {a : Option Addr} {c : Nat} (h : TxR w B q (rgcs g A1 c1 A2 c2 A3 c3 A4 c4) g [boxC pb 47 [.int .i64 p.1, .slice Ar p.2.1.length cr, .int .i64 p.2.2]] w1 a c t) (hl : t.length + 200 ≤ maxBytes) (ht0 : textN g k = some t0) (hns : ¬ symT g p.1 = tStart) (ht : t ++ gradeT g p ++ tEndl = t0 ++ prodT g p)
    (hC : ∀ a' c' w' t', textN g (k + 1) = some t' → TxR w B q (rgcs g A1 c1 A2 c2 A3 c3 A4 c4) g [] w' a' c' t' → C (.slice a' t'.length c') (.int .i64 ((k : Int) + 1)) w') :
    ref05_Text.b19 R C (.pointer (some ⟨q, 0, none⟩)) (.slice a t.length c) (.int .i64 k) (.pointer (some ⟨pb, 0, none⟩)) (.int .i64 (ownOf g p.2.1)) w1 := by
  have y1 := h.st.box 2 rfl
  have z1 := h.st.box 0 rfl
  simp [boxAt] at y1 z1
  have hpm : p ∈ g.prods := by rw [← hp]; exact List.getElem_mem hk
  have hgl := gradeT_len h.bd p
  have fin : ∀ (a' : Option Addr) (c' : Nat) (w' : World) (t' : Txt) (L : List Ch), t' = t ++ gradeT g p → TxR w B q (rgcs g A1 c1 A2 c2 A3 c3 A4 c4) g L w' a' c' t' → ref05_Text.b17 R C (.slice a' t'.length c') (.int .i64 k) w' := fun a' c' w' t' L ht' h' =>
    endP_rok hR he hk hk1 h' (by rw [ht', List.length_append]; omega) ht0 (by rw [hp]; exact hns) (by rw [ht', hp]; exact ht) hC
  unfold ref05_Text.b19
  simp -dsimp [go_sem, y1]
  unfold ref05_Text.b20
  refine SPL_intro (fun p1 => ?_) (fun p1 => ?_)
  · have p1 : p.2.2 = ownOf g p.2.1 := by simpa using p1
    unfold ref05_Text.b21
    exact fin _ _ _ _ _ (by unfold gradeT; rw [if_pos p1, List.append_nil]) h
  have p1 : ¬ p.2.2 = ownOf g p.2.1 := by simpa using p1
  unfold ref05_Text.b22
  simp -dsimp [go_sem, y1]
  unfold ref05_Text.b23
  refine SPL_intro (fun p2 => ?_) (fun p2 => ?_)
  · have p2 : p.2.2 = 0 := by simpa using p2
    unfold ref05_Text.b24
    simp -dsimp [go_sem]
    refine h.app _ (by simp [ByteArray.size]; omega) ?_
    intro a' c' w' t' ht' h'
    exact fin _ _ _ _ _ (by rw [ht']; unfold gradeT; rw [if_neg p1, if_pos p2]; rfl) h'
  have p2 : ¬ p.2.2 = 0 := by simpa using p2
  have hb1 := h.bd.t1
  have hb0 := h.bd.t0
  unfold ref05_Text.b25 ref05_Text.b28
  have ws : IntKind.i64.wrap ((g.terms.length : Int) - 1) = (((g.terms.length - 1 : Nat)) : Int) := by rw [show (g.terms.length : Int) - 1 = ((g.terms.length - 1 : Nat) : Int) by omega]; exact IntWalk.i64_in _ (by omega)
  simp -dsimp [go_sem, z1, ws]
  obtain ⟨f, hf⟩ : ∃ f : Int → Bool, f = fun x => x == p.2.2 := ⟨_, rfl⟩
  refine ref05_Text.l30_intro _ _ _ _ _ _ _ _ _ (fun x y w' => ∃ j : Nat, y = .int .i64 j ∧ j ≤ g.terms.length - 1 ∧ x = .int .i64 ((termsD g f j).headD 0) ∧ TxR w B q (rgcs g A1 c1 A2 c2 A3 c3 A4 c4) g [boxC pb 47 [.int .i64 p.1, .slice Ar p.2.1.length cr, .int .i64 p.2.2]] w' a c t) (fun _ y _ => iv y) ⟨g.terms.length - 1, rfl, Nat.le_refl _, by rw [termsD_end]; rfl, h⟩ ?_
  rintro _ _ w2 ⟨j, rfl, hj, rfl, h2⟩ C2 hC2
  have y2 := h2.st.box 2 rfl
  have z2 := h2.st.box 0 rfl
  simp [boxAt] at y2 z2
  obtain ⟨r1, _⟩ := rgcs_at (h2.read (Chg.refl _ _).drew).1
  unfold ref05_Text.b31
  simp -dsimp [go_sem]
  refine SPL_intro (fun p3 => ?_) (fun p3 => ?_)
  · have p3 : 0 < j := by simpa using p3
    obtain ⟨i, rfl⟩ : ∃ i : Nat, j = i + 1 := ⟨j - 1, by omega⟩
    have hi : i + 1 < g.terms.length := by omega
    obtain ⟨b3, o3, e3, _, _, x3, _, z3⟩ := terms_at r1 hi
    have hlev : levelAt g ((i : Int) + 1) = g.terms[i + 1].2 := by rw [show (i : Int) + 1 = ((i + 1 : Nat) : Int) by omega, levelAt_get hi]
    have hst := termsD_step g f (k := i) (by omega)
    rw [hlev] at hst
    have wj : IntKind.i64.wrap (i : Int) = (i : Int) := IntWalk.i64_in _ (by omega)
    have hi1 : (i : Int) + 1 < (g.terms.length : Int) := by omega
    have hi2 : (0 : Int) ≤ (i : Int) + 1 := by omega
    have hi3 : ((i : Int) + 1).toNat = i + 1 := by omega
    have hcont : ∀ x : Int, x = (termsD g f i).headD 0 → ref05_Text.b32 R C C2 (.int .i64 x) (.int .i64 ((i : Int) + 1)) w2.drew := by
      intro x hx
      unfold ref05_Text.b32
      simp -dsimp [go_sem, wj]
      exact hC2 _ _ _ ⟨i, rfl, by omega, by rw [hx], h2.old (Chg.refl _ _).drew⟩ (by simp [iv])
    push_cast
    simp -dsimp [go_sem, y2, z2, e3, hi1, hi2, hi3, x3]
    refine SPL_intro (fun p4 => ?_) (fun p4 => ?_)
    · refine hcont _ ?_
      rw [hst, if_pos (by rw [hf]; exact p4)]
    · refine hcont _ ?_
      rw [hst, if_neg (by rw [hf]; simpa using p4)]
      simp
  · have p3 : j = 0 := by
      have : ¬ 0 < j := by simpa using p3
      omega
    subst p3
    rw [termsD_zero, hf]
    have hlv := h.bd.plev p hpm
    have hne : (termsL g (fun x => x == p.2.2)).headD 0 ∈ termsL g (fun x => x == p.2.2) := by
      obtain ⟨tt, htt, e⟩ := h.bd.has (p.2.2.toNat - 1) (by omega)
      obtain ⟨i, hi, rfl⟩ := List.mem_iff_getElem.1 htt
      have hi' : i < g.terms.length - 1 := by simpa using hi
      have hmem : ((i : Int) + 1) ∈ termsL g (fun x => x == p.2.2) := by
        unfold termsL termsN
        refine List.mem_map.2 ⟨i, List.mem_filter.2 ⟨by simpa using hi', ?_⟩, rfl⟩
        rw [show (i : Int) + 1 = ((i + 1 : Nat) : Int) by omega, levelAt_get (by omega)]
        have e2 : g.terms[i + 1].2 = (g.terms.tail[i]).2 := by simp
        rw [e2, e]
        simp; omega
      cases hl : termsL g (fun x => x == p.2.2) with
      | nil => rw [hl] at hmem; cases hmem
      | cons x r => simp
    have hsl := symT_len h.bd ((termsL g (fun x => x == p.2.2)).headD 0)
    have q1 : ¬ 9223372036854775807 < 7 + (symT g ((termsL g (fun x => x == p.2.2)).headD 0)).length := by omega
    have hg : gradeT g p = wordsT [tPrec] ++ namesT g [(termsL g (fun x => x == p.2.2)).headD 0] := by unfold gradeT; rw [if_neg p1, if_neg p2]
    generalize (termsL g (fun x => x == p.2.2)).headD 0 = least at hne hsl q1 hg ⊢
    unfold ref05_Text.b27
    simp -dsimp [go_sem, z2]
    refine h2.sym (Chg.refl _ _) (termsL_sym hne) ?_
    intro w3 h3
    have hsz : ((⟨#[32, 37, 112, 114, 101, 99, 32]⟩ : ByteArray) ++ BA (symT g least)).size = 7 + (symT g least).length := by rw [ByteArray.size_append, BA_size]; rfl
    simp -dsimp [go_sem, BA_size, q1]
    refine h3.app _ (by rw [hsz]; omega) ?_
    intro a' c' w' t' ht' h'
    refine fin _ _ _ _ _ ?_ h'
    rw [ht', hg, tx_append, tx_BA]
    simp [wordsT, namesT, tPrec, tx]

/-- A production's right side. -/
theorem right_rok {R : Ending → World → Prop} {C : Value → Value → World → Prop} (hR : ∀ v w', v = .tuple #[.string (BA (textA g)), .int .i64 (textE g)] ∧ Chg noB w w' → R (.returned v) w') (he : eitherB g = true) {k : Nat} (hk : k < g.prods.length) (hk1 : k ≤ 1000) {t t0 : Txt}
    {pb : Nat} {Ar : Option Addr} {cr : Nat} {p : Int × List Int × Int} (hp : g.prods[k] = p) (hsm : p.2.1.length ≤ 1000000000000) (hr : (rSlice rInt).at1 w B (.slice Ar p.2.1.length cr) p.2.1)
    {w1 : World} {a : Option Addr} {c : Nat} (h : TxR w B q (rgcs g A1 c1 A2 c2 A3 c3 A4 c4) g [boxC pb 47 [.int .i64 p.1, .slice Ar p.2.1.length cr, .int .i64 p.2.2]] w1 a c t) (htl : t0.length ≤ 200000) (ht0 : textN g k = some t0) (hns : ¬ symT g p.1 = tStart) (ht : t = t0 ++ symT g p.1 ++ [32, 58])
    (hC : ∀ a' c' w' t', textN g (k + 1) = some t' → TxR w B q (rgcs g A1 c1 A2 c2 A3 c3 A4 c4) g [] w' a' c' t' → C (.slice a' t'.length c') (.int .i64 ((k : Int) + 1)) w') :
    ref05_Text.b33 R C (.pointer (some ⟨q, 0, none⟩)) (.slice a t.length c) (.int .i64 k) (.pointer (some ⟨pb, 0, none⟩)) (.int .i64 0) w1 := by
  have hpm : p ∈ g.prods := by rw [← hp]; exact List.getElem_mem hk
  have hb1 := h.bd.t1
  have hps := symT_len h.bd p.1
  obtain ⟨_, _, e0, hl1, hl2, _⟩ := slice_form hr
  injection e0 with e1 e2 e3; subst e1 e3
  unfold ref05_Text.b33
  refine ref05_Text.l35_intro _ _ _ _ _ _ _ _ _ (fun x y z w' => ∃ (j : Nat) (a' : Option Addr) (c' : Nat) (t' : Txt), z = .int .i64 j ∧ j ≤ p.2.1.length ∧ x = .slice a' t'.length c' ∧ y = .int .i64 (ownOf g (p.2.1.take j)) ∧ t' = t ++ namesT g (p.2.1.take j) ∧ TxR w B q (rgcs g A1 c1 A2 c2 A3 c3 A4 c4) g [boxC pb 47 [.int .i64 p.1, .slice Ar p.2.1.length cr, .int .i64 p.2.2]] w' a' c' t') (fun _ _ z _ => p.2.1.length - iv z) ⟨0, a, c, t, rfl, Nat.zero_le _, rfl, rfl, by simp [namesT, wordsT], h⟩ ?_
  rintro _ _ _ w2 ⟨j, a2, c2', t2, rfl, hj, rfl, rfl, ht2, h2⟩ C2 hC2
  have y2 := h2.st.box 2 rfl
  have z2 := h2.st.box 0 rfl
  simp [boxAt] at y2 z2
  unfold ref05_Text.b36
  simp -dsimp [go_sem, y2]
  refine SPL_intro (fun p1 => ?_) (fun p1 => ?_) <;> simp at p1
  · have htk : p.2.1.take (j + 1) = p.2.1.take j ++ [p.2.1[j]] := List.take_succ_eq_append_getElem p1
    have hown := ownOf_snoc g (p.2.1.take j) p.2.1[j]
    rw [← htk] at hown
    have hsm1 := h.bd.right p hpm _ (List.getElem_mem p1)
    have hsl := symT_len h.bd p.2.1[j]
    have hnl := namesT_len h.bd (p.2.1.take j)
    have hnl2 : (p.2.1.take j).length ≤ p.2.1.length := by simp; omega
    have wj := wrap_succ p1 (by omega)
    have h2d := h2.old (Chg.refl _ _).drew
    obtain ⟨b', o, e1, _, x1, z1⟩ := Go.Px.ints_at (Rep.below hr (h2d.st.chg.below h.hB fun _ _ => id)) p1
    subst e1
    simp -dsimp [go_sem, y2, z2, p1, x1]
    generalize w2.drew = w3 at h2d ⊢
    refine h2d.sym (Chg.refl _ _) hsm1.1 ?_
    intro w4 h4
    have q1 : ¬ 9223372036854775807 < 1 + (symT g p.2.1[j]).length := by omega
    have hsz : ((⟨#[32]⟩ : ByteArray) ++ BA (symT g p.2.1[j])).size = 1 + (symT g p.2.1[j]).length := by rw [ByteArray.size_append, BA_size]; rfl
    have ht2l : t2.length ≤ 200030 + 19 * p.2.1.length := by rw [ht2, ht]; simp only [List.length_append]; show _ + _ + 2 + _ ≤ _; omega
    simp -dsimp [go_sem, BA_size, q1]
    refine h4.app _ (by rw [hsz]; unfold maxBytes; omega) ?_
    intro a5 c5 w5 t5 ht5 h5
    have et5 : t5 = t ++ namesT g (p.2.1.take (j + 1)) := by
      rw [ht5, ht2, tx_append, tx_BA, htk, namesT_append]
      simp [namesT, wordsT, tx]
    have h5d := h5.old (Chg.refl _ _).drew
    have y5 := h5.st.box 2 rfl
    have z5 := h5.st.box 0 rfl
    simp [boxAt] at y5 z5
    obtain ⟨b6, o6, e6, _, x6, _⟩ := Go.Px.ints_at (Rep.below hr (h5.st.chg.below h.hB fun _ _ => id)) p1
    injection e6 with e6; injection e6 with e6 e7; subst e6 e7
    have hcont : ∀ (x : Int) w', x = ownOf g (p.2.1.take (j + 1)) → TxR w B q (rgcs g A1 c1 A2 c2 A3 c3 A4 c4) g [boxC pb 47 [.int .i64 p.1, .slice (some ⟨b', o, none⟩) p.2.1.length cr, .int .i64 p.2.2]] w' a5 c5 t5 → ref05_Text.b37 R C C2 (.slice a5 t5.length c5) (.int .i64 x) (.int .i64 j) w' := by
      intro x w' hx h'
      unfold ref05_Text.b37
      simp -dsimp [go_sem, wj]
      exact hC2 _ _ _ _ ⟨j + 1, a5, c5, t5, by simp, by omega, rfl, by rw [hx], et5, h'⟩ (by simp [iv]; omega)
    simp -dsimp [go_sem, y5, z5, p1, x6]
    refine SPL_intro (fun p2 => ?_) (fun p2 => ?_)
    · have p2 : p.2.1[j] < (g.terms.length : Int) := by simpa using p2
      rw [if_pos p2] at hown
      have h5dd := h5d.old (Chg.refl _ _).drew
      obtain ⟨r1, _⟩ := rgcs_at (h5dd.read (Chg.refl _ _)).1
      obtain ⟨jj, hjj⟩ : ∃ jj : Nat, p.2.1[j] = (jj : Int) := ⟨p.2.1[j].toNat, by omega⟩
      have hj2 : jj < g.terms.length := by omega
      obtain ⟨b3, o3, e3, _, _, x3, _, z3⟩ := terms_at r1 hj2
      rw [hjj, levelAt_get hj2] at hown
      rw [hjj] at x6
      simp -dsimp [go_sem, y5, z5, e3, p1, x6, hj2, x3]
      exact hcont _ _ hown.symm h5dd
    · have p2 : ¬ p.2.1[j] < (g.terms.length : Int) := by simpa using p2
      rw [if_neg p2] at hown
      exact hcont _ _ hown.symm h5d
  · have hjl : j = p.2.1.length := by omega
    subst hjl
    rw [List.take_length] at ht2 ⊢
    have hgl := gradeT_len h.bd p
    have hnl := namesT_len h.bd p.2.1
    refine grade_rok hR he hk hk1 hp h2 (by rw [ht2, ht]; simp only [List.length_append]; show _ + _ + 2 + _ + 200 ≤ _; unfold maxBytes; omega) ht0 hns ?_ hC
    rw [ht2, ht]; simp [prodT]

theorem prods_rok {R : Ending → World → Prop} (hR : ∀ v w', v = .tuple #[.string (BA (textA g)), .int .i64 (textE g)] ∧ Chg noB w w' → R (.returned v) w') (he : eitherB g = true) (hsm : ∀ p ∈ g.prods, p.2.1.length ≤ 1000000000000)
    {w1 : World} {a : Option Addr} {c : Nat} {t : Txt} {L : List Ch} (h : TxR w B q (rgcs g A1 c1 A2 c2 A3 c3 A4 c4) g L w1 a c t) (ht : t = preT g) : ref05_Text.b7 R (.pointer (some ⟨q, 0, none⟩)) (.slice a t.length c) w1 := by
  obtain ⟨_, _, _, _, h4⟩ := rgcs_at h.rd
  have hp1 := h.bd.p1
  unfold ref05_Text.b7
  refine ref05_Text.l9_intro _ _ _ _ _ (fun x y w' => ∃ (k : Nat) (a' : Option Addr) (c' : Nat) (t' : Txt), y = .int .i64 k ∧ k ≤ g.prods.length ∧ x = .slice a' t'.length c' ∧ textN g k = some t' ∧ TxR w B q (rgcs g A1 c1 A2 c2 A3 c3 A4 c4) g [] w' a' c' t') (fun _ y _ => g.prods.length - iv y) ⟨0, a, c, t, rfl, Nat.zero_le _, rfl, by rw [ht]; rfl, h.drop⟩ ?_
  rintro _ _ w2 ⟨k, a2, c2', t2, rfl, hk, rfl, ht2, h2⟩ C hC
  have z2 := h2.st.box 0 rfl
  simp [boxAt] at z2
  have htl := textN_len h.bd k t2 hk ht2
  have wk : IntKind.i64.wrap ((k : Int) + 1) = (k : Int) + 1 := IntWalk.i64_in _ (by omega)
  unfold ref05_Text.b10
  simp -dsimp [go_sem, z2]
  refine SPL_intro (fun p1 => ?_) (fun p1 => ?_) <;> simp at p1
  · obtain ⟨bp, op, vr, ep, hbp, x1, x2, x3, hr, z1, z3⟩ := prods_at (Rep.below h4 (h2.st.chg.below h.hB fun _ _ => id)) p1
    subst ep
    obtain ⟨Ar, cr, rfl, hr1, hr2, _⟩ := slice_form hr
    have hsn := textN_succ g p1
    have hp : g.prods[k] = g.prods[k] := rfl
    generalize hpp : g.prods[k] = p at x1 x2 x3 hr z1 z3 hr1 hr2 hsn
    have hpm : p ∈ g.prods := by rw [← hpp]; exact List.getElem_mem p1
    have hrw : (rSlice rInt).at1 w B (.slice Ar p.2.1.length cr) p.2.1 := (rSlice rInt).keep hr (Nat.le_refl _) fun i hi => (h2.st.chg.block i (by have := h.hB; omega) id).symm
    have s3 := h2.st.alloc #[.int .i64 p.1, .slice Ar p.2.1.length cr, .int .i64 p.2.2] 47
    have hC' : ∀ a' c' w' t', textN g (k + 1) = some t' → TxR w B q (rgcs g A1 c1 A2 c2 A3 c3 (some ⟨bp, op, none⟩) c4) g [] w' a' c' t' → C (.slice a' t'.length c') (.int .i64 ((k : Int) + 1)) w' := fun a' c' w' t' ht' h' => hC _ _ _ ⟨k + 1, a', c', t', by simp, by omega, rfl, ht', h'⟩ (by simp [iv]; omega)
    unfold ref05_Text.b14
    simp -dsimp [go_sem, z2, p1, hpp, x1, x2, x3]
    generalize w2.heap.size = pb at s3 ⊢
    generalize w2.alloc (.cells #[.int .i64 p.1, .slice Ar p.2.1.length cr, .int .i64 p.2.2] 47) = w3 at s3 ⊢
    have h3 : TxR w B q (rgcs g A1 c1 A2 c2 A3 c3 (some ⟨bp, op, none⟩) c4) g [boxC pb 47 [.int .i64 p.1, .slice Ar p.2.1.length cr, .int .i64 p.2.2]] w3 a2 c2' t2 := h.next s3
    refine h3.sym (Chg.refl _ _) (h.bd.left p hpm).1 ?_
    intro w4 h4'
    have y4 := h4'.st.box 2 rfl
    have z4 := h4'.st.box 0 rfl
    simp [boxAt] at y4 z4
    rw [ht2] at hsn
    simp only [addP, Option.bind_some] at hsn
    have rba_toList : ∀ l : Txt, (BA l).toList = l := fun l => by rw [ByteArray.toList_eq]; simp [BA]
    simp -dsimp [go_sem, rba_toList]
    refine SPL_intro (fun p2 => ?_) (fun p2 => ?_)
    · have p2 : symT g p.1 = [36, 115, 116, 97, 114, 116] := by simpa using p2
      have p2 : symT g p.1 = tStart := p2
      rw [if_pos p2] at hsn
      unfold ref05_Text.b12
      simp -dsimp [go_sem, wk]
      exact hC' _ _ _ _ hsn h4'.drop
    · have p2 : ¬ symT g p.1 = tStart := by intro e; rw [e] at p2; cases p2
      have hsyl := symT_len h.bd p.1
      have q1 : ¬ 9223372036854775807 < (symT g p.1).length + 2 := by omega
      simp -dsimp [go_sem, y4, z4]
      refine h4'.sym (Chg.refl _ _) (h.bd.left p hpm).1 ?_
      intro w5 h5
      have hsz : (BA (symT g p.1) ++ (⟨#[32, 58]⟩ : ByteArray)).size = (symT g p.1).length + 2 := by rw [ByteArray.size_append, BA_size]; rfl
      simp -dsimp [go_sem, BA_size, q1]
      refine h5.app _ (by rw [hsz]; unfold maxBytes; omega) ?_
      intro a6 c6 w6 t6 ht6 h6
      refine right_rok hR he p1 (by omega) hpp (hsm p hpm) hrw h6 htl ht2 p2 ?_ hC'
      rw [ht6, tx_append, tx_BA]; simp [tx]
  · have hkl : k = g.prods.length := by omega
    subst hkl
    rw [textN_all] at ht2
    have hcv := h2.st.txtConv (P := Try.prog) (u := 9) 1 rfl ruBytes Try.underlying5 Try.underlying9
    unfold ref05_Text.b6
    simp -dsimp [go_sem, hcv]
    refine hR _ _ ⟨?_, h2.st.chg⟩
    unfold textA textE
    rw [he, ht2]; rfl

theorem start_rok {R : Ending → World → Prop} (hR : ∀ v w', v = .tuple #[.string (BA (textA g)), .int .i64 (textE g)] ∧ Chg noB w w' → R (.returned v) w') (he : eitherB g = true) (hsm : ∀ p ∈ g.prods, p.2.1.length ≤ 1000000000000)
    {w1 : World} {a : Option Addr} {c : Nat} {t : Txt} {L : List Ch} (h : TxR w B q (rgcs g A1 c1 A2 c2 A3 c3 A4 c4) g L w1 a c t) (ht : t = levelsT g g.levels.length) : ref05_Text.b4 R (.pointer (some ⟨q, 0, none⟩)) (.slice a t.length c) w1 := by
  have z2 := h.st.box 0 rfl
  simp [boxAt] at z2
  have hll := levelsT_len h.bd g.levels.length
  have hl1 := h.bd.l1
  have hsl := symT_len h.bd g.start
  have q1 : ¬ 9223372036854775807 < 7 + (symT g g.start).length := by omega
  have q2 : ¬ 9223372036854775807 < 7 + (symT g g.start).length + 3 := by omega
  unfold ref05_Text.b4
  simp -dsimp [go_sem, z2]
  refine h.sym (Chg.refl _ _) h.bd.start.1 ?_
  intro w5 h5
  have hsz : ((⟨#[37, 115, 116, 97, 114, 116, 32]⟩ : ByteArray) ++ BA (symT g g.start) ++ (⟨#[32, 59, 10]⟩ : ByteArray)).size = 7 + (symT g g.start).length + 3 := by rw [ByteArray.size_append, ByteArray.size_append, BA_size]; rfl
  simp -dsimp [go_sem, BA_size, q1, q2]
  refine h5.app _ (by rw [hsz, ht]; unfold maxBytes; omega) ?_
  intro a6 c6 w6 t6 ht6 h6
  refine prods_rok hR he hsm h6 ?_
  rw [ht6, ht, tx_append, tx_append, tx_BA]
  simp [preT, namesT, wordsT, tStartO, tEndl, tx]

theorem levels_rok {R : Ending → World → Prop} (hR : ∀ v w', v = .tuple #[.string (BA (textA g)), .int .i64 (textE g)] ∧ Chg noB w w' → R (.returned v) w') (he : eitherB g = true) (hsm : ∀ p ∈ g.prods, p.2.1.length ≤ 1000000000000)
    {w1 : World} {a : Option Addr} {c : Nat} {t : Txt} {L : List Ch} (h : TxR w B q (rgcs g A1 c1 A2 c2 A3 c3 A4 c4) g L w1 a c t) (ht : t = headT g) : ref05_Text.b2 R (.pointer (some ⟨q, 0, none⟩)) (.slice a t.length c) w1 := by
  obtain ⟨_, _, h3, _, _⟩ := rgcs_at h.rd
  have hl1 := h.bd.l1
  unfold ref05_Text.b2
  have s2 := h.drop.st.alloc #[.string ⟨#[]⟩, .string ⟨#[37, 108, 101, 102, 116]⟩, .string ⟨#[37, 114, 105, 103, 104, 116]⟩, .string ⟨#[37, 110, 111, 110, 97, 115, 115, 111, 99]⟩] 9
  simp -dsimp [go_sem]
  generalize w1.heap.size = sb at s2 ⊢
  generalize w1.alloc (.cells #[.string ⟨#[]⟩, .string ⟨#[37, 108, 101, 102, 116]⟩, .string ⟨#[37, 114, 105, 103, 104, 116]⟩, .string ⟨#[37, 110, 111, 110, 97, 115, 115, 111, 99]⟩] 9) = w2 at s2 ⊢
  obtain ⟨sbc, hsb⟩ : ∃ sbc : Ch, sbc = boxC sb 9 [.string ⟨#[]⟩, .string ⟨#[37, 108, 101, 102, 116]⟩, .string ⟨#[37, 114, 105, 103, 104, 116]⟩, .string ⟨#[37, 110, 111, 110, 97, 115, 115, 111, 99]⟩] := ⟨_, rfl⟩
  have h2 : TxR w B q (rgcs g A1 c1 A2 c2 A3 c3 A4 c4) g [sbc] w2 a c t := by rw [hsb]; exact h.next s2
  unfold ref05_Text.b38
  refine ref05_Text.l40_intro _ _ _ _ _ _ (fun x y w' => ∃ (k : Nat) (a' : Option Addr) (c' : Nat) (t' : Txt), y = .int .i64 k ∧ k ≤ g.levels.length ∧ x = .slice a' t'.length c' ∧ t' = levelsT g k ∧ TxR w B q (rgcs g A1 c1 A2 c2 A3 c3 A4 c4) g [sbc] w' a' c' t') (fun _ y _ => g.levels.length - iv y) ⟨0, a, c, t, rfl, Nat.zero_le _, rfl, ht, h2⟩ ?_
  rintro _ _ w3 ⟨k, a3, c3', t3, rfl, hk, rfl, ht3, h3'⟩ C hC
  have z3 := h3'.st.box 0 rfl
  simp [boxAt] at z3
  have htl := levelsT_len h.bd k
  have hvl := levelT_len h.bd k
  unfold ref05_Text.b41
  simp -dsimp [go_sem, z3]
  refine SPL_intro (fun p1 => ?_) (fun p1 => ?_) <;> simp at p1
  · have h3d := h3'.old (Chg.refl _ _).drew
    obtain ⟨bl, ol, el, hbl, x1, z1⟩ := Go.Px.ints_at (Rep.below h3 (h3d.st.chg.below h.hB fun _ _ => id)) p1
    subst el
    have hlv := h.bd.lev _ (List.getElem_mem p1)
    have wk : IntKind.i64.wrap ((k : Int) + 1) = (k : Int) + 1 := IntWalk.i64_in _ (by omega)
    have hget : g.levels.getD k 0 = g.levels[k] := by simp [p1]
    generalize g.levels[k] = sd at x1 z1 hlv hget ⊢
    obtain ⟨sj, hsj, hsj1, hsj2⟩ : ∃ sj : Nat, sd = (sj : Int) ∧ 1 ≤ sj ∧ sj < 4 := ⟨sd.toNat, by omega, by omega, by omega⟩
    have hsj3 : (sj : Int) < 4 := by omega
    have hcell : ∀ w', TxR w B q (rgcs g A1 c1 A2 c2 (some ⟨bl, ol, none⟩) c3 A4 c4) g [sbc] w' a3 c3' t3 → w'.cell? ⟨sb, sj, none⟩ = some (.string (BA (sideT sd))) := by
      intro w' h'
      have y := h'.st.get (k := 2) rfl
      obtain ⟨F, ho, _⟩ := y
      rw [hsb] at ho
      simp only [World.cell?, ho.2]
      have : sj = 1 ∨ sj = 2 ∨ sj = 3 := by omega
      rcases this with rfl | rfl | rfl <;> · rw [hsj]; rfl
    have hcd := hcell _ h3'
    have hsl : (sideT sd).length ≤ 9 := by unfold sideT; split; decide; split <;> decide
    rw [hsj] at x1
    simp -dsimp [go_sem, z3, p1, x1, hsj3, wk, hcd]
    have hrd := h3d.read (Chg.refl _ _)
    generalize w3.drew = w4 at h3d hrd ⊢
    refine CALL_of (refterms_ct hrd.1 hrd.2 h.bd (lv := (k : Int) + 1) (f := fun x => x == (k : Int) + 1) (by unfold inI64; omega) (fun x => by rw [decide_eq_false (by omega)]; rfl)) ?_
    rintro _ w5 ⟨rfl, hc5⟩
    have h5 := h3d.old hc5
    have z5 := h5.st.box 0 rfl
    simp [boxAt] at z5
    obtain ⟨b6, o6, e6, _, x6, _⟩ := Go.Px.ints_at (Rep.below h3 (h5.st.chg.below h.hB fun _ _ => id)) p1
    have hcd5 := hcell _ h5
    have hnl := namesT_len1 h.bd (fun x => x == (k : Int) + 1) (k := g.terms.length - 1) (Nat.le_refl _)
    have hnl' : (namesT g (termsL g fun x => x == (k : Int) + 1)).length ≤ 1300 := hnl
    have q1 : ¬ 9223372036854775807 < (sideT sd).length + (namesT g (termsL g fun x => x == (k : Int) + 1)).length := by omega
    have q2 : ¬ 9223372036854775807 < (sideT sd).length + (namesT g (termsL g fun x => x == (k : Int) + 1)).length + 3 := by omega
    have hsz : (BA (sideT sd) ++ BA (namesT g (termsL g fun x => x == (k : Int) + 1)) ++ (⟨#[32, 59, 10]⟩ : ByteArray)).size = (sideT sd).length + (namesT g (termsL g fun x => x == (k : Int) + 1)).length + 3 := by rw [ByteArray.size_append, ByteArray.size_append, BA_size, BA_size]; rfl
    injection e6 with e6; injection e6 with e6 e7; subst e6 e7
    have hlk : g.levels[k] = (sj : Int) := by rw [← hsj, ← hget]; simp [p1]
    rw [hlk] at x6
    obtain ⟨nt, hnt⟩ : ∃ nt, nt = namesT g (termsL g fun x => x == (k : Int) + 1) := ⟨_, rfl⟩
    rw [← hnt] at q1 q2 hsz hnl' ⊢
    simp -dsimp [go_sem, z5, x6, hcd5, BA_size, q1, q2]
    refine h5.app _ (by rw [hsz, ht3]; unfold maxBytes; omega) ?_
    intro a6 c6 w6 t6 ht6 h6
    simp -dsimp [go_sem, wk]
    refine hC _ _ _ ⟨k + 1, a6, c6, t6, by simp, by omega, rfl, ?_, h6⟩ (by simp [iv]; omega)
    rw [ht6, ht3, tx_append, tx_append, tx_BA, tx_BA, levelsT, levelT, hget, hnt]
    simp [tEndl, tx]
  · have hkl : k = g.levels.length := by omega
    subst hkl
    exact start_rok hR he hsm h3' ht3

theorem refText_ct {vg : Value} (h : rGram.atN w B vg g) (hB : B ≤ w.heap.size) (hsm : ∀ p ∈ g.prods, p.2.1.length ≤ 1000000000000) :
    Ct Try.prog ref05_Text.id #[vg] w fun v w' => v = .tuple #[.string (BA (textA g)), .int .i64 (textE g)] ∧ Chg noB w w' := by
  refine ref05_Text.ct fun R hR => ?_
  obtain ⟨A1, c1, A2, c2, A3, c3, A4, c4, rfl, h1, h2, h3, hst, h4, k1, k2, k3, k4⟩ := (rGram_open h).ex
  have s0 := (St.refl noB w).alloc #[.slice A1 g.terms.length c1, .slice A2 g.nons.length c2, .slice A3 g.levels.length c3, .int .i64 g.start, .slice A4 g.prods.length c4] 27
  unfold ref05_Text.run
  simp -dsimp [go_sem]
  have hg1 : rGram.atN _ B _ g := rGram_below h (s0.chg.below hB fun _ _ => id)
  have hB1 := s0.chg.size
  generalize w.heap.size = q at s0 ⊢
  generalize w.alloc (.cells #[.slice A1 g.terms.length c1, .slice A2 g.nons.length c2, .slice A3 g.levels.length c3, .int .i64 g.start, .slice A4 g.prods.length c4] 27) = w1 at s0 hg1 hB1 ⊢
  refine CALL_of (refEither_ct hg1 (by omega)) ?_
  rintro _ w2 ⟨rfl, hc2⟩
  have s2 := s0.old hc2
  have y2 := s2.box 0 rfl
  simp [boxAt] at y2
  cases he : eitherB g with
  | false =>
    simp -dsimp [go_sem]
    refine hR _ _ ⟨?_, s2.chg⟩
    unfold textA textE
    rw [he]; rfl
  | true =>
    have hbd := either_bound (eitherB_iff.1 he)
    have h2 : TxR w B q (rgcs g A1 c1 A2 c2 A3 c3 A4 c4) g [] w2 none 0 [] := ⟨s2.nilTxt 5, h, hB, hbd⟩
    simp -dsimp [go_sem, y2]
    refine SPL_intro (fun p1 => ?_) (fun p1 => ?_) <;> simp at p1
    · simp -dsimp [go_sem, y2]
      refine CALL_of (refterms_ct (h2.read (Chg.refl _ _)).1 (h2.read (Chg.refl _ _)).2 hbd (lv := -1) (f := fun _ => true) (by unfold inI64; omega) (fun x => by simp)) ?_
      rintro _ w3 ⟨rfl, hc3⟩
      have h3 := h2.old hc3
      have hnl := namesT_len1 hbd (fun _ => true) (k := g.terms.length - 1) (Nat.le_refl _)
      have hnl' : (namesT g (termsL g fun _ => true)).length ≤ 1300 := hnl
      obtain ⟨nt, hnt⟩ : ∃ nt, nt = namesT g (termsL g fun _ => true) := ⟨_, rfl⟩
      rw [← hnt] at hnl' ⊢
      have q1 : ¬ 9223372036854775807 < 6 + nt.length := by omega
      have q2 : ¬ 9223372036854775807 < 6 + nt.length + 3 := by omega
      have hsz : ((⟨#[37, 116, 111, 107, 101, 110]⟩ : ByteArray) ++ BA nt ++ (⟨#[32, 59, 10]⟩ : ByteArray)).size = 6 + nt.length + 3 := by rw [ByteArray.size_append, ByteArray.size_append, BA_size]; rfl
      simp -dsimp [go_sem, BA_size, q1, q2]
      refine h3.app _ (by rw [hsz]; show 0 + _ ≤ _; unfold maxBytes; omega) ?_
      intro a6 c6 w6 t6 ht6 h6
      refine levels_rok hR he hsm h6 ?_
      unfold headT
      rw [if_pos (by omega), ht6, tx_append, tx_append, tx_BA, hnt]
      simp [tToken, tEndl, tx]
    · exact levels_rok hR he hsm h2 (by unfold headT; rw [if_neg (by omega)])
end
end Go.Proofs.Ytkacbjhiobnbfaa

