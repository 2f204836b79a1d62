/-
  Texts of this claim: ShU, ShU2, ShU3, ShU4, ShU5.
-/
import Derived.Test.YtkacbjhiobnbfaaMe
/-
  One text, one grammar: words and lines.
-/
namespace Go.Px.Scan
open Go.Px

theorem split_uniq {α : Type} {p : α → Prop} : ∀ {l l' : List α} {a a' : α} {r r' : List α}, (∀ x ∈ l, ¬ p x) → (∀ x ∈ l', ¬ p x) → p a → p a' → l ++ a :: r = l' ++ a' :: r' → l = l' ∧ a = a' ∧ r = r'
  | [], [], _, _, _, _, _, _, _, _, e => by injection e with e1 e2; exact ⟨rfl, e1, e2⟩
  | [], y :: l', a, a', r, r', h1, h2, h3, h4, e => by injection e with e1 e2; exact absurd (e1 ▸ h3) (h2 y (by simp))
  | y :: l, [], a, a', r, r', h1, h2, h3, h4, e => by injection e with e1 e2; exact absurd (e1 ▸ h4) (h1 y (by simp))
  | y :: l, y' :: l', a, a', r, r', h1, h2, h3, h4, e => by
    injection e with e1 e2
    obtain ⟨f1, f2, f3⟩ := split_uniq (fun x hx => h1 x (by simp [hx])) (fun x hx => h2 x (by simp [hx])) h3 h4 e2
    exact ⟨by rw [e1, f1], f2, f3⟩

/-- A word: quoted, or with no blank. -/
def WordP (w : Txt) : Prop := (∃ u, w = 39 :: (u ++ [39]) ∧ (39 : UInt8) ∉ u) ∨ (∃ c r, w = c :: r ∧ c ≠ 39 ∧ (32 : UInt8) ∉ w ∧ (10 : UInt8) ∉ w)
def StopP (x : Txt) : Prop := ∃ c r, x = c :: r ∧ (c = 32 ∨ c = 10)
theorem word_uniq {w w' x x' : Txt} (hw : WordP w) (hw' : WordP w') (hx : StopP x) (hx' : StopP x') (e : w ++ x = w' ++ x') : w = w' ∧ x = x' := by
  obtain ⟨c, r, rfl, hc⟩ := hx
  obtain ⟨c', r', rfl, hc'⟩ := hx'
  rcases hw with ⟨u, rfl, hu⟩ | ⟨a, l, rfl, ha, h32, h10⟩ <;> rcases hw' with ⟨u', rfl, hu'⟩ | ⟨a', l', rfl, ha', h32', h10'⟩
  · simp only [List.cons_append, List.append_assoc, List.nil_append] at e
    injection e with _ e
    obtain ⟨e1, _, e3⟩ := split_uniq (p := fun y => y = 39) (fun y hy e => hu (e ▸ hy)) (fun y hy e => hu' (e ▸ hy)) rfl rfl e
    exact ⟨by rw [e1], e3⟩
  · simp only [List.cons_append] at e
    injection e with e _
    exact absurd e.symm ha'
  · simp only [List.cons_append] at e
    injection e with e _
    exact absurd e ha
  · obtain ⟨e1, e2, e3⟩ := split_uniq (p := fun y => y = 32 ∨ y = 10) (fun y hy e => e.elim (fun e => h32 (e ▸ hy)) fun e => h10 (e ▸ hy)) (fun y hy e => e.elim (fun e => h32' (e ▸ hy)) fun e => h10' (e ▸ hy)) hc hc' e
    exact ⟨e1, by rw [e2, e3]⟩
theorem stop_words (l : List Txt) (x : Txt) : StopP (wordsT l ++ 10 :: x) := by
  cases l with
  | nil => exact ⟨10, x, rfl, Or.inr rfl⟩
  | cons w l => exact ⟨32, w ++ (wordsT l ++ 10 :: x), by simp [wordsT], Or.inl rfl⟩
theorem words_uniq : ∀ {l l' : List Txt} {x x' : Txt}, (∀ w ∈ l, WordP w) → (∀ w ∈ l', WordP w) → wordsT l ++ 10 :: x = wordsT l' ++ 10 :: x' → l = l' ∧ x = x'
  | [], [], x, x', _, _, e => by
    simp only [wordsT, List.flatMap_nil, List.nil_append] at e
    injection e with _ e
    exact ⟨rfl, e⟩
  | [], w :: l, x, x', _, _, e => by
    simp only [wordsT, List.flatMap_nil, List.nil_append, List.flatMap_cons, List.cons_append] at e
    injection e with e _
    exact absurd e (by decide)
  | w :: l, [], x, x', _, _, e => by
    simp only [wordsT, List.flatMap_nil, List.nil_append, List.flatMap_cons, List.cons_append] at e
    injection e with e _
    exact absurd e (by decide)
  | w :: l, w' :: l', x, x', h, h', e => by
    have e' : 32 :: (w ++ (wordsT l ++ 10 :: x)) = 32 :: (w' ++ (wordsT l' ++ 10 :: x')) := by
      simpa [wordsT] using e
    injection e' with _ e'
    obtain ⟨e1, e2⟩ := word_uniq (h w (by simp)) (h' w' (by simp)) (stop_words l x) (stop_words l' x') e'
    obtain ⟨e3, e4⟩ := words_uniq (fun y hy => h y (by simp [hy])) (fun y hy => h' y (by simp [hy])) e2
    exact ⟨by rw [e1, e3], e4⟩

/-- A line: its words. -/
def lineT (l : Txt × List Txt) : Txt := l.1 ++ wordsT l.2 ++ [10]
def LineP (l : Txt × List Txt) : Prop := WordP l.1 ∧ ∀ w ∈ l.2, WordP w
theorem lines_uniq : ∀ {l l' : List (Txt × List Txt)}, (∀ x ∈ l, LineP x) → (∀ x ∈ l', LineP x) → l.flatMap lineT = l'.flatMap lineT → l = l'
  | [], [], _, _, _ => rfl
  | [], y :: l', _, _, e => by
    have := congrArg List.length e
    simp [lineT] at this
  | y :: l, [], _, _, e => by
    have := congrArg List.length e
    simp [lineT] at this
  | (a, ws) :: l, (a', ws') :: l', h, h', e => by
    have e' : a ++ (wordsT ws ++ 10 :: l.flatMap lineT) = a' ++ (wordsT ws' ++ 10 :: l'.flatMap lineT) := by
      simpa [lineT] using e
    have p := h (a, ws) (by simp)
    have p' := h' (a', ws') (by simp)
    obtain ⟨e1, e2⟩ := word_uniq p.1 p'.1 (stop_words ws _) (stop_words ws' _) e'
    obtain ⟨e3, e4⟩ := words_uniq p.2 p'.2 e2
    have e5 := lines_uniq (fun y hy => h y (by simp [hy])) (fun y hy => h' y (by simp [hy])) e4
    rw [show a = a' from e1, show ws = ws' from e3, e5]

/-! ### A grammar's lines -/
def semiT : Txt := [59]
def gradeW (g : Gr) (p : Int × List Int × Int) : List Txt :=
  if p.2.2 = ownOf g p.2.1 then []
  else if p.2.2 = 0 then [tNone]
  else [tPrec, symT g ((termsL g (fun x => x == p.2.2)).headD 0)]
def tokL (g : Gr) : List (Txt × List Txt) := if 1 < g.terms.length then [(tToken, (termsL g fun _ => true).map (symT g) ++ [semiT])] else []
def levLine (g : Gr) (i : Nat) : Txt × List Txt := (sideT (g.levels.getD i 0), (termsL g fun x => x == (i : Int) + 1).map (symT g) ++ [semiT])
def prodLine (g : Gr) (p : Int × List Int × Int) : Txt × List Txt := (symT g p.1, [58] :: (p.2.1.map (symT g) ++ (gradeW g p ++ [semiT])))
def startLine (g : Gr) : Txt × List Txt := (tStartO, [symT g g.start, semiT])
def linesG (g : Gr) : List (Txt × List Txt) := tokL g ++ ((List.range g.levels.length).map (levLine g) ++ startLine g :: g.prods.map (prodLine g))

theorem lineT_semi (a : Txt) (l : List Txt) : lineT (a, l ++ [semiT]) = a ++ wordsT l ++ tEndl := by
  simp [lineT, wordsT_append, wordsT, semiT, tEndl]
theorem gradeT_words (g : Gr) (p : Int × List Int × Int) : gradeT g p = wordsT (gradeW g p) := by
  unfold gradeT gradeW
  split
  · rfl
  · split
    · rfl
    · simp [namesT, wordsT]
theorem prodT_line (g : Gr) (p : Int × List Int × Int) : prodT g p = lineT (prodLine g p) := by
  have e : prodLine g p = (symT g p.1, ([58] :: (p.2.1.map (symT g) ++ gradeW g p)) ++ [semiT]) := by simp [prodLine]
  rw [e, lineT_semi, prodT, gradeT_words]
  simp [namesT, wordsT]
theorem levelT_line (g : Gr) (i : Nat) : levelT g i = lineT (levLine g i) := by
  rw [levLine, lineT_semi, levelT]; rfl
theorem headT_line (g : Gr) : headT g = (tokL g).flatMap lineT := by
  unfold headT tokL
  split
  · simp only [List.flatMap_cons, List.flatMap_nil, List.append_nil]
    rw [lineT_semi]; rfl
  · rfl
theorem levelsT_line (g : Gr) : ∀ k, levelsT g k = (tokL g).flatMap lineT ++ ((List.range k).map (levLine g)).flatMap lineT
  | 0 => by simp [levelsT, headT_line]
  | k + 1 => by
    rw [levelsT, levelsT_line g k, levelT_line, List.range_succ]
    simp
theorem preT_line (g : Gr) : preT g = (tokL g).flatMap lineT ++ (((List.range g.levels.length).map (levLine g)).flatMap lineT ++ lineT (startLine g)) := by
  have e : startLine g = (tStartO, [symT g g.start] ++ [semiT]) := rfl
  rw [preT, levelsT_line, e, lineT_semi]
  simp [namesT]
theorem text_lines {g : Gr} (hs : ∀ p ∈ g.prods, symT g p.1 ≠ tStart) : ∀ (k : Nat) (t : Txt), k ≤ g.prods.length → textN g k = some t → t = preT g ++ ((g.prods.take k).map (prodLine g)).flatMap lineT
  | 0, t, _, e => by
    have : preT g = t := by simpa [textN] using e
    rw [← this]; simp
  | k + 1, t, hk, e => by
    rw [textN_succ g (by omega)] at e
    cases hn : textN g k with
    | none => rw [hn] at e; cases e
    | some t0 =>
      rw [hn] at e
      simp only [addP, Option.bind_some] at e
      rw [if_neg (hs _ (List.getElem_mem _))] at e
      split at e
      · cases e
      · injection e with e
        have ih := text_lines hs k t0 (by omega) hn
        rw [← e, ih, List.take_succ_eq_append_getElem (by omega : k < g.prods.length), prodT_line]
        simp only [List.map_append, List.flatMap_append, List.map_cons, List.map_nil, List.flatMap_cons, List.flatMap_nil, List.append_nil, List.append_assoc]
theorem textO_lines {g : Gr} (hs : ∀ p ∈ g.prods, symT g p.1 ≠ tStart) {t : Txt} (h : textO g = some t) : t = (linesG g).flatMap lineT := by
  have := text_lines hs g.prods.length t (Nat.le_refl _) (by rw [textN_all]; exact h)
  rw [this, preT_line, List.take_length]
  simp [linesG]
end Go.Px.Scan

/-
  One text, one grammar: the words of a grammar that may be.
-/
namespace Go.Px.Scan
open Go.Px

theorem tx_bt {s : ByteArray} {x : UInt8} (h : x ∈ tx s) : ∃ i, i < s.size ∧ x.toNat = bt s i := by
  obtain ⟨i, hi, rfl⟩ := List.mem_iff_getElem.1 h
  rw [tx_len] at hi
  refine ⟨i, hi, ?_⟩
  unfold bt
  rw [dif_pos hi]
  simp [tx]
  rfl
theorem tx_head {s : ByteArray} (h : 0 < s.size) : ∃ c r, tx s = c :: r ∧ c.toNat = bt s 0 := by
  cases e : tx s with
  | nil => have : s.size = 0 := by rw [← tx_len, e]; rfl
           omega
  | cons c r =>
    refine ⟨c, r, rfl, ?_⟩
    unfold bt
    rw [dif_pos h]
    have e0 : (tx s)[0]'(by rw [tx_len]; exact h) = c := by simp [e]
    rw [← e0]
    simp [tx]
    rfl
theorem term_no {s : ByteArray} (h : TermP s) : (39 : UInt8) ∉ tx s := fun hm => by
  obtain ⟨i, hi, e⟩ := tx_bt hm
  have := h.2.2 i hi
  rw [← e] at this
  exact absurd this (by decide)
theorem name_word {s : ByteArray} (h : NameP s) : ∃ c r, tx s = c :: r ∧ c ≠ 39 ∧ c ≠ 37 ∧ c ≠ 36 ∧ c ≠ 59 ∧ (32 : UInt8) ∉ tx s ∧ (10 : UInt8) ∉ tx s := by
  obtain ⟨c, r, e, hc⟩ := tx_head h.1
  have h0 := h.2.2.1
  rw [← hc] at h0
  refine ⟨c, r, e, fun e => ?_, fun e => ?_, fun e => ?_, fun e => ?_, fun hm => ?_, fun hm => ?_⟩
  · rw [e] at h0; exact absurd h0 (by decide)
  · rw [e] at h0; exact absurd h0 (by decide)
  · rw [e] at h0; exact absurd h0 (by decide)
  · rw [e] at h0; exact absurd h0 (by decide)
  all_goals
    obtain ⟨i, hi, e⟩ := tx_bt hm
    have := h.2.2.2 i hi
    rw [← e] at this
    exact absurd this (by decide)

theorem nodup_inj {α : Type} {l : List α} (h : l.Nodup) {i j : Nat} (hi : i < l.length) (hj : j < l.length) (e : l[i] = l[j]) : i = j := by
  rcases Nat.lt_trichotomy i j with c | c | c
  · exact absurd e (List.pairwise_iff_getElem.1 h i j hi hj c)
  · exact c
  · exact absurd e.symm (List.pairwise_iff_getElem.1 h j i hj hi c)

variable {g h : Gr}
theorem ValidP.t0 (v : ValidP g) : g.terms = (⟨#[]⟩, 0) :: g.terms.tail := by
  have := v.syms.t0
  cases ht : g.terms with
  | nil => rw [ht] at this; cases this
  | cons x r => rw [ht] at this; injection this with this; rw [this]; rfl
theorem ValidP.term (v : ValidP g) {s : Int} (h1 : 1 ≤ s) (h2 : s < g.terms.length) : symT g s = 39 :: (tx (nameOf g s) ++ [39]) ∧ TermP (nameOf g s) := by
  refine ⟨by unfold symT; rw [if_neg (by omega), if_pos h2]; rfl, ?_⟩
  unfold nameOf
  have hk : s.toNat < g.terms.length := by omega
  have hm : g.terms[s.toNat] ∈ g.terms.tail := by
    have e : g.terms[s.toNat] = g.terms.tail[s.toNat - 1]'(by rw [List.length_tail]; omega) := by
      rw [List.getElem_tail]; congr 1; omega
    rw [e]; exact List.getElem_mem _
  have := (v.syms.terms _ hm).name
  simpa [hk] using this
theorem ValidP.non (v : ValidP g) {s : Int} (h1 : (g.terms.length : Int) ≤ s) (h2 : s < (g.terms.length : Int) + g.nons.length) : symT g s = tx (nonAt g s) ∧ NameP (nonAt g s) := by
  have ht : 0 < g.terms.length := by rw [v.t0]; simp
  have hk : (s - g.terms.length).toNat < g.nons.length := by omega
  have hn : NameP (nonAt g s) := by
    unfold nonAt
    have := v.syms.nnam (g.nons[(s - g.terms.length).toNat]) (by simp)
    rw [List.getD_eq_getElem?_getD, List.getElem?_eq_getElem hk]
    exact this
  refine ⟨?_, hn⟩
  unfold symT
  rw [if_neg (by omega), if_neg (by omega), if_neg]
  intro e
  have := hn.1
  rw [e] at this
  exact absurd this (by decide)
theorem ValidP.word (v : ValidP g) {s : Int} (h0 : isSymP g s) (h1 : 1 ≤ s) : WordP (symT g s) ∧ (∃ c r, symT g s = c :: r ∧ c ≠ 37 ∧ c ≠ 36 ∧ c ≠ 59 ∧ (c = 39 ↔ s < g.terms.length)) := by
  by_cases ht : s < g.terms.length
  · obtain ⟨e, hn⟩ := v.term h1 ht
    rw [e]
    exact ⟨Or.inl ⟨_, rfl, term_no hn⟩, 39, _, rfl, by decide, by decide, by decide, by simp [ht]⟩
  · obtain ⟨e, hn⟩ := v.non (by omega) h0.2
    obtain ⟨c, r, e2, n1, n2, n3, n4, n5, n6⟩ := name_word hn
    rw [e]
    exact ⟨Or.inr ⟨c, r, e2, n1, n5, n6⟩, c, r, e2, n2, n3, n4, by simp [n1, ht]⟩
theorem ValidP.inj (v : ValidP g) {s s' : Int} (h0 : isSymP g s) (h1 : 1 ≤ s) (h0' : isSymP g s') (h1' : 1 ≤ s') (e : symT g s = symT g s') : s = s' := by
  obtain ⟨_, c, r, e1, _, _, _, hc⟩ := v.word h0 h1
  obtain ⟨_, c', r', e1', _, _, _, hc'⟩ := v.word h0' h1'
  have ec : c = c' := by rw [e1, e1'] at e; injection e
  by_cases ht : s < g.terms.length
  · have ht' : s' < g.terms.length := hc'.1 (ec ▸ hc.2 ht)
    rw [(v.term h1 ht).1, (v.term h1' ht').1] at e
    injection e with _ e
    have e := tx_inj (List.append_cancel_right e)
    have nd := v.syms.tnd
    have k1 : s.toNat - 1 < (g.terms.tail.map (·.1)).length := by simp; omega
    have k2 : s'.toNat - 1 < (g.terms.tail.map (·.1)).length := by simp; omega
    have g1 : (g.terms.tail.map (·.1))[s.toNat - 1] = nameOf g s := by
      unfold nameOf
      have : s.toNat < g.terms.length := by omega
      simp [this]
      congr 2; omega
    have g2 : (g.terms.tail.map (·.1))[s'.toNat - 1] = nameOf g s' := by
      unfold nameOf
      have : s'.toNat < g.terms.length := by omega
      simp [this]
      congr 2; omega
    have := nodup_inj nd k1 k2 (by rw [g1, g2, e])
    omega
  · have ht' : ¬ s' < g.terms.length := fun h => ht (hc.1 (ec.symm ▸ hc'.2 h))
    rw [(v.non (by omega) h0.2).1, (v.non (by omega) h0'.2).1] at e
    have e := tx_inj e
    have nd := v.syms.nnd
    rw [List.drop_zero] at nd
    have b1 := h0.2
    have b2 := h0'.2
    have k1 : (s - g.terms.length).toNat < g.nons.length := by omega
    have k2 : (s' - g.terms.length).toNat < g.nons.length := by omega
    have g1 : g.nons[(s - g.terms.length).toNat] = nonAt g s := by unfold nonAt; rw [List.getD_eq_getElem?_getD, List.getElem?_eq_getElem k1]; rfl
    have g2 : g.nons[(s' - g.terms.length).toNat] = nonAt g s' := by unfold nonAt; rw [List.getD_eq_getElem?_getD, List.getElem?_eq_getElem k2]; rfl
    have := nodup_inj nd k1 k2 (by rw [g1, g2, e])
    omega
end Go.Px.Scan

/-
  One text, one grammar.
-/
namespace Go.Px.Scan
open Go.Px

variable {g h : Gr}
theorem word_of {c : UInt8} {r : Txt} (h : c ≠ 39) (h2 : (32 : UInt8) ∉ c :: r) (h3 : (10 : UInt8) ∉ c :: r) : WordP (c :: r) := Or.inr ⟨c, r, rfl, h, h2, h3⟩
theorem semi_word : WordP semiT := word_of (by decide) (by decide) (by decide)
theorem side_word (x : Int) : WordP (sideT x) := by
  unfold sideT
  split
  · exact word_of (by decide) (by decide) (by decide)
  · split <;> exact word_of (by decide) (by decide) (by decide)
theorem side_heads (x : Int) : sideT x ≠ tToken ∧ sideT x ≠ tStartO := by
  unfold sideT
  split
  · decide
  · split <;> decide
theorem side_inj {x y : Int} (hx : 1 ≤ x ∧ x ≤ 3) (hy : 1 ≤ y ∧ y ≤ 3) (e : sideT x = sideT y) : x = y := by
  have c1 : x = 1 ∨ x = 2 ∨ x = 3 := by omega
  have c2 : y = 1 ∨ y = 2 ∨ y = 3 := by omega
  rcases c1 with rfl | rfl | rfl <;> rcases c2 with rfl | rfl | rfl <;> first | rfl | exact absurd e (by decide)
theorem ValidP.bound (v : ValidP g) : EBound g := either_bound (Or.inl v)
theorem ValidP.term_words (v : ValidP g) {f : Int → Bool} {w : Txt} (hw : w ∈ (termsL g f).map (symT g) ++ [semiT]) : WordP w := by
  rcases List.mem_append.1 hw with hw | hw
  · obtain ⟨s, hs, rfl⟩ := List.mem_map.1 hw
    exact (v.word (termsL_sym hs) (termsN_mem hs).1).1
  · rw [List.mem_singleton] at hw; subst hw; exact semi_word
theorem levelAt_mem {f : Int → Bool} {s : Int} : s ∈ termsL g f ↔ 1 ≤ s ∧ s < g.terms.length ∧ f (levelAt g s) = true := by
  unfold termsL termsN
  rw [List.mem_map]
  constructor
  · rintro ⟨i, hi, rfl⟩
    rw [List.mem_filter, List.mem_range] at hi
    exact ⟨by omega, by omega, hi.2⟩
  · rintro ⟨h1, h2, h3⟩
    refine ⟨s.toNat - 1, ?_, by omega⟩
    rw [List.mem_filter, List.mem_range]
    refine ⟨by omega, ?_⟩
    have : ((s.toNat - 1 : Nat) : Int) + 1 = s := by omega
    rw [this]; exact h3
theorem ValidP.first (v : ValidP g) {x : Int} (h1 : 1 ≤ x) (h2 : x ≤ g.levels.length) : ∃ s, (termsL g fun y => y == x).headD 0 = s ∧ 1 ≤ s ∧ s < g.terms.length ∧ levelAt g s = x := by
  obtain ⟨t, ht, e⟩ := v.bound.has (x.toNat - 1) (by omega)
  obtain ⟨i, hi, rfl⟩ := List.mem_iff_getElem.1 ht
  rw [List.length_tail] at hi
  rw [List.getElem_tail] at e
  have hm : ((i : Int) + 1) ∈ termsL g fun y => y == x := levelAt_mem.2 ⟨by omega, by omega, by
    have hl := levelAt_get (g := g) (k := i + 1) (by omega)
    push_cast at hl
    rw [hl, e]
    simp; omega⟩
  cases hl : termsL g fun y => y == x with
  | nil => rw [hl] at hm; cases hm
  | cons s r =>
    obtain ⟨a, b, c⟩ := levelAt_mem.1 (show s ∈ termsL g fun y => y == x by rw [hl]; simp)
    exact ⟨s, rfl, a, b, by simpa using c⟩
theorem grade_words (v : ValidP g) {p : Int × List Int × Int} (hp : p ∈ g.prods) {w : Txt} (hw : w ∈ gradeW g p) : WordP w := by
  unfold gradeW at hw
  split at hw
  · cases hw
  · split at hw
    · rw [List.mem_singleton] at hw; subst hw; exact word_of (by decide) (by decide) (by decide)
    · rename_i h1 h2
      have hl := v.bound.plev p hp
      obtain ⟨s, e, a, b, c⟩ := v.first (x := p.2.2) (by omega) hl.2
      rw [e] at hw
      rcases List.mem_cons.1 hw with rfl | hw
      · exact word_of (by decide) (by decide) (by decide)
      · rw [List.mem_singleton] at hw; subst hw
        exact (v.word ⟨by omega, by omega⟩ a).1
theorem ValidP.lines (v : ValidP g) : ∀ x ∈ linesG g, LineP x := by
  have hb := v.bound
  intro x hx
  rcases List.mem_append.1 hx with hx | hx
  · unfold tokL at hx
    split at hx
    · rw [List.mem_singleton] at hx; subst hx
      exact ⟨word_of (by decide) (by decide) (by decide), fun w hw => v.term_words hw⟩
    · cases hx
  rcases List.mem_append.1 hx with hx | hx
  · obtain ⟨i, _, rfl⟩ := List.mem_map.1 hx
    exact ⟨side_word _, fun w hw => v.term_words hw⟩
  rcases List.mem_cons.1 hx with rfl | hx
  · refine ⟨word_of (by decide) (by decide) (by decide), fun w hw => ?_⟩
    rcases List.mem_cons.1 hw with rfl | hw
    · have := hb.start; have := hb.t0
      exact (v.word hb.start.1 (by omega)).1
    · rw [List.mem_singleton] at hw; subst hw; exact semi_word
  · obtain ⟨p, hp, rfl⟩ := List.mem_map.1 hx
    have := hb.left p hp; have := hb.t0
    refine ⟨(v.word (hb.left p hp).1 (by omega)).1, fun w hw => ?_⟩
    rcases List.mem_cons.1 hw with rfl | hw
    · exact word_of (by decide) (by decide) (by decide)
    rcases List.mem_append.1 hw with hw | hw
    · obtain ⟨s, hs, rfl⟩ := List.mem_map.1 hw
      exact (v.word (hb.right p hp s hs).1 (hb.right p hp s hs).2).1
    rcases List.mem_append.1 hw with hw | hw
    · exact grade_words v hp hw
    · rw [List.mem_singleton] at hw; subst hw; exact semi_word
theorem ValidP.no_start (v : ValidP g) : ∀ p ∈ g.prods, symT g p.1 ≠ tStart := fun p hp e => by
  have hb := v.bound
  have := hb.left p hp; have := hb.t0
  obtain ⟨_, c, r, e1, _, n2, _⟩ := v.word (hb.left p hp).1 (by omega)
  rw [e1] at e
  injection e with e
  exact n2 e
end Go.Px.Scan

/-
  One text, one grammar: the end.
-/
namespace Go.Px.Scan
open Go.Px

variable {g h : Gr}
theorem rest_head {x : Txt × List Txt} {l : List (Txt × List Txt)} (e : (List.range g.levels.length).map (levLine g) ++ startLine g :: g.prods.map (prodLine g) = x :: l) : x.1 ≠ tToken := by
  cases hl : List.range g.levels.length with
  | nil =>
    rw [hl] at e
    injection e with e
    rw [← e]; show tStartO ≠ tToken; decide
  | cons i r =>
    rw [hl] at e
    injection e with e
    rw [← e]; exact (side_heads _).1
theorem lines_parts (e : linesG g = linesG h) : tokL g = tokL h ∧ (List.range g.levels.length).map (levLine g) = (List.range h.levels.length).map (levLine h) ∧ startLine g = startLine h ∧ g.prods.map (prodLine g) = h.prods.map (prodLine h) := by
  have h1 : tokL g = tokL h ∧ (List.range g.levels.length).map (levLine g) ++ startLine g :: g.prods.map (prodLine g) = (List.range h.levels.length).map (levLine h) ++ startLine h :: h.prods.map (prodLine h) := by
    unfold linesG tokL at e
    unfold tokL
    by_cases c1 : 1 < g.terms.length <;> by_cases c2 : 1 < h.terms.length
    · rw [if_pos c1, if_pos c2] at e ⊢
      injection e with e1 e2
      exact ⟨by rw [e1], e2⟩
    · rw [if_pos c1, if_neg c2] at e
      exact absurd rfl (rest_head e.symm)
    · rw [if_neg c1, if_pos c2] at e
      exact absurd rfl (rest_head e)
    · rw [if_neg c1, if_neg c2] at e ⊢
      exact ⟨rfl, e⟩
  obtain ⟨a, b, c⟩ := split_uniq (p := fun x : Txt × List Txt => x.1 = tStartO) (fun x hx => by obtain ⟨i, _, rfl⟩ := List.mem_map.1 hx; exact (side_heads _).2) (fun x hx => by obtain ⟨i, _, rfl⟩ := List.mem_map.1 hx; exact (side_heads _).2) rfl rfl h1.2
  exact ⟨h1.1, a, b, c⟩

theorem terms_all (g : Gr) : termsL g (fun _ => true) = (List.range (g.terms.length - 1)).map fun i : Nat => (i : Int) + 1 := by
  unfold termsL termsN
  rw [List.filter_eq_self.2 (by simp)]
theorem tok_same (vg : ValidP g) (vh : ValidP h) (e : tokL g = tokL h) : g.terms.length = h.terms.length ∧ ∀ s : Int, 1 ≤ s → s < g.terms.length → symT g s = symT h s := by
  have t1 := vg.bound.t0
  have t2 := vh.bound.t0
  unfold tokL at e
  by_cases c1 : 1 < g.terms.length <;> by_cases c2 : 1 < h.terms.length
  · rw [if_pos c1, if_pos c2] at e
    injection e with e _
    injection e with _ e
    have e := List.append_cancel_right e
    rw [terms_all, terms_all] at e
    have hl := congrArg List.length e
    simp at hl
    have hl' : g.terms.length = h.terms.length := by omega
    refine ⟨hl', fun s h1 h2 => ?_⟩
    rw [hl'] at e
    have := (List.map_inj_left (l := (List.range (h.terms.length - 1)).map fun i : Nat => (i : Int) + 1)).1 e s (List.mem_map.2 ⟨s.toNat - 1, by rw [List.mem_range]; omega, by omega⟩)
    exact this
  · rw [if_pos c1, if_neg c2] at e; cases e
  · rw [if_neg c1, if_pos c2] at e; cases e
  · exact ⟨by omega, fun s h1 h2 => by omega⟩
theorem lev_same (e : (List.range g.levels.length).map (levLine g) = (List.range h.levels.length).map (levLine h)) : g.levels.length = h.levels.length ∧ ∀ i, i < g.levels.length → levLine g i = levLine h i := by
  have hl := congrArg List.length e
  simp at hl
  refine ⟨hl, fun i hi => ?_⟩
  rw [hl] at e hi
  exact List.map_inj_left.1 e i (by rw [List.mem_range]; exact hi)
theorem level_same (vg : ValidP g) (vh : ValidP h) (ht : g.terms.length = h.terms.length) (hs : ∀ s : Int, 1 ≤ s → s < g.terms.length → symT g s = symT h s) (hl : ∀ i, i < g.levels.length → levLine g i = levLine h i) {s : Int} (h1 : 1 ≤ s) (h2 : s < g.terms.length) (h3 : levelAt g s ≠ 0) : levelAt h s = levelAt g s := by
  have hb := vg.bound.tlev
  have hk : s.toNat < g.terms.length := by omega
  have hlv : levelAt g s = g.terms[s.toNat].2 := by have := levelAt_get hk; rwa [Int.toNat_of_nonneg (by omega)] at this
  have hr := hb _ (List.getElem_mem hk)
  rw [← hlv] at hr
  have e := hl ((levelAt g s).toNat - 1) (by omega)
  injection e with _ e
  have e := List.append_cancel_right e
  have ei : (((levelAt g s).toNat - 1 : Nat) : Int) + 1 = levelAt g s := by omega
  rw [ei] at e
  have hm : symT g s ∈ (termsL g fun x => x == levelAt g s).map (symT g) := List.mem_map.2 ⟨s, levelAt_mem.2 ⟨h1, h2, by simp⟩, rfl⟩
  rw [e] at hm
  obtain ⟨s', hs', e'⟩ := List.mem_map.1 hm
  obtain ⟨a, b, c⟩ := levelAt_mem.1 hs'
  rw [hs s h1 h2] at e'
  have := vh.inj (s := s') (s' := s) ⟨by omega, by omega⟩ a ⟨by omega, by omega⟩ h1 e'
  subst this
  simpa using c
theorem terms_same (vg : ValidP g) (vh : ValidP h) (ht : tokL g = tokL h) (hl : (List.range g.levels.length).map (levLine g) = (List.range h.levels.length).map (levLine h)) : g.terms = h.terms ∧ g.levels = h.levels := by
  obtain ⟨t1, t2⟩ := tok_same vg vh ht
  obtain ⟨l1, l2⟩ := lev_same hl
  constructor
  · apply List.ext_getElem t1
    intro i h1 h2
    by_cases hi : i = 0
    · subst hi
      have e1 := vg.t0
      have e2 := vh.t0
      have q1 : g.terms[0] = (⟨#[]⟩, 0) := by
        have : g.terms[0]? = some (⟨#[]⟩, 0) := by rw [e1]; rfl
        rw [List.getElem?_eq_getElem h1] at this; injection this
      have q2 : h.terms[0] = (⟨#[]⟩, 0) := by
        have : h.terms[0]? = some (⟨#[]⟩, 0) := by rw [e2]; rfl
        rw [List.getElem?_eq_getElem h2] at this; injection this
      rw [q1, q2]
    · have b1 : (1 : Int) ≤ (i : Int) := by omega
      have b2 : (i : Int) < g.terms.length := by omega
      have e1 := t2 i b1 b2
      rw [(vg.term b1 b2).1, (vh.term b1 (by omega)).1] at e1
      injection e1 with _ e1
      have e1 := tx_inj (List.append_cancel_right e1)
      have n1 : nameOf g i = g.terms[i].1 := by unfold nameOf; rw [List.getD_eq_getElem?_getD, Int.toNat_natCast, List.getElem?_eq_getElem h1]; rfl
      have n2 : nameOf h i = h.terms[i].1 := by unfold nameOf; rw [List.getD_eq_getElem?_getD, Int.toNat_natCast, List.getElem?_eq_getElem h2]; rfl
      rw [n1, n2] at e1
      have e2 : levelAt g i = levelAt h i := by
        by_cases z : levelAt g i = 0
        · by_cases z' : levelAt h i = 0
          · rw [z, z']
          · exact level_same vh vg t1.symm (fun s a b => (t2 s a (by omega)).symm) (fun j hj => (l2 j (by omega)).symm) b1 (by omega) z'
        · exact (level_same vg vh t1 t2 l2 b1 b2 z).symm
      rw [levelAt_get h1, levelAt_get h2] at e2
      exact Prod.ext e1 e2
  · apply List.ext_getElem l1
    intro i h1 h2
    have e := l2 i h1
    injection e with e _
    rw [List.getD_eq_getElem?_getD, List.getD_eq_getElem?_getD, List.getElem?_eq_getElem h1, List.getElem?_eq_getElem h2] at e
    exact side_inj (vg.bound.lev _ (List.getElem_mem h1)) (vh.bound.lev _ (List.getElem_mem h2)) e
end Go.Px.Scan

/-
  One text, one grammar: nonterminals and productions.
-/
namespace Go.Px.Scan
open Go.Px

variable {g h : Gr}
def addT (acc : List Txt) (x : Txt) : List Txt := if x ∈ acc then acc else acc ++ [x]
def dedT (l : List Txt) : List Txt := l.foldl addT []
theorem ded_map {f : Int → Txt} {S : Int → Prop} (hf : ∀ x y, S x → S y → f x = f y → x = y) : ∀ (l acc : List Int), (∀ x ∈ l, S x) → (∀ x ∈ acc, S x) → (l.foldl addL acc).map f = (l.map f).foldl addT (acc.map f)
  | [], acc, _, _ => rfl
  | x :: l, acc, hl, ha => by
    have hx := hl x (by simp)
    rw [List.foldl_cons, List.map_cons, List.foldl_cons, ded_map hf l (addL acc x) (fun y hy => hl y (by simp [hy])) (fun y hy => by
      rcases addL_mem.1 hy with h | h
      · exact ha y h
      · rw [h]; exact hx)]
    congr 1
    unfold addL addT
    by_cases hm : x ∈ acc
    · rw [if_pos hm, if_pos (List.mem_map.2 ⟨x, hm, rfl⟩)]
    · rw [if_neg hm, if_neg, List.map_append]
      · rfl
      · intro h
        obtain ⟨y, hy, e⟩ := List.mem_map.1 h
        exact hm (hf y x (ha y hy) hx e ▸ hy)
theorem ValidP.nons_ded (v : ValidP g) : g.nons.map tx = dedT ((g.prods.map (prodLine g)).map (·.1)) := by
  have hb := v.bound
  have ht := hb.t0
  have hrow := v.prods.row.1 v.sorted
  have hlen := v.prods.lefts
  rw [List.drop_zero, Nat.add_zero] at hlen
  have e1 : (leftsOf g.prods).map (symT g) = g.nons.map tx := by
    apply List.ext_getElem
    · simp [hlen]
    · intro i h1 h2
      rw [List.length_map] at h1 h2
      rw [List.getElem_map, List.getElem_map, hrow i h1, (v.non (s := (g.terms.length : Int) + i) (by omega) (by omega)).1]
      have : nonAt g ((g.terms.length : Int) + i) = g.nons[i] := by
        unfold nonAt
        rw [List.getD_eq_getElem?_getD, show ((g.terms.length : Int) + i - g.terms.length).toNat = i by omega, List.getElem?_eq_getElem h2]
        rfl
      rw [this]
  have e2 : leftsOf g.prods = (g.prods.map (·.1)).foldl addL [] := by unfold leftsOf; rw [List.foldl_map]
  have e3 := ded_map (f := symT g) (S := fun s => isSymP g s ∧ 1 ≤ s) (fun x y hx hy e => v.inj hx.1 hx.2 hy.1 hy.2 e) (g.prods.map (·.1)) [] (fun x hx => by
    obtain ⟨p, hp, rfl⟩ := List.mem_map.1 hx
    have := hb.left p hp
    exact ⟨this.1, by omega⟩) (by simp)
  rw [← e1, e2, e3, dedT]
  simp [prodLine, Function.comp_def]
theorem tx_map_inj : ∀ {a b : List ByteArray}, a.map tx = b.map tx → a = b
  | [], [], _ => rfl
  | [], _ :: _, e => by cases e
  | _ :: _, [], e => by cases e
  | x :: a, y :: b, e => by
    injection e with e1 e2
    rw [tx_inj e1, tx_map_inj e2]
theorem map_inj_on {α β : Type} {f : α → β} {S : α → Prop} (hf : ∀ x y, S x → S y → f x = f y → x = y) : ∀ {a b : List α}, (∀ x ∈ a, S x) → (∀ x ∈ b, S x) → a.map f = b.map f → a = b
  | [], [], _, _, _ => rfl
  | [], _ :: _, _, _, e => by cases e
  | _ :: _, [], _, _, e => by cases e
  | x :: a, y :: b, ha, hb, e => by
    injection e with e1 e2
    rw [hf x y (ha x (by simp)) (hb y (by simp)) e1, map_inj_on hf (fun z hz => ha z (by simp [hz])) (fun z hz => hb z (by simp [hz])) e2]
/-- Where a production's symbols end. -/
def endW (w : Txt) : Prop := w = [59] ∨ ∃ r, w = 37 :: r
theorem grade_end (g : Gr) (p : Int × List Int × Int) : ∃ a r, gradeW g p ++ [semiT] = a :: r ∧ endW a := by
  unfold gradeW
  split
  · exact ⟨_, _, rfl, Or.inl rfl⟩
  · split
    · exact ⟨_, _, rfl, Or.inr ⟨_, rfl⟩⟩
    · exact ⟨_, _, rfl, Or.inr ⟨_, rfl⟩⟩
theorem ValidP.no_end (v : ValidP g) {s : Int} (h0 : isSymP g s) (h1 : 1 ≤ s) : ¬ endW (symT g s) := by
  obtain ⟨_, c, r, e, n1, n2, n3, _⟩ := v.word h0 h1
  rw [e]
  rintro (e | ⟨r', e⟩)
  · injection e with e _; exact n3 e
  · injection e with e _; exact n1 e
theorem prod_same (v : ValidP g) {p q : Int × List Int × Int} (hpl : 1 ≤ p.1 ∧ isSymP g p.1) (hpr : ∀ s ∈ p.2.1, isSymP g s ∧ 1 ≤ s) (hpv : 0 ≤ p.2.2 ∧ p.2.2 ≤ g.levels.length) (hl : 1 ≤ q.1 ∧ isSymP g q.1) (hr : ∀ s ∈ q.2.1, isSymP g s ∧ 1 ≤ s) (hq : 0 ≤ q.2.2 ∧ q.2.2 ≤ g.levels.length) (e : prodLine g p = prodLine g q) : p = q := by
  injection e with e1 e2
  injection e2 with _ e2
  have l := v.inj hpl.2 hpl.1 hl.2 hl.1 e1
  obtain ⟨a, r, f1, f2⟩ := grade_end g p
  obtain ⟨a', r', f1', f2'⟩ := grade_end g q
  have e3 := e2
  rw [f1, f1'] at e3
  obtain ⟨m, ea, er⟩ := split_uniq (p := endW) (fun w hw => by obtain ⟨s, hs, rfl⟩ := List.mem_map.1 hw; exact v.no_end (hpr s hs).1 (hpr s hs).2) (fun w hw => by obtain ⟨s, hs, rfl⟩ := List.mem_map.1 hw; exact v.no_end (hr s hs).1 (hr s hs).2) f2 f2' e3
  have m := map_inj_on (f := symT g) (S := fun s => isSymP g s ∧ 1 ≤ s) (fun x y hx hy e => v.inj hx.1 hx.2 hy.1 hy.2 e) hpr hr m
  have eg : gradeW g p = gradeW g q := by
    have : gradeW g p ++ [semiT] = gradeW g q ++ [semiT] := by rw [f1, f1', ea, er]
    exact List.append_cancel_right this
  have lv : p.2.2 = q.2.2 := by
    unfold gradeW at eg
    rw [m] at eg
    by_cases c1 : p.2.2 = ownOf g q.2.1 <;> by_cases c2 : q.2.2 = ownOf g q.2.1
    · rw [c1, c2]
    · rw [if_pos c1, if_neg c2] at eg
      split at eg <;> cases eg
    · rw [if_neg c1, if_pos c2] at eg
      split at eg <;> cases eg
    · rw [if_neg c1, if_neg c2] at eg
      by_cases d1 : p.2.2 = 0 <;> by_cases d2 : q.2.2 = 0
      · rw [d1, d2]
      · rw [if_pos d1, if_neg d2] at eg; cases eg
      · rw [if_neg d1, if_pos d2] at eg; cases eg
      · rw [if_neg d1, if_neg d2] at eg
        injection eg with _ eg
        injection eg with eg _
        obtain ⟨s, x1, x2, x3, x4⟩ := v.first (x := p.2.2) (by omega) hpv.2
        obtain ⟨s', y1, y2, y3, y4⟩ := v.first (x := q.2.2) (by omega) hq.2
        rw [x1, y1] at eg
        have := v.inj (s := s) (s' := s') ⟨by omega, by omega⟩ x2 ⟨by omega, by omega⟩ y2 eg
        rw [← x4, ← y4, this]
  exact Prod.ext l (Prod.ext m lv)
theorem lines_same (vg : ValidP g) (vh : ValidP h) (e : linesG g = linesG h) : g = h := by
  obtain ⟨h1, h2, h3, h4⟩ := lines_parts e
  obtain ⟨e1, e2⟩ := terms_same vg vh h1 h2
  have e3 : g.nons = h.nons := tx_map_inj (by rw [vg.nons_ded, vh.nons_ded, h4])
  obtain ⟨ts, ns, ls, st, ps⟩ := g
  obtain ⟨ts', ns', ls', st', ps'⟩ := h
  obtain rfl : ts = ts' := e1
  obtain rfl : ns = ns' := e3
  obtain rfl : ls = ls' := e2
  have bg := vg.bound
  have bh := vh.bound
  have ht : 0 < ts.length := bg.t0
  have hs : st = st' := by
    injection h3 with _ h3
    injection h3 with h3 _
    have s1 : isSymP ⟨ts, ns, ls, st, ps⟩ st ∧ (ts.length : Int) ≤ st := bg.start
    have s2 : isSymP ⟨ts, ns, ls, st, ps⟩ st' ∧ (ts.length : Int) ≤ st' := bh.start
    exact vg.inj s1.1 (by have := s1.2; omega) s2.1 (by have := s2.2; omega) h3
  subst hs
  have hp : ps = ps' := by
    have h4 : ps.map (prodLine ⟨ts, ns, ls, st, ps⟩) = ps'.map (prodLine ⟨ts, ns, ls, st, ps⟩) := h4
    have l1 : ∀ p ∈ ps, isSymP ⟨ts, ns, ls, st, ps⟩ p.1 ∧ (ts.length : Int) ≤ p.1 := bg.left
    have l2 : ∀ p ∈ ps', isSymP ⟨ts, ns, ls, st, ps⟩ p.1 ∧ (ts.length : Int) ≤ p.1 := bh.left
    exact map_inj_on (f := prodLine ⟨ts, ns, ls, st, ps⟩) (S := fun p => (1 ≤ p.1 ∧ isSymP ⟨ts, ns, ls, st, ps⟩ p.1) ∧ (∀ s ∈ p.2.1, isSymP ⟨ts, ns, ls, st, ps⟩ s ∧ 1 ≤ s) ∧ (0 ≤ p.2.2 ∧ p.2.2 ≤ ls.length)) (fun x y hx hy e => prod_same vg hx.1 hx.2.1 hx.2.2 hy.1 hy.2.1 hy.2.2 e)
      (fun p hp => ⟨⟨by have := (l1 p hp).2; omega, (l1 p hp).1⟩, bg.right p hp, bg.plev p hp⟩) (fun p hp => ⟨⟨by have := (l2 p hp).2; omega, (l2 p hp).1⟩, bh.right p hp, bh.plev p hp⟩) h4
  rw [hp]
/-- Two grammars that may be, of one text, are one. -/
theorem text_one (vg : ValidP g) (vh : ValidP h) {t : Txt} (e1 : textO g = some t) (e2 : textO h = some t) : g = h :=
  lines_same vg vh (lines_uniq vg.lines vh.lines (by rw [← textO_lines vg.no_start e1, ← textO_lines vh.no_start e2]))
end Go.Px.Scan

