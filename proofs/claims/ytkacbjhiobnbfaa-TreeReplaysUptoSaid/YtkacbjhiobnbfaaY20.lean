/-
  Texts of this claim: Ee9, Ld7, RwTrReplays.
-/
import Derived.Test.YtkacbjhiobnbfaaY16
import Derived.Test.YtkacbjhiobnbfaaY19
import Derived.Test.YtkacbjhiobnbfaaY17
/-
  The document's answer for reach: Sentence is true of a row that is derived.
-/
namespace Go.Proofs.Ytkacbjhiobnbfaa
open Go.Px Go.Px.Scan Go.RowKit
set_option maxHeartbeats 1000000
set_option linter.unusedSimpArgs false
set_option linter.unusedVariables false
set_option maxRecDepth 100000
attribute [-go_sem] Builtin.append_ ref06_Sentence.b1_1 ref06_Sentence.b4 ref06_Sentence.b3 ref06_Sentence.b11 ref06_Sentence.b11_1 ref06_Sentence.b11_2 ref06_Sentence.b12 ref06_Sentence.b9
theorem Sentence_ct {w : World} {B : Nat} {vg vr : Value} {g : Gr} {row : List Int} (hg : rGram.atN w B vg g) (hrow : (rSlice rInt).at1 w B vr row) (hB : B ≤ w.heap.size) (hcl : ClosedP g) (hA : off g.prods g.prods.length ≤ 2000000) (hlen : row.length ≤ 12)
    (hder : DerS g.terms.length g.prods row [g.start] 0 row.length) :
    Ct Try.prog ref06_Sentence.id #[vg, vr] w fun v w' => v = .bool true ∧ Chg noB w w' := by
  refine ref06_Sentence.ct fun R hR => ?_
  obtain ⟨A1, c1, A2, c2, A3, c3, A4, c4, rfl, ⟨m1, m2, m3, m4⟩, hst, hc0, hgr⟩ := box_all hg hB
  obtain ⟨Aw, cw, rfl, hwl, hwm, _⟩ := slice_form hrow
  have s1 := (St.refl noB w).alloc #[.slice A1 g.terms.length c1, .slice A2 g.nons.length c2, .slice A3 g.levels.length c3, .int .i64 g.start, .slice A4 g.prods.length c4] 27
  unfold ref06_Sentence.run
  simp -dsimp [go_sem]
  generalize w.alloc (.cells #[.slice A1 g.terms.length c1, .slice A2 g.nons.length c2, .slice A3 g.levels.length c3, .int .i64 g.start, .slice A4 g.prods.length c4] 27) = w1 at s1 hc0 hgr ⊢
  generalize w.heap.size = q2 at s1 hgr ⊢
  have hbl1 : Below B w w1 := s1.chg.below hB fun _ _ => id
  have hsz1 : B ≤ w1.heap.size := by have := s1.chg.size; omega
  refine CALL_of (read_ct (rGram_below hg hbl1) (Rep.below hrow hbl1) hsz1 hcl hA hlen hder) ?_
  rintro _ w2 ⟨cb, w0, vT, vN, vP, P, at1, rfl, hc2, hP, s2, hch, hder2, hPA⟩
  obtain ⟨M, hMr⟩ : ∃ M, row.length + 1 = M := ⟨_, rfl⟩
  rw [hMr] at s2
  obtain ⟨AP, cP, eP, hPl, hPm, _⟩ := slice_form hP
  subst eP
  have k2 := ((s1.old hc2).old (s2.chg)).box 0 rfl
  simp [boxAt] at k2
  have k2 := k2.1.2.2.2.1
  have hst0 : (g.terms.length : Int) ≤ g.start := by have := hcl.prods.s0; omega
  obtain ⟨s9, hs9, e1, e2, e3⟩ := (chart_sent hch (Nat.le_refl _) hder2 hst0).2 rfl
  have hiM : row.length < M := by omega
  unfold ref06_Sentence.b1_1
  simp -dsimp [go_sem]
  unfold ref06_Sentence.b4
  refine ref06_Sentence.l6_intro _ _ _ _ _ _ (fun y w' => ∃ k : Nat, y = .int .i64 k ∧ k ≤ (at1.getD row.length []).length ∧ (∀ j t, j < k → (at1.getD row.length [])[j]? = some t → ¬ (t.2.2 = 0 ∧ t.2.1 = (rightOf P t).length ∧ Go.Px.Scan.leftOf P t = g.start)) ∧ Chg noB w2 w') (fun y _ => (at1.getD row.length []).length - iv y)
    ⟨0, rfl, by omega, by omega, Chg.refl _ _⟩ ?_
  rintro _ w3 ⟨k, rfl, hk, hno, hc3⟩ C hC
  have s3 := s2.old hc3
  obtain ⟨⟨ga, ac, hrd⟩, hlen3, hpo⟩ := chart_rd s3 (k := 0) rfl (by omega)
  have hle := (hpo row.length).len
  have hAM : off P P.length * M ≤ 26000000 := by have := Nat.mul_le_mul hPA (show M ≤ 13 by omega); omega
  obtain ⟨A, c, ha, hcells⟩ := hrd.pl row.length hiM
  have hra := hrd.a
  simp -dsimp [go_sem, hra, hiM, ha]
  refine SPL_intro (fun p1 => ?_) (fun p1 => ?_) <;> simp at p1
  · obtain ⟨t, ht⟩ : ∃ t, (at1.getD row.length [])[k]? = some t := by
      rw [List.getD_eq_getElem?_getD]
      exact ⟨_, List.getElem?_eq_getElem p1⟩
    obtain ⟨b, rfl, d1, d2, d3⟩ := hcells k t ht
    have hot := (hpo row.length).ok t (List.mem_of_getElem? ht)
    have s4 := s3.alloc #[.int .i64 t.1, .int .i64 t.2.1, .int .i64 t.2.2] 137
    have h4 := (Chg.refl noB w3).alloc (.cells #[.int .i64 t.1, .int .i64 t.2.1, .int .i64 t.2.2] 137)
    have k4 := (hc3.trans h4).at k2 id
    have hpr4 := h4.at hrd.pr id
    obtain ⟨bt, ot, vt, eT, hbt, t1, t2, t3, hrt, _⟩ := prods_at (Rep.below hP (s4.chg.below (Nat.le_refl _) fun _ _ => id)) hot.1
    subst eT
    obtain ⟨Ar, cr, rfl, hrl, hrm, _⟩ := slice_form hrt
    have z4 := s4.box 1 rfl
    simp only [boxAt] at z4
    have z40 := z4.1.1
    obtain ⟨rt, er⟩ : ∃ rt, P[t.1]'hot.1 = rt := ⟨_, rfl⟩
    have ert : rightOf P t = rt.2.1 := by rw [← er]; have h := hot.1; simp [rightOf, h]
    have elt : Go.Px.Scan.leftOf P t = rt.1 := by rw [← er]; have h := hot.1; simp [Go.Px.Scan.leftOf, h]
    rw [er] at t1 t2 t3 hrt hrl
    have wk : IntKind.i64.wrap ((k : Int) + 1) = (k : Int) + 1 := IntWalk.i64_in _ (by rw [List.getD_eq_getElem?_getD] at hle; omega)
    have hgo : ∀ w', Chg noB w2 w' → ¬ (t.2.2 = 0 ∧ t.2.1 = rt.2.1.length ∧ rt.1 = g.start) → ref06_Sentence.b9 R C (.int .i64 k) w' := by
      intro w' h1 h2
      unfold ref06_Sentence.b9
      simp -dsimp [go_sem, wk]
      refine hC _ _ ⟨k + 1, by simp, by rw [List.getD_eq_getElem?_getD]; omega, fun j t' hj ht' => ?_, h1⟩ (by simp [iv]; rw [List.getD_eq_getElem?_getD] at *; omega)
      rcases Nat.lt_or_ge j k with h5 | h5
      · exact hno j t' h5 ht'
      · have : j = k := by omega
        subst this
        rw [ht] at ht'; injection ht' with ht'; subst ht'
        rw [ert, elt]; exact h2
    have hz := (Chg.refl noB (w3.alloc (.cells #[.int .i64 t.1, .int .i64 t.2.1, .int .i64 t.2.2] 137))).alloc (.cells #[.int .i64 0, .slice none 0 0, .int .i64 0] 47)
    have t1z := hz.at t1 id
    have t2z := hz.at t2 id
    have t3z := hz.at t3 id
    have z40z := hz.at z40 id
    have hprz := hz.at hpr4 id
    unfold ref06_Sentence.b11
    simp -dsimp [go_sem, t1z, t2z, t3z, z40z, hprz, hra, hiM, ha, p1, d1, d2, d3, hpr4, hot.1, z40, t1, t2, t3]
    have s5 := (s4.alloc #[.int .i64 rt.1, .slice Ar rt.2.1.length cr, .int .i64 rt.2.2] 47).old ((Chg.refl noB _).drew)
    have hsz : (w3.alloc (.cells #[.int .i64 t.1, .int .i64 t.2.1, .int .i64 t.2.2] 137)).heap.size = w3.heap.size + 1 := by simp
    rw [hsz] at s5
    have k5 := ((hc3.trans h4).trans ((Chg.refl noB (w3.alloc (.cells #[.int .i64 t.1, .int .i64 t.2.1, .int .i64 t.2.2] 137))).alloc (.cells #[.int .i64 rt.1, .slice Ar rt.2.1.length cr, .int .i64 rt.2.2] 47))).drew
    clear hz t1z t2z t3z z40z hprz z40 z4 s4 h4 k4 hpr4 t1 t2 t3
    generalize ((w3.alloc (.cells #[.int .i64 t.1, .int .i64 t.2.1, .int .i64 t.2.2] 137)).alloc (.cells #[.int .i64 rt.1, .slice Ar rt.2.1.length cr, .int .i64 rt.2.2] 47)).drew = w5 at s5 k5 ⊢
    have k2' := k5.at k2 id
    have y5 := s5.box 1 rfl
    have z5 := s5.box 2 rfl
    simp [boxAt] at y5 z5
    unfold ref06_Sentence.b12
    refine SPL_intro (fun p2 => ?_) (fun p2 => ?_)
    · have p2' : t.2.2 = 0 := by simpa using p2
      unfold ref06_Sentence.b11_2
      simp -dsimp [go_sem, y5, z5]
      refine SPL_intro (fun p3 => ?_) (fun p3 => ?_) <;> simp at p3
      · unfold ref06_Sentence.b11_1
        simp -dsimp [go_sem, y5, z5, k2']
        unfold ref06_Sentence.b12
        refine SPL_intro (fun p4 => ?_) (fun p4 => ?_) <;> simp at p4
        · exact hR _ _ ⟨rfl, ((s1.chg.trans hc2).trans s2.chg).trans k5⟩
        · exact hgo _ k5 fun h => p4 h.2.2
      · unfold ref06_Sentence.b12
        simp -dsimp [go_sem]
        exact hgo _ k5 fun h => p3 (by exact_mod_cast h.2.1)
    · have p2' : ¬ t.2.2 = 0 := by simpa using p2
      simp -dsimp [go_sem]
      exact hgo _ k5 fun h => p2' h.1
  · exfalso
    have hke : k = (at1.getD row.length []).length := by
      rw [List.getD_eq_getElem?_getD] at hk ⊢; omega
    obtain ⟨j, hj, rfl⟩ := List.getElem_of_mem hs9
    exact hno j _ (by rw [hke]; exact hj) (List.getElem?_eq_getElem hj) ⟨e1, e2, e3⟩
end Go.Proofs.Ytkacbjhiobnbfaa

/-
  TreeReplays.
-/
namespace Go.Proofs.Ytkacbjhiobnbfaa
open Go.Px Go.Px.Scan Go.RowKit
set_option maxHeartbeats 1000000
set_option linter.unusedSimpArgs false
set_option linter.unusedVariables false
set_option maxRecDepth 100000
attribute [-go_sem] Builtin.append_ law20_TreeReplays.b9 law20_TreeReplays.b10 law20_TreeReplays.b7_1 law20_TreeReplays.b7 law20_TreeReplays.b29 law20_TreeReplays.b28_1 law20_TreeReplays.b28 law20_TreeReplays.b32 law20_TreeReplays.b3 law20_TreeReplays.b55 law20_TreeReplays.b54_1 law20_TreeReplays.b54_2 law20_TreeReplays.b54 law20_TreeReplays.b1_1 law20_TreeReplays.b1_2 law20_TreeReplays.b1_3 law20_TreeReplays.b1_4 law20_TreeReplays.b1_5
theorem le_sum_mem : ∀ {l : List Nat} {x : Nat}, x ∈ l → x ≤ l.sum
  | [], _, h => by cases h
  | a :: l, x, h => by
    rw [List.sum_cons]
    rcases List.mem_cons.1 h with rfl | h
    · omega
    · have := le_sum_mem h; omega
section
variable {W : World} {q : Nat} {g : Gr} {A1 A2 A3 A4 An Aw : Option Addr} {c1 c2 c3 c4 cn cw : Nat} {l : List Nd} {root : Int} {row : List Int}
theorem rep_more (E : TkE W q g A1 A2 A3 A4 c1 c2 c3 c4 l An cn root row Aw cw) {F : Fo} (hD : Deriv g l root row F) (hd : deriveB g l root row = true) {R : Ending → World → Prop} {w : World} (hc : Chg noB W w)
    (hR : ∀ w', Chg noB W w' → R (.returned (.bool true)) w') :
    law20_TreeReplays.b7 R (.slice An l.length cn) (.int .i64 root) (.slice Aw row.length cw) (.pointer (some ⟨q, 0, none⟩)) w := by
  have hN3 : l.length ≤ 3000000000000 := by have := E.hN; unfold maxBytes at this; omega
  have hrl := E.rowl
  unfold law20_TreeReplays.b7
  refine row_copy (E.rr hc) E.rowl fun a c w1 s1 => ?_
  simp -dsimp [go_sem]
  refine s1.append1 0 rfl uInts iInt rfl (by decide) (news := [.int .i64 1]) rfl (by simp [Value.oneCell']) (by unfold maxLen; omega) (by unfold maxBytes; omega) ?_
  intro gb cap w2 s2
  have e2 : row.flatMap cInt ++ [Value.int .i64 1] = intV (row ++ [1]) := by rw [flat_int]; simp [intV]
  have s2 : St noB w w2 [rowC 3 1 (some ⟨gb, 0, none⟩) (row ++ [1]).length cap (intV (row ++ [1]))] := by
    rw [← e2, List.length_append]
    exact s2
  have hin2 : ∀ x ∈ row ++ [1], inI64 x := by
    intro x hx
    rcases List.mem_append.1 hx with hx | hx
    · exact ints_in E.hrow x hx
    · simp at hx; subst hx; unfold inI64; decide
  have hc2 := hc.trans s2.chg
  obtain ⟨k0, k1, k2, k3, k4⟩ := E.gk hc2
  simp -dsimp [go_sem, k0, k1, k2, k3, k4]
  refine CALL_of (Copy_ct (E.rg hc2) (Nat.le_refl _) E.fit) ?_
  rintro v3 w3 ⟨hr3, hc3⟩
  unfold law20_TreeReplays.b7_1
  refine CALL_of (refNdCopy_ct (E.rn (hc2.trans hc3)) (Nat.le_refl _) E.hN E.hkd) ?_
  rintro _ w4 ⟨ca, cc, vs, rfl, s4⟩
  have hc4 := s4.chg
  have hn4 := ndC_at s4 0 1 rfl rfl (ndIn_of E.hn)
  have hrw := int_rd (s2.old (hc3.trans hc4)) 0 rfl hin2
  have ee : (.slice (some ⟨gb, 0, none⟩) (row.length + 1) cap : Value) = .slice (some ⟨gb, 0, none⟩) (row ++ [1]).length cap := by simp
  rw [ee]
  refine CALL_of (Derives_ct (rGram_up (rGram_below hr3 (hc4.below (Nat.le_refl _) fun _ _ => id)) hc4.size) hn4 hrw (Nat.le_refl _) hN3 E.hkd E.hr) ?_
  rintro _ w5 ⟨rfl, hc5⟩
  rw [hD.more 1]
  simp -dsimp [go_sem]
  refine tok_loop E hD hd (((hc2.trans hc3).trans hc4).trans hc5) fun w6 hc6 => ?_
  unfold law20_TreeReplays.b9
  refine CALL_of (awake20_ct w6) ?_
  rintro _ w7 ⟨rfl, hc7⟩
  exact hR _ (hc6.trans hc7)
theorem rep_sent (E : TkE W q g A1 A2 A3 A4 c1 c2 c3 c4 l An cn root row Aw cw) {F : Fo} (hD : Deriv g l root row F) (hd : deriveB g l root row = true) (hA : off g.prods g.prods.length ≤ 2000000) {R : Ending → World → Prop} {w : World} (hc : Chg noB W w)
    (hR : ∀ w', Chg noB W w' → R (.returned (.bool true)) w') :
    law20_TreeReplays.b28 R (.slice An l.length cn) (.int .i64 root) (.slice Aw row.length cw) (.pointer (some ⟨q, 0, none⟩)) w := by
  have hrl := E.rowl
  obtain ⟨k0, k1, k2, k3, k4⟩ := E.gk hc
  unfold law20_TreeReplays.b28
  simp -dsimp [go_sem]
  refine SPL_intro (fun p1 => ?_) (fun p1 => ?_)
  · have p1' : row.length ≤ 12 := by
      have : (row.length : Int) ≤ 12 := by simpa using p1
      omega
    unfold law20_TreeReplays.b28_1
    simp -dsimp [go_sem, k0, k1, k2, k3, k4]
    refine CALL_of (Sentence_ct (E.rg hc) (E.rr hc) (Nat.le_refl _) hD.closed hA p1' hD.ders) ?_
    rintro _ w2 ⟨rfl, hc2⟩
    unfold law20_TreeReplays.b29
    simp -dsimp [go_sem]
    exact rep_more E hD hd (hc.trans hc2) hR
  · unfold law20_TreeReplays.b29
    simp -dsimp [go_sem]
    exact rep_more E hD hd hc hR
end
theorem TreeReplays_ct {w : World} {B : Nat} {vg nv vr : Value} {l : List Nd} {g : Gr} {root : Int} {row : List Int} (hg : rGram.atN w B vg g) (h : (rSlice rNd).at1 w B nv l) (hrow : (rSlice rInt).at1 w B vr row) (hB : B ≤ w.heap.size) (hfit : GFit g) (hN : l.length * 48 ≤ maxBytes) (hkd : ∀ x ∈ l, x.2.2.2.length * 8 ≤ maxBytes) (hr : inI64 root) (hA : off g.prods g.prods.length ≤ 2000000) (hrl : row.length ≤ 2000000) (hll : l.length ≤ 2000000) :
    Ct Try.prog law20_TreeReplays.id #[vg, nv, .int .i64 root, vr] w fun v w' => v = .bool true ∧ Chg noB w w' := by
  refine law20_TreeReplays.ct fun R hR => ?_
  have hN3 : l.length ≤ 3000000000000 := by unfold maxBytes at hN; omega
  obtain ⟨A1, c1, A2, c2, A3, c3, A4, c4, rfl, h1, h2, h3, hst, h4, k1, k2, k3, k4⟩ := (rGram_open hg).ex
  obtain ⟨An, cn, rfl, _⟩ := slice_form h
  obtain ⟨Aw, cw, rfl, _⟩ := slice_form hrow
  have s0 := (St.refl noB w).alloc #[.slice A1 g.terms.length c1, .slice A2 g.nons.length c2, .slice A3 g.levels.length c3, .int .i64 g.start, .slice A4 g.prods.length c4] 27
  have bl : ∀ {w'}, Chg noB w w' → Below B w w' := fun hc => hc.below hB fun _ _ => id
  unfold law20_TreeReplays.run
  simp -dsimp [go_sem]
  generalize w.heap.size = q at s0 ⊢
  generalize w.alloc (.cells #[.slice A1 g.terms.length c1, .slice A2 g.nons.length c2, .slice A3 g.levels.length c3, .int .i64 g.start, .slice A4 g.prods.length c4] 27) = w1 at s0 ⊢
  have y0 := (s0.box 0 rfl).1
  have E : TkE w1 q g A1 A2 A3 A4 c1 c2 c3 c4 l An cn root row Aw cw :=
    ⟨y0.1, y0.2.1, y0.2.2.1, y0.2.2.2.1, y0.2.2.2.2.1, rGram_up (rGram_below hg (bl s0.chg)) (by have := s0.chg.size; omega), Rep.up (Rep.below h (bl s0.chg)) (by have := s0.chg.size; omega), Rep.up (Rep.below hrow (bl s0.chg)) (by have := s0.chg.size; omega), hfit, hN, hkd, hr, hrl⟩
  clear y0
  have hR' : ∀ w', Chg noB w1 w' → R (.returned (.bool true)) w' := fun w' hc => hR _ _ ⟨rfl, s0.chg.trans hc⟩
  have hin := ndIn_of E.hn
  refine CALL_of (Copy_ct (E.rg (Chg.refl _ _)) (Nat.le_refl _) E.fit) ?_
  rintro v3 w3 ⟨hr3, hc3⟩
  refine CALL_of (refNdCopy_ct (E.rn hc3) (Nat.le_refl _) E.hN E.hkd) ?_
  rintro _ w4 ⟨ca, cc, vs, rfl, s4⟩
  have hc4 := hc3.trans s4.chg
  unfold law20_TreeReplays.b1_5
  refine row_copy (E.rr hc4) E.rowl fun a c w5 s5 => ?_
  have hc5 := hc4.trans s5.chg
  have hn5 := ndC_at (s4.old s5.chg) 0 1 rfl rfl hin
  rw [flat_int] at s5
  have hrw := int_rd s5 0 rfl (ints_in E.hrow)
  refine CALL_of (Derives_ct (rGram_up (rGram_below hr3 ((s4.chg.trans s5.chg).below (Nat.le_refl _) fun _ _ => id)) (s4.chg.trans s5.chg).size) hn5 hrw (Nat.le_refl _) hN3 E.hkd E.hr) ?_
  rintro _ w6 ⟨rfl, hc6⟩
  have hc6 := hc5.trans hc6
  unfold law20_TreeReplays.b1_4
  cases hd : deriveB g l root row with
  | false =>
    simp -dsimp [go_sem]
    refine CALL_of (awake20_ct w6) ?_
    rintro _ w7 ⟨rfl, hc7⟩
    exact hR' _ (hc6.trans hc7)
  | true =>
  obtain ⟨F, hD⟩ := derive_of hd
  simp -dsimp [go_sem]
  clear s4 s5 hn5 hrw hr3
  unfold law20_TreeReplays.b1_3
  refine CALL_of (refNdCopy_ct (E.rn hc6) (Nat.le_refl _) E.hN E.hkd) ?_
  rintro _ w7 ⟨ca7, cc7, vs7, rfl, s7⟩
  refine CALL_of (Frontier_ct (ndC_at s7 0 1 rfl rfl hin) (Nat.le_refl _) hN3 E.hkd E.hr) ?_
  intro v8 w8 hp
  rw [hD.front] at hp
  obtain ⟨fa, fc, rfl, s8⟩ := hp
  have hc8 := (hc6.trans s7.chg).trans s8.chg
  unfold law20_TreeReplays.b1_2
  simp -dsimp [go_sem]
  refine CALL_of (refNdCopy_ct (E.rn hc8) (Nat.le_refl _) E.hN E.hkd) ?_
  rintro _ w9 ⟨ca9, cc9, vs9, rfl, s9⟩
  refine CALL_of (Rightmost_ct (ndC_at s9 0 1 rfl rfl hin) (Nat.le_refl _) hN3 E.hkd E.hr) ?_
  intro v10 w10 hp
  have hrin := rm_in hin hD.right
  rw [hD.right] at hp
  obtain ⟨ra, rc, rfl, s10⟩ := hp
  have hc10 := (hc8.trans s9.chg).trans s10.chg
  have s8' := s8.old (s9.chg.trans s10.chg)
  obtain ⟨rs, hrs⟩ : ∃ rs, prodsOf l F.preR = rs := ⟨_, rfl⟩
  rw [hrs] at s10 hrin ⊢
  unfold law20_TreeReplays.b1_1
  simp -dsimp [go_sem]
  unfold law20_TreeReplays.b54
  simp -dsimp [go_sem]
  unfold law20_TreeReplays.b54_2
  refine CALL_of (Ints_ct (int_rd s8' 0 rfl (ints_in E.hrow)) (E.rr hc10) (Nat.le_refl _)) ?_
  rintro _ w11 ⟨rfl, hc11⟩
  have s11 := s10.old hc11
  have hc11 := hc10.trans hc11
  obtain ⟨j0, j1, j2, j3, j4⟩ := E.gk hc11
  simp -dsimp [go_sem]
  unfold law20_TreeReplays.b54_1
  simp -dsimp [go_sem, j0, j1, j2, j3, j4]
  refine CALL_of (refClosed_ct (E.rg hc11) (Nat.le_refl _)) ?_
  rintro _ w12 ⟨rfl, hc12⟩
  have s12 := s11.old hc12
  have hc12 := hc11.trans hc12
  rw [closedB_iff.2 hD.closed]
  obtain ⟨i0, i1, i2, i3, i4⟩ := E.gk hc12
  simp -dsimp [go_sem]
  unfold law20_TreeReplays.b55
  simp -dsimp [go_sem]
  unfold law20_TreeReplays.b3
  have s13 := s12.lit 3 1 1 #[.int .i64 g.start] (by simp [maxLen]) rfl
  have hnow : NowR (w12.alloc (.cells #[.int .i64 g.start] 3)) (.slice (some ⟨w12.heap.size, 0, none⟩) 1 1) [g.start] := by
    refine ⟨w12.heap.size, 1, rfl, Nat.le_refl _, by simp [maxLen], by simp, fun i x hx => ?_⟩
    match i, hx with
    | 0, hx =>
      injection hx with hx; subst hx
      obtain ⟨gb, e1, e2, _⟩ := s13.rowAt 1 rfl (j := 0) (by simp)
      injection e1 with e1; injection e1 with e1; subst e1
      exact ⟨e2, hst⟩
    | i + 1, hx => simp at hx
  have hc13 := hc12.trans ((Chg.refl noB w12).alloc (.cells #[.int .i64 g.start] 3))
  simp -dsimp [go_sem, i3]
  generalize w12.alloc (.cells #[.int .i64 g.start] 3) = w13 at s13 hnow hc13 ⊢
  obtain ⟨m0, m1, m2, m3, m4⟩ := E.gk hc13
  have hr4 : (rSlice rPr).at1 w13 w13.heap.size (.slice A4 g.prods.length c4) g.prods := by obtain ⟨_, _, _, _, _, _, _, _, e, _, _, _, _, h5, _⟩ := (rGram_open (E.rg hc13)).ex; injection e with e; injection e with e; simp at e; rw [e.2.2.2.1, e.2.2.2.2]; exact h5
  have hrsl : rs.length ≤ 2000000 := by
    have e2 := leaf_prods (l := l) F.pre
    have e3 : (prodsOf l F.preR).length = (prodsOf l F.pre).length := by
      unfold prodsOf
      rw [List.length_map, List.length_map]
      exact (F.perm.filter _).length_eq
    have := hD.len
    rw [← hrs]; omega
  have hpl : ∀ p ∈ g.prods, p.2.1.length ≤ 2000000 := fun p hp => by
    have := le_sum_mem (List.mem_map.2 ⟨p, hp, rfl⟩ : p.2.1.length + 1 ∈ g.prods.map fun p => p.2.1.length + 1)
    rw [off_sum] at hA
    omega
  have ER : RpE w13 q g A1 A4 c1 c4 row rs Aw ra cw rc := ⟨m0, m4, hr4, E.rr hc13, int_rd s13 0 rfl hrin, hD.closed.left, hrl, hrsl, hpl⟩
  have hst0 := hD.start
  rw [hrs] at hst0
  refine replay ER hst0 hnow fun w14 hc14 => ?_
  exact rep_sent E hD hd hA (hc13.trans hc14) hR'
end Go.Proofs.Ytkacbjhiobnbfaa

/-
  The law TreeReplays returns true for every grammar, all nodes, every root and row, and nothing that was there before the call has turned: where what it reads is of bulk at most 1048576.
-/
namespace Go.Proofs.Ytkacbjhiobnbfaa.treeReplays
open Go.Px Go.ChangeShapes Go.WideShapes Go.ChangeAt Go.RowKit Go.Px.Scan

set_option maxRecDepth 100000 in
theorem contract (H : Type) (enc : TypeId × Value → H) (W : World) (base : Nat) (args : Array Value) (ds gs : List (DataW H)) (before : List MemPlace)
    (hval : ∀ (j : Nat) t v, Try.f10.params[j]? = some t → args[j]? = some v → Value.okWide Try.prog W .any base t v)
    (hW : DataW.Whole enc Try.prog Try.f10.params.toList Rows.treeReplaysSpec.vars false W args.toList ds gs before)
    (hup : Rows.uptoSmall H (ds ++ gs) = true)
    (hwt : (DataW.weightsEach Try.prog (Try.f10.params.toList ++ (Rows.OpenSpec.upto Rows.treeReplaysSpec).bare.plain.varTypes Try.prog) (ds ++ gs)).all (· ≤ reachBytes) = true) :
    Calls Try.prog 10 args W fun e W' => ∃ v, e = .returned v ∧ Rows.treeReplaysSpec.post enc Try.prog Try.f10 false true false false W args v W' := by
  have hW' := hW
  obtain ⟨p, q, hA0, hV, rfl, hfz, hnd⟩ := hW
  have hA : DataW.TrodAll enc Try.prog W 0 (fun _ => true) true Try.f10.params.toList args.toList ds p := hA0
  rw [Try.params10] at hA hval hwt
  obtain ⟨v0, vs0, d0, ds0, p0, q0, hargs0, rfl, rfl, h0, r0⟩ := trodAll_cons hA
  obtain ⟨v1, vs1, d1, ds1, p1, q1, hargs1, rfl, rfl, h1, r1⟩ := trodAll_cons r0
  obtain ⟨v2, vs2, d2, ds2, p2, q2, hargs2, rfl, rfl, h2, r2⟩ := trodAll_cons r1
  obtain ⟨v3, vs3, d3, ds3, p3, q3, hargs3, rfl, rfl, h3, r3⟩ := trodAll_cons r2
  obtain ⟨rfl, rfl, rfl⟩ := trodAll_nil r3
  obtain rfl : args = #[v0, v1, v2, v3] := by cases args; simp_all
  obtain ⟨rfl, rfl⟩ := trodVars_none hV
  have hwt' : (DataW.weightsEach Try.prog ([27, 49, 3, 24] ++ []) ([d0, d1, d2, d3] ++ [])).all (· ≤ reachBytes) = true := hwt
  simp only [List.append_nil, DataW.weightsEach, List.all_append, Bool.and_eq_true] at hwt'
  obtain ⟨cs0, ec0, _⟩ := okWide_struct Try.underlying27 (hval 0 27 v0 rfl rfl)
  obtain ⟨a0, ha0, hf0, hb0⟩ := open_argN opens27 ec0 h0
  have hf0 := hf0 hwt'.1
  have ec1 : v1.cells = #[v1] := by obtain ⟨_, _, _, rfl⟩ := okWide_slice Try.underlying49 (hval 1 49 v1 rfl rfl); rfl
  obtain ⟨a1, ha1, hf1, hb1⟩ := open_arg1 opens49 ec1 h1
  have hf1 := hf1 hwt'.2.1
  have ec2 : v2.cells = #[v2] := by obtain ⟨_, rfl⟩ := okWide_int Try.underlying3 (hval 2 3 v2 rfl rfl); rfl
  obtain ⟨a2, ha2, hf2, hb2⟩ := open_arg1 opens3 ec2 h2
  have hf2 := hf2 hwt'.2.2.1
  obtain ⟨rfl, hs2⟩ := int_at1 ha2
  have ec3 : v3.cells = #[v3] := by obtain ⟨_, _, _, rfl⟩ := okWide_slice Try.underlying24 (hval 3 24 v3 rfl rfl); rfl
  obtain ⟨a3, ha3, hf3, hb3⟩ := open_arg1 opens24 ec3 h3
  have hf3 := hf3 hwt'.2.2.2
  have hup' : Rows.uptoBulkAll ([d0, d1, d2, d3] ++ []) ≤ 1048576 := of_decide_eq_true hup
  have hn0 := hb0 _ _ bulkOf
  have hn1 := hb1 _ _ bulkOf
  have hn2 := hb2 _ _ bulkOf
  have hn3 := hb3 _ _ bulkOf
  simp only [List.cons_append, List.nil_append, bulkOf.allc, bulkOf.all0] at hup'
  obtain ⟨hN1, hk1⟩ := nd_fit hf1
  have hA0 : off a0.prods a0.prods.length ≤ 2000000 := by have := bulk_off (g := a0) (Nat.le_refl _); omega
  have hL3 : a3.length ≤ 2000000 := by have := bulk_ints a3; omega
  have hL1 : a1.length ≤ 2000000 := by have := bulk_nds a1; omega
  refine (TreeReplays_ct ha0 ha1 ha3 (Nat.le_refl _) (gram_fit hf0) hN1 hk1 hs2 hA0 hL3 hL1).2.mono fun e W' he => ?_
  cases e with
  | returned v =>
    obtain ⟨rfl, hb⟩ := he
    exact ⟨_, rfl, law_post (t := 4) (by kernel_rfl) (fun t ht => by
      rw [Try.params10] at ht
      simp only [List.mem_cons, List.not_mem_nil, or_false] at ht
      rcases ht with rfl | rfl | rfl | rfl <;> exact ⟨by kernel_rfl, by decide +kernel⟩) rfl Try.underlying4 rfl hW' rfl rfl rfl (hb.below (Nat.le_refl _) fun _ _ => id)⟩
  | _ => exact he.elim

theorem reads (os : Os) {H : Type} (enc : TypeId × Value → H) : ∃ places, DataW.whole enc Try.prog ((World.holding Try.prog os ⟨#[], #[], []⟩).forCall (fun _ _ => 0) ⟨#[], #[.agg #[.slice none 0 0, .slice none 0 0, .slice none 0 0, .int .i64 0, .slice none 0 0], .slice none 0 0, .int .i64 0, .slice none 0 0], []⟩).memory Try.f10.params.toList Rows.treeReplaysSpec.vars false #[.agg #[.slice none 0 0, .slice none 0 0, .slice none 0 0, .int .i64 0, .slice none 0 0], .slice none 0 0, .int .i64 0, .slice none 0 0].toList 8 = some ([.agg [.nil, .nil, .nil, .lit (.int .i64 0), .nil], .nil, .lit (.int .i64 0), .nil], [], places) :=
  ⟨[], by kernel_rfl⟩

set_option maxRecDepth 100000 in
theorem lifted (os : Os) (started : os.Started) (H : Type) (enc : TypeId × Value → H) (F : Stop.Interp) :
    ReturnsInHanded {} Try.checked os 10 .any ((Rows.OpenSpec.upto Rows.treeReplaysSpec).preRow enc Try.prog Try.f10 Rows.treeReplaysUptoRow.domain false Rows.treeReplaysUptoRow.laid) (((Rows.OpenSpec.upto Rows.treeReplaysSpec).at F).post enc Try.prog Try.f10 false true false false) := by
  obtain ⟨places, hx⟩ := reads os enc
  refine returnsInHanded_of_row (C := Try.checked) (s := Rows.OpenSpec.upto Rows.treeReplaysSpec) own started (by kernel_rfl) Try.func10
    (witness_row_at (enc := enc) (C := Try.checked) false (World.holding Try.prog os ⟨#[], #[], []⟩) #[.agg #[.slice none 0 0, .slice none 0 0, .slice none 0 0, .int .i64 0, .slice none 0 0], .slice none 0 0, .int .i64 0, .slice none 0 0] rfl (by kernel_rfl) (by kernel_rfl) (by kernel_rfl)
      (OpenSpec.preRow_of_cond 8 hx (by kernel_rfl) (fun k hk => by cases hk; kernel_rfl) (by kernel_rfl) (laid_none _ _))) ?_
  intro W base args ds gs before hval hW _ hcond hwt _ _ _
  exact contract H enc W base args ds gs before hval hW (hcond _ rfl) hwt

theorem said : Rows.TreeReplaysUptoSaid :=
  OpenClaim.holds_of_cond 10 Try.f10 rfl rfl rfl rfl rfl rfl rfl ⟨rfl, rfl, rfl, rfl, rfl⟩ rfl rfl rfl rfl rfl (by kernel_rfl) Try.func10 (by kernel_rfl)
    (of_decide_eq_true (by kernel_rfl)) (by unfold Func.isWrapper; first | (rw [if_pos (by decide +kernel)]; kernel_rfl) | (rw [if_neg (by decide +kernel)]; exact ⟨rfl, rfl⟩))
    (fun os started H enc _ F => by rw [OpenClaim.pre_eq_preRow]; exact lifted os started H enc F)

end Go.Proofs.Ytkacbjhiobnbfaa.treeReplays

namespace Go.Proofs.Ytkacbjhiobnbfaa
theorem TreeReplays_holds : Rows.TreeReplaysUptoSaid := treeReplays.said
end Go.Proofs.Ytkacbjhiobnbfaa
#print axioms Go.Proofs.Ytkacbjhiobnbfaa.TreeReplays_holds
