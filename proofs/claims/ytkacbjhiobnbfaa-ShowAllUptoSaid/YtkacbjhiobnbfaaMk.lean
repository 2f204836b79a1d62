/-
  ShowAll.
-/
import Derived.Test.YtkacbjhiobnbfaaMi
namespace Go.Px.Scan
open Go.Px
theorem namesT_rowT (g : Gr) (l : List Int) : namesT g l = if l = [] then [] else 32 :: rowT g l := by
  cases l with
  | nil => rfl
  | cons x r => rw [if_neg (by simp), rowT, namesT_cons]; rfl
theorem rowT_len {g : Gr} (h : EBound g) (l : List Int) : (rowT g l).length ≤ 19 * l.length := by
  have := namesT_len h l
  unfold rowT
  rw [List.length_drop]; omega
/-- A rule's text of its parts. -/
theorem rule_parts (g : Gr) (p : Int × List Int × Int) : ruleT g p (-1) = symT g p.1 ++ [32, 45, 62] ++ (if p.2.1 = [] then [] else 32 :: rowT g p.2.1) := by
  have h0 : (-1 : Int).toNat = 0 := rfl
  unfold ruleT
  rw [h0, List.take_zero, List.drop_zero, if_neg (by decide), namesT_rowT g p.2.1]
  simp [namesT, wordsT]
theorem item_parts (g : Gr) (p : Int × List Int × Int) (d : Nat) : ruleT g p d = symT g p.1 ++ [32, 45, 62] ++ (if p.2.1.take d = [] then [] else 32 :: rowT g (p.2.1.take d)) ++ [32, 46] ++ (if p.2.1.drop d = [] then [] else 32 :: rowT g (p.2.1.drop d)) := by
  unfold ruleT
  rw [Int.toNat_natCast, if_pos (by omega), namesT_rowT, namesT_rowT]
  simp [wordsT]
theorem either_prods {g : Gr} (h : EitherP g) : 0 < g.prods.length := by
  rcases h with h | h
  · exact h.prods.c0
  · have := h.prods.c0; omega
end Go.Px.Scan
namespace Go.Proofs.Ytkacbjhiobnbfaa
open Go.Px Go.Px.Scan Go.RowKit
set_option maxHeartbeats 1000000
set_option linter.unusedSimpArgs false
set_option linter.unusedVariables false
set_option maxRecDepth 100000
attribute [-go_sem] Builtin.append_ law05_pick.b2

theorem aItem2 (x y : Int) (w : World) : (Instr.build 36 #[(0, .int .i64 x), (1, .int .i64 y)]).run Try.prog w = .ok (.agg #[.int .i64 x, .int .i64 y]) w := by simp [go_sem, cells_int]
attribute [go_sem ↓] aItem2
theorem pick_ct {c : Int} {n : Nat} (hc : inI64 c) (hn : 0 < n) (hn2 : n ≤ 4611686018427387904) (w : World) : Ct Try.prog law05_pick.id #[.int .i64 c, .int .i64 n] w fun v w' => (∃ r : Nat, v = .int .i64 r ∧ r < n) ∧ w = w' := by
  refine law05_pick.ct fun R hR => ?_
  unfold inI64 at hc
  have fin : ∀ x : Int, 0 ≤ x → x ≤ 9223372036854775807 → law05_pick.b2 R (.int .i64 x) (.int .i64 n) w := by
    intro x h0 h1
    have hn0 : ¬ n = 0 := by omega
    have hw : IntKind.i64.wrap (x.tmod n) = x.tmod n := by
      have := Int.tmod_lt_of_pos x (b := n) (by omega)
      have := Int.tmod_nonneg (n : Int) h0
      exact IntWalk.i64_in _ (by omega)
    unfold law05_pick.b2
    simp -dsimp [go_sem, hn0, hw]
    have h2 := Int.tmod_nonneg (n : Int) h0
    have h3 := Int.tmod_lt_of_pos x (b := n) (by omega)
    exact hR _ _ ⟨⟨(x.tmod n).toNat, by rw [Int.toNat_of_nonneg h2], by omega⟩, rfl⟩
  unfold law05_pick.run
  simp -dsimp [go_sem]
  refine SPL_intro (fun p => ?_) (fun p => ?_) <;> simp at p
  · have w1 : IntKind.i64.wrap (c + 1) = c + 1 := IntWalk.i64_in _ (by omega)
    have w2 : IntKind.i64.wrap (-(c + 1)) = -(c + 1) := IntWalk.i64_in _ (by omega)
    simp -dsimp [go_sem, w1]
    rw [w2]
    exact fin (-(c + 1)) (by omega) (by omega)
  · exact fin c (by omega) (by omega)

attribute [-go_sem] law05_ShowAll.b3 law05_ShowAll.b4 law05_ShowAll.b5 law05_ShowAll.b6 law05_ShowAll.b7 law05_ShowAll.b8
theorem ShowAll_ct {w : World} {B : Nat} {vg : Value} {g : Gr} {a b : Int} (h : rGram.atN w B vg g) (hB : B ≤ w.heap.size) (hsm : ∀ p ∈ g.prods, p.2.1.length ≤ 1000000000000) (ha : inI64 a) (hb : inI64 b) :
    Ct Try.prog law05_ShowAll.id #[vg, .int .i64 a, .int .i64 b] w fun v w' => v = .bool true ∧ Chg noB w w' := by
  refine law05_ShowAll.ct fun R hR => ?_
  obtain ⟨A1, c1, A2, c2, A3, c3, A4, c4, rfl, h1, h2, h3, hst, h4, k1, k2, k3, k4⟩ := (rGram_open h).ex
  have s0 := (St.refl noB w).alloc #[.slice A1 g.terms.length c1, .slice A2 g.nons.length c2, .slice A3 g.levels.length c3, .int .i64 g.start, .slice A4 g.prods.length c4] 27
  have rdg : ∀ w', Chg noB w w' → rGram.atN w' B (.agg #[.slice A1 g.terms.length c1, .slice A2 g.nons.length c2, .slice A3 g.levels.length c3, .int .i64 g.start, .slice A4 g.prods.length c4]) g ∧ B ≤ w'.heap.size := fun w' hc => ⟨rGram_below h (hc.below hB fun _ _ => id), by have := hc.size; omega⟩
  unfold law05_ShowAll.run
  simp -dsimp [go_sem]
  generalize w.heap.size = q at s0 ⊢
  generalize w.alloc (.cells #[.slice A1 g.terms.length c1, .slice A2 g.nons.length c2, .slice A3 g.levels.length c3, .int .i64 g.start, .slice A4 g.prods.length c4] 27) = w1 at s0 ⊢
  refine CALL_of (refEither_ct (rdg _ s0.chg).1 (rdg _ s0.chg).2) ?_
  rintro _ w2 ⟨rfl, hc2⟩
  have s2 := s0.old hc2
  have y2 := s2.box 0 rfl
  simp [boxAt] at y2
  cases he : eitherB g with
  | false =>
    simp -dsimp [go_sem, y2]
    refine CALL_of (Text_ct (rdg _ s2.chg).1 (rdg _ s2.chg).2 hsm) ?_
    rintro _ w3 ⟨rfl, hc3⟩
    have e1 : textE g = 1 := by unfold textE; rw [he]; rfl
    rw [e1]
    simp -dsimp [go_sem]
    refine CALL_of (awake_ct w3) ?_
    rintro _ w4 ⟨rfl, hc4⟩
    exact hR _ _ ⟨rfl, (s2.chg.trans hc3).trans hc4⟩
  | true =>
    have hbd := either_bound (eitherB_iff.1 he)
    have hp0 := either_prods (eitherB_iff.1 he)
    simp -dsimp [go_sem, y2]
    have hpn := hbd.p1
    refine CALL_of (pick_ct ha hp0 (by omega) w2) ?_
    rintro _ _ ⟨⟨i, rfl, hi⟩, rfl⟩
    have h4' := Rep.below h4 (s2.chg.below hB fun _ _ => id)
    obtain ⟨bp, op, vr, ep, hbp, x1, x2, x3, hr, z1, z3⟩ := prods_at h4' hi
    subst ep
    obtain ⟨Ar, cr, rfl, hr1, hr2, _⟩ := slice_form hr
    have hwl : IntKind.i64.wrap ((g.prods[i].2.1.length : Int) + 1) = (g.prods[i].2.1.length : Int) + 1 := IntWalk.i64_in _ (by have := hsm _ (List.getElem_mem hi); omega)
    have s3 := s2.alloc #[.int .i64 g.prods[i].1, .slice Ar g.prods[i].2.1.length cr, .int .i64 g.prods[i].2.2] 47
    simp -dsimp [go_sem, y2, hi, x1, x2, x3]
    obtain ⟨pb, hpb⟩ : ∃ pb, w2.heap.size = pb := ⟨_, rfl⟩
    rw [hpb] at s3
    rw [hpb]
    have hc23 : Chg noB w2 (w2.alloc (.cells #[.int .i64 g.prods[i].1, .slice Ar g.prods[i].2.1.length cr, .int .i64 g.prods[i].2.2] 47)) := (Chg.refl _ _).alloc _
    generalize w2.alloc (.cells #[.int .i64 g.prods[i].1, .slice Ar g.prods[i].2.1.length cr, .int .i64 g.prods[i].2.2] 47) = w3 at s3 hc23 ⊢
    have hpm : g.prods[i] ∈ g.prods := List.getElem_mem hi
    have hgetD : g.prods.getD ((i : Int)).toNat (0, [], 0) = g.prods[i] := by simp [hi]
    generalize hp : g.prods[i] = p at *
    have hln := hsm p hpm
    have y3 := s3.box 1 rfl
    simp [boxAt] at y3
    rw [hwl]
    have hpk := pick_ct hb (n := p.2.1.length + 1) (by omega) (by omega) w3
    push_cast at hpk
    refine CALL_of hpk ?_
    rintro _ _ ⟨⟨d, rfl, hd⟩, rfl⟩
    have hd' : d ≤ p.2.1.length := by omega
    have z3 := s3.box 0 rfl
    simp [boxAt] at z3
    simp -dsimp [go_sem, y3, z3]
    have hbr := hbd.right p hpm
    have hrw : (rSlice rInt).at1 w B (.slice Ar p.2.1.length cr) p.2.1 := (rSlice rInt).keep hr (Nat.le_refl _) fun j hj => (s2.chg.block j (by omega) id).symm
    have rdl : ∀ {A : Option Addr} {n c : Nat} {l : List Int} (w' : World), (rSlice rInt).at1 w B (.slice A n c) l → Chg noB w w' → (rSlice rInt).at1 w' B (.slice A n c) l := fun w' hr hc => Rep.below hr (hc.below hB fun _ _ => id)
    have hbt : ∀ {l : List Int}, (∀ s ∈ l, isSymP g s ∧ 1 ≤ s) → rowOk g l = true := fun hl => by
      unfold rowOk; rw [he, Bool.true_and, List.all_eq_true]; intro s hs; exact decide_eq_true (hl s hs).1
    have okL : rowOk g [p.1] = true := by
      unfold rowOk; rw [he, Bool.true_and, List.all_eq_true]; intro s hs; rw [List.mem_singleton] at hs; subst hs; exact decide_eq_true (hbd.left p hpm).1
    have okR : rowOk g p.2.1 = true := hbt hbr
    have okA : rowOk g (p.2.1.take d) = true := hbt fun s hs => hbr s (List.mem_of_mem_take hs)
    have okB : rowOk g (p.2.1.drop d) = true := hbt fun s hs => hbr s (List.mem_of_mem_drop hs)
    have okP : ruleOk g i (-1) = true := by unfold ruleOk; rw [he, hgetD]; simp; omega
    have okI : itemOk g i d = true := by unfold itemOk ruleOk; rw [he, hgetD]; simp; omega
    refine CALL_of (Symbol_ct (rdg _ s3.chg).1 (rdg _ s3.chg).2 z1) ?_
    rintro _ w4 ⟨rfl, hc4⟩
    rw [okL, if_pos rfl, if_pos rfl]
    have s4 := s3.old hc4
    have y4 := s4.box 0 rfl
    have z4 := s4.box 1 rfl
    simp [boxAt] at y4 z4
    simp -dsimp [go_sem, y4, z4]
    refine CALL_of (Row_ct (rdg _ s4.chg).1 (rdg _ s4.chg).2 (rdl _ hrw s4.chg) (rdg _ s4.chg).2 hln) ?_
    rintro _ w5 ⟨rfl, hc5⟩
    rw [okR, if_pos rfl, if_pos rfl]
    have s5 := s4.old hc5
    have y5 := s5.box 0 rfl
    have z5 := s5.box 1 rfl
    simp [boxAt] at y5 z5
    have hd0 : (0 : Int) ≤ (d : Int) := by omega
    have hd1 : (d : Int) ≤ (cr : Int) := by omega
    have hd2 : (d : Int) ≤ (p.2.1.length : Int) := by omega
    simp -dsimp [go_sem, y5, z5, hd0, hd1, hd2]
    have s5 := s5.old (Chg.refl noB _).drew
    refine CALL_of (Row_ct (rdg _ s5.chg).1 (rdg _ s5.chg).2 (rdl _ (slice_take hrw hd') s5.chg) (rdg _ s5.chg).2 (by rw [List.length_take]; omega)) ?_
    rintro _ w6 ⟨rfl, hc6⟩
    rw [okA, if_pos rfl, if_pos rfl]
    have s6 := s5.old hc6
    have y6 := s6.box 0 rfl
    have z6 := s6.box 1 rfl
    simp [boxAt] at y6 z6
    simp -dsimp [go_sem, y6, z6, hd0, hd1, hd2]
    have s6 := s6.old (Chg.refl noB _).drew
    refine CALL_of (Row_ct (rdg _ s6.chg).1 (rdg _ s6.chg).2 (rdl _ (slice_rest hrw hd') s6.chg) (rdg _ s6.chg).2 (by rw [List.length_drop]; omega)) ?_
    rintro _ w7 ⟨rfl, hc7⟩
    rw [okB, if_pos rfl, if_pos rfl]
    have s7 := s6.old hc7
    have y7 := s7.box 0 rfl
    simp [boxAt] at y7
    simp -dsimp [go_sem, y7]
    refine CALL_of (Prod_ct (rdg _ s7.chg).1 (rdg _ s7.chg).2 (k := (i : Int)) (by unfold inI64; omega) hsm) ?_
    rintro _ w8 ⟨rfl, hc8⟩
    rw [okP, if_pos rfl, if_pos rfl, hgetD]
    have s8 := s7.old hc8
    have y8 := s8.box 0 rfl
    simp [boxAt] at y8
    simp -dsimp [go_sem, y8]
    refine CALL_of (Item_ct (rdg _ s8.chg).1 (rdg _ s8.chg).2 (k := (i : Int)) (d := (d : Int)) (by unfold inI64; omega) (by unfold inI64; omega) hsm) ?_
    rintro _ w9 ⟨rfl, hc9⟩
    rw [okI, if_pos rfl, if_pos rfl, hgetD]
    have s9 := s8.old hc9
    simp -dsimp [go_sem]
    obtain ⟨tl, htl⟩ : ∃ t, symT g p.1 = t := ⟨_, rfl⟩
    obtain ⟨tr, htr⟩ : ∃ t, rowT g p.2.1 = t := ⟨_, rfl⟩
    obtain ⟨ta, hta⟩ : ∃ t, rowT g (p.2.1.take d) = t := ⟨_, rfl⟩
    obtain ⟨tb, htb⟩ : ∃ t, rowT g (p.2.1.drop d) = t := ⟨_, rfl⟩
    have n1 := symT_len hbd p.1
    have n2 := rowT_len hbd p.2.1
    have n3 := rowT_len hbd (p.2.1.take d)
    have n4 := rowT_len hbd (p.2.1.drop d)
    rw [htl] at n1
    rw [htr] at n2
    rw [hta, List.length_take] at n3
    rw [htb, List.length_drop] at n4
    rw [rule_parts g p, item_parts g p d, htl, htr, hta, htb]
    have e3 : (⟨#[32, 45, 62]⟩ : ByteArray) = BA [32, 45, 62] := rfl
    have e1 : (⟨#[32]⟩ : ByteArray) = BA [32] := rfl
    have e2 : (⟨#[32, 46]⟩ : ByteArray) = BA [32, 46] := rfl
    have nl : (p.2.1 = []) ↔ ¬ 0 < p.2.1.length := by rw [Nat.not_lt, Nat.le_zero, List.length_eq_zero_iff]
    have nt : (p.2.1.take d = []) ↔ ¬ 0 < d := by
      rw [← List.length_eq_zero_iff, List.length_take]; omega
    have nb : (p.2.1.drop d = []) ↔ ¬ d < p.2.1.length := by
      rw [← List.length_eq_zero_iff, List.length_drop]; omega
    obtain ⟨tp, htp⟩ : ∃ t, tl ++ [32, 45, 62] ++ (if p.2.1 = [] then [] else 32 :: tr) = t := ⟨_, rfl⟩
    obtain ⟨ti, hti⟩ : ∃ t, tl ++ [32, 45, 62] ++ (if p.2.1.take d = [] then [] else 32 :: ta) ++ [32, 46] ++ (if p.2.1.drop d = [] then [] else 32 :: tb) = t := ⟨_, rfl⟩
    rw [htp, hti]
    have z9 := s9.box 1 rfl
    simp [boxAt] at z9
    have f6 : law05_ShowAll.b6 R (.string (BA tp)) (.string (BA ti)) (.string (BA tp)) (.string (BA ti)) w9 := by
      unfold law05_ShowAll.b6
      simp -dsimp [go_sem]
      refine CALL_of (awake_ct w9) ?_
      rintro _ w10 ⟨rfl, hc10⟩
      exact hR _ _ ⟨rfl, s9.chg.trans hc10⟩
    have f5 : ∀ t, t = tl ++ [32, 45, 62] ++ (if p.2.1.take d = [] then [] else 32 :: ta) → law05_ShowAll.b5 R (.pointer (some ⟨pb, 0, none⟩)) (.int .i64 d) (.string (BA tb)) (.string (BA tp)) (.string (BA ti)) (.string (BA tp)) (.string (BA t)) w9 := by
      intro t ht
      have nt2 : t.length ≤ 20000000000000 := by rw [ht]; split <;> simp <;> omega
      have q1 : ¬ 9223372036854775807 < t.length + 2 := by omega
      have q2 : ¬ 9223372036854775807 < t.length + 2 + 1 := by omega
      have q3 : ¬ 9223372036854775807 < t.length + 2 + 1 + tb.length := by omega
      unfold law05_ShowAll.b5
      rw [e2]
      simp -dsimp [go_sem, z9, q1, q2, q3, BA_size, BA_append]
      refine SPL_intro (fun p5 => ?_) (fun p5 => ?_) <;> simp at p5
      · simp -dsimp [go_sem, q1, q2, q3, BA_size, BA_append, e1]
        have : t ++ [32, 46] ++ [32] ++ tb = ti := by rw [← hti, ht, if_neg (fun e => nb.1 e p5)]; simp
        have e9 : t ++ 32 :: 46 :: 32 :: tb = ti := by rw [← this]; simp
        simp only [List.append_assoc, List.cons_append, List.nil_append, e9]
        exact f6
      · have : t ++ [32, 46] = ti := by rw [← hti, ht, if_pos (nb.2 (by omega))]; simp
        rw [this]
        exact f6
    have f4 : law05_ShowAll.b4 R (.pointer (some ⟨pb, 0, none⟩)) (.int .i64 d) (.string (BA tl)) (.string (BA ta)) (.string (BA tb)) (.string (BA tp)) (.string (BA ti)) (.string (BA tp)) w9 := by
      unfold law05_ShowAll.b4
      have q1 : ¬ 9223372036854775807 < tl.length + 3 := by omega
      have q2 : ¬ 9223372036854775807 < tl.length + 3 + 1 := by omega
      have q3 : ¬ 9223372036854775807 < tl.length + 3 + 1 + ta.length := by omega
      rw [e3]
      simp -dsimp [go_sem, z9, q1, q2, q3, BA_size, BA_append]
      refine SPL_intro (fun p5 => ?_) (fun p5 => ?_) <;> simp at p5
      · simp -dsimp [go_sem, q1, q2, q3, BA_size, BA_append, e1]
        exact f5 _ (by rw [if_neg (fun e => nt.1 e p5)]; simp)
      · exact f5 _ (by rw [if_pos (nt.2 (by omega))]; simp)
    unfold law05_ShowAll.b7
    have q1 : ¬ 9223372036854775807 < tl.length + 3 := by omega
    have q2 : ¬ 9223372036854775807 < tl.length + 3 + 1 := by omega
    have q3 : ¬ 9223372036854775807 < tl.length + 3 + 1 + tr.length := by omega
    simp -dsimp [go_sem]
    unfold law05_ShowAll.b8 law05_ShowAll.b3
    rw [e3]
    simp -dsimp [go_sem, z9, q1, q2, q3, BA_size, BA_append]
    refine SPL_intro (fun p5 => ?_) (fun p5 => ?_) <;> simp at p5
    · simp -dsimp [go_sem, q1, q2, q3, BA_size, BA_append, e1]
      have : tl ++ [32, 45, 62] ++ [32] ++ tr = tp := by rw [← htp, if_neg (fun e => nl.1 e p5)]; simp
      have e9 : tl ++ 32 :: 45 :: 62 :: 32 :: tr = tp := by rw [← this]; simp
      first | exact f4 | (simp only [List.append_assoc, List.cons_append, List.nil_append, e9]; exact f4)
    · have : tl ++ [32, 45, 62] = tp := by rw [← htp, if_pos (by first | exact p5 | exact nl.2 (by omega))]; simp
      rw [this]
      exact f4
end Go.Proofs.Ytkacbjhiobnbfaa

