/-
  What is lent reads as it should; whole.
-/
import Derived.Test.YtkacbjhiobnbfaaWc
import Derived.Test.YtkacbjhiobnbfaaMg
namespace Go.Px
open Go.RowKit
theorem row_reads {α β : Type} {r : Rep α} {enc : β → List Value} {w : World} {F : Nat → Prop} {e B : Nat} {a : Option Addr} {n c : Nat} {m : List β} {l : List α} (h : (rowC e r.size a n c (m.flatMap enc)).ok w F) (hs : ∀ x ∈ m, (enc x).length = r.size) (hpos : 0 < r.size) (hm : m.length = n) (hl : l.length = n)
    (hr : ∀ (i : Nat) x y, m[i]? = some x → l[i]? = some y → r.ok w B (enc x) y) (hB : w.heap.size ≤ B) : (rSlice r).at1 w B (.slice a n c) l := by
  obtain ⟨_, hnc, hcm⟩ := row_size h
  subst hl
  refine ⟨a, c, rfl, hnc, hcm, trivial, fun hp => ?_⟩
  obtain ⟨g, hg, _, _, _, hlt⟩ := row_elem h hs hpos (i := 0) (x := m[0]) (List.getElem?_eq_getElem (by omega))
  refine ⟨g, 0, hg, by omega, fun i y hy => ?_⟩
  have hi := (List.getElem?_eq_some_iff.1 hy).1
  obtain ⟨g', hg', hc, _⟩ := row_elem h hs hpos (i := i) (x := m[i]) (List.getElem?_eq_getElem (by omega))
  rw [hg] at hg'
  injection hg' with hg'; injection hg' with hg'; subst hg'
  refine ⟨enc m[i], hr i _ _ (List.getElem?_eq_getElem (by omega)) hy, fun j u hj => ?_⟩
  rw [Nat.zero_add]
  exact hc j u hj
theorem slice_take {α : Type} {r : Rep α} {w : World} {B : Nat} {A : Option Addr} {n c k : Nat} {l : List α} (h : (rSlice r).at1 w B (.slice A n c) l) (hk : k ≤ l.length) : (rSlice r).at1 w B (.slice A k c) (l.take k) := by
  obtain ⟨A', c', hv, h1, h2, h3, h4⟩ := h
  injection hv with hv _
  injection hv with hA hn hc
  subst hA; subst hc
  have hlen : (l.take k).length = k := by rw [List.length_take]; omega
  refine ⟨A, c, by rw [hlen], by rw [hlen]; omega, h2, trivial, fun hp => ?_⟩
  rw [hlen] at hp
  obtain ⟨b, o, hA, hb, hc⟩ := h4 (by omega)
  refine ⟨b, o, hA, hb, fun i x hi => hc i x ?_⟩
  rw [List.getElem?_take] at hi
  split at hi
  · exact hi
  · cases hi
end Go.Px
namespace Go.Proofs.Ytkacbjhiobnbfaa
open Go.Px Go.Px.Scan Go.RowKit
set_option maxHeartbeats 1000000
set_option linter.unusedSimpArgs false
set_option linter.unusedVariables false
set_option maxRecDepth 100000
attribute [-go_sem] Builtin.append_ law02_lent_whole.b4 law02_lent_whole.b3 law02_lent_whole.b3_1 law02_lent_whole.b3_2 law02_lent_whole.b3_3 law02_lent_whole.b3_4 law02_lent_whole.b7_1 law02_lent_whole.b8

/-- Numbers that a machine has. -/
structure GrIn (g : Gr) : Prop where
  terms : ∀ t ∈ g.terms, t.1.size ≤ maxLen ∧ inI64 t.2
  nons : ∀ s ∈ g.nons, s.size ≤ maxLen
  levels : ∀ x ∈ g.levels, inI64 x
  start : inI64 g.start
  prods : ∀ p ∈ g.prods, inI64 p.1 ∧ inI64 p.2.2 ∧ ∀ s ∈ p.2.1, inI64 s
theorem grIn_of {w : World} {B : Nat} {v : Value} {g : Gr} (h : rGram.atN w B v g) : GrIn g := by
  obtain ⟨A1, c1, A2, c2, A3, c3, A4, c4, rfl, h1, h2, h3, hst, h4, k1, k2, k3, k4⟩ := (rGram_open h).ex
  refine ⟨fun t ht => ?_, fun t ht => ?_, fun t ht => ?_, hst, fun p hp => ?_⟩
  · obtain ⟨i, hi, rfl⟩ := List.getElem_of_mem ht
    obtain ⟨_, _, _, _, _, _, q1, q2⟩ := terms_at h1 hi; exact ⟨q1, q2⟩
  · obtain ⟨i, hi, rfl⟩ := List.getElem_of_mem ht
    obtain ⟨_, _, _, _, _, q1⟩ := Go.Px.strs_at h2 hi; exact q1
  · obtain ⟨i, hi, rfl⟩ := List.getElem_of_mem ht
    obtain ⟨_, _, _, _, _, q1⟩ := Go.Px.ints_at h3 hi; exact q1
  · obtain ⟨i, hi, rfl⟩ := List.getElem_of_mem hp
    obtain ⟨_, _, _, _, _, _, _, _, hr, q1, q2⟩ := prods_at h4 hi
    refine ⟨q1, q2, fun s hs => ?_⟩
    obtain ⟨j, hj, rfl⟩ := List.getElem_of_mem hs
    obtain ⟨_, _, rfl, _⟩ := slice_form hr
    obtain ⟨_, _, _, _, _, q⟩ := Go.Px.ints_at hr hj; exact q

theorem lent_rd {G : Nat → Prop} {W w : World} {L : List Ch} {b : Nat} {g : Gr} {at' asn ai ar ap : Option Addr} {ct cs ci cr cp : Nat} {vs : List Value} (s : St G W w (LgC b g at' asn ai ar ap ct cs ci cr cp vs ++ L)) (hg : GrIn g) :
    rGram.atN w w.heap.size (.agg #[.slice at' g.terms.length ct, .slice asn g.nons.length cs, .slice ai g.levels.length ci, .int .i64 g.start, .slice ap g.prods.length cp]) g := by
  obtain ⟨F1, o1, _⟩ := s.get (k := 1) rfl
  obtain ⟨F2, o2, _⟩ := s.get (k := 2) rfl
  obtain ⟨F3, o3, _⟩ := s.get (k := 3) rfl
  obtain ⟨F5, o5, _⟩ := s.get (k := 5) rfl
  obtain ⟨F6, o6, _⟩ := s.get (k := 6) rfl
  have hvs : vs.length = g.prods.length := by have := o6.1; simpa using this
  have e1 : g.terms.flatMap xTerm ++ [Value.string sSpare, .int .i64 0] = (g.terms ++ [(sSpare, 0)]).flatMap xTerm := by simp [xTerm]
  have e2 : g.nons.flatMap xStr ++ [Value.string sSpare] = (g.nons ++ [sSpare]).flatMap xStr := by simp [xStr]
  have e3 : g.levels.flatMap xInt ++ [Value.int .i64 77] = (g.levels ++ [77]).flatMap xInt := by simp [xInt]
  have e5 : (g.prods.zip (vs.map shrink)).flatMap xPr ++ [Value.int .i64 77, .slice none 0 0, .int .i64 0] = (g.prods.zip (vs.map shrink) ++ [((77, [], 0), Value.slice none 0 0)]).flatMap xPr := by simp [xPr]
  rw [e1] at o1
  rw [e2] at o2
  rw [e3] at o3
  rw [e5] at o5
  have r1 := row_reads (r := rTerm) (B := w.heap.size) (l := g.terms ++ [(sSpare, 0)]) o1 (fun _ _ => rfl) (by decide) (by simp) (by simp) (fun i x y hx hy => by
    rw [hx] at hy; injection hy with hy; subst hy
    have hm := List.mem_of_getElem? hx
    have : x.1.size ≤ maxLen ∧ inI64 x.2 := by
      rcases List.mem_append.1 hm with hm | hm
      · exact hg.terms x hm
      · rw [List.mem_singleton] at hm; subst hm; exact ⟨by decide, by unfold inI64; decide⟩
    exact ⟨[_], [_], rfl, ⟨rfl, this.1⟩, ⟨rfl, this.2⟩⟩) (Nat.le_refl _)
  have r2 := row_reads (r := rStr) (B := w.heap.size) (l := g.nons ++ [sSpare]) o2 (fun _ _ => rfl) (by decide) (by simp) (by simp) (fun i x y hx hy => by
    rw [hx] at hy; injection hy with hy; subst hy
    have hm := List.mem_of_getElem? hx
    have : x.size ≤ maxLen := by
      rcases List.mem_append.1 hm with hm | hm
      · exact hg.nons x hm
      · rw [List.mem_singleton] at hm; subst hm; decide
    exact ⟨rfl, this⟩) (Nat.le_refl _)
  have r3 := row_reads (r := rInt) (B := w.heap.size) (l := g.levels ++ [77]) o3 (fun _ _ => rfl) (by decide) (by simp) (by simp) (fun i x y hx hy => by
    rw [hx] at hy; injection hy with hy; subst hy
    have hm := List.mem_of_getElem? hx
    have : inI64 x := by
      rcases List.mem_append.1 hm with hm | hm
      · exact hg.levels x hm
      · rw [List.mem_singleton] at hm; subst hm; unfold inI64; decide
    exact ⟨rfl, this⟩) (Nat.le_refl _)
  have r5 := row_reads (r := rPr) (B := w.heap.size) (l := g.prods ++ [(77, [], 0)]) o5 (fun _ _ => rfl) (by decide) (by simp [hvs]) (by simp) (fun i x y hx hy => by
    by_cases hi : i < g.prods.length
    · rw [List.getElem?_append_left hi, List.getElem?_eq_getElem hi] at hy
      injection hy with hy; subst hy
      rw [List.getElem?_append_left (by simp [hvs]; omega)] at hx
      obtain ⟨hx1, hx2⟩ := List.getElem?_zip_eq_some.1 hx
      rw [List.getElem?_eq_getElem hi] at hx1
      injection hx1 with hx1
      rw [List.getElem?_map, List.getElem?_eq_getElem (by omega)] at hx2
      injection hx2 with hx2
      obtain ⟨q1, q2, q3⟩ := hg.prods _ (List.getElem_mem hi)
      obtain ⟨a', n', c', hv', hrow⟩ := o6.2 i vs[i] (g.prods[i].2.1.flatMap xInt ++ [.int .i64 77]) (List.getElem?_eq_getElem (by omega)) (by rw [List.getElem?_map, List.getElem?_eq_getElem hi]; rfl)
      have e6 : g.prods[i].2.1.flatMap xInt ++ [Value.int .i64 77] = (g.prods[i].2.1 ++ [77]).flatMap xInt := by simp [xInt]
      rw [e6] at hrow
      have hn' : n' = g.prods[i].2.1.length + 1 := by
        have := (row_size hrow).1
        rw [xInt_flat] at this; simp at this; omega
      subst hn'
      have hrd := row_reads (r := rInt) (B := w.heap.size) (l := g.prods[i].2.1 ++ [77]) hrow (fun _ _ => rfl) (by decide) (by simp) (by simp) (fun j x y hx hy => by
        rw [hx] at hy; injection hy with hy; subst hy
        have hm := List.mem_of_getElem? hx
        have : inI64 x := by
          rcases List.mem_append.1 hm with hm | hm
          · exact q3 x hm
          · rw [List.mem_singleton] at hm; subst hm; unfold inI64; decide
        exact ⟨rfl, this⟩) (Nat.le_refl _)
      have hrd2 := slice_take (k := g.prods[i].2.1.length) hrd (by simp)
      rw [List.take_left' rfl] at hrd2
      have hs : x.2 = .slice a' g.prods[i].2.1.length c' := by rw [← hx2, hv']; rfl
      refine ⟨[_], [_, _], by simp only [xPr, ← hx1]; rfl, ⟨rfl, q1⟩, [_], [_], rfl, by rw [hs]; exact hrd2, rfl, q2⟩
    · have hil := (List.getElem?_eq_some_iff.1 hy).1
      simp at hil
      have hie : i = g.prods.length := by omega
      subst hie
      rw [List.getElem?_append_right (Nat.le_refl _)] at hy
      rw [List.getElem?_append_right (by simp [hvs])] at hx
      simp [hvs] at hx hy
      subst hx hy
      exact ⟨[_], [_, _], rfl, ⟨rfl, by unfold inI64; decide⟩, [_], [_], rfl, ⟨none, 0, rfl, by decide, by decide, trivial, fun h => by cases h⟩, rfl, by unfold inI64; decide⟩) (Nat.le_refl _)
  have t1 := slice_take (k := g.terms.length) r1 (by simp)
  have t2 := slice_take (k := g.nons.length) r2 (by simp)
  have t3 := slice_take (k := g.levels.length) r3 (by simp)
  have t5 := slice_take (k := g.prods.length) r5 (by simp)
  rw [List.take_left' rfl] at t1 t2 t3 t5
  exact rGram_mk t1 t2 t3 rfl hg.start t5

theorem sameB_self (g : Gr) : sameB g g = true := sameB_iff.2 rfl
theorem whole_ct {G : Nat → Prop} {W w : World} {L : List Ch} {b B : Nat} {vg : Value} {g : Gr} {at' asn ai ar ap : Option Addr} {ct cs ci cr cp : Nat} {vs : List Value} (s : St G W w (LgC b g at' asn ai ar ap ct cs ci cr cp vs ++ L)) (h : rGram.atN w B vg g) (hB : B ≤ w.heap.size) :
    Ct Try.prog law02_lent_whole.id #[.pointer (some ⟨b, 0, none⟩), vg] w fun v w' => v = .bool true ∧ Chg noB w w' := by
  refine law02_lent_whole.ct fun R hR => ?_
  have hg := grIn_of h
  obtain ⟨A1, c1, A2, c2, A3, c3, A4, c4, rfl, h1, h2, h3, hst, h4, k1, k2, k3, k4⟩ := (rGram_open h).ex
  have hvs : vs.length = g.prods.length := by
    obtain ⟨F, ho, _⟩ := s.get (k := 6) rfl
    have := ho.1; simpa using this
  have s0 := s.alloc #[.slice A1 g.terms.length c1, .slice A2 g.nons.length c2, .slice A3 g.levels.length c3, .int .i64 g.start, .slice A4 g.prods.length c4] 27
  have s0 : St G W (w.alloc (.cells #[.slice A1 g.terms.length c1, .slice A2 g.nons.length c2, .slice A3 g.levels.length c3, .int .i64 g.start, .slice A4 g.prods.length c4] 27)) (LgC b g at' asn ai ar ap ct cs ci cr cp vs ++ (L ++ [boxC w.heap.size 27 #[.slice A1 g.terms.length c1, .slice A2 g.nons.length c2, .slice A3 g.levels.length c3, .int .i64 g.start, .slice A4 g.prods.length c4].toList])) := by rw [← List.append_assoc]; exact s0
  have hc0 : Chg noB w (w.alloc (.cells #[.slice A1 g.terms.length c1, .slice A2 g.nons.length c2, .slice A3 g.levels.length c3, .int .i64 g.start, .slice A4 g.prods.length c4] 27)) := (Chg.refl _ _).alloc _
  have y0 := (s0.box 0 rfl).1
  obtain ⟨y00, y01, y02, y03, y04, _⟩ := y0
  unfold law02_lent_whole.run
  simp -dsimp [go_sem, y00, y01, y02, y03, y04]
  clear y00 y01 y02 y03 y04
  have hdr := hc0.drew
  have s0d := s0.old (Chg.refl noB _).drew
  generalize (w.alloc (.cells #[.slice A1 g.terms.length c1, .slice A2 g.nons.length c2, .slice A3 g.levels.length c3, .int .i64 g.start, .slice A4 g.prods.length c4] 27)).drew = w1 at s0d hdr ⊢
  refine CALL_of (refSame_ct (lent_rd s0d hg) (rGram_up (rGram_below h (hdr.below hB fun _ _ => id)) (by have := hdr.size; omega)) (Nat.le_refl _)) ?_
  rintro _ w2 ⟨rfl, hc2⟩
  have s2 := s0d.old hc2
  have hc2 := hdr.trans hc2
  rw [sameB_self]
  unfold law02_lent_whole.b4
  refine law02_lent_whole.l6_intro _ _ _ _ _ (fun x y w' => ∃ k : Nat, x = .bool true ∧ y = .int .i64 k ∧ k ≤ g.prods.length ∧ Chg noB w w' ∧ ∃ L', St G W w' (LgC b g at' asn ai ar ap ct cs ci cr cp vs ++ L')) (fun _ y _ => g.prods.length - iv y) ⟨0, rfl, rfl, by omega, hc2, _, s2⟩ ?_
  rintro _ _ w3 ⟨k, rfl, rfl, hk, hc3, L', s3⟩ C hC
  have y3 := (s3.box 0 rfl).1
  obtain ⟨_, _, _, _, _, y5, y6, y7, y8, y9, _⟩ := y3
  have k4' := k4.2
  have hk4 : g.prods.length ≤ 9223372036854775807 := by unfold maxLen at k4'; omega
  simp -dsimp [go_sem, y8]
  refine SPL_intro (fun p1 => ?_) (fun p1 => ?_) <;> simp at p1
  · have wk : IntKind.i64.wrap ((k : Int) + 1) = (k : Int) + 1 := IntWalk.i64_in _ (by omega)
    obtain ⟨F6, o6, _⟩ := s3.get (k := 6) rfl
    obtain ⟨a', n', c', hv', hrow⟩ := o6.2 k vs[k] (g.prods[k].2.1.flatMap xInt ++ [.int .i64 77]) (List.getElem?_eq_getElem (by omega)) (by rw [List.getElem?_map, List.getElem?_eq_getElem p1]; rfl)
    have hn' : n' = g.prods[k].2.1.length + 1 := by
      have := (row_size hrow).1
      rw [xInt_flat] at this; simp at this; omega
    subst hn'
    have hns := row_size hrow
    obtain ⟨gr, er, cr1, _⟩ := s3.rowAt 4 rfl (j := k) (by rw [hvs]; exact p1)
    rw [hv'] at cr1
    obtain ⟨ga, ea, ca, _⟩ := row_at hrow (j := g.prods[k].2.1.length) (by rw [xInt_flat]; simp)
    have e77 : (g.prods[k].2.1.flatMap xInt ++ [Value.int .i64 77])[g.prods[k].2.1.length]'(by rw [xInt_flat]; simp) = .int .i64 77 := by
      rw [List.getElem_append_right (by rw [xInt_flat]; simp)]; simp
    rw [e77] at ca
    subst ea er
    have wr : IntKind.i64.wrap (g.prods[k].2.1.length : Int) = (g.prods[k].2.1.length : Int) := IntWalk.i64_in _ (by unfold maxLen at hns; omega)
    simp -dsimp [go_sem]
    unfold law02_lent_whole.b7_1
    have xl : (g.prods[k].2.1.length : Int) < (g.prods[k].2.1.length : Int) + 1 := by omega
    simp -dsimp [go_sem, y8, p1, cr1, wr, xl, ca]
    unfold law02_lent_whole.b8
    simp -dsimp [go_sem, wk]
    exact hC _ _ _ ⟨k + 1, rfl, by simp, by omega, hc3.drew, L', s3.old (Chg.refl noB _).drew⟩ (by simp [iv]; omega)
  · unfold law02_lent_whole.b3
    have lt : (g.terms.flatMap xTerm).length = g.terms.length * 2 := flat_len g.terms (fun _ _ => rfl)
    have ls : (g.nons.flatMap xStr).length = g.nons.length := by have := flat_len (enc := xStr) (size := 1) g.nons (fun _ _ => rfl); omega
    have li : (g.levels.flatMap xInt).length = g.levels.length := by rw [xInt_flat]; simp
    have lp : ((g.prods.zip (vs.map shrink)).flatMap xPr).length = g.prods.length * 3 := by
      have := flat_len (enc := xPr) (size := 3) (g.prods.zip (vs.map shrink)) (fun _ _ => rfl)
      rw [this]; simp [hvs]
    obtain ⟨g1, e1, d1, _⟩ := s3.rowAt 1 rfl (j := g.terms.length * 2) (by rw [List.length_append, lt]; simp)
    obtain ⟨g2, e2, d2, _⟩ := s3.rowAt 2 rfl (j := g.nons.length) (by rw [List.length_append, ls]; simp)
    obtain ⟨g3, e3, d3, _⟩ := s3.rowAt 3 rfl (j := g.levels.length) (by rw [List.length_append, li]; simp)
    obtain ⟨g5, e5, d5, _⟩ := s3.rowAt 5 rfl (j := g.prods.length * 3) (by rw [List.length_append, lp]; simp)
    have v1 : (g.terms.flatMap xTerm ++ [Value.string sSpare, .int .i64 0])[g.terms.length * 2]'(by rw [List.length_append, lt]; simp) = .string sSpare := by
      rw [List.getElem_append_right (by omega)]; simp [lt]
    have v2 : (g.nons.flatMap xStr ++ [Value.string sSpare])[g.nons.length]'(by rw [List.length_append, ls]; simp) = .string sSpare := by
      rw [List.getElem_append_right (by omega)]; simp
    have v3 : (g.levels.flatMap xInt ++ [Value.int .i64 77])[g.levels.length]'(by rw [List.length_append, li]; simp) = .int .i64 77 := by
      rw [List.getElem_append_right (by omega)]; simp
    have v5 : ((g.prods.zip (vs.map shrink)).flatMap xPr ++ [Value.int .i64 77, .slice none 0 0, .int .i64 0])[g.prods.length * 3]'(by rw [List.length_append, lp]; simp) = .int .i64 77 := by
      rw [List.getElem_append_right (by omega)]; simp [lp]
    rw [v1] at d1
    rw [v2] at d2
    rw [v3] at d3
    rw [v5] at d5
    subst e1 e2 e3 e5
    have q1 := s3.rowSize 1 rfl
    have q2 := s3.rowSize 2 rfl
    have q3 := s3.rowSize 3 rfl
    have q5 := s3.rowSize 5 rfl
    have m1 := k1.2
    have m2 := k2.2
    have m3 := k3.2
    unfold maxLen at m1 m2 m3
    have w1' : IntKind.i64.wrap (g.terms.length : Int) = (g.terms.length : Int) := IntWalk.i64_in _ (by omega)
    have w2' : IntKind.i64.wrap (g.nons.length : Int) = (g.nons.length : Int) := IntWalk.i64_in _ (by omega)
    have w3' : IntKind.i64.wrap (g.levels.length : Int) = (g.levels.length : Int) := IntWalk.i64_in _ (by omega)
    have w5' : IntKind.i64.wrap (g.prods.length : Int) = (g.prods.length : Int) := IntWalk.i64_in _ (by omega)
    have x1 : (g.terms.length : Int) < (g.terms.length : Int) + 1 := by omega
    have x2 : (g.nons.length : Int) < (g.nons.length : Int) + 1 := by omega
    have x3 : (g.levels.length : Int) < (g.levels.length : Int) + 1 := by omega
    have x5 : (g.prods.length : Int) < (g.prods.length : Int) + 1 := by omega
    simp -dsimp [go_sem]
    unfold law02_lent_whole.b3_4
    simp -dsimp [go_sem, y5, w1', x1, d1]
    unfold law02_lent_whole.b3_3
    simp -dsimp [go_sem, y6, w2', x2, d2]
    unfold law02_lent_whole.b3_2
    simp -dsimp [go_sem, y7, w3', x3, d3]
    unfold law02_lent_whole.b3_1
    simp -dsimp [go_sem, y9, w5', x5, d5]
    exact hR _ _ ⟨rfl, hc3.drew⟩
end Go.Proofs.Ytkacbjhiobnbfaa

