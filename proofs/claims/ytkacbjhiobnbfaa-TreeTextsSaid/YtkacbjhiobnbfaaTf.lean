/-
  Texts of this claim: Rt5, Rt6.
-/
import Derived.Test.YtkacbjhiobnbfaaTd
import Derived.Test.YtkacbjhiobnbfaaTc
import Derived.Test.YtkacbjhiobnbfaaMg
/-
  The document's Text of a tree.
-/
namespace Go.Px.Scan
open Go.Px Go.RowKit
theorem tx_last {s : ByteArray} (h : NameP s) : (tx s).getLast? ≠ some 40 := by
  have h0 := h.1
  have h1 := h.2.2.2 (s.size - 1) (by omega)
  intro e
  rw [List.getLast?_eq_getElem?, tx_len] at e
  have h2 : bt s (s.size - 1) = 40 := by
    unfold bt
    rw [dif_pos (by omega)]
    obtain ⟨hl, he⟩ := List.getElem?_eq_some_iff.1 e
    have : s[s.size - 1]'(by omega) = 40 := by
      rw [← he]; rfl
    rw [this]; rfl
  rw [h2] at h1
  revert h1; decide
theorem symT_last {g : Gr} (h : ClosedP g) (s : Int) : (symT g s).getLast? ≠ some 40 := by
  unfold symT
  split
  · decide
  · split
    · rw [List.getLast?_append]; simp
    · split
      · decide
      · rename_i hn
        refine tx_last ?_
        have hm : nonAt g s ∈ g.nons := by
          unfold nonAt at hn ⊢
          generalize (s - g.terms.length).toNat = j at hn ⊢
          by_cases hl : j < g.nons.length
          · simp [hl]
          · exact absurd (by simp [hl]) hn
        have h0 := h.first
        cases hq : g.nons with
        | nil => rw [hq] at hm; cases hm
        | cons x r =>
          rw [hq] at h0 hm
          injection h0 with h0
          rcases List.mem_cons.1 hm with e | hm
          · exact absurd (e.trans h0) hn
          · exact h.syms.nnam _ (by rw [hq]; simpa using hm)
def endT (o : List Nat) (t : Txt) (c : Prop) [Decidable c] : Txt := if (closeF o t).2 ≠ [] ∧ c then (closeF o t).1 ++ [32] else (closeF o t).1
end Go.Px.Scan
namespace Go.Proofs.Ytkacbjhiobnbfaa
open Go.Px Go.Px.Scan Go.RowKit
set_option maxHeartbeats 1000000
set_option linter.unusedSimpArgs false
set_option linter.unusedVariables false
set_option maxRecDepth 100000
attribute [-go_sem] Builtin.append_ ref20_Text.b1_1 ref20_Text.b34 ref20_Text.b35 ref20_Text.b3 ref20_Text.b5 ref20_Text.b7 ref20_Text.b13 ref20_Text.b15_1 ref20_Text.b15_2 ref20_Text.b15 ref20_Text.b22 ref20_Text.b27 ref20_Text.b27_1 ref20_Text.b27_2 ref20_Text.b27_3 ref20_Text.b28 ref20_Text.b33_1 ref20_Text.b33_2 ref20_Text.b24 ref20_Text.b23 ref20_Text.b20

open Classical in
theorem rclose {R : Ending → World → Prop} {C10 : Value → Value → Value → World → Prop} {W w1 : World} {B : Nat} {l : List Nd} {A : Option Addr} {cn : Nat} (h : (rSlice rNd).at1 W B (.slice A l.length cn) l) (hB : B ≤ W.heap.size)
    {r : List Nat} {i n : Nat} (hi : i < r.length) (hn : r[i] = n) (hnl : n < l.length) (hrl : r.length ≤ 3000000000000) {X : Ch} {a al Ar : Option Addr} {c ca cl cr nb : Nat} {ar : Option Addr} {t : Txt} {o : List Nat} {sy pr tk : Int} {ks : List Int} (hx : l[n] = (sy, pr, tk, ks))
    (hkr : (rSlice rInt).at1 W B (.slice Ar ks.length cr) ks) (hko : ∀ k ∈ o, k ≤ 20000000000000) (hb : t.length + o.length + 1 ≤ maxBytes)
    (s : St noB W w1 [rowC 3 1 ar r.length c (natV r), X, txtM false 5 a t.length ca t, rowC 3 1 al o.length cl (natV o.reverse), boxC nb 61 [.int .i64 sy, .int .i64 pr, .int .i64 tk, .slice Ar ks.length cr]])
    (hR : ∀ a' ca' al' cl' w', St noB W w' [rowC 3 1 ar r.length c (natV r), X, txtM false 5 a' (endT o t (condT (sy, pr, tk, ks) r[i + 1]?)).length ca' (endT o t (condT (sy, pr, tk, ks) r[i + 1]?)), rowC 3 1 al' (closeF o t).2.length cl' (natV (closeF o t).2.reverse), boxC nb 61 [.int .i64 sy, .int .i64 pr, .int .i64 tk, .slice Ar ks.length cr]] →
      ref20_Text.b13 R C10 (.slice a' (endT o t (condT (sy, pr, tk, ks) r[i + 1]?)).length ca') (.slice al' (closeF o t).2.length cl') (.int .i64 i) w') :
    ref20_Text.l17 R C10 (.slice A l.length cn) (.slice ar r.length c) (.slice a t.length ca) (.slice al o.length cl) (.int .i64 i) (.pointer (some ⟨nb, 0, none⟩)) w1 := by
  obtain ⟨bp, op, vr, ep, hbp, _, x2, _⟩ := nodes_at h hnl
  rw [hx] at x2
  subst ep
  have hbpw : bp < W.heap.size := by omega
  refine ref20_Text.l17_intro _ _ _ _ _ _ _ _ _ (fun y z w' => ∃ (t' : Txt) (o' : List Nat) (a' al' : Option Addr) (ca' cl' : Nat), y = .slice a' t'.length ca' ∧ z = .slice al' o'.length cl' ∧ closeF o' t' = closeF o t ∧ (∀ k ∈ o', k ≤ 20000000000000) ∧ t'.length + o'.length + 1 ≤ maxBytes ∧
    St noB W w' [rowC 3 1 ar r.length c (natV r), X, txtM false 5 a' t'.length ca' t', rowC 3 1 al' o'.length cl' (natV o'.reverse), boxC nb 61 [.int .i64 sy, .int .i64 pr, .int .i64 tk, .slice Ar ks.length cr]]) (fun _ z _ => slen z) ⟨t, o, a, al, ca, cl, rfl, rfl, rfl, hko, hb, s⟩ ?_
  rintro _ _ w2 ⟨t', o', a', al', ca', cl', rfl, rfl, hcl, hM', hb', s1⟩ C hC
  unfold endT at hR
  rw [← hcl] at hR
  cases o' with
  | nil =>
    simp -dsimp [go_sem]
    exact hR _ _ _ _ _ s1
  | cons k o' =>
    have hk := hM' k (by simp)
    simp only [List.length_cons] at hb'
    have wl : IntKind.i64.wrap (o'.length : Int) = o'.length := IntWalk.i64_in _ (by unfold maxBytes at hb'; omega)
    have xl : (o'.length : Int) < (o'.length : Int) + 1 := by omega
    have hz : 0 < o'.length + 1 := by omega
    have wk : IntKind.i64.wrap ((k : Int) - 1) = (k : Int) - 1 := IntWalk.i64_in _ (by omega)
    obtain ⟨g, eg, cg, fg⟩ := s1.rowAt 3 rfl (j := o'.length) (by simp [natV])
    have cg' : (natV (k :: o').reverse)[o'.length]'(by simp [natV]) = .int .i64 k := by simp [natV]
    rw [cg'] at cg
    subst eg
    have s2 := s1.setRow 3 rfl o'.length (.int .i64 ((k : Int) - 1))
    have e2 : (natV (k :: o').reverse).set o'.length (.int .i64 ((k : Int) - 1)) = natV o'.reverse ++ [Value.int .i64 ((k : Int) - 1)] := by
      simp [natV, List.map_append]
    rw [e2] at s2
    simp -dsimp [go_sem]
    unfold ref20_Text.b20
    simp -dsimp [go_sem, wl, xl, cg, wk, fg]
    generalize w2.setCell ⟨g, o'.length, none⟩ (.int .i64 ((k : Int) - 1)) = w3 at s2 ⊢
    have hcw : o'.length + 1 ≤ cl' := (s2.rowSize 3 rfl).2.1
    obtain ⟨g', eg, cg3, _⟩ := s2.rowAt 3 rfl (j := o'.length) (by simp [natV])
    injection eg with eg; injection eg with eg; subst eg
    have cg4 : (natV o'.reverse ++ [Value.int .i64 ((k : Int) - 1)])[o'.length]'(by simp [natV]) = .int .i64 ((k : Int) - 1) := by
      rw [List.getElem_append_right (by simp [natV])]; simp [natV]
    rw [cg4] at cg3
    unfold ref20_Text.b23
    simp -dsimp [go_sem, wl, xl, cg3]
    unfold ref20_Text.b24
    have y3 := s2.box 4 rfl
    simp [boxAt] at y3
    refine SPL_intro (fun p1 => ?_) (fun p1 => ?_) <;> simp at p1
    · have e3 : closeF (k :: o') t' = (t', (k - 1) :: o') := by rw [closeF, if_pos (by omega)]
      rw [e3] at hR
      have e4 : natV ((k - 1) :: o').reverse = natV o'.reverse ++ [Value.int .i64 ((k : Int) - 1)] := by
        simp [natV]; omega
      have sY : St noB W w3 [rowC 3 1 ar r.length c (natV r), X, txtM false 5 a' t'.length ca' t', rowC 3 1 (some ⟨g, 0, none⟩) ((k - 1) :: o').length cl' (natV ((k - 1) :: o').reverse), boxC nb 61 [.int .i64 sy, .int .i64 pr, .int .i64 tk, .slice Ar ks.length cr]] := by
        rw [e4]; exact s2
      have hyes : ∀ w', Chg noB w3 w' → condT (sy, pr, tk, ks) r[i + 1]? → ref20_Text.b28 R C10 C (.slice a' t'.length ca') (.slice (some ⟨g, 0, none⟩) (o'.length + 1) cl') (.int .i64 i) (.bool true) w' := fun w' hc hcd => by
        unfold ref20_Text.b28
        have s3 := sY.old hc
        simp -dsimp [go_sem]
        refine s3.txtByte 2 rfl ruBytes riByte 32 rfl (by omega) ?_
        intro a5 c5 w5 s5
        simp -dsimp [go_sem]
        have e5 : (if ((t', (k - 1) :: o') : Txt × List Nat).2 ≠ [] ∧ condT (sy, pr, tk, ks) r[i + 1]? then ((t', (k - 1) :: o') : Txt × List Nat).1 ++ [32] else ((t', (k - 1) :: o') : Txt × List Nat).1) = t' ++ [32] := by rw [if_pos ⟨by simp, hcd⟩]
        rw [e5] at hR
        have := hR a5 c5 (some ⟨g, 0, none⟩) cl' w5 (by rw [List.length_append]; exact s5)
        rw [List.length_append] at this
        exact this
      have hnot : ∀ w', Chg noB w3 w' → ¬ condT (sy, pr, tk, ks) r[i + 1]? → ref20_Text.b28 R C10 C (.slice a' t'.length ca') (.slice (some ⟨g, 0, none⟩) (o'.length + 1) cl') (.int .i64 i) (.bool false) w' := fun w' hc hcd => by
        unfold ref20_Text.b28
        have s3 := sY.old hc
        simp -dsimp [go_sem]
        have e5 : (if ((t', (k - 1) :: o') : Txt × List Nat).2 ≠ [] ∧ condT (sy, pr, tk, ks) r[i + 1]? then ((t', (k - 1) :: o') : Txt × List Nat).1 ++ [32] else ((t', (k - 1) :: o') : Txt × List Nat).1) = t' := by rw [if_neg fun h => hcd h.2]
        rw [e5] at hR
        exact hR a' ca' (some ⟨g, 0, none⟩) cl' _ s3
      unfold ref20_Text.b27
      simp -dsimp [go_sem, y3]
      have hdr := (Chg.refl noB w3).drew
      refine SPL_intro (fun q1 => ?_) (fun q1 => ?_) <;> simp at q1
      · exact hyes _ hdr (Or.inl q1)
      simp -dsimp [go_sem, y3]
      refine SPL_intro (fun q2 => ?_) (fun q2 => ?_) <;> simp at q2
      · exact hyes _ hdr (Or.inr (Or.inl (by simpa using q2)))
      have hks : 0 < ks.length := by
        rcases Nat.eq_zero_or_pos ks.length with h0 | h0
        · exact absurd (by simpa using h0) q2
        · exact h0
      unfold ref20_Text.b27_3
      have wi : IntKind.i64.wrap ((i : Int) + 1) = (i : Int) + 1 := IntWalk.i64_in _ (by omega)
      simp -dsimp [go_sem, wi]
      refine SPL_intro (fun q3 => ?_) (fun q3 => ?_) <;> simp at q3
      · have q3 : i + 1 < r.length := by omega
        obtain ⟨gr, er, cr1, _⟩ := s2.rowAt 0 rfl (j := i) (by rw [natV_len]; omega)
        obtain ⟨gr', er', cr2, _⟩ := s2.rowAt 0 rfl (j := i + 1) (by rw [natV_len]; omega)
        rw [natV_get (by omega)] at cr1 cr2
        rw [hn] at cr1
        subst er
        injection er' with er'; injection er' with er'; subst er'
        have x2' := (s2.chg.cell (p := ⟨bp, op + n * 4 + 1, none⟩) hbpw id).trans x2
        unfold ref20_Text.b27_2
        simp -dsimp [go_sem, hi, cr1, hnl, x2', q1]
        unfold ref20_Text.b27_1
        obtain ⟨gk, ok, rfl, _, xk, hkin⟩ := Go.Px.ints_at (Rep.below hkr (s2.chg.below hB fun _ _ => id)) hks
        have j1 : ((i : Int) + 1).toNat = i + 1 := by omega
        have j2 : 0 ≤ (i : Int) + 1 := by omega
        have j3 : (i : Int) + 1 < r.length := by omega
        rw [Nat.add_zero] at xk
        simp -dsimp [go_sem, wi, j1, j2, j3, cr2, y3, hks, xk]
        have hcd : condT (sy, pr, tk, ks) r[i + 1]? ↔ ((r[i + 1] : Nat) : Int) ≠ ks[0] := by
          unfold condT
          have hh : ks.head? = some ks[0] := by rw [List.head?_eq_getElem?, List.getElem?_eq_getElem hks]
          rw [List.getElem?_eq_getElem q3]
          simp only [hh]
          constructor
          · rintro (h | h | ⟨m, k, h1, h2, h3⟩)
            · omega
            · subst h; simp at hks
            · injection h1 with h1; injection h2 with h2; rw [h1, h2]; exact h3
          · intro h; exact Or.inr (Or.inr ⟨_, _, rfl, rfl, h⟩)
        cases hd : (((r[i + 1] : Nat) : Int) != ks[0]) with
        | true => exact hyes _ hdr (hcd.2 (by simpa using hd))
        | false => exact hnot _ hdr (fun h => (hcd.1 h) (by simpa using hd))
      · refine hnot _ hdr ?_
        have : r[i + 1]? = none := List.getElem?_eq_none (by omega)
        rw [this]
        rintro (h | h | ⟨m, k, h1, _⟩)
        · simp at h; omega
        · exact q2 (by simpa using h)
        · cases h1
    · have e3 : closeF (k :: o') t' = closeF o' (t' ++ [41]) := by rw [closeF, if_neg (by omega)]
      have hcw' : o'.length ≤ cl' := by omega
      simp -dsimp [go_sem]
      unfold ref20_Text.b22
      simp -dsimp [go_sem]
      refine s2.txtByte 2 rfl ruBytes riByte 41 rfl (by omega) ?_
      intro a5 c5 w5 s5
      have s6 := s5.popRow 3 (n := o'.length) (xs := natV o'.reverse) (last := [Value.int .i64 ((k : Int) - 1)]) rfl (by simp [natV])
      simp -dsimp [go_sem, wl, xl, hcw']
      refine hC _ _ _ ⟨t' ++ [41], o', a5, some ⟨g, 0, none⟩, c5, cl', by rw [List.length_append]; rfl, rfl, by rw [← hcl, e3], fun j hj => hM' j (by simp [hj]), by simp; omega, ?_⟩ (by simp [slen])
      rw [List.length_append]
      exact s6
end Go.Proofs.Ytkacbjhiobnbfaa

/-
  The document's Text of a tree, whole.
-/
namespace Go.Proofs.Ytkacbjhiobnbfaa
open Go.Px Go.Px.Scan Go.RowKit
set_option maxHeartbeats 1000000
set_option linter.unusedSimpArgs false
set_option linter.unusedVariables false
set_option maxRecDepth 100000
attribute [-go_sem] Builtin.append_ ref20_Text.b1_1 ref20_Text.b34 ref20_Text.b35 ref20_Text.b3 ref20_Text.b5 ref20_Text.b7 ref20_Text.b13 ref20_Text.b15_1 ref20_Text.b15_2 ref20_Text.b15 ref20_Text.b33_1 ref20_Text.b33_2

theorem textB_ref {g : Gr} {l : List Nd} {root : Int} {r : List Nat} (hc : closedB g = true) (hw : walkP l false root = some r) : textB g l root = refT (symT g) (g.terms.length + g.nons.length) l r ([], []) := by
  unfold textB
  rw [if_pos hc, lookP_walk, hw, Option.bind_some]
  have hw' := hw
  unfold walkP at hw'
  split at hw'
  · have h1 : walkF l false l.length [] [root.toNat] = some ([] ++ r) := hw'
    have := text_eq (nm := symT g) (N := g.terms.length + g.nons.length) (fun s => ⟨symT_last (closedB_iff.1 hc) s, symT_ne g s⟩) l.length [] [root.toNat] r ([], []) h1 ⟨Or.inl ⟨rfl, by simp⟩, by simp⟩
    rw [← this]
    rfl
  · cases hw'
theorem textB_none {g : Gr} {l : List Nd} {root : Int} (hw : walkP l false root = none) : textB g l root = none := by
  unfold textB
  rw [lookP_walk, hw]; simp
open Classical in
theorem refT_cons (nm : Int → Txt) (N : Nat) (l : List Nd) (n : Nat) (r : List Nat) (t : Txt) (o : List Nat) {sy pr tk : Int} {ks : List Int} (hx : l.getD n zN = (sy, pr, tk, ks)) : refT nm N l (n :: r) (t, o) = if sy < N then
    (refT nm N l r (if 0 ≤ pr then endT ((ks.length + 1) :: o) (t ++ nm sy ++ [40]) (condT (sy, pr, tk, ks) r.head?) else endT o (t ++ nm sy) (condT (sy, pr, tk, ks) r.head?), (if 0 ≤ pr then closeF ((ks.length + 1) :: o) (t ++ nm sy ++ [40]) else closeF o (t ++ nm sy)).2)) else none := by
  conv => lhs; unfold refT
  rw [hx]
  simp only
  by_cases hp : 0 ≤ pr
  · simp only [stepN, if_pos hp, endT]
  · simp only [stepN, if_neg hp, endT]

open Classical in
theorem refTreeText_ct {w : World} {B : Nat} {vg nv : Value} {l : List Nd} {g : Gr} {root : Int} (hg : rGram.atN w B vg g) (h : (rSlice rNd).at1 w B nv l) (hB : B ≤ w.heap.size) (hN : l.length ≤ 3000000000000) (hkd : ∀ x ∈ l, x.2.2.2.length * 8 ≤ maxBytes) (hr : inI64 root) :
    Ct Try.prog ref20_Text.id #[vg, nv, .int .i64 root] w fun v w' => v = (match textB g l root with | some t => .tuple #[.string (BA t), .int .i64 0] | none => .tuple #[.string ⟨#[]⟩, .int .i64 1]) ∧ Chg noB w w' := by
  refine ref20_Text.ct fun R hR => ?_
  have hno : ∀ w', textB g l root = none → Chg noB w w' → R (.returned (.tuple #[.string ⟨#[]⟩, .int .i64 1])) w' := fun w' h1 h2 => hR _ _ ⟨by rw [h1], h2⟩
  have hyes : ∀ w' t, textB g l root = some t → Chg noB w w' → R (.returned (.tuple #[.string (BA t), .int .i64 0])) w' := fun w' t h1 h2 => hR _ _ ⟨by rw [h1], h2⟩
  clear hR
  obtain ⟨A1, c1, A2, c2, A3, c3, A4, c4, rfl, h1, h2, h3, hst, h4, k1, k2, k3, k4⟩ := (rGram_open hg).ex
  obtain ⟨A, cn, rfl, hl1, hl2, _⟩ := slice_form h
  have s0 := (St.refl noB w).alloc #[.slice A1 g.terms.length c1, .slice A2 g.nons.length c2, .slice A3 g.levels.length c3, .int .i64 g.start, .slice A4 g.prods.length c4] 27
  unfold ref20_Text.run
  simp -dsimp [go_sem]
  generalize w.heap.size = q at s0 ⊢
  generalize w.alloc (.cells #[.slice A1 g.terms.length c1, .slice A2 g.nons.length c2, .slice A3 g.levels.length c3, .int .i64 g.start, .slice A4 g.prods.length c4] 27) = w1 at s0 ⊢
  have bl : ∀ {w'}, Chg noB w w' → Below B w w' := fun hc => hc.below hB fun _ _ => id
  refine CALL_of (Walk_ct (rt := false) (Rep.below h (bl s0.chg)) (by have := s0.chg.size; omega) hN hr) ?_
  intro v w2 hp
  unfold ref20_Text.b1_1
  have hbad : ∀ {x1 x3 x8 : Value} w', textB g l root = none → Chg noB w w' → ref20_Text.b35 R x1 x3 x8 (.bool true) w' := fun w' h1 h2 => by
    unfold ref20_Text.b35
    simp -dsimp [go_sem]
    exact hno _ h1 h2
  cases hw : walkP l false root with
  | none =>
    rw [hw] at hp
    obtain ⟨rfl, hc⟩ := hp
    simp -dsimp [go_sem]
    unfold ref20_Text.b34
    simp -dsimp [go_sem]
    exact hbad _ (textB_none hw) (s0.chg.trans hc)
  | some r =>
    rw [hw] at hp
    obtain ⟨a, c, rfl, s1⟩ := hp
    have s2 := s0.seq s1
    have hrl := walkP_lt hw
    have hrn := nodup_len l.length r (walkP_nodup hw) hrl
    have b0 := s2.box 0 rfl
    simp [boxAt] at b0
    simp -dsimp [go_sem]
    unfold ref20_Text.b34
    simp -dsimp [go_sem, b0]
    refine CALL_of (refClosed_ct (rGram_below hg (bl s2.chg)) (by have := s2.chg.size; omega)) ?_
    rintro _ w4 ⟨rfl, hc4⟩
    have s4 := s2.old hc4
    simp -dsimp [go_sem]
    unfold ref20_Text.b35
    cases hcl : closedB g with
    | false =>
      simp -dsimp [go_sem]
      exact hno _ (by unfold textB; rw [hcl]; simp) s4.chg
    | true =>
      have htx := textB_ref hcl hw
      have hbd : EBound g := either_bound (Or.inr (closedB_iff.1 hcl))
      have y2 := s4.box 0 rfl
      simp [boxAt] at y2
      simp -dsimp [go_sem]
      unfold ref20_Text.b3
      have hT : g.terms.length + g.nons.length ≤ 130 := by have := hbd.t1; have := hbd.n1; omega
      have hlt : ∀ i : Nat, i < g.terms.length + g.nons.length → rowOk g [(i : Int)] = true := by
        intro i hi
        unfold rowOk
        rw [eitherB_iff.2 (Or.inr (closedB_iff.1 hcl))]
        simp [isSymP]; omega
      have hmk := mkStrs w4 (g.terms.length + g.nons.length) (by omega)
      rw [show ((g.terms.length + g.nons.length : Nat) : Int) = (g.terms.length : Int) + g.nons.length by omega] at hmk
      have wT : IntKind.i64.wrap ((g.terms.length : Int) + g.nons.length) = (g.terms.length : Int) + g.nons.length := IntWalk.i64_in _ (by omega)
      have s5 := s4.lit 9 1 (g.terms.length + g.nons.length) (Array.replicate (g.terms.length + g.nons.length) (Value.string ⟨#[]⟩)) (by unfold maxLen; omega) (by simp)
      obtain ⟨T, hTe⟩ : ∃ T, g.terms.length + g.nons.length = T := ⟨_, rfl⟩
      simp -dsimp [go_sem, y2, wT, hmk]
      have hTi : (g.terms.length : Int) + g.nons.length = T := by omega
      rw [hTe] at s5 hT hlt htx
      rw [hTe]
      generalize w4.alloc (.cells (Array.replicate T (Value.string ⟨#[]⟩)) 9) = w5 at s5 ⊢
      generalize w4.heap.size = nr at s5 ⊢
      rw [Array.toList_replicate, ← namesR_zero g] at s5
      refine ref20_Text.l32_intro _ _ _ _ _ _ _ (fun y w' => ∃ i : Nat, y = .int .i64 i ∧ i ≤ T ∧ St noB w w' [boxC q 27 [.slice A1 g.terms.length c1, .slice A2 g.nons.length c2, .slice A3 g.levels.length c3, .int .i64 g.start, .slice A4 g.prods.length c4], rowC 3 1 a r.length c (natV r), rowC 9 1 (some ⟨nr, 0, none⟩) T T (namesR g T i)]) (fun y _ => T - iv y) ⟨0, rfl, by omega, s5⟩ ?_
      rintro _ w6 ⟨i, rfl, hi, s6⟩ C hC
      simp -dsimp [go_sem]
      refine SPL_intro (fun p1 => ?_) (fun p1 => ?_) <;> simp at p1
      · have y6 := s6.box 0 rfl
        simp [boxAt] at y6
        unfold ref20_Text.b33_2
        simp -dsimp [go_sem, y6]
        refine CALL_of (refSymbol_ct (rGram_below hg (bl s6.chg)) (by have := s6.chg.size; omega) (by unfold inI64; omega)) ?_
        rintro _ w7 ⟨rfl, hc7⟩
        have s7 := s6.old hc7
        rw [hlt i p1, if_pos rfl, if_pos rfl]
        have wi : IntKind.i64.wrap ((i : Int) + 1) = (i : Int) + 1 := IntWalk.i64_in _ (by omega)
        obtain ⟨gn, en, cn', fn⟩ := s7.rowAt 2 rfl (j := i) (by rw [namesR_len]; exact p1)
        injection en with en; injection en with en; subst en
        have s8 := s7.setRow 2 rfl i (.string (BA (symT g i)))
        rw [namesR_set] at s8
        unfold ref20_Text.b33_1
        simp -dsimp [go_sem, wi, p1, cn', fn]
        exact hC _ _ ⟨i + 1, by simp, by omega, s8⟩ (by simp [iv]; omega)
      · have hiT : i = T := by omega
        subst hiT
        have s7 := ((s6.nilTxtM false 5).nilRow 3 1).pick [1, 2, 3, 4] (L' := [rowC 3 1 a r.length c (natV r), rowC 9 1 (some ⟨nr, 0, none⟩) i i (namesR g i i), txtM false 5 none 0 0 [], rowC 3 1 none 0 0 []]) (by decide) rfl
        unfold ref20_Text.b5
        simp -dsimp [go_sem]
        refine ref20_Text.l10_intro _ _ _ _ _ _ _ _ (fun y z x w' => ∃ (k : Nat) (t : Txt) (o : List Nat) (at' al : Option Addr) (ca cl : Nat), y = .slice at' t.length ca ∧ z = .slice al o.length cl ∧ x = .int .i64 k ∧ k ≤ r.length ∧ refT (symT g) i l (r.drop k) (t, o) = textB g l root ∧ (∀ j ∈ o, j ≤ 20000000000000) ∧ t.length + o.length ≤ 30 * k ∧ o.length ≤ k ∧
          St noB w w' [rowC 3 1 a r.length c (natV r), rowC 9 1 (some ⟨nr, 0, none⟩) i i (namesR g i i), txtM false 5 at' t.length ca t, rowC 3 1 al o.length cl (natV o.reverse)]) (fun _ _ x _ => r.length - iv x) ⟨0, [], [], none, none, 0, 0, rfl, rfl, rfl, by omega, htx.symm, by simp, by simp, by simp, s7⟩ ?_
        rintro _ _ _ w8 ⟨k, t, o, at', al, ca, cl, rfl, rfl, rfl, hk, href, hko, hb, hok, s8⟩ C hC
        simp -dsimp [go_sem]
        refine SPL_intro (fun p2 => ?_) (fun p2 => ?_) <;> simp at p2
        · obtain ⟨gr, ea, ck, fk⟩ := s8.rowAt 0 rfl (j := k) (by rw [natV_len]; exact p2)
          subst ea
          rw [natV_get p2] at ck
          obtain ⟨n, hn⟩ : ∃ n, r[k] = n := ⟨_, rfl⟩
          have hnl : n < l.length := hn ▸ hrl _ (List.getElem_mem p2)
          rw [hn] at ck
          obtain ⟨bp, op, vr, ep, hbp, x1, x2, x3, x4, hkr, z1, z2, z3⟩ := nodes_at h hnl
          have hsl := h
          subst ep
          have hbpw : bp < w.heap.size := by omega
          have x1 := (s8.chg.cell (p := ⟨bp, op + n * 4, none⟩) hbpw id).trans x1
          have x2 := (s8.chg.cell (p := ⟨bp, op + n * 4 + 1, none⟩) hbpw id).trans x2
          have x3 := (s8.chg.cell (p := ⟨bp, op + n * 4 + 2, none⟩) hbpw id).trans x3
          have x4 := (s8.chg.cell (p := ⟨bp, op + n * 4 + 3, none⟩) hbpw id).trans x4
          obtain ⟨Ar, cr, rfl, hkl1, hkl2, _⟩ := slice_form hkr
          have hgd : l.getD n zN = l[n] := by simp [hnl]
          have hk8 := hkd _ (List.getElem_mem hnl)
          have hdr : r.drop k = n :: r.drop (k + 1) := by rw [List.drop_eq_getElem_cons p2, hn]
          have hhd : (r.drop (k + 1)).head? = r[k + 1]? := by simp
          obtain ⟨x, hx⟩ : ∃ x, l[n] = x := ⟨_, rfl⟩
          rw [hx] at x1 x2 x3 x4 hkr z1 z2 z3 hkl1 hgd hk8
          obtain ⟨sy, pr, tk, ks⟩ := x
          simp only at x1 x2 x3 x4 hkr z1 z2 z3 hkl1 hk8
          have hx' : l[n].2.2.2 = ks := by rw [hx]
          rw [hdr, refT_cons _ _ _ _ _ _ _ hgd, hhd] at href
          have s9 := s8.alloc #[.int .i64 sy, .int .i64 pr, .int .i64 tk, .slice Ar ks.length cr] 61
          have hokn := walkP_ok hw n (hn ▸ List.getElem_mem p2)
          rw [hgd] at hokn
          have hsy0 : 0 ≤ sy := hokn.1
          unfold ref20_Text.b15
          simp -dsimp [go_sem, p2, ck, hnl, x1, x2, x3, x4, hx']
          generalize w8.alloc (.cells #[.int .i64 sy, .int .i64 pr, .int .i64 tk, .slice Ar ks.length cr] 61) = w9 at s9 ⊢
          generalize w8.heap.size = nb at s9 ⊢
          have n9 := s9.box 4 rfl
          simp [boxAt] at n9
          refine SPL_intro (fun p3 => ?_) (fun p3 => ?_) <;> simp at p3
          · rw [if_neg (by omega)] at href
            exact hno _ href.symm s9.chg
          rw [if_pos (by omega)] at href
          obtain ⟨j, rfl⟩ : ∃ j : Nat, sy = j := ⟨sy.toNat, by omega⟩
          have hj : j < i := by omega
          obtain ⟨g', en, cn', _⟩ := s9.rowAt 1 rfl (j := j) (by rw [namesR_len]; exact hj)
          injection en with en; injection en with en; subst en
          rw [namesR_get g hj hj] at cn'
          have hnl18 := symT_len hbd (j : Int)
          have wk : IntKind.i64.wrap ((k : Int) + 1) = (k : Int) + 1 := IntWalk.i64_in _ (by omega)
          unfold ref20_Text.b15_2
          simp -dsimp [go_sem, n9, hj, cn']
          refine s9.txtStr 2 rfl ruBytes Try.underlying9 riByte (BA (symT g (j : Int))) (by rw [BA_size]; unfold maxBytes; omega) ?_
          intro a10 c10 w10 s10
          rw [tx_BA, BA_size] at s10
          rw [BA_size]
          have e10 : t.length + (symT g (j : Int)).length = (t ++ symT g (j : Int)).length := by rw [List.length_append]
          rw [e10] at s10 ⊢
          have n10 := s10.box 4 rfl
          simp [boxAt] at n10
          have hl10 : (t ++ symT g (j : Int)).length ≤ t.length + 18 := by rw [List.length_append]; omega
          obtain ⟨t1, ht1⟩ : ∃ t1, t ++ symT g (j : Int) = t1 := ⟨_, rfl⟩
          rw [ht1] at s10 hl10 href ⊢
          have fin : ∀ (o2 : List Nat) (t2 : Txt) (href : refT (symT g) i l (r.drop (k + 1)) (endT o2 t2 (condT ((j : Int), pr, tk, ks) r[k + 1]?), (closeF o2 t2).2) = textB g l root) (hko2 : ∀ j ∈ o2, j ≤ 20000000000000) (hb2 : t2.length + o2.length ≤ 30 * k + 20) (hb3 : o2.length ≤ k + 1) (w' : World) (a' : Option Addr) (ca' : Nat) (al' : Option Addr) (cl' : Nat),
              St noB w w' [rowC 3 1 (some ⟨gr, 0, none⟩) r.length c (natV r), rowC 9 1 (some ⟨nr, 0, none⟩) i i (namesR g i i), txtM false 5 a' t2.length ca' t2, rowC 3 1 al' o2.length cl' (natV o2.reverse), boxC nb 61 [.int .i64 (j : Int), .int .i64 pr, .int .i64 tk, .slice Ar ks.length cr]] →
              ref20_Text.l17 R C (.slice (some ⟨bp, op, none⟩) l.length cn) (.slice (some ⟨gr, 0, none⟩) r.length c) (.slice a' t2.length ca') (.slice al' o2.length cl') (.int .i64 k) (.pointer (some ⟨nb, 0, none⟩)) w' := by
            intro o2 t2 href hko2 hb2 hb3 w' a' ca' al' cl' sp
            refine rclose h hB p2 hn hnl (by omega) hx hkr hko2 (by unfold maxBytes; omega) sp fun a3 c3 al3 cl3 w3 s3 => ?_
            unfold ref20_Text.b13
            simp -dsimp [go_sem, wk]
            have hle := closeF_len o2 t2
            refine hC _ _ _ _ ⟨k + 1, _, _, a3, al3, c3, cl3, rfl, rfl, by simp, by omega, href, closeF_le o2 t2 hko2, ?_, by omega, s3.take 4⟩ (by simp [iv]; omega)
            unfold endT
            split
            · rw [List.length_append]; simp only [List.length_cons, List.length_nil]; omega
            · omega
          simp -dsimp [go_sem, n10]
          refine SPL_intro (fun p4 => ?_) (fun p4 => ?_) <;> simp at p4
          · rw [if_pos p4, if_pos p4] at href
            unfold ref20_Text.b15_1
            simp -dsimp [go_sem]
            refine s10.txtByte 2 rfl ruBytes riByte 40 rfl (by unfold maxBytes; omega) ?_
            intro a11 c11 w11 s11
            have e11 : t1.length + 1 = (t1 ++ [40]).length := by rw [List.length_append]; rfl
            rw [e11] at s11 ⊢
            have n11 := s11.box 4 rfl
            simp [boxAt] at n11
            have wk1 : IntKind.i64.wrap ((ks.length : Int) + 1) = (ks.length : Int) + 1 := IntWalk.i64_in _ (by unfold maxBytes at hk8; omega)
            simp -dsimp [go_sem, n11, wk1]
            refine s11.append1 3 rfl Try.underlying24 iInt' rfl (by omega) (news := [Value.int .i64 ((ks.length : Int) + 1)]) rfl (by simp [Value.oneCell']) (by unfold maxLen; omega) (by unfold maxBytes; omega) fun g6 cap w6 s6 => ?_
            have e7 : natV o.reverse ++ [Value.int .i64 ((ks.length : Int) + 1)] = natV ((ks.length + 1) :: o).reverse := by simp [natV]
            refine fin ((ks.length + 1) :: o) (t1 ++ [40]) href (fun x hx => ?_) ?_ (by simp; omega) _ _ _ _ _ ?_
            · rcases List.mem_cons.1 hx with rfl | hx
              · unfold maxBytes at hk8; omega
              · exact hko x hx
            · rw [List.length_append]; simp only [List.length_cons, List.length_nil]; omega
            · rw [← e7]; exact s6
          · rw [if_neg (by omega), if_neg (by omega)] at href
            exact fin o t1 href hko (by omega) (by omega) _ _ _ _ _ s10
        · have hkr : k = r.length := by omega
          subst hkr
          rw [List.drop_length] at href
          unfold ref20_Text.b7
          have hcv := s8.txtConv 2 rfl (t := 98) (u := 9) ruBytes Try.underlying5 Try.underlying9
          rw [RUN_eq, hcv, RES_ok]
          exact hyes _ _ href.symm s8.chg
end Go.Proofs.Ytkacbjhiobnbfaa

