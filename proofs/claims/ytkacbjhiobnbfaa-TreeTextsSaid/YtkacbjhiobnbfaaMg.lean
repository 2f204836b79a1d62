/-
  The document's texts: Either, Symbol, Row.
-/
import Derived.Test.YtkacbjhiobnbfaaPa
import Derived.Test.YtkacbjhiobnbfaaMc
import Derived.Test.YtkacbjhiobnbfaaGe
import Derived.Test.YtkacbjhiobnbfaaMe
namespace Go.Proofs.Ytkacbjhiobnbfaa
open Go.Px Go.Px.Scan Go.RowKit
set_option maxHeartbeats 1000000
set_option linter.unusedSimpArgs false
set_option linter.unusedVariables false
set_option maxRecDepth 100000
attribute [-go_sem] Builtin.append_
attribute [-go_sem] ref05_Symbol.b5 ref05_Row.b3 ref05_Row.b5 ref05_Row.b14 ref05_Row.b11 ref05_Row.b23 ref05_Row.b20

theorem ruBytes : Try.prog.underlying 98 = some (.slice 5) := Try.underlying98
theorem riByte : (Try.prog.info? 5).map (fun i => (i.zero, i.size, i.bytes)) = some (some (.int .u8 0), 1, 1) := by kernel_rfl
theorem rba_empty {s : ByteArray} : s.toList.isEmpty = true ↔ s = ⟨#[]⟩ := by
  rw [ByteArray.toList_eq]
  constructor
  · intro h
    have : tx s = tx ⟨#[]⟩ := by simpa [tx] using h
    exact tx_inj this
  · rintro rfl; rfl

section
variable {w : World} {B : Nat} {vg : Value} {g : Gr}
theorem refEither_ct (h : rGram.atN w B vg g) (hB : B ≤ w.heap.size) : Ct Try.prog ref05_Either.id #[vg] w fun v w' => v = .bool (eitherB g) ∧ Chg noB w w' := by
  refine ref05_Either.ct fun R hR => ?_
  obtain ⟨A1, c1, A2, c2, A3, c3, A4, c4, rfl, _, _, hc0, hg⟩ := box_all h hB
  have he : eitherB g = (validB g || closedB g) := rfl
  unfold ref05_Either.run
  simp -dsimp [go_sem]
  generalize w.alloc (.cells #[.slice A1 g.terms.length c1, .slice A2 g.nons.length c2, .slice A3 g.levels.length c3, .int .i64 g.start, .slice A4 g.prods.length c4] 27) = w1 at hc0 hg ⊢
  refine CALL_of (refValid_ct (rGram_below h (hc0.below hB fun _ _ => id)) (by have := hc0.size; omega)) ?_
  rintro _ w2 ⟨rfl, hc2⟩
  refine SPL_intro (fun p => ?_) (fun p => ?_)
  · exact hR _ _ ⟨by rw [he, p]; rfl, hc0.trans hc2⟩
  · have z := hg w2 hc2
    simp -dsimp [go_sem, z.k]
    refine CALL_of (refClosed_ct (rGram_below h ((hc0.trans hc2).below hB fun _ _ => id)) (by have := (hc0.trans hc2).size; omega)) ?_
    rintro _ w3 ⟨rfl, hc3⟩
    exact hR _ _ ⟨by rw [he, p]; rfl, (hc0.trans hc2).trans hc3⟩

theorem refsym_ct (h : rGram.atN w B vg g) (hB : B ≤ w.heap.size) (hbd : EBound g) {s : Int} (hs : isSymP g s) : Ct Try.prog ref05_symbol.id #[vg, .int .i64 s] w fun v w' => v = .string (BA (symT g s)) ∧ Chg noB w w' := by
  refine ref05_symbol.ct fun R hR => ?_
  obtain ⟨A1, c1, A2, c2, A3, c3, A4, c4, rfl, _, _, hc0, hg⟩ := box_all h hB
  unfold ref05_symbol.run
  simp -dsimp [go_sem]
  generalize w.alloc (.cells #[.slice A1 g.terms.length c1, .slice A2 g.nons.length c2, .slice A3 g.levels.length c3, .int .i64 g.start, .slice A4 g.prods.length c4] 27) = w1 at hc0 hg ⊢
  have z := hg w1 (Chg.refl _ _)
  obtain ⟨hs1, hs2⟩ := hs
  have b1 := hbd.t1
  have b2 := hbd.n1
  refine SPL_intro (fun p => ?_) (fun p => ?_) <;> simp at p
  · subst p
    exact hR _ _ ⟨rfl, hc0⟩
  · obtain ⟨j, rfl⟩ : ∃ j : Nat, s = (j : Int) := ⟨s.toNat, by omega⟩
    simp -dsimp [go_sem, z.k]
    refine SPL_intro (fun p2 => ?_) (fun p2 => ?_) <;> simp at p2
    · obtain ⟨b', o, e1, _, x1, _, z1, _⟩ := terms_at z.r1 p2
      have hsz := hbd.tnam _ (List.getElem_mem p2)
      subst e1
      have hsy : symT g (j : Int) = [39] ++ tx g.terms[j].1 ++ [39] := by
        unfold symT nameOf
        rw [if_neg (by omega), if_pos (by omega)]
        simp [p2]
      have q1 : ¬ 9223372036854775807 < 1 + g.terms[j].1.size := by omega
      have q2 : ¬ 9223372036854775807 < 1 + g.terms[j].1.size + 1 := by omega
      simp -dsimp [go_sem, z.k, p2, x1, q1, q2]
      refine hR _ _ ⟨?_, hc0⟩
      rw [hsy, ← BA_append, ← BA_append, BA_tx]
      rfl
    · obtain ⟨k, rfl⟩ : ∃ k : Nat, j = g.terms.length + k := ⟨j - g.terms.length, by omega⟩
      have hk : k < g.nons.length := by omega
      obtain ⟨b', o, e1, _, x1, z1⟩ := Go.Px.strs_at z.r2 hk
      subst e1
      have wk : IntKind.i64.wrap (((g.terms.length + k : Nat) : Int) - (g.terms.length : Int)) = (k : Int) := by
        rw [show ((g.terms.length + k : Nat) : Int) - (g.terms.length : Int) = (k : Int) by omega]; exact IntWalk.i64_in _ (by omega)
      have hn : nonAt g ((g.terms.length + k : Nat) : Int) = g.nons[k] := by
        unfold nonAt
        rw [show (((g.terms.length + k : Nat) : Int) - (g.terms.length : Int)).toNat = k by omega]
        simp [hk]
      have hsy : symT g ((g.terms.length + k : Nat) : Int) = if g.nons[k] = ⟨#[]⟩ then tStart else tx g.nons[k] := by
        unfold symT
        rw [if_neg (by omega), if_neg (by omega), hn]
      push_cast at wk
      simp -dsimp [go_sem, z.k, wk, hk, x1]
      refine SPL_intro (fun p3 => ?_) (fun p3 => ?_)
      · have p3 := rba_empty.1 p3
        refine hR _ _ ⟨?_, hc0⟩
        rw [hsy, if_pos p3]; rfl
      · simp -dsimp [go_sem, z.k, wk, hk, x1]
        refine hR _ _ ⟨?_, hc0⟩
        rw [hsy, if_neg (fun e => by rw [rba_empty.2 e] at p3; cases p3), BA_tx]

theorem rowOk_no {s : Int} (h : ¬ isSymP g s) : rowOk g [s] = false := by unfold rowOk; simp [h]
theorem refSymbol_ct (h : rGram.atN w B vg g) (hB : B ≤ w.heap.size) {s : Int} (hs : inI64 s) :
    Ct Try.prog ref05_Symbol.id #[vg, .int .i64 s] w fun v w' => v = .tuple #[.string (BA (if rowOk g [s] then symT g s else [])), .int .i64 (if rowOk g [s] then 0 else 1)] ∧ Chg noB w w' := by
  refine ref05_Symbol.ct fun R hR => ?_
  obtain ⟨A1, c1, A2, c2, A3, c3, A4, c4, rfl, _, _, hc0, hg⟩ := box_all h hB
  unfold ref05_Symbol.run
  simp -dsimp [go_sem]
  generalize w.alloc (.cells #[.slice A1 g.terms.length c1, .slice A2 g.nons.length c2, .slice A3 g.levels.length c3, .int .i64 g.start, .slice A4 g.prods.length c4] 27) = w1 at hc0 hg ⊢
  generalize w.heap.size = q at hg ⊢
  have hno : ∀ w', Chg noB w w' → rowOk g [s] = false → ref05_Symbol.b5 R (.int .i64 s) (.pointer (some ⟨q, 0, none⟩)) (.bool true) w' := by
    intro w' hc hf
    unfold ref05_Symbol.b5
    simp -dsimp [go_sem]
    refine hR _ _ ⟨?_, hc⟩
    rw [hf]; rfl
  refine CALL_of (refEither_ct (rGram_below h (hc0.below hB fun _ _ => id)) (by have := hc0.size; have := (hg w1 (Chg.refl _ _)).sz; omega)) ?_
  rintro _ w2 ⟨rfl, hc2⟩
  have hc := hc0.trans hc2
  cases he : eitherB g with
  | false =>
    simp -dsimp [go_sem]
    exact hno _ hc (by unfold rowOk; rw [he]; rfl)
  | true =>
    have hbd := either_bound (eitherB_iff.1 he)
    have b1 := hbd.t1
    have b2 := hbd.n1
    have z := hg w2 hc2
    simp -dsimp [go_sem]
    refine SPL_intro (fun p => ?_) (fun p => ?_) <;> simp at p
    · exact hno _ hc (rowOk_no fun h => by have := h.1; omega)
    have wk : IntKind.i64.wrap ((g.terms.length : Int) + (g.nons.length : Int)) = (g.terms.length : Int) + g.nons.length := IntWalk.i64_in _ (by omega)
    simp -dsimp [go_sem, z.k, wk]
    cases p2 : decide ((g.terms.length : Int) + g.nons.length ≤ s) with
    | true =>
      have p2 : (g.terms.length : Int) + g.nons.length ≤ s := by simpa using p2
      exact hno _ hc (rowOk_no fun h => by have := h.2; omega)
    | false =>
      have p2 : ¬ (g.terms.length : Int) + g.nons.length ≤ s := by simpa using p2
      have hsy : isSymP g s := ⟨by omega, by omega⟩
      unfold ref05_Symbol.b5
      simp -dsimp [go_sem, z.k]
      refine CALL_of (refsym_ct (rGram_below h (hc.below hB fun _ _ => id)) (by have := hc.size; omega) hbd hsy) ?_
      rintro _ w3 ⟨rfl, hc3⟩
      refine hR _ _ ⟨?_, hc.trans hc3⟩
      have hok : rowOk g [s] = true := by unfold rowOk; rw [he]; simp [hsy]
      rw [hok]; rfl

theorem refRow_ct (h : rGram.atN w B vg g) (hB : B ≤ w.heap.size) {u : Value} {l : List Int} {B' : Nat} (hu : (rSlice rInt).at1 w B' u l) (hB' : B' ≤ w.heap.size) (hl : l.length ≤ 1000000000000) :
    Ct Try.prog ref05_Row.id #[vg, u] w fun v w' => v = .tuple #[.string (BA (if rowOk g l then rowT g l else [])), .int .i64 (if rowOk g l then 0 else 1)] ∧ Chg noB w w' := by
  refine ref05_Row.ct fun R hR => ?_
  obtain ⟨A1, c1, A2, c2, A3, c3, A4, c4, rfl, _, _, hc0, hg⟩ := box_all h hB
  obtain ⟨A, c, rfl, hl1, hl2, _⟩ := slice_form hu
  unfold ref05_Row.run
  simp -dsimp [go_sem]
  generalize w.alloc (.cells #[.slice A1 g.terms.length c1, .slice A2 g.nons.length c2, .slice A3 g.levels.length c3, .int .i64 g.start, .slice A4 g.prods.length c4] 27) = w1 at hc0 hg ⊢
  generalize w.heap.size = q at hg ⊢
  have hno : ∀ w', Chg noB w w' → rowOk g l = false → R (.returned (.tuple #[.string ⟨#[]⟩, .int .i64 1])) w' := by
    intro w' hc hf
    refine hR _ _ ⟨?_, hc⟩
    rw [hf]; rfl
  refine CALL_of (refEither_ct (rGram_below h (hc0.below hB fun _ _ => id)) (by have := (hg w1 (Chg.refl _ _)).sz; omega)) ?_
  rintro _ w2 ⟨rfl, hc2⟩
  have hc := hc0.trans hc2
  cases he : eitherB g with
  | false =>
    simp -dsimp [go_sem]
    exact hno _ hc (by unfold rowOk; rw [he]; rfl)
  | true =>
    have hbd := either_bound (eitherB_iff.1 he)
    have b1 := hbd.t1
    have b2 := hbd.n1
    have wk : IntKind.i64.wrap ((g.terms.length : Int) + (g.nons.length : Int)) = (g.terms.length : Int) + g.nons.length := IntWalk.i64_in _ (by omega)
    simp -dsimp [go_sem]
    refine ref05_Row.l17_intro _ _ _ _ _ (fun y w' => ∃ k : Nat, y = .int .i64 k ∧ k ≤ l.length ∧ Chg noB w2 w' ∧ ∀ s ∈ l.take k, isSymP g s) (fun y _ => l.length - iv y) ⟨0, rfl, Nat.zero_le _, Chg.refl _ _, by simp⟩ ?_
    rintro _ w3 ⟨k, rfl, hk, hc3, hall⟩ C hC
    have z := hg w3 (hc2.trans hc3)
    simp -dsimp [go_sem]
    refine SPL_intro (fun p => ?_) (fun p => ?_) <;> simp at p
    · obtain ⟨b', o, e1, _, x1, z1⟩ := Go.Px.ints_at (Rep.below hu ((hc.trans hc3).below hB' fun _ _ => id)) p
      subst e1
      have wk1 := wrap_succ p (by omega)
      have htk : l.take (k + 1) = l.take k ++ [l[k]] := List.take_succ_eq_append_getElem p
      have hbad : ¬ isSymP g l[k] → rowOk g l = false := fun hn => by
        unfold rowOk
        rw [he, Bool.true_and]
        cases hx : l.all fun s => decide (isSymP g s) with
        | false => rfl
        | true => exact absurd (by simpa using List.all_eq_true.1 hx _ (List.getElem_mem p)) hn
      simp -dsimp [go_sem, p, x1]
      refine SPL_intro (fun p2 => ?_) (fun p2 => ?_) <;> simp at p2
      · unfold ref05_Row.b23
        simp -dsimp [go_sem]
        exact hno _ (hc.trans hc3).drew (hbad fun h => by have := h.1; omega)
      simp -dsimp [go_sem, z.k, p, x1, wk]
      cases p3 : decide ((g.terms.length : Int) + g.nons.length ≤ l[k]) with
      | true =>
        have p3 : (g.terms.length : Int) + g.nons.length ≤ l[k] := by simpa using p3
        unfold ref05_Row.b23
        simp -dsimp [go_sem]
        exact hno _ (hc.trans hc3).drew (hbad fun h => by have := h.2; omega)
      | false =>
        have p3 : ¬ (g.terms.length : Int) + g.nons.length ≤ l[k] := by simpa using p3
        unfold ref05_Row.b23
        simp -dsimp [go_sem]
        unfold ref05_Row.b20
        simp -dsimp [go_sem, wk1]
        refine hC _ _ ⟨k + 1, by simp, by omega, hc3.drew, fun s hs => ?_⟩ (by simp [iv]; omega)
        rw [htk] at hs
        rcases List.mem_append.1 hs with hs | hs
        · exact hall s hs
        · rw [List.mem_singleton.1 hs]; exact ⟨by omega, by omega⟩
    · have hkl : k = l.length := by omega
      subst hkl
      rw [List.take_length] at hall
      clear hC C
      have hok : rowOk g l = true := by
        unfold rowOk
        rw [he, Bool.true_and, List.all_eq_true]
        exact fun s hs => by simpa using hall s hs
      unfold ref05_Row.b3
      simp -dsimp [go_sem]
      have s0 : St noB w1 w3 [txtM false 5 none 0 0 []] := (St.start (hc2.trans hc3)).nilTxt 5
      refine ref05_Row.l8_intro _ _ _ _ _ _ (fun x y w' => ∃ (k : Nat) (a : Option Addr) (c : Nat), y = .int .i64 k ∧ k ≤ l.length ∧ x = .slice a (rowT g (l.take k)).length c ∧ St noB w1 w' [txtM false 5 a (rowT g (l.take k)).length c (rowT g (l.take k))]) (fun _ y _ => l.length - iv y) ⟨0, none, 0, rfl, Nat.zero_le _, rfl, s0⟩ ?_
      rintro _ _ w4 ⟨k, a, c', rfl, hk, rfl, s4⟩ C hC
      simp -dsimp [go_sem]
      refine SPL_intro (fun p => ?_) (fun p => ?_) <;> simp at p
      · have htk : l.take (k + 1) = l.take k ++ [l[k]] := List.take_succ_eq_append_getElem p
        have hsym := hall _ (List.getElem_mem p)
        have hsl := symT_len hbd l[k]
        have hnl := namesT_len hbd (l.take k)
        have hrl : (rowT g (l.take k)).length ≤ 19 * l.length := by unfold rowT; simp at hnl ⊢; omega
        have wk1 := wrap_succ p (by omega)
        have fin : ∀ (a : Option Addr) (cc : Nat) (w5 : World) (t : Txt), t ++ symT g l[k] = rowT g (l.take (k + 1)) → t.length ≤ 19 * l.length + 1 → St noB w1 w5 [txtM false 5 a t.length cc t] → ref05_Row.b14 R C (.slice A l.length c) (.pointer (some ⟨q, 0, none⟩)) (.slice a t.length cc) (.int .i64 k) w5 := by
          intro a cc w5 t ht htl s5
          have s5 := s5.old (Chg.refl noB _).drew
          have z := hg _ s5.chg
          obtain ⟨b', o, e1, _, x1, z1⟩ := Go.Px.ints_at (Rep.below hu ((hc0.trans s5.chg).below hB' fun _ _ => id)) p
          subst e1
          unfold ref05_Row.b14
          simp -dsimp [go_sem, z.k, p, x1]
          generalize w5.drew = w5d at s5 z ⊢
          refine CALL_of (refsym_ct (rGram_below h ((hc0.trans s5.chg).below hB fun _ _ => id)) (by have := (hc0.trans s5.chg).size; omega) hbd hsym) ?_
          rintro _ w6 ⟨rfl, hc6⟩
          have s6 := s5.old hc6
          simp -dsimp [go_sem]
          refine s6.txtStr 0 rfl ruBytes Try.underlying9 riByte _ (by rw [BA_size]; unfold maxBytes; omega) ?_
          intro a' cap w7 s7
          rw [tx_BA, ht] at s7
          have e : t.length + (BA (symT g l[k])).size = (rowT g (l.take (k + 1))).length := by rw [BA_size, ← ht, List.length_append]
          rw [e] at s7 ⊢
          unfold ref05_Row.b11
          simp -dsimp [go_sem, wk1]
          refine hC _ _ _ ⟨k + 1, a', cap, by simp, by omega, rfl, s7⟩ (by simp [iv]; omega)
        have hsn := rowT_snoc g (l.take k) l[k]
        rw [← htk] at hsn
        simp -dsimp [go_sem]
        refine SPL_intro (fun p2 => ?_) (fun p2 => ?_) <;> simp at p2
        · rw [if_neg (by intro h0; have h2 : (l.take k).length = k := by { rw [List.length_take]; omega }; rw [h0] at h2; simp at h2; omega)] at hsn
          simp -dsimp [go_sem]
          refine s4.txtByte 0 rfl ruBytes riByte 32 rfl (by unfold maxBytes; omega) ?_
          intro a' cap w5 s5
          have e : (rowT g (l.take k)).length + 1 = (rowT g (l.take k) ++ [32]).length := by simp
          rw [e] at s5 ⊢
          refine fin _ _ _ _ hsn.symm (by simp; omega) s5
        · have hk0 : k = 0 := by omega
          rw [if_pos (by subst hk0; rfl)] at hsn
          refine fin _ _ _ _ ?_ (by omega) s4
          rw [hsn]
          have : rowT g (l.take k) = [] := by subst hk0; rfl
          rw [this]; rfl
      · have hkl : k = l.length := by omega
        subst hkl
        rw [List.take_length] at s4
        unfold ref05_Row.b5
        have hcv := s4.txtConv (P := Try.prog) (u := 9) 0 rfl ruBytes Try.underlying5 Try.underlying9
        simp -dsimp [go_sem, hcv]
        refine hR _ _ ⟨?_, hc0.trans s4.chg⟩
        rw [hok]; rfl
end
end Go.Proofs.Ytkacbjhiobnbfaa

