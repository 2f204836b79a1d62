/-
  Terminals, nonterminals, levels that fit.
-/
import Derived.Test.YtmhebgebfjnfjaaGs3b
namespace Go.Proofs.Ytmhebgebfjnfjaa
open Go.Px Go.Px.Scan Go.RowKit
set_option maxHeartbeats 1000000
set_option linter.unusedSimpArgs false
set_option linter.unusedVariables false
set_option maxRecDepth 100000
attribute [-go_sem] Builtin.append_

theorem symbols_ct {w : World} {B : Nat} {v : Value} {g : Gr} (h : rGram.atN w B v g) (hB : B ≤ w.heap.size) {a : Nat} (ha : a ≤ 1) : Ct Try.prog gram_symbols.id #[v, .int .i64 a] w fun r w' => r = .bool (symB g a) ∧ Chg noB w w' := by
  refine gram_symbols.ct fun R hR => ?_
  obtain ⟨A1, c1, A2, c2, A3, c3, A4, c4, rfl, h1, h2, h3, h4, h5, ⟨l1, m1⟩, ⟨l2, m2⟩, ⟨l3, m3⟩, ⟨l4, m4⟩⟩ := (rGram_open h).ex
  have no : ∀ w', Chg noB w w' → ¬ SymsP g a → R (.returned (.bool false)) w' := fun w' hc hn => hR _ _ ⟨by rw [bool_no symB_iff hn], hc⟩
  unfold gram_symbols.run gram_symbols.b1
  simp -dsimp [go_sem]
  have h0 := (St.refl noB w).alloc #[.slice A1 g.terms.length c1, .slice A2 g.nons.length c2, .slice A3 g.levels.length c3, .int .i64 g.start, .slice A4 g.prods.length c4] 36
  generalize w.heap.size = q at h0 ⊢
  generalize w.alloc (.cells #[.slice A1 g.terms.length c1, .slice A2 g.nons.length c2, .slice A3 g.levels.length c3, .int .i64 g.start, .slice A4 g.prods.length c4] 36) = w1 at h0 ⊢
  have k0 := h0.box 0 rfl
  simp [boxAt] at k0
  have b29f : ∀ w', Chg noB w w' → ¬ SymsP g a → gram_symbols.b29 R (.int .i64 a) (.pointer (some ⟨q, 0, none⟩)) (.bool true) w' := fun w' hc hn => by
    simp -dsimp [go_sem]
    exact no _ hc hn
  refine SPL_intro (fun q1 => ?_) (fun q1 => ?_) <;> simp at q1
  · exact b29f _ h0.chg fun hs => by have := hs.t0; rw [q1] at this; cases this
  have q1' : 0 < g.terms.length := List.length_pos_iff.2 q1
  obtain ⟨b1, o1, rfl, hb1, hc1, hc1', _, _⟩ := terms_at (Rep.below h1 (h0.chg.below hB fun _ _ => id)) q1'
  simp at hc1 hc1'
  simp -dsimp [go_sem, k0, q1', hc1, hc1']
  have t0 : ¬ (g.terms[0].1.toList = [] ∧ g.terms[0].2 = 0) → ¬ SymsP g a := fun hn hs => by
    have h9 := hs.t0
    rw [List.head?_eq_getElem?, List.getElem?_eq_getElem q1'] at h9
    injection h9 with h9
    rw [h9] at hn
    exact hn ⟨by rw [ByteArray.toList_eq], rfl⟩
  by_cases p1 : g.terms[0].1.toList = []
  case neg =>
    simp -dsimp [go_sem, p1]
    exact no _ h0.chg (t0 fun h => p1 h.1)
  by_cases p2 : g.terms[0].2 = 0
  case neg =>
    simp -dsimp [go_sem, p1, p2]
    exact no _ h0.chg (t0 fun h => p2 h.2)
  have ht0 : g.terms.head? = some (⟨#[]⟩, 0) := by
    rw [List.head?_eq_getElem?, List.getElem?_eq_getElem q1']
    congr 1
    refine Prod.ext ?_ p2
    exact bs_ext (by rw [← ByteArray.toList_eq]; exact p1)
  clear t0
  simp -dsimp [go_sem, p1, p2, k0]
  refine SPL_intro (fun q2 => ?_) (fun q2 => ?_) <;> simp at q2
  · exact b29f _ h0.chg fun hs => by have := hs.n0; omega
  simp -dsimp [go_sem, k0]
  refine SPL_intro (fun q3 => ?_) (fun q3 => ?_) <;> simp at q3
  · exact b29f _ h0.chg fun hs => by have := hs.t1; omega
  have w64 : IntKind.i64.wrap (64 + (a : Int)) = 64 + a := IntWalk.i64_in _ (by omega)
  simp -dsimp [go_sem, k0, w64]
  refine SPL_intro (fun q4 => ?_) (fun q4 => ?_) <;> simp at q4
  · exact b29f _ h0.chg fun hs => by have := hs.n1; omega
  have w65 : IntKind.i64.wrap ((g.terms.length : Int) - 1) = (g.terms.length : Int) - 1 := IntWalk.i64_in _ (by omega)
  have w66 : IntKind.i64.wrap ((g.terms.length : Int) - 1 + g.nons.length) = (g.terms.length : Int) - 1 + g.nons.length := IntWalk.i64_in _ (by omega)
  have w67 : IntKind.i64.wrap ((g.terms.length : Int) - 1 + g.nons.length - a) = (g.terms.length : Int) - 1 + g.nons.length - a := IntWalk.i64_in _ (by omega)
  simp -dsimp [go_sem, k0, w65, w66, w67]
  refine SPL_intro (fun q5 => ?_) (fun q5 => ?_) <;> simp at q5
  · exact no _ h0.chg fun hs => by have := hs.sum; omega
  have h1' := h0.map Try.prog kInt 3 3
  have k1 := h1'.box 0 rfl
  simp [boxAt] at k1
  have l1' : (1 : Nat) ≤ g.terms.length := q1'
  have l1'' : (1 : Int) ≤ g.terms.length := by omega
  simp -dsimp [go_sem, mkInt, k1, l1'']
  have hT := slice_from (k := 1) (o' := o1 + 2) h1 l1' rfl
  generalize (if c1 = 1 then some (⟨b1, o1, none⟩ : Addr) else some ⟨b1, o1 + 2, none⟩) = AT at hT ⊢
  generalize w1.heap.size = m at h1' ⊢
  generalize w1.alloc (.map #[] 0) = w2 at h1' k1 ⊢
  have htl : g.terms.drop 1 = g.terms.tail := by simp
  rw [htl] at hT
  have hlen : g.terms.length - 1 = g.terms.tail.length := by simp
  rw [hlen] at hT ⊢
  generalize hE : g.terms.tail = tl at hT ⊢
  have e1 : ∀ t, t ∈ g.terms.tail ↔ t ∈ tl := fun t => by rw [hE]
  have n0 := h1'.nilRow 9 1
  refine gram_symbols.l18_intro _ _ _ _ _ _ _ _ _ (fun x y w' => ∃ (k : Nat) (n : Nat) (f : Int → Int) (A : Option Addr) (c : Nat), y = .int .i64 k ∧ x = .slice A k c ∧ k ≤ tl.length ∧
    St noB w w' [boxC q 36 [.slice (some ⟨b1, o1, none⟩) g.terms.length c1, .slice A2 g.nons.length c2, .slice A3 g.levels.length c3, .int .i64 g.start, .slice A4 g.prods.length c4], mapC Try.prog kInt 3 3 (.map (some m)) n f, rowC 9 1 A k c ((tl.take k).map fun t => .string t.1)] ∧
    n ≤ k ∧ (∀ x, f x ≠ 0 ↔ ∃ t ∈ tl.take k, t.2 = x) ∧ (∀ t ∈ tl.take k, TermOk g t)) (fun _ y _ => tl.length - iv y) ⟨0, 0, _, none, 0, rfl, rfl, by omega, by simpa using n0, by omega, by simp, by simp⟩ ?_
  rintro _ _ w3 ⟨k, n, f, A, c, rfl, rfl, hk, hst, hn, hf, hall⟩ C hC
  have k3 := hst.box 0 rfl
  simp [boxAt] at k3
  simp -dsimp [go_sem]
  refine SPL_intro (fun q6 => ?_) (fun q6 => ?_)
  · have q6' : k < tl.length := by simpa using q6
    obtain ⟨b2, o2, rfl, hb2, d1, d2, d3, d4⟩ := terms_at (Rep.below hT (hst.chg.below hB fun _ _ => id)) q6'
    have hst4 := hst.alloc #[.string tl[k].1, .int .i64 tl[k].2] 56
    have hw4 : (w3.alloc (.cells #[.string tl[k].1, .int .i64 tl[k].2] 56)).heap.size = w3.heap.size + 1 := by simp
    have k4 := hst4.box 0 rfl
    have kt := hst4.box 3 rfl
    simp [boxAt] at k4 kt
    simp -dsimp [go_sem, q6', d1, d2]
    generalize w3.alloc (.cells #[.string tl[k].1, .int .i64 tl[k].2] 56) = w4 at hst4 k4 kt hw4 ⊢
    generalize w3.heap.size = tb at hst4 kt ⊢
    refine CALL_of (isTerm_ct d3 w4) ?_
    rintro _ w5 ⟨rfl, hc5⟩
    have hst5 := hst4.old hc5
    clear k4 kt
    have k4 := hst5.box 0 rfl
    have kt := hst5.box 3 rfl
    simp [boxAt] at k4 kt
    have hmem : tl[k] ∈ tl := List.getElem_mem q6'
    cases htm : tmB tl[k].1 with
    | false =>
      simp -dsimp [go_sem]
      refine no _ hst5.chg fun hs => ?_
      have := tmB_iff.2 (hs.terms _ ((e1 _).2 hmem)).name
      rw [this] at htm; cases htm
    | true =>
      simp -dsimp [go_sem, kt]
      refine SPL_intro (fun q7 => ?_) (fun q7 => ?_) <;> simp at q7
      · simp -dsimp [go_sem]
        exact no _ hst5.chg fun hs => by have := (hs.terms _ ((e1 _).2 hmem)).lo; omega
      simp -dsimp [go_sem, kt, k4]
      refine SPL_intro (fun q8 => ?_) (fun q8 => ?_) <;> simp at q8
      · exact no _ hst5.chg fun hs => by have := (hs.terms _ ((e1 _).2 hmem)).hi; omega
      have hk65 : k < 65 := by
        have : tl.length = g.terms.length - 1 := by rw [← hE]; simp
        omega
      simp -dsimp [go_sem, kt]
      refine hst5.append1 2 rfl uStrs iStr rfl (by omega) (news := [.string tl[k].1]) rfl (by simp [Value.oneCell']) (by unfold maxLen; omega) (by unfold maxBytes; omega) ?_
      intro g' cap w6 hst6
      have k6 := hst6.box 3 rfl
      simp [boxAt] at k6
      obtain ⟨w7, hrun, hst7⟩ := hst6.mapSet mInt 1 rfl tl[k].2 d4 (by unfold maxLen; omega) (x := 1) (by unfold inI64; omega) (by omega)
      have hrun' : (Instr.mapUpdate 87 (.map (some m)) (.int .i64 tl[k].2) (.int .i64 1)).run Try.prog w6 = _ := hrun
      have wk : IntKind.i64.wrap ((k : Int) + 1) = (k : Int) + 1 := IntWalk.i64_in _ (by omega)
      simp -dsimp [go_sem, k6, hrun', wk]
      have htk : tl.take (k + 1) = tl.take k ++ [tl[k]] := List.take_succ_eq_append_getElem q6'
      have em : (tl.take k).map (fun t => Value.string t.1) ++ [.string tl[k].1] = (tl.take (k + 1)).map (fun t => Value.string t.1) := by rw [htk, List.map_append]; rfl
      have h8 := hst7.take 3
      rw [em] at h8
      refine hC _ _ _ ⟨k + 1, _, _, _, _, by simp, rfl, by omega, h8, ?_, ?_, ?_⟩ (by simp [iv]; omega)
      · split <;> omega
      · intro x
        rw [htk]
        by_cases hx : x = tl[k].2
        · rw [if_pos hx]
          exact ⟨fun _ => ⟨tl[k], List.mem_append_right _ (List.mem_singleton.2 rfl), hx.symm⟩, fun _ => by omega⟩
        · rw [if_neg hx, hf x]
          constructor
          · rintro ⟨t, ht, e⟩; exact ⟨t, List.mem_append_left _ ht, e⟩
          · rintro ⟨t, ht, e⟩
            rcases List.mem_append.1 ht with ht | ht
            · exact ⟨t, ht, e⟩
            · rw [List.mem_singleton.1 ht] at e; exact absurd e.symm hx
      · intro t ht
        rw [htk] at ht
        rcases List.mem_append.1 ht with ht | ht
        · exact hall t ht
        · rw [List.mem_singleton.1 ht]
          exact ⟨tmB_iff.1 htm, by omega, by omega⟩
  · have hka : k = tl.length := by
      have : ¬ k < tl.length := by simpa using q6
      omega
    subst hka
    rw [List.take_length] at hst hf hall
    clear hC C
    simp -dsimp [go_sem, k3]
    have nl : ¬ (∀ i (h : i < g.levels.length), 1 ≤ g.levels[i] ∧ g.levels[i] ≤ 3 ∧ ∃ t ∈ tl, t.2 = (i : Int) + 1) → ¬ SymsP g a := fun hn hs => hn (by rw [← hE]; exact hs.levels)
    refine gram_symbols.l9_intro _ _ _ _ _ _ _ _ _ (fun y w' => ∃ j : Nat, y = .int .i64 j ∧ j ≤ g.levels.length ∧ w3 = w' ∧ ∀ i (h : i < g.levels.length), i < j → 1 ≤ g.levels[i] ∧ g.levels[i] ≤ 3 ∧ ∃ t ∈ tl, t.2 = (i : Int) + 1) (fun y _ => g.levels.length - iv y) ⟨0, rfl, by omega, rfl, fun i h h0 => by omega⟩ ?_
    rintro _ _ ⟨j, rfl, hj, rfl, hjl⟩ C hC
    simp -dsimp [go_sem]
    refine SPL_intro (fun q7 => ?_) (fun q7 => ?_) <;> simp at q7
    · obtain ⟨b3, o3, rfl, hb3, d1, d2⟩ := Go.Px.ints_at (Rep.below h3 (hst.chg.below hB fun _ _ => id)) q7
      have wj := wrap_succ q7 (Nat.le_trans l3 m3)
      simp -dsimp [go_sem, q7, d1]
      refine SPL_intro (fun q8 => ?_) (fun q8 => ?_) <;> simp at q8
      · simp -dsimp [go_sem]
        exact no _ hst.chg (nl fun hn => by have := (hn j q7).1; omega)
      simp -dsimp [go_sem]
      refine SPL_intro (fun q9 => ?_) (fun q9 => ?_) <;> simp at q9
      · simp -dsimp [go_sem]
        exact no _ hst.chg (nl fun hn => by have := (hn j q7).2.1; omega)
      have hg : (Instr.lookup 87 (.map (some m)) (.int .i64 ((j : Int) + 1)) false).run Try.prog w3 = _ := hst.mapGet mInt 1 rfl ((j : Int) + 1) (by show inI64 _; unfold inI64; unfold maxLen at m3; omega)
      simp -dsimp [go_sem, wj, hg]
      refine SPL_intro (fun q10 => ?_) (fun q10 => ?_) <;> simp at q10
      · exact no _ hst.chg (nl fun hn => absurd q10 ((hf _).2 (hn j q7).2.2))
      · simp -dsimp [go_sem, wj]
        refine hC _ _ ⟨j + 1, by simp, by omega, rfl, fun i hi hij => ?_⟩ (by simp [iv]; omega)
        by_cases e : i = j
        · subst e; exact ⟨by omega, by omega, (hf _).1 q10⟩
        · exact hjl i hi (by omega)
    · have hja : j = g.levels.length := by omega
      subst hja
      have hlev : ∀ i (h : i < g.levels.length), 1 ≤ g.levels[i] ∧ g.levels[i] ≤ 3 ∧ ∃ t ∈ tl, t.2 = (i : Int) + 1 := fun i h => hjl i h h
      obtain ⟨b4, o4, rfl, hb4, _⟩ := Go.Px.strs_at h2 q2
      have q2' : a ≤ g.nons.length := by omega
      have hN := slice_from (k := a) (o' := o4 + a) h2 q2' (by simp [rStr])
      have hN2 : (rSlice rStr).at1 w3 B _ _ := Rep.below hN (hst.chg.below hB fun _ _ => id)
      simp -dsimp [go_sem, k3, q2']
      generalize (if c2 = a then some (⟨b4, o4, none⟩ : Addr) else some ⟨b4, o4 + a, none⟩) = AN at hN hN2 ⊢
      have hml : (g.nons.drop a).length = g.nons.length - a := List.length_drop
      have hten : ((tl.map (·.1)).map Value.string) = tl.map (fun t => Value.string t.1) := by simp
      obtain ⟨FT, hoT, hFT⟩ := hst.get (k := 2) rfl
      have hTx : (rSlice rStr).at1 w3 w3.heap.size (.slice A tl.length c) (tl.map (·.1)) := by
        have := slice_of_own (r := rStr) (enc := fun s => [Value.string s]) (l := tl.map (·.1)) (B := w3.heap.size) (w := w3) (base := 0) (e := 9) (v := .slice A tl.length c) (by
          have h9 := hoT.1
          rw [List.length_map, show (tl.map (·.1)).flatMap (fun s => [Value.string s]) = tl.map (fun t => Value.string t.1) by
            rw [List.flatMap_map, flat_one]]
          exact h9) (fun _ _ => rfl) (fun x hx => ⟨rfl, by
            obtain ⟨t, ht, rfl⟩ := List.mem_map.1 hx
            have := (hall t ht).name.2.1
            unfold maxLen; omega⟩) (Nat.le_refl _)
        exact this
      refine CALL_of (unlike_ct hTx (Nat.le_refl _)) ?_
      rintro _ w4 ⟨rfl, hc4⟩
      by_cases hd1 : (tl.map (·.1)).Nodup
      case neg =>
        simp -dsimp [go_sem, hd1]
        exact no _ (hst.chg.trans hc4) fun hs => hd1 (by rw [← hE]; exact hs.tnd)
      have hN4 := Rep.below hN2 (hc4.below (B := B) (by have := hst.chg.size; omega) fun _ _ => id)
      have hB4 : B ≤ w4.heap.size := by have := hst.chg.size; have := hc4.size; omega
      simp -dsimp [go_sem, hd1]
      refine CALL_of (unlike_ct hN4 hB4) ?_
      rintro _ w5 ⟨rfl, hc5⟩
      by_cases hd2 : (g.nons.drop a).Nodup
      case neg =>
        simp -dsimp [go_sem, hd2]
        exact no _ ((hst.chg.trans hc4).trans hc5) fun hs => hd2 hs.nnd
      have hN5 := Rep.below hN4 (hc5.below hB4 fun _ _ => id)
      have hB5 : B ≤ w5.heap.size := by have := hc5.size; omega
      simp -dsimp [go_sem, hd2]
      refine CALL_of (ContainsFuncS_ct (p := fun s => !nmB s) hN5 hB5 fun x hx hsz w => ?_) ?_
      · refine gram_symbols_1.ct fun R hR => ?_
        unfold gram_symbols_1.run
        simp -dsimp [go_sem]
        refine CALL_of (isName_ct hsz w) ?_
        rintro _ w' ⟨rfl, hc⟩
        simp -dsimp [go_sem]
        exact hR _ _ ⟨rfl, hc⟩
      · rintro _ w6 ⟨rfl, hc6⟩
        simp -dsimp [go_sem]
        refine hR _ _ ⟨?_, ((hst.chg.trans hc4).trans hc5).trans hc6⟩
        congr 1
        refine bool_eq ?_
        rw [symB_iff]
        constructor
        · intro hb
          refine ⟨ht0, q2, by omega, by omega, by omega, by rw [hE]; exact hall, by rw [hE]; exact hlev, by rw [hE]; exact hd1, hd2, fun s hs => ?_⟩
          refine nmB_iff.1 ?_
          cases e : nmB s with
          | true => rfl
          | false =>
            have : (g.nons.drop a).any (fun s => !nmB s) = true := List.any_eq_true.2 ⟨s, hs, by simp [e]⟩
            rw [this] at hb; cases hb
        · intro hs
          cases e : (g.nons.drop a).any (fun s => !nmB s) with
          | false => rfl
          | true =>
            obtain ⟨s, h1, h2⟩ := List.any_eq_true.1 e
            have := nmB_iff.2 (hs.nnam s h1)
            rw [this] at h2; cases h2
end Go.Proofs.Ytmhebgebfjnfjaa
