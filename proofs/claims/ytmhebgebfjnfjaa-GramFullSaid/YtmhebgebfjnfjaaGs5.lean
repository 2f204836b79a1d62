/-
  Productions that fit.
-/
import Derived.Test.YtmhebgebfjnfjaaGs4
namespace Go.Proofs.Ytmhebgebfjnfjaa
open Go.Px Go.Px.Scan Go.RowKit
set_option maxHeartbeats 1000000
set_option linter.unusedSimpArgs false
set_option linter.unusedVariables false
set_option maxRecDepth 100000
attribute [-go_sem] Builtin.append_

/-- Numbers that are owned read as a slice. -/
theorem ints_own {G : Nat → Prop} {W w : World} {L : List Ch} (h : St G W w L) (k : Nat) {a : Option Addr} {n c : Nat} {l : List Int} (hk : L[k]? = some (rowC 3 1 a n c (l.map (Value.int .i64 ·)))) (hl : ∀ x ∈ l, inI64 x) : (rSlice rInt).at1 w w.heap.size (.slice a n c) l := by
  obtain ⟨F, ho, _⟩ := h.get hk
  have hn : n = l.length := by have := (row_size ho).1; simpa using this.symm
  subst hn
  exact slice_of_own (r := rInt) (enc := fun x => [Value.int .i64 x]) (base := 0) (e := 3) (by rw [flat_one]; exact ho.1) (fun _ _ => rfl) (fun x hx => ⟨rfl, hl x hx⟩) (Nat.le_refl _)

theorem productions_ct {w : World} {B : Nat} {v : Value} {g : Gr} (h : rGram.atN w B v g) (hB : B ≤ w.heap.size) {a : Nat} (ha : a ≤ 1) (hsy : SymsP g a) : Ct Try.prog gram_productions.id #[v, .int .i64 a] w fun r w' => (∃ vl, r = .tuple #[vl, .bool (prodB g a)] ∧ (prodB g a = true → (rSlice rInt).at1 w' w'.heap.size vl (leftsOf (g.prods.drop a)))) ∧ Chg noB w w' := by
  refine gram_productions.ct fun R hR => ?_
  obtain ⟨A1, c1, A2, c2, A3, c3, A4, c4, rfl, h1, h2, h3, h4, h5, ⟨l1, m1⟩, ⟨l2, m2⟩, ⟨l3, m3⟩, ⟨l4, m4⟩⟩ := (rGram_open h).ex
  have t1 := hsy.t1
  have n0 := hsy.n0
  have n1 := hsy.n1
  have no : ∀ w', Chg noB w w' → ¬ ProdsP g a → R (.returned (.tuple #[.slice none 0 0, .bool false])) w' := fun w' hc hn => hR _ _ ⟨⟨_, by rw [bool_no prodB_iff hn], fun h => by rw [bool_no prodB_iff hn] at h; cases h⟩, hc⟩
  unfold gram_productions.run gram_productions.b1
  simp -dsimp [go_sem]
  have h0 := (St.refl noB w).alloc #[.slice A1 g.terms.length c1, .slice A2 g.nons.length c2, .slice A3 g.levels.length c3, .int .i64 g.start, .slice A4 g.prods.length c4] 36
  generalize w.heap.size = q at h0 ⊢
  generalize w.alloc (.cells #[.slice A1 g.terms.length c1, .slice A2 g.nons.length c2, .slice A3 g.levels.length c3, .int .i64 g.start, .slice A4 g.prods.length c4] 36) = w1 at h0 ⊢
  have k0 := h0.box 0 rfl
  simp [boxAt] at k0
  refine SPL_intro (fun q1 => ?_) (fun q1 => ?_) <;> simp at q1
  · simp -dsimp [go_sem]
    exact no _ h0.chg fun hs => by have := hs.c0; omega
  have w96 : IntKind.i64.wrap (96 + (a : Int)) = 96 + a := IntWalk.i64_in _ (by omega)
  simp -dsimp [go_sem, k0, w96]
  refine SPL_intro (fun q2 => ?_) (fun q2 => ?_) <;> simp at q2
  · exact no _ h0.chg fun hs => by have := hs.c1; omega
  obtain ⟨b4, o4, vr, rfl, hb4, _⟩ := prods_at h5 q1
  have q1' : a ≤ g.prods.length := by omega
  have ws : IntKind.i64.wrap ((g.terms.length : Int) + g.nons.length) = (g.terms.length : Int) + g.nons.length := IntWalk.i64_in _ (by omega)
  have wl : IntKind.i64.wrap ((g.terms.length : Int) + a) = (g.terms.length : Int) + a := IntWalk.i64_in _ (by omega)
  simp -dsimp [go_sem, k0, ws, wl, q1']
  have hP := slice_from (k := a) (o' := o4 + a * 3) h5 q1' (by simp [rPr, Rep.prod, rInt, rSlice])
  generalize (if c4 = a then some (⟨b4, o4, none⟩ : Addr) else some ⟨b4, o4 + a * 3, none⟩) = AP at hP ⊢
  generalize hE : g.prods.drop a = pl at hP ⊢
  have hpl : g.prods.length - a = pl.length := by rw [← hE]; simp
  rw [hpl] at hP ⊢
  have hpm : pl.length ≤ 97 := by omega
  have n0' := h0.nilRow 3 1
  refine gram_productions.l8_intro _ _ _ _ _ _ _ _ _ _ (fun x y w' => ∃ (k : Nat) (A : Option Addr) (n c : Nat), y = .int .i64 k ∧ x = .slice A n c ∧ k ≤ pl.length ∧ n = (leftsOf (pl.take k)).length ∧
    St noB w w' [boxC q 36 [.slice A1 g.terms.length c1, .slice A2 g.nons.length c2, .slice A3 g.levels.length c3, .int .i64 g.start, .slice (some ⟨b4, o4, none⟩) g.prods.length c4], rowC 3 1 A n c ((leftsOf (pl.take k)).map (Value.int .i64 ·))] ∧
    n ≤ k ∧ (∀ p ∈ pl.take k, ProdOk g a p) ∧ ∀ x ∈ leftsOf (pl.take k), inI64 x) (fun _ y _ => pl.length - iv y) ⟨0, none, 0, 0, rfl, rfl, by omega, rfl, by simpa [leftsOf] using n0', by omega, by simp, by simp [leftsOf]⟩ ?_
  rintro _ _ w3 ⟨k, A, n, c, rfl, rfl, hk, hn, hst, hnk, hall, hin⟩ C hC
  have k3 := hst.box 0 rfl
  simp [boxAt] at k3
  simp -dsimp [go_sem]
  refine SPL_intro (fun q6 => ?_) (fun q6 => ?_)
  · have q6' : k < pl.length := by simpa using q6
    obtain ⟨b2, o2, vr, rfl, hb2, d1, d2, d3, dr, i1, i2⟩ := prods_at (Rep.below hP (hst.chg.below hB fun _ _ => id)) q6'
    have hmem : pl[k] ∈ g.prods.drop a := by rw [hE]; exact List.getElem_mem q6'
    obtain ⟨Ar, cr, rfl, lr, mr, _⟩ := slice_form dr
    have hst4 := hst.alloc #[.int .i64 pl[k].1, .slice Ar pl[k].2.1.length cr, .int .i64 pl[k].2.2] 59
    have drw := Rep.below dr (((Chg.refl noB w3).alloc (.cells #[.int .i64 pl[k].1, .slice Ar pl[k].2.1.length cr, .int .i64 pl[k].2.2] 59)).below (B := B) (by have := hst.chg.size; omega) fun _ _ => id)
    simp -dsimp [go_sem, q6', d1, d2, d3]
    generalize w3.alloc (.cells #[.int .i64 pl[k].1, .slice Ar pl[k].2.1.length cr, .int .i64 pl[k].2.2] 59) = w4 at hst4 drw ⊢
    generalize w3.heap.size = tb at hst4 ⊢
    have k4 := hst4.box 0 rfl
    have kt := hst4.box 2 rfl
    simp [boxAt] at k4 kt
    have bad : ¬ ProdOk g a pl[k] → ¬ ProdsP g a := fun hn hs => hn (hs.each _ hmem)
    refine SPL_intro (fun q7 => ?_) (fun q7 => ?_) <;> simp at q7
    · simp -dsimp [go_sem]
      exact no _ hst4.chg (bad fun hs => by have := hs.l0; omega)
    simp -dsimp [go_sem, kt, k4]
    refine SPL_intro (fun q8 => ?_) (fun q8 => ?_) <;> simp at q8
    · simp -dsimp [go_sem]
      exact no _ hst4.chg (bad fun hs => by have := hs.l1; omega)
    simp -dsimp [go_sem, kt, k4]
    refine SPL_intro (fun q9 => ?_) (fun q9 => ?_) <;> simp at q9
    · simp -dsimp [go_sem]
      exact no _ hst4.chg (bad fun hs => by have := hs.v0; omega)
    simp -dsimp [go_sem, kt, k4]
    refine SPL_intro (fun q10 => ?_) (fun q10 => ?_) <;> simp at q10
    · exact no _ hst4.chg (bad fun hs => by have := hs.v1; omega)
    simp -dsimp [go_sem, kt, k4]
    refine gram_productions.l19_intro _ _ _ _ _ _ _ _ _ _ _ _ (fun y w' => ∃ j : Nat, y = .int .i64 j ∧ j ≤ pl[k].2.1.length ∧ w4 = w' ∧ ∀ s ∈ pl[k].2.1.take j, 1 ≤ s ∧ s < (g.terms.length + g.nons.length : Int) ∧ ((g.terms.length : Int) ≤ s → (g.terms.length + a : Int) ≤ s)) (fun y _ => pl[k].2.1.length - iv y) ⟨0, rfl, by omega, rfl, by simp⟩ ?_
    rintro _ _ ⟨j, rfl, hj, rfl, hjl⟩ C' hC'
    simp -dsimp [go_sem]
    refine SPL_intro (fun q11 => ?_) (fun q11 => ?_) <;> simp at q11
    · obtain ⟨b3, o3, rfl, hb3, f1, f2⟩ := Go.Px.ints_at drw q11
      have wj := wrap_succ q11 (Nat.le_trans lr mr)
      simp -dsimp [go_sem, q11, f1]
      have bad2 : ¬ (1 ≤ pl[k].2.1[j] ∧ pl[k].2.1[j] < (g.terms.length + g.nons.length : Int) ∧ ((g.terms.length : Int) ≤ pl[k].2.1[j] → (g.terms.length + a : Int) ≤ pl[k].2.1[j])) → ¬ ProdsP g a := fun hn => bad fun hs => hn (hs.right _ (List.getElem_mem q11))
      refine SPL_intro (fun q12 => ?_) (fun q12 => ?_) <;> simp at q12
      · simp -dsimp [go_sem]
        exact no _ hst4.chg (bad2 fun hs => by omega)
      simp -dsimp [go_sem, k4]
      refine SPL_intro (fun q13 => ?_) (fun q13 => ?_) <;> simp at q13
      · simp -dsimp [go_sem]
        exact no _ hst4.chg (bad2 fun hs => by omega)
      simp -dsimp [go_sem, k4]
      have go : (1 ≤ pl[k].2.1[j] ∧ pl[k].2.1[j] < (g.terms.length + g.nons.length : Int) ∧ ((g.terms.length : Int) ≤ pl[k].2.1[j] → (g.terms.length + a : Int) ≤ pl[k].2.1[j])) → C' (.int .i64 ((j : Int) + 1)) w4 := fun hg => by
        refine hC' _ _ ⟨j + 1, by simp, by omega, rfl, fun s hs => ?_⟩ (by simp [iv]; omega)
        rw [List.take_succ_eq_append_getElem q11] at hs
        rcases List.mem_append.1 hs with hs | hs
        · exact hjl s hs
        · rw [List.mem_singleton.1 hs]; exact hg
      refine SPL_intro (fun q14 => ?_) (fun q14 => ?_) <;> simp at q14
      · simp -dsimp [go_sem, wj]
        refine SPL_intro (fun q15 => ?_) (fun q15 => ?_) <;> simp at q15
        · exact no _ hst4.chg (bad2 fun hs => by omega)
        · simp -dsimp [go_sem, wj]
          exact go (by omega)
      · simp -dsimp [go_sem, wj]
        exact go (by omega)
    · have hja : j = pl[k].2.1.length := by omega
      subst hja
      rw [List.take_length] at hjl
      have hok : ProdOk g a pl[k] := ⟨by omega, by omega, by omega, by omega, hjl⟩
      have hlefts := ints_own hst4 1 rfl hin
      simp -dsimp [go_sem, kt]
      refine CALL_of (Contains_ct hlefts) ?_
      rintro _ _ ⟨rfl, rfl⟩
      have wk : IntKind.i64.wrap ((k : Int) + 1) = (k : Int) + 1 := IntWalk.i64_in _ (by omega)
      have htk : pl.take (k + 1) = pl.take k ++ [pl[k]] := List.take_succ_eq_append_getElem q6'
      have hlt : leftsOf (pl.take (k + 1)) = addL (leftsOf (pl.take k)) pl[k].1 := by rw [htk, leftsOf_snoc]
      have hall' : ∀ p ∈ pl.take (k + 1), ProdOk g a p := by
        intro p hp
        rw [htk] at hp
        rcases List.mem_append.1 hp with hp | hp
        · exact hall p hp
        · rw [List.mem_singleton.1 hp]; exact hok
      by_cases hc : pl[k].1 ∈ leftsOf (pl.take k)
      · have ha : addL (leftsOf (pl.take k)) pl[k].1 = leftsOf (pl.take k) := if_pos hc
        rw [ha] at hlt
        simp -dsimp [go_sem, hc, wk]
        have h8 := hst4.take 2
        rw [← hlt] at h8
        refine hC _ _ _ ⟨k + 1, _, _, _, by simp, rfl, by omega, by rw [hlt]; exact hn, h8, by omega, hall', ?_⟩ (by simp [iv]; omega)
        rw [hlt]; exact hin
      · have ha : addL (leftsOf (pl.take k)) pl[k].1 = leftsOf (pl.take k) ++ [pl[k].1] := if_neg hc
        rw [ha] at hlt
        simp -dsimp [go_sem, hc, kt]
        refine hst4.append1 1 rfl uInts iInt rfl (by omega) (news := [.int .i64 pl[k].1]) rfl (by simp [Value.oneCell']) (by unfold maxLen; omega) (by unfold maxBytes; omega) ?_
        intro g' cap w6 hst6
        simp -dsimp [go_sem, wk]
        have h8 := hst6.take 2
        have em : (leftsOf (pl.take k)).map (Value.int .i64 ·) ++ [.int .i64 pl[k].1] = (leftsOf (pl.take (k + 1))).map (Value.int .i64 ·) := by rw [hlt, List.map_append]; rfl
        rw [em] at h8
        refine hC _ _ _ ⟨k + 1, _, _, _, by simp, rfl, by omega, by rw [hlt, List.length_append, hn]; rfl, h8, by omega, hall', ?_⟩ (by simp [iv]; omega)
        rw [hlt]
        intro x hx
        rcases List.mem_append.1 hx with hx | hx
        · exact hin x hx
        · rw [List.mem_singleton.1 hx]; exact i1
  · have hka : k = pl.length := by
      have : ¬ k < pl.length := by simpa using q6
      omega
    subst hka
    rw [List.take_length] at hst hall hn hin
    clear hC C
    have hstd := hst.old ((Chg.refl noB w3).drew)
    have kd := hstd.box 0 rfl
    simp [boxAt] at kd
    have wn : IntKind.i64.wrap ((g.nons.length : Int) - a) = (g.nons.length : Int) - a := IntWalk.i64_in _ (by omega)
    have hlefts := ints_own hstd 1 rfl hin
    simp -dsimp [go_sem, kd, k3, wn]
    have fin : ∀ b : Bool, (b = true ↔ ProdsP g a) → R (.returned (.tuple #[.slice A n c, .bool b])) w3.drew := fun b hb =>
      hR _ _ ⟨⟨.slice A n c, (by rw [← bool_eq (hb.trans prodB_iff.symm)]), fun _ => by rw [hE]; exact hlefts⟩, hstd.chg⟩
    have each : ∀ p ∈ g.prods.drop a, ProdOk g a p := by rw [hE]; exact hall
    refine SPL_intro (fun q7 => ?_) (fun q7 => ?_) <;> simp at q7
    · simp -dsimp [go_sem, kd, k3]
      refine SPL_intro (fun q8 => ?_) (fun q8 => ?_) <;> simp at q8
      · simp -dsimp [go_sem, kd, k3]
        refine fin _ ?_
        rw [decide_eq_true_iff]
        exact ⟨fun hs => ⟨by omega, by omega, each, by rw [hE, ← hn]; omega, q8, hs⟩, fun hs => hs.s1⟩
      · exact fin false ⟨fun h => (by cases h), fun hs => by have := hs.s0; omega⟩
    · exact fin false ⟨fun h => (by cases h), fun hs => by have := hs.lefts; rw [hE, ← hn] at this; omega⟩
end Go.Proofs.Ytmhebgebfjnfjaa
