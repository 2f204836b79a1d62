/-
  Texts of this claim: Gu1, Gu2, Gu3.
-/
import Derived.Test.YtmhebgebfjnfjaaMi
import Derived.Test.YtmhebgebfjnfjaaMj
/-
  What a builder tells is plain.
-/
namespace Go.Px.Scan
open Go.Px
theorem leftsOf_map {f : Int × List Int × Int → Int × List Int × Int} {φ : Int → Int} (hf : ∀ r, (f r).1 = φ r.1) : ∀ (l : List (Int × List Int × Int)), (∀ x y, (∃ r ∈ l, r.1 = x) → (∃ r ∈ l, r.1 = y) → φ x = φ y → x = y) → leftsOf (l.map f) = (leftsOf l).map φ := by
  suffices H : ∀ (n : Nat) (l : List (Int × List Int × Int)), l.length = n → (∀ x y, (∃ r ∈ l, r.1 = x) → (∃ r ∈ l, r.1 = y) → φ x = φ y → x = y) → leftsOf (l.map f) = (leftsOf l).map φ from fun l h => H _ l rfl h
  intro n
  induction n with
  | zero =>
    intro l hl _
    rw [List.length_eq_zero_iff.1 hl]; rfl
  | succ n ih0 =>
    intro l0 hl0 h
    obtain ⟨l, r, rfl⟩ : ∃ l r, l0 = l ++ [r] := by
      rcases List.eq_nil_or_concat l0 with e | ⟨L, b, e⟩
      · rw [e] at hl0; cases hl0
      · exact ⟨L, b, by rw [e, List.concat_eq_append]⟩
    have ih := ih0 l (by simpa using hl0)
    rw [List.map_append, List.map_singleton, leftsOf_snoc, leftsOf_snoc, ih fun x y ⟨a, ha, e⟩ ⟨b, hb, e'⟩ => h x y ⟨a, by simp [ha], e⟩ ⟨b, by simp [hb], e'⟩, hf]
    unfold addL
    by_cases hm : r.1 ∈ leftsOf l
    · rw [if_pos hm, if_pos (List.mem_map.2 ⟨_, hm, rfl⟩)]
    · rw [if_neg hm, if_neg, List.map_append, List.map_singleton]
      intro hm2
      obtain ⟨y, hy, e⟩ := List.mem_map.1 hm2
      obtain ⟨q, hq, e2⟩ := leftsOf_mem.1 hy
      exact hm (h y r.1 ⟨q, by simp [hq], e2⟩ ⟨r, by simp, rfl⟩ e ▸ hy)

theorem idx_inj {L : List Int} {x y : Int} (hx : x ∈ L) (hy : y ∈ L) (h : L.idxOf x = L.idxOf y) : x = y := by
  have h1 := List.getElem_idxOf (List.idxOf_lt_length_of_mem hx)
  have h2 := List.getElem_idxOf (List.idxOf_lt_length_of_mem hy)
  rw [← h1, ← h2]
  congr 1

theorem symOf_mem {t : Nat} {L : List Int} {x : Int} (hx : x ∈ L) : symOf t L x = (t : Int) + (L.idxOf x : Nat) := if_pos hx

theorem gram_valid {S : BS} (ok : BSok S) (hwf : BSwf S) (ht : toldB S = true) : ValidP (gramOf S) := by
  obtain ⟨hne, hall⟩ := of_decide_eq_true ht
  have hpos : 0 < S.rules.length := List.length_pos_iff.2 hne
  have hLn := leftsOf_length_le hwf.left
  have hlen : (leftsOf S.rules).length = S.nons.length := by omega
  have hsy := ok.syms
  have hmem : ∀ x : Int, -(S.nons.length : Int) ≤ x → x < 0 → x ∈ leftsOf S.rules := fun x h1 h2 => all_left hwf hall h1 h2
  have hrange : ∀ x ∈ leftsOf S.rules, -(S.nons.length : Int) ≤ x ∧ x < 0 := fun x hx => by
    obtain ⟨r, hr, rfl⟩ := leftsOf_mem.1 hx
    exact hwf.left r hr
  have hlefts : leftsOf (gramOf S).prods = (leftsOf S.rules).map (symOf (S.terms.length + 1) (leftsOf S.rules)) := by
    refine leftsOf_map (f := pv S) (fun r => rfl) S.rules fun x y ⟨a, ha, e⟩ ⟨b, hb, e'⟩ h => ?_
    have hx : x ∈ leftsOf S.rules := leftsOf_mem.2 ⟨a, ha, e⟩
    have hy : y ∈ leftsOf S.rules := leftsOf_mem.2 ⟨b, hb, e'⟩
    rw [symOf_mem hx, symOf_mem hy] at h
    exact idx_inj hx hy (by omega)
  have hsymlt : ∀ x ∈ leftsOf S.rules, (S.terms.length : Int) + 1 ≤ symOf (S.terms.length + 1) (leftsOf S.rules) x ∧ symOf (S.terms.length + 1) (leftsOf S.rules) x < (S.terms.length : Int) + 1 + S.nons.length := fun x hx => by
    rw [symOf_mem hx]
    have := List.idxOf_lt_length_of_mem hx
    omega
  have htl : (gramOf S).terms.length = S.terms.length + 1 := by simp [gramOf]
  have hnl : (gramOf S).nons.length = S.nons.length := by simp [gramOf, hlen]
  have hlv : (gramOf S).levels = S.levels := rfl
  have hnnz : 0 < S.nons.length := by
    have := hwf.left S.rules[0] (List.getElem_mem hpos)
    omega
  have hnons : ∀ x ∈ leftsOf S.rules, ∃ j : Nat, x = -1 - (j : Int) ∧ ∃ h : j < S.nons.length, nonOf S x = S.nons[j] := fun x hx => by
    have := hrange x hx
    refine ⟨(-1 - x).toNat, by omega, by omega, ?_⟩
    unfold nonOf
    rw [List.getElem?_eq_getElem (by omega)]; rfl
  have hP : ProdsP (gramOf S) 0 := by
    refine ⟨by simp [gramOf]; exact hpos, by have := ok.prods; simp [gramOf]; exact this, fun p hp => ?_, by rw [List.drop_zero, hlefts, List.length_map, hnl, hlen]; rfl, ?_, ?_⟩
    · rw [List.drop_zero] at hp
      obtain ⟨r, hr, rfl⟩ := List.mem_map.1 hp
      have h1 := hsymlt _ (leftsOf_mem.2 ⟨r, hr, rfl⟩)
      have h2 := hwf.lev r hr
      refine ⟨?_, ?_, h2.1, h2.2, fun s hs => ?_⟩
      · rw [htl]; show _ ≤ symOf _ _ r.1; omega
      · rw [htl, hnl]; show symOf _ _ r.1 < _; omega
      · obtain ⟨x, hx, rfl⟩ := List.mem_map.1 hs
        have h3 := hwf.right r hr x hx
        rw [htl, hnl]
        unfold symH
        split
        · rename_i h4
          have := hsymlt x (hmem x h3.1 h4)
          refine ⟨by omega, by omega, fun _ => by omega⟩
        · refine ⟨by omega, by omega, fun h => by omega⟩
    all_goals
      have hst : (gramOf S).start = symOf (S.terms.length + 1) (leftsOf S.rules) (if S.start = 0 then (S.rules.head?.map (·.1)).getD 0 else S.start) := rfl
      have hin : (if S.start = 0 then (S.rules.head?.map (·.1)).getD 0 else S.start) ∈ leftsOf S.rules := by
        split
        · rw [List.head?_eq_getElem?, List.getElem?_eq_getElem hpos]
          exact leftsOf_mem.2 ⟨_, List.getElem_mem hpos, rfl⟩
        · have := hwf.start
          exact hmem _ this.1 (by omega)
      have := hsymlt _ hin
      rw [hst, htl]
    · omega
    · rw [hnl]; omega
  refine ⟨⟨rfl, by rw [hnl]; exact hnnz, by rw [htl]; omega, by rw [hnl]; omega, by rw [htl, hnl]; omega, fun t ht => ?_, fun i hi => ?_, ok.tnd, ?_, fun s hs => ?_⟩, hP, ?_⟩
  · have h1 := ok.grd t ht
    exact ⟨ok.tnam t ht, h1.1, h1.2⟩
  · have h1 := hwf.sides S.levels[i] (List.getElem_mem hi)
    exact ⟨h1.1, h1.2, hwf.used i hi⟩
  · rw [List.drop_zero]
    show ((leftsOf S.rules).map (nonOf S)).Nodup
    refine List.pairwise_map.2 ((leftsOf_nodup S.rules).imp_of_mem fun {a b} ha hb hab e => ?_)
    obtain ⟨i, ei, hi, e1⟩ := hnons a ha
    obtain ⟨j, ej, hj, e2⟩ := hnons b hb
    rw [e1, e2] at e
    have := (List.getElem_inj ok.nnd).1 e
    exact hab (by omega)
  · rw [List.drop_zero] at hs
    obtain ⟨x, hx, rfl⟩ := List.mem_map.1 hs
    obtain ⟨i, ei, hi, e1⟩ := hnons x hx
    rw [e1]
    exact ok.nnam _ (List.getElem_mem hi)
  · refine hP.row.2 fun i hi => ?_
    have hi' : i < (leftsOf S.rules).length := by rw [hlefts, List.length_map] at hi; exact hi
    simp only [hlefts, List.getElem_map, htl]
    rw [symOf_mem (List.getElem_mem hi'), (leftsOf_nodup S.rules).idxOf_getElem i hi']
end Go.Px.Scan

/-
  The law GramBuilt.
-/
namespace Go.Proofs.Ytmhebgebfjnfjaa
open Go.Px Go.Px.Scan Go.RowKit
set_option maxHeartbeats 1000000
set_option linter.unusedSimpArgs false
set_option linter.unusedVariables false
set_option maxRecDepth 100000
attribute [-go_sem] Builtin.append_
attribute [-go_sem] law02_GramBuilt.b5 law02_GramBuilt.b7 law02_GramBuilt.b8 law02_GramBuilt.b13 law02_GramBuilt.b22 law02_GramBuilt.b28 law02_GramBuilt.b36 law02_GramBuilt.b23 law02_GramBuilt.b17

/-- The rules' Lefts. -/
def leftL (S : BS) : List Int := S.rules.map (·.1)
theorem gradeA_left (level : Int) (l : List Int) : ∀ rs : List (Int × List Int × Int), (l.foldl (fun rs p => rs.modify p.toNat fun r => (r.1, r.2.1, level)) rs).map (·.1) = rs.map (·.1) := by
  induction l with
  | nil => exact fun _ => rfl
  | cons p q ih =>
    intro rs
    rw [List.foldl_cons, ih]
    apply List.ext_getElem?
    intro i
    rw [List.getElem?_map, List.getElem?_map, List.getElem?_modify]
    cases rs[i]? <;> simp
    split <;> simp
theorem doesA_left (S : BS) (o : OpT) : leftL (doesA S o) = leftL S ∨ leftL (doesA S o) = leftL S ++ [o.2.1] := by
  unfold doesA
  split
  · left; unfold termA; split <;> (try rfl); split <;> (try rfl); split <;> rfl
  split
  · left; unfold nonA; split <;> (try rfl); split <;> (try rfl); split <;> rfl
  split
  · left; unfold levelA; split <;> rfl
  split
  · unfold ruleA; split
    · left; rfl
    split
    · left; rfl
    · right; simp [leftL]
  split
  · left; unfold gradeA; split
    · exact gradeA_left _ _ _
    · rfl
  split
  · left; split <;> rfl
  · left; rfl

theorem contains_snoc (l : List Int) (x y : Int) : (l ++ [x]).contains y = (l.contains y || (x == y)) := by
  rw [Bool.eq_iff_iff, Bool.or_eq_true, List.contains_iff_mem, List.contains_iff_mem, List.mem_append, List.mem_singleton, beq_iff_eq]
  constructor
  · rintro (h | h)
    · exact Or.inl h
    · exact Or.inr h.symm
  · rintro (h | h)
    · exact Or.inl h
    · exact Or.inr h.symm
/-- Is there no production, or one of the first m nonterminals that is no Left? -/
def miss (S : BS) (m : Nat) : Bool := decide (S.rules.length = 0) || (List.range m).any fun j : Nat => !((leftL S).contains (-1 - (j : Int)))
theorem miss_succ (S : BS) (m : Nat) : miss S (m + 1) = (miss S m || !((leftL S).contains (-1 - (m : Int)))) := by
  unfold miss
  rw [List.range_succ, List.any_append, ← Bool.or_assoc]
  simp
theorem miss_all {S : BS} (hwf : BSwf S) (h : toldB S = false) : miss S S.nons.length = true := by
  have h1 := of_decide_eq_false h
  apply Classical.byContradiction
  intro hm
  have hm' : miss S S.nons.length = false := by simpa using hm
  unfold miss at hm'
  simp only [Bool.or_eq_false_iff, decide_eq_false_iff_not, List.any_eq_false, List.mem_range, Bool.not_eq_true', Bool.not_eq_false] at hm'
  refine h1 ⟨fun e => hm'.1 (by rw [e]; rfl), ?_⟩
  have h3 := nodup_le (l := (List.range S.nons.length).map fun i : Nat => -1 - (i : Int)) (m := leftsOf S.rules) (by
    refine List.pairwise_map.2 ((List.nodup_range (n := S.nons.length)).imp fun {a b} hab e => hab (by omega))) fun x hx => by
      obtain ⟨i, hi, rfl⟩ := List.mem_map.1 hx
      have := hm'.2 i (by simpa using hi)
      have h4 : -1 - (i : Int) ∈ leftL S := by simpa using this
      obtain ⟨r, hr, e⟩ := List.mem_map.1 h4
      exact leftsOf_mem.2 ⟨r, hr, e⟩
  simpa using h3

theorem both_open {w : World} {F : Nat → Prop} {xb : Nat} {S : BS} (h : (bothC xb S).ok w F) : ∃ (b : Nat) (T : Nat → Nat) (V : BV), Bld w T b V S ∧ BSwf S ∧ w.cell? ⟨xb, 0, none⟩ = some (.pointer (some ⟨b, 0, none⟩)) := by
  obtain ⟨b, p, hp⟩ := h
  have s0 := St.enter hp
  obtain ⟨F1, ⟨hwf, T, V, hb, _⟩, _⟩ := s0.get (k := 1) rfl
  have kb := s0.box 0 rfl
  simp [boxAt] at kb
  exact ⟨b, T, V, hb, hwf, kb.1.1⟩

section
variable {R : Ending → World → Prop} {w : World} {xb B : Nat} {S : BS} {A : Option Addr} {c : Nat}

theorem built_end {w4 : World} (h : St noB w w4 [bothC xb S, rowC 3 1 A S.rules.length c ((leftL S).map (.int .i64 ·))]) (hR : ∀ w', Chg noB w w' → R (.returned (.bool true)) w') :
    law02_GramBuilt.b5 R (.pointer (some ⟨xb, 0, none⟩)) (.slice A S.rules.length c) w4 := by
  obtain ⟨F0, o0, _⟩ := h.get (k := 0) rfl
  obtain ⟨b, T, V, hb, hwf, kb⟩ := both_open o0
  have ok := hb.ok
  have hsy := ok.syms
  have hpr := ok.prods
  unfold law02_GramBuilt.b5
  simp -dsimp [go_sem, kb]
  refine CALL_of (Sizes_ct hb) ?_
  rintro _ w5 ⟨rfl, hc5⟩
  have h5 := h.old hc5
  obtain ⟨F0, o0, _⟩ := h5.get (k := 0) rfl
  obtain ⟨b, T, V, hb, hwf, kb⟩ := both_open o0
  unfold law02_GramBuilt.b5_7
  rw [RUN_eq, ext40, RES_ok, RUN_eq, ext41, RES_ok, RUN_eq, ext42, RES_ok, RUN_eq, ext43, RES_ok]
  simp -dsimp [go_sem, kb]
  refine CALL_of (Grammar_ct hb hwf) ?_
  intro v w6 hA
  have h6 := h5.old hA.1
  unfold law02_GramBuilt.b5_6
  cases ht : toldB S with
  | true =>
    obtain ⟨vg, rfl, hG⟩ := hA.2.1 ht
    rw [RUN_eq, ext20, RES_ok, RUN_eq, ext21, RES_ok]
    have hrd := hG.read
    have hv := gram_valid ok hwf ht
    have e1 : (gramOf S).terms.length = S.terms.length + 1 := by simp [gramOf]
    have e2 : (gramOf S).nons.length = S.nons.length := by
      have h1 := leftsOf_length_le hwf.left
      have h2 := (of_decide_eq_true ht).2
      simp [gramOf]; omega
    have e3 : (gramOf S).levels.length = S.levels.length := rfl
    have e4 : (gramOf S).prods.length = S.rules.length := by simp [gramOf]
    obtain ⟨A1, c1, A2, c2, A3, c3, A4, c4, rfl, _, _, hc0, hg⟩ := box_all hrd (Nat.le_refl _)
    simp -dsimp [go_sem]
    have hrd1 := rGram_below hrd (hc0.below (Nat.le_refl _) fun _ _ => id)
    have hB1 := hc0.size
    generalize w6.alloc (.cells #[.slice A1 (gramOf S).terms.length c1, .slice A2 (gramOf S).nons.length c2, .slice A3 (gramOf S).levels.length c3, .int .i64 (gramOf S).start, .slice A4 (gramOf S).prods.length c4] 36) = w7 at hc0 hg hrd1 hB1 ⊢
    generalize w6.heap.size = q at hrd1 hB1 hg ⊢
    refine CALL_of (Valid_ct hrd1 hB1) ?_
    rintro _ w8 ⟨rfl, hc8⟩
    have zk := (hg w8 hc8).k
    rw [validB_iff.2 hv]
    have ws : IntKind.i64.wrap ((S.terms.length : Int) + 1) = (S.terms.length : Int) + 1 := IntWalk.i64_in _ (by omega)
    simp -dsimp [go_sem, zk, e1, e2, e3, e4, ws]
    exact hR _ (h6.chg.trans (hc0.trans hc8))
  | false =>
    have := hA.2.2 ht
    subst this
    rw [RUN_eq, ext20, RES_ok, RUN_eq, ext21, RES_ok]
    simp -dsimp [go_sem, zG]
    have e0 : ((S.rules.length : Int) == 0) = miss S 0 := by
      unfold miss
      simp only [List.range_zero, List.any_nil, Bool.or_false]
      rw [Bool.eq_iff_iff]
      simp
    rw [e0]
    have h7 := h6.alloc #[.slice none 0 0, .slice none 0 0, .slice none 0 0, .int .i64 0, .slice none 0 0] 36
    generalize w6.alloc (.cells #[.slice none 0 0, .slice none 0 0, .slice none 0 0, .int .i64 0, .slice none 0 0] 36) = w7 at h7 ⊢
    generalize w6.heap.size = q at h7 ⊢
    unfold law02_GramBuilt.b8
    refine law02_GramBuilt.l10_intro _ _ _ _ _ _ _ _ (fun y z w' => ∃ m : Nat, y = .bool (miss S m) ∧ z = .int .i64 ((m : Int) + 1) ∧ m ≤ S.nons.length ∧ w7 = w') (fun _ z _ => S.nons.length + 1 - iv z) ⟨0, rfl, rfl, by omega, rfl⟩ ?_
    rintro _ _ _ ⟨m, rfl, rfl, hm, rfl⟩ C hC
    simp -dsimp [go_sem]
    refine SPL_intro (fun p1 => ?_) (fun p1 => ?_) <;> simp at p1
    · have wm : IntKind.i64.wrap ((m : Int) + 1 + 1) = ((m + 1 : Nat) : Int) + 1 := by rw [show (m : Int) + 1 + 1 = ((m + 1 : Nat) : Int) + 1 by omega]; exact IntWalk.i64_in _ (by omega)
      have wneg : IntKind.i64.wrap (-((m : Int) + 1)) = -1 - (m : Int) := by rw [show -((m : Int) + 1) = -1 - (m : Int) by omega]; exact IntWalk.i64_in _ (by omega)
      have hll : (leftL S).length = S.rules.length := by simp [leftL]
      simp -dsimp [go_sem]
      refine law02_GramBuilt.l20_intro _ _ _ _ _ _ _ _ (fun y z w' => ∃ k : Nat, y = .bool (((leftL S).take k).contains (-1 - (m : Int))) ∧ z = .int .i64 k ∧ k ≤ S.rules.length ∧ w7 = w') (fun _ z _ => S.rules.length - iv z) ⟨0, by simp, rfl, by omega, rfl⟩ ?_
      rintro _ _ _ ⟨k, rfl, rfl, hk, rfl⟩ C' hC'
      simp -dsimp [go_sem]
      refine SPL_intro (fun p2 => ?_) (fun p2 => ?_) <;> simp at p2
      · have wk : IntKind.i64.wrap ((k : Int) + 1) = (k : Int) + 1 := IntWalk.i64_in _ (by omega)
        have hkl : k < (leftL S).length := by omega
        have htk : (leftL S).take (k + 1) = (leftL S).take k ++ [(leftL S)[k]] := List.take_succ_eq_append_getElem hkl
        have hnext : ((leftL S).take (k + 1)).contains (-1 - (m : Int)) = (((leftL S).take k).contains (-1 - (m : Int)) || ((leftL S)[k] == -1 - (m : Int))) := by
          rw [htk]
          exact contains_snoc _ _ _
        refine SPL_intro (fun hc => ?_) (fun hc => ?_) <;> simp at hc
        · have hc' : ((leftL S).take k).contains (-1 - (m : Int)) = true := by simpa using hc
          rw [hc'] at hnext
          unfold law02_GramBuilt.b22
          simp -dsimp [go_sem, wk]
          exact hC' _ _ _ ⟨k + 1, by rw [hnext]; rfl, by simp, by omega, rfl⟩ (by simp [iv]; omega)
        · have hc' : ((leftL S).take k).contains (-1 - (m : Int)) = false := by simpa using hc
          rw [hc'] at hnext
          obtain ⟨g1, rfl, d1, _⟩ := h7.rowAt 1 rfl (j := k) (by simpa using hkl)
          simp only [List.getElem_map] at d1
          simp -dsimp [go_sem, p2, d1, wneg]
          unfold law02_GramBuilt.b22
          simp -dsimp [go_sem, wk]
          exact hC' _ _ _ ⟨k + 1, by rw [hnext]; simp, by simp, by omega, rfl⟩ (by simp [iv]; omega)
      · have hka : k = S.rules.length := by omega
        subst hka
        have hta : (leftL S).take S.rules.length = leftL S := by rw [← hll, List.take_length]
        rw [hta]
        have hms := miss_succ S m
        unfold law02_GramBuilt.b17
        cases hb : miss S m with
        | true =>
          rw [hb] at hms
          simp -dsimp [go_sem]
          unfold law02_GramBuilt.b13
          simp -dsimp [go_sem, wm]
          exact hC _ _ _ ⟨m + 1, by rw [hms]; rfl, by simp, by omega, rfl⟩ (by simp [iv]; omega)
        | false =>
          rw [hb] at hms
          simp -dsimp [go_sem]
          unfold law02_GramBuilt.b13
          simp -dsimp [go_sem, wm]
          exact hC _ _ _ ⟨m + 1, by rw [hms]; simp, by simp, by omega, rfl⟩ (by simp [iv]; omega)
    · have hma : m = S.nons.length := by omega
      subst hma
      rw [miss_all hwf ht]
      unfold law02_GramBuilt.b7
      have k7 := h7.box 2 rfl
      simp [boxAt] at k7
      simp -dsimp [go_sem, k7]
      exact hR _ h7.chg
end
end Go.Proofs.Ytmhebgebfjnfjaa

/-
  The law GramBuilt, whole.
-/
namespace Go.Proofs.Ytmhebgebfjnfjaa
open Go.Px Go.Px.Scan Go.RowKit
set_option maxHeartbeats 1000000
set_option linter.unusedSimpArgs false
set_option linter.unusedVariables false
set_option maxRecDepth 100000
attribute [-go_sem] Builtin.append_
attribute [-go_sem] law02_GramBuilt.b5 law02_GramBuilt.b28 law02_GramBuilt.b36 law02_GramBuilt.b23 law02_GramBuilt.b35

def slen : Value → Nat
  | .slice _ n _ => n
  | _ => 0

theorem left_take {S : BS} {o : OpT} : (leftL (doesA S o)).take S.rules.length = leftL S ∧ S.rules.length ≤ (doesA S o).rules.length ∧ ∀ k (h : k < (leftL (doesA S o)).length), S.rules.length ≤ k → (leftL (doesA S o))[k] = o.2.1 := by
  have hl : (leftL S).length = S.rules.length := by simp [leftL]
  have hl' : (leftL (doesA S o)).length = (doesA S o).rules.length := by simp [leftL]
  rcases doesA_left S o with e | e
  · refine ⟨by rw [e, ← hl, List.take_length], by rw [← hl', e, hl]; exact Nat.le_refl _, fun k h hk => ?_⟩
    have : k < (leftL S).length := by rw [← e]; exact h
    omega
  · refine ⟨by rw [e, ← hl, List.take_left], by rw [← hl', e]; simp [hl], fun k h hk => ?_⟩
    have : k < (leftL S).length + 1 := by have := h; rw [e] at this; simpa using this
    have hk' : k = (leftL S).length := by omega
    subst hk'
    simp [e]

theorem GramBuilt_ct {w : World} {B : Nat} {v : Value} {l : List OpT} (hl : (rSlice rOp).at1 w B v l) (hB : B ≤ w.heap.size) (hfit : (rSlice rOp).fit l) : Ct Try.prog law02_GramBuilt.id #[v] w fun r w' => r = .bool true ∧ Chg noB w w' := by
  refine law02_GramBuilt.ct fun R hR => ?_
  obtain ⟨A, c, rfl, hl1, hl2, _⟩ := slice_form hl
  unfold law02_GramBuilt.run
  simp -dsimp [go_sem]
  refine CALL_of (awake_ct w) ?_
  rintro _ w1 ⟨rfl, hc1⟩
  refine CALL_New (St.start hc1) fun w2 b h2 => ?_
  have h3 := h2.alloc #[.slice none 0 0, .slice none 0 0, .slice none 0 0, .slice none 0 0, .int .i64 0] 66
  have h4 := h3.alloc #[.pointer (some ⟨b, 0, none⟩), .pointer (some ⟨w2.heap.size, 0, none⟩)] 68
  have hs3 : (w2.alloc (.cells #[.slice none 0 0, .slice none 0 0, .slice none 0 0, .slice none 0 0, .int .i64 0] 66)).heap.size = w2.heap.size + 1 := by simp
  rw [hs3] at h4
  simp -dsimp [go_sem]
  generalize (w2.alloc (.cells #[.slice none 0 0, .slice none 0 0, .slice none 0 0, .slice none 0 0, .int .i64 0] 66)).alloc (.cells #[.pointer (some ⟨b, 0, none⟩), .pointer (some ⟨w2.heap.size, 0, none⟩)] 68) = w4 at h4 ⊢
  generalize w2.heap.size = p at h4 ⊢
  have h5 := h4.turn (k := 1) rfl fun F ho => refC_zero ho
  have h6 : St noB w w4 (bothL (p + 1) b p S0) := h5.pick [2, 0, 1] (by decide) rfl
  have h7 : St noB w w4 [bothC (p + 1) S0] := by
    obtain ⟨hc, T, ht, hL⟩ := h6
    refine ⟨hc, fun i => if T i ≠ 0 then 1 else 0, fun i hi => ?_, fun k d hk => ?_⟩
    · by_cases e : T i ≠ 0
      · exact ht i e
      · dsimp only at hi; rw [if_neg e] at hi; exact absurd rfl hi
    · match k, hk with
      | 0, hk =>
        injection hk with hk; subst hk
        exact ⟨b, p, T, fun i hi => ⟨by dsimp only; rw [if_pos hi], (ht i hi).2⟩, hL⟩
      | k + 1, hk => simp at hk
  have h8 := h7.nilRow 3 1
  have hn : l.length ≤ maxLen := by omega
  unfold law02_GramBuilt.b23
  refine law02_GramBuilt.l25_intro _ _ _ _ _ _ (fun y z w' => ∃ (k : Nat) (S : BS) (A : Option Addr) (c : Nat), y = .slice A S.rules.length c ∧ z = .int .i64 k ∧ k ≤ l.length ∧ St noB w w' [bothC (p + 1) S, rowC 3 1 A S.rules.length c ((leftL S).map (.int .i64 ·))]) (fun _ z _ => l.length - iv z) ⟨0, S0, none, 0, rfl, rfl, by omega, h8⟩ ?_
  rintro _ _ w5 ⟨k, S, Al, cl, rfl, rfl, hk, h5⟩ C hC
  simp -dsimp [go_sem]
  refine SPL_intro (fun p1 => ?_) (fun p1 => ?_) <;> simp at p1
  · have wk := wrap_succ p1 hn
    obtain ⟨b1, o1, A', c', rfl, hb1, e0, e1, e2, e3, i1, i2, i3, i4⟩ := op_at (Rep.below hl (h5.chg.below hB fun _ _ => id)) p1
    have hf : rOp.fit l[k] := hfit.2 _ (List.getElem_mem p1)
    have hf2 : l[k].2.2.1.length * 8 ≤ reachN := hf.2.2.1.1
    obtain ⟨_, _, A2, c2, e9, hbB, _, e4, e5, _, _, _, i5, _⟩ := op_at hl p1
    injection e9 with e9; injection e9 with e9 e10; subst e9 e10
    have e6 := (h5.chg.cell (p := ⟨b1, o1 + k * 4 + 2, none⟩) (show b1 < w.heap.size by omega) (fun h => h)).trans e5
    rw [e2] at e6
    injection e6 with e6
    injection e6 with e6 _ e7
    subst e6 e7
    simp -dsimp [go_sem, p1, e0, e1, e2, e3]
    obtain ⟨F, o0, hF, hs⟩ := h5.opn (k := 0) rfl
    refine CALL_of (does_ct (o := l[k]) (A := A') (c := c') (B := B) o0 i1 i2 (fun w' hc => Rep.below i5 ((h5.chg.trans' hc fun i hi e => (hF i e).2 hi).below hB fun _ _ => id)) (by have := h5.chg.size; omega) hf2 i4) ?_
    rintro _ w6 ⟨rfl, hd⟩
    have h6 := hs _ _ hd.1 hd.2
    obtain ⟨t1, t2, t3⟩ := left_take (S := S) (o := l[k])
    generalize doesA S l[k] = S' at h6 t1 t2 t3
    obtain ⟨F6, o6, _⟩ := h6.get (k := 0) rfl
    obtain ⟨b', T, V, hb, hwf, kb⟩ := both_open o6
    have ok := hb.ok
    unfold law02_GramBuilt.b30_2
    simp -dsimp [go_sem, kb]
    refine CALL_of (Sizes_ct hb) ?_
    rintro _ w7 ⟨rfl, hc7⟩
    have h7 := h6.old hc7
    unfold law02_GramBuilt.b30_1
    rw [RUN_eq, ext40, RES_ok, RUN_eq, ext41, RES_ok, RUN_eq, ext42, RES_ok, RUN_eq, ext43, RES_ok]
    have hsy := ok.syms
    have hpr := ok.prods
    have hlv := ok.lev
    have ws : IntKind.i64.wrap ((S'.terms.length : Int) + S'.nons.length) = (S'.terms.length : Int) + S'.nons.length := IntWalk.i64_in _ (by omega)
    have f1 : ¬ S'.terms.length < S'.levels.length := by omega
    have f2 : ¬ (64 : Int) < (S'.terms.length : Int) + S'.nons.length := by omega
    have f3 : ¬ (96 : Int) < (S'.rules.length : Int) := by omega
    have f3' : ¬ 96 < S'.rules.length := by omega
    have f4 : ¬ (S'.terms.length : Int) < 0 := by omega
    have f5 : ¬ (S'.nons.length : Int) < 0 := by omega
    unfold law02_GramBuilt.b35
    simp -dsimp [go_sem, ws, f1, f2, f3, f3', f4, f5]
    unfold law02_GramBuilt.b36
    simp -dsimp [go_sem]
    have hll : (leftL S').length = S'.rules.length := by simp [leftL]
    refine law02_GramBuilt.l33_intro _ _ _ _ _ _ _ (fun y w' => ∃ (n : Nat) (A : Option Addr) (c : Nat), y = .slice A n c ∧ S.rules.length ≤ n ∧ n ≤ S'.rules.length ∧ St noB w w' [bothC (p + 1) S', rowC 3 1 A n c (((leftL S').take n).map (.int .i64 ·))]) (fun y _ => S'.rules.length - slen y) ⟨_, _, _, rfl, Nat.le_refl _, t2, by rw [t1]; exact h7⟩ ?_
    rintro _ w8 ⟨n, A8, c8, rfl, hn1, hn2, h8⟩ C' hC'
    simp -dsimp [go_sem]
    refine SPL_intro (fun p2 => ?_) (fun p2 => ?_) <;> simp at p2
    · have e8 := (h8.chg.cell (p := ⟨b1, o1 + k * 4 + 1, none⟩) (show b1 < w.heap.size by omega) (fun h => h)).trans e4
      simp -dsimp [go_sem, p1, e8]
      refine h8.append1 1 rfl uInts iInt rfl (by omega) (news := [.int .i64 l[k].2.1]) rfl (by simp [Value.oneCell']) (by unfold maxLen; omega) (by unfold maxBytes; omega) ?_
      intro g cap w9 h9
      have hnl : n < (leftL S').length := by omega
      have em : (((leftL S').take n).map (Value.int .i64 ·)) ++ [.int .i64 l[k].2.1] = ((leftL S').take (n + 1)).map (Value.int .i64 ·) := by
        rw [List.take_succ_eq_append_getElem hnl, List.map_append, t3 n hnl hn1]; rfl
      rw [em] at h9
      exact hC' _ _ ⟨n + 1, _, _, rfl, by omega, by omega, h9⟩ (by simp [slen]; omega)
    · have hna : n = S'.rules.length := by omega
      subst hna
      rw [← hll, List.take_length, hll] at h8
      unfold law02_GramBuilt.b28
      simp -dsimp [go_sem, wk]
      exact hC _ _ _ ⟨k + 1, S', _, _, rfl, by simp, by omega, h8⟩ (by simp [iv]; omega)
  · exact built_end h5 fun w' hc => hR _ _ ⟨rfl, hc⟩
end Go.Proofs.Ytmhebgebfjnfjaa

