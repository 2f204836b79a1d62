/-
  Texts of this claim: Ga1, Ga2, Ga3, Ga4.
-/
import Derived.Test.YtmhebgebfjnfjaaMf
import Derived.Test.YtmhebgebfjnfjaaMd
import Derived.Test.YtmhebgebfjnfjaaMe
import Derived.Test.YtmhebgebfjnfjaaGe
/-
  A plain grammar, made anew by a builder: plainly.
-/
namespace Go.Px.Scan
set_option linter.unusedSectionVars false
open Go.Px
/-- A symbol's handle. -/
def hdl (g : Gr) (s : Int) : Int := if s < g.terms.length then s else -(s - g.terms.length + 1)

/-- Terminals so far; nonterminals so far; levels so far; productions so far. -/
def SA (g : Gr) (k : Nat) : BS := ⟨(g.terms.tail.take k).map fun t => (t.1, 0), [], [], [], 0⟩
def SB (g : Gr) (k : Nat) : BS := ⟨g.terms.tail.map fun t => (t.1, 0), g.nons.take k, [], [], 0⟩
def SC (g : Gr) (k : Nat) : BS := ⟨g.terms.tail.map fun t => (t.1, if t.2 ≤ (k : Int) then t.2 else 0), g.nons, g.levels.take k, [], 0⟩
def ruleOf (g : Gr) (p : Int × List Int × Int) : Int × List Int × Int := (hdl g p.1, p.2.1.map (hdl g), p.2.2)
def SD (g : Gr) (k : Nat) : BS := ⟨g.terms.tail, g.nons, g.levels, (g.prods.take k).map (ruleOf g), 0⟩
def SE (g : Gr) : BS := ⟨g.terms.tail, g.nons, g.levels, g.prods.map (ruleOf g), hdl g g.start⟩

section
variable {g : Gr} (v : ValidP g)
include v

theorem terms_len : g.terms.length = g.terms.tail.length + 1 := by
  have := v.syms.t0
  cases e : g.terms with
  | nil => rw [e] at this; cases this
  | cons t r => rfl
theorem nons_drop : g.nons.drop 0 = g.nons := List.drop_zero
end
end Go.Px.Scan
namespace Go.Proofs.Ytmhebgebfjnfjaa
open Go.Px Go.Px.Scan Go.RowKit
set_option maxHeartbeats 1000000
set_option linter.unusedSimpArgs false
set_option linter.unusedSectionVars false
set_option linter.unusedVariables false
set_option maxRecDepth 100000
section
variable {g : Gr} (v : ValidP g)
include v

theorem termA_g {k : Nat} (hk : k < g.terms.tail.length) : termA (SA g k) g.terms.tail[k].1 = (((k + 1 : Nat) : Int), 0, SA g (k + 1)) := by
  have hl := terms_len v
  have hsum := v.syms.sum
  have hn := v.syms.n0
  have hno : g.terms.tail[k].1 ∉ (SA g k).terms.map (·.1) := by
    intro h
    simp only [SA, List.map_map, List.mem_map, Function.comp] at h
    obtain ⟨t, ht, e⟩ := h
    obtain ⟨i, hi, rfl⟩ := List.getElem_of_mem ht
    simp only [List.length_take] at hi
    rw [List.getElem_take] at e
    have := List.pairwise_iff_getElem.1 v.syms.tnd i k (by simp; simp at hi; omega) (by simpa using hk) (by omega)
    simp only [List.getElem_map] at this
    exact this e
  have hlen : (SA g k).terms.length = k := by simp only [SA, List.length_map, List.length_take]; omega
  unfold termA
  rw [if_neg (by rw [tmB_iff.2 (v.syms.terms _ (List.getElem_mem hk)).name]; simp), if_neg (by rw [posH_zero.2 hno]; simp), if_neg (by rw [hlen]; simp only [SA, List.length_nil]; omega), hlen]
  refine Prod.ext (by simp) (Prod.ext rfl ?_)
  show BS.mk _ _ _ _ _ = BS.mk _ _ _ _ _
  congr 1
  show ((g.terms.tail.take k).map fun t => (t.1, (0 : Int))) ++ [(g.terms.tail[k].1, 0)] = (g.terms.tail.take (k + 1)).map fun t => (t.1, (0 : Int))
  rw [List.take_succ_eq_append_getElem hk, List.map_append]; rfl

theorem nonA_g {k : Nat} (hk : k < g.nons.length) : nonA (SB g k) g.nons[k] = (-((k : Int) + 1), 0, SB g (k + 1)) := by
  have hl := terms_len v
  have hsum := v.syms.sum
  have hnd := v.syms.nnd
  have hnm := v.syms.nnam
  rw [List.drop_zero] at hnd hnm
  have hno : g.nons[k] ∉ (SB g k).nons := by
    intro h
    obtain ⟨i, hi, e⟩ := List.getElem_of_mem h
    simp only [SB, List.length_take] at hi
    simp only [SB, List.getElem_take] at e
    exact List.pairwise_iff_getElem.1 hnd i k (by omega) hk (by omega) e
  have hlen : (SB g k).nons.length = k := by simp only [SB, List.length_take]; omega
  have hlen2 : (SB g k).terms.length = g.terms.tail.length := by simp only [SB, List.length_map]
  unfold nonA
  rw [if_neg (by rw [nmB_iff.2 (hnm _ (List.getElem_mem hk))]; simp), if_neg (by rw [posH_zero.2 hno]; simp), if_neg (by rw [hlen, hlen2]; omega), hlen]
  refine Prod.ext rfl (Prod.ext rfl ?_)
  show BS.mk _ _ _ _ _ = BS.mk _ _ _ _ _
  congr 1
  show g.nons.take k ++ [g.nons[k]] = g.nons.take (k + 1)
  rw [List.take_succ_eq_append_getElem hk]

omit v in
theorem SA_zero : SA g 0 = S0 := by simp [SA, S0]
omit v in
theorem SA_SB : SA g g.terms.tail.length = SB g 0 := by simp only [SA, SB, List.take_length, List.take_zero]
omit v in
theorem SC_zero (v : ValidP g) : SB g g.nons.length = SC g 0 := by
  unfold SB SC
  congr 1
  · apply List.ext_getElem?
    intro i
    rw [List.getElem?_map, List.getElem?_map]
    cases e : g.terms.tail[i]? with
    | none => rfl
    | some t =>
      have := (v.syms.terms t (List.mem_of_getElem? e)).lo
      by_cases h0 : t.2 = 0
      · simp [h0]
      · simp; intro; omega
  · simp

/-- The terminals of a level. -/
def lvl (g : Gr) (i : Nat) (k : Nat) : List Int := ((List.range k).filter fun j => ((g.terms.tail[j]?).map (·.2)).getD 0 == (i : Int) + 1).map fun j : Nat => (j : Int) + 1

omit v in
theorem lvl_mem {i k : Nat} {x : Int} : x ∈ lvl g i k ↔ ∃ j, j < k ∧ x = (j : Int) + 1 ∧ ((g.terms.tail[j]?).map (·.2)).getD 0 = (i : Int) + 1 := by
  unfold lvl
  simp only [List.mem_map, List.mem_filter, List.mem_range, beq_iff_eq]
  constructor
  · rintro ⟨j, ⟨h1, h2⟩, rfl⟩; exact ⟨j, h1, rfl, h2⟩
  · rintro ⟨j, h1, rfl, h2⟩; exact ⟨j, ⟨h1, h2⟩, rfl⟩
omit v in
theorem lvl_succ (i k : Nat) : lvl g i (k + 1) = if ((g.terms.tail[k]?).map (·.2)).getD 0 = (i : Int) + 1 then lvl g i k ++ [(k : Int) + 1] else lvl g i k := by
  unfold lvl
  generalize g.terms.tail = T
  rw [List.range_succ, List.filter_append, List.map_append]
  by_cases h : ((T[k]?).map (·.2)).getD 0 = (i : Int) + 1
  · rw [if_pos h]
    simp [h]
  · rw [if_neg h]
    simp [h]
omit v in
theorem lvl_nodup (i k : Nat) : (lvl g i k).Nodup := by
  unfold lvl
  refine List.pairwise_map.2 ?_
  refine List.Pairwise.imp ?_ (List.Pairwise.filter _ (List.nodup_range (n := k)))
  intro a b hab e
  exact hab (by omega)

theorem levelA_g {i : Nat} (hi : i < g.levels.length) : levelA (SC g i) g.levels[i] (lvl g i g.terms.tail.length) = ((i : Int) + 1, 0, SC g (i + 1)) := by
  obtain ⟨h1, h2, t, ht, h3⟩ := v.syms.levels i hi
  have hlen : (SC g i).terms.length = g.terms.tail.length := by simp only [SC, List.length_map]
  have hll : (SC g i).levels.length = i := by simp only [SC, List.length_take]; omega
  have get : ∀ j : Nat, (SC g i).terms[j]? = (g.terms.tail[j]?).map fun t : ByteArray × Int => (t.1, if t.2 ≤ (i : Int) then t.2 else 0) := fun j => by show (List.map _ _)[j]? = _; rw [List.getElem?_map]
  have hv : LvP (SC g i) g.levels[i] (lvl g i g.terms.tail.length) := by
    refine ⟨h1, h2, ?_, fun x hx => ?_, lvl_nodup _ _⟩
    · obtain ⟨j, hj, e⟩ := List.getElem_of_mem ht
      intro h0
      have : ((j : Int) + 1) ∈ lvl g i g.terms.tail.length := lvl_mem.2 ⟨j, hj, rfl, by rw [List.getElem?_eq_getElem hj, e]; exact h3⟩
      rw [h0] at this; cases this
    · obtain ⟨j, hj, rfl, e⟩ := lvl_mem.1 hx
      refine ⟨by omega, by rw [hlen]; omega, ?_⟩
      rw [show ((j : Int) + 1 - 1).toNat = j by omega, get]
      rw [List.getElem?_eq_getElem hj] at e ⊢
      simp only [Option.map_some, Option.getD_some] at e ⊢
      rw [if_neg (by omega)]
  rw [levelA_yes hv, hll]
  refine Prod.ext rfl (Prod.ext rfl ?_)
  show BS.mk _ _ _ _ _ = BS.mk _ _ _ _ _
  congr 1
  · apply List.ext_getElem?
    intro j
    rw [setLv_get _ _ _ _ fun x hx => (hv.terms x hx).1, get, List.getElem?_map]
    cases e : g.terms.tail[j]? with
    | none => rfl
    | some t =>
      have hj := (List.getElem?_eq_some_iff.1 e).1
      simp only [Option.map_some, Option.some.injEq]
      by_cases hm : ((j : Int) + 1) ∈ lvl g i g.terms.tail.length
      · obtain ⟨j', _, e1, e2⟩ := lvl_mem.1 hm
        have : j' = j := by omega
        subst this
        rw [e] at e2
        simp only [Option.map_some, Option.getD_some] at e2
        rw [if_pos hm, if_pos (by omega), e2]
      · rw [if_neg hm]
        have hne : t.2 ≠ (i : Int) + 1 := fun h => hm (lvl_mem.2 ⟨j, hj, rfl, by rw [e]; exact h⟩)
        by_cases hle : t.2 ≤ i
        · rw [if_pos hle, if_pos (by omega)]
        · rw [if_neg hle, if_neg (by omega)]
  · show g.levels.take i ++ [g.levels[i]] = g.levels.take (i + 1)
    rw [List.take_succ_eq_append_getElem hi]

theorem SC_SD : SC g g.levels.length = SD g 0 := by
  unfold SC SD
  congr 1
  · apply List.ext_getElem?
    intro j
    rw [List.getElem?_map]
    cases e : g.terms.tail[j]? with
    | none => rfl
    | some t =>
      have := (v.syms.terms t (List.mem_of_getElem? e)).hi
      simp only [Option.map_some, if_pos this]
  · simp

theorem hdl_range {s : Int} (h1 : 1 ≤ s) (h2 : s < (g.terms.length + g.nons.length : Int)) : (hdl g s = s ∧ s < g.terms.length) ∨ (hdl g s < 0 ∧ -(g.nons.length : Int) ≤ hdl g s ∧ (g.terms.length : Int) ≤ s) := by
  unfold hdl
  by_cases h : s < g.terms.length
  · rw [if_pos h]; exact Or.inl ⟨rfl, h⟩
  · rw [if_neg h]; right; omega

theorem rule_g {k : Nat} (hk : k < g.prods.length) :
    (ruleA (SD g k) (hdl g g.prods[k].1) (g.prods[k].2.1.map (hdl g))).1 = (k : Int) ∧ (ruleA (SD g k) (hdl g g.prods[k].1) (g.prods[k].2.1.map (hdl g))).2.1 = 0 ∧
      gradeA (ruleA (SD g k) (hdl g g.prods[k].1) (g.prods[k].2.1.map (hdl g))).2.2 g.prods[k].2.2 [(k : Int)] = (0, SD g (k + 1)) := by
  have hl := terms_len v
  have hp := v.prods.each g.prods[k] (by rw [List.drop_zero]; exact List.getElem_mem hk)
  have hc1 := v.prods.c1
  have hlen : (SD g k).rules.length = k := by simp only [SD, List.length_map, List.length_take]; omega
  have hN : isN (SD g k) (hdl g g.prods[k].1) = true := by
    have h1 := hp.l0
    have h2 := hp.l1
    have : hdl g g.prods[k].1 = -(g.prods[k].1 - g.terms.length + 1) := if_neg (by omega)
    simp [isN, SD, this]
    omega
  have hany : (g.prods[k].2.1.map (hdl g)).any (badH (SD g k)) = false := by
    rw [Bool.eq_false_iff]
    intro h
    obtain ⟨x, hx, hb⟩ := List.any_eq_true.1 h
    obtain ⟨s, hs, rfl⟩ := List.mem_map.1 hx
    have hr := hp.right s hs
    unfold badH at hb
    rcases hdl_range v hr.1 hr.2.1 with ⟨e, h1⟩ | ⟨h1, h2, h3⟩
    · have : isT (SD g k) (hdl g s) = true := by
        rw [e]
        have h4 : (SD g k).terms.length = g.terms.tail.length := rfl
        unfold isT
        rw [h4]
        exact decide_eq_true (by omega)
      rw [this] at hb; simp at hb
    · have : isN (SD g k) (hdl g s) = true := by
        have h4 : (SD g k).nons.length = g.nons.length := rfl
        unfold isN
        rw [h4]
        exact decide_eq_true (by omega)
      rw [this] at hb; simp at hb
  have hra : ruleA (SD g k) (hdl g g.prods[k].1) (g.prods[k].2.1.map (hdl g)) = ((k : Int), 0, { SD g k with rules := (SD g k).rules ++ [(hdl g g.prods[k].1, g.prods[k].2.1.map (hdl g), ruleL (SD g k) (g.prods[k].2.1.map (hdl g)))] }) := by
    unfold ruleA
    rw [if_neg (by rw [hN, hany]; simp), if_neg (by rw [hlen]; omega), hlen]
  rw [hra]
  refine ⟨rfl, rfl, ?_⟩
  have hv0 := hp.v0
  have hv1 := hp.v1
  unfold gradeA
  rw [if_pos ⟨⟨hv0, hv1⟩, fun p hp => by simp only [List.mem_singleton] at hp; subst hp; simp only [List.length_append, hlen, List.length_singleton]; omega⟩]
  refine Prod.ext rfl ?_
  show BS.mk _ _ _ _ _ = BS.mk _ _ _ _ _
  congr 1
  simp only [List.foldl_cons, List.foldl_nil, Int.toNat_natCast]
  show List.modify ((SD g k).rules ++ [_]) k _ = (g.prods.take (k + 1)).map (ruleOf g)
  rw [List.take_succ_eq_append_getElem hk, List.map_append]
  apply List.ext_getElem?
  intro i
  rw [List.getElem?_modify]
  show _ = ((SD g k).rules ++ [ruleOf g g.prods[k]])[i]?
  by_cases e : i = k
  · subst e
    rw [List.getElem?_append_right (by rw [hlen]; exact Nat.le_refl _), List.getElem?_append_right (by rw [hlen]; exact Nat.le_refl _), hlen]
    simp [ruleOf]
  · by_cases h2 : i < k
    · rw [List.getElem?_append_left (by rw [hlen]; exact h2), List.getElem?_append_left (by rw [hlen]; exact h2)]
      have : ¬ (k = i) := fun h => e h.symm
      simp [this]
    · rw [List.getElem?_eq_none (by simp [hlen]; omega), List.getElem?_eq_none (by simp [hlen]; omega)]; rfl

theorem start_g : isN (SD g g.prods.length) (hdl g g.start) = true := by
  have h1 := v.prods.s0
  have h2 := v.prods.s1
  have : hdl g g.start = -(g.start - g.terms.length + 1) := if_neg (by omega)
  simp [isN, SD, this]
  omega

theorem lefts_g : leftsOf ((g.prods).map (ruleOf g)) = (List.range g.nons.length).map fun i : Nat => -1 - (i : Int) := by
  have hl := v.prods.lefts
  rw [List.drop_zero] at hl
  have hrow := v.prods.row.1 v.sorted
  have hmap : ∀ (l : List (Int × List Int × Int)), (∀ p ∈ l, (g.terms.length : Int) ≤ p.1) → leftsOf (l.map (ruleOf g)) = (leftsOf l).map (hdl g) := by
    intro l hl
    suffices ∀ (l : List (Int × List Int × Int)) (acc : List Int), (∀ p ∈ l, (g.terms.length : Int) ≤ p.1) → (∀ x ∈ acc, (g.terms.length : Int) ≤ x) → (l.map (ruleOf g)).foldl (fun a p => addL a p.1) (acc.map (hdl g)) = (l.foldl (fun a p => addL a p.1) acc).map (hdl g) from this l [] hl (by simp)
    intro l
    induction l with
    | nil => exact fun _ _ _ => rfl
    | cons p r ih =>
      intro acc hl hacc
      have hp := hl p (by simp)
      have hmem : hdl g p.1 ∈ acc.map (hdl g) ↔ p.1 ∈ acc := by
        constructor
        · intro h
          obtain ⟨x, hx, e⟩ := List.mem_map.1 h
          have h1 := hacc x hx
          unfold hdl at e
          rw [if_neg (by omega), if_neg (by omega)] at e
          have : x = p.1 := by omega
          rw [← this]; exact hx
        · exact fun h => List.mem_map.2 ⟨_, h, rfl⟩
      have hadd : addL (acc.map (hdl g)) (hdl g p.1) = (addL acc p.1).map (hdl g) := by
        unfold addL
        by_cases h : p.1 ∈ acc
        · rw [if_pos h, if_pos (hmem.2 h)]
        · rw [if_neg h, if_neg (fun h' => h (hmem.1 h')), List.map_append]; rfl
      show ((r.map (ruleOf g)).foldl (fun a p => addL a p.1) (addL (acc.map (hdl g)) (hdl g p.1))) = _
      rw [hadd]
      exact ih _ (fun q hq => hl q (by simp [hq])) fun x hx => by
        rcases addL_mem.1 hx with hx | rfl
        · exact hacc x hx
        · exact hp
  rw [hmap _ fun p hp => by have := (v.prods.each p (by rw [List.drop_zero]; exact hp)).l0; omega]
  apply List.ext_getElem
  · simp; omega
  · intro i h1 h2
    simp only [List.getElem_map, List.getElem_range]
    rw [hrow i (by simpa using h1)]
    unfold hdl
    rw [if_neg (by omega)]; omega

theorem sym_g {s : Int} (h1 : (g.terms.length : Int) ≤ s) (h2 : s < (g.terms.length + g.nons.length : Int)) : symOf g.terms.length (leftsOf (g.prods.map (ruleOf g))) (hdl g s) = s := by
  rw [lefts_g v]
  obtain ⟨i, hi⟩ : ∃ i : Nat, s = (g.terms.length : Int) + i := ⟨(s - g.terms.length).toNat, by omega⟩
  have hil : i < g.nons.length := by omega
  have hh : hdl g s = -1 - (i : Int) := by unfold hdl; rw [if_neg (by omega)]; omega
  have hnd : ((List.range g.nons.length).map fun i : Nat => -1 - (i : Int)).Nodup := by
    refine List.pairwise_map.2 ?_
    refine List.Pairwise.imp ?_ (List.nodup_range (n := g.nons.length))
    intro a b hab e
    exact hab (by omega)
  unfold symOf
  rw [hh, if_pos (List.mem_map.2 ⟨i, List.mem_range.2 hil, rfl⟩)]
  have : ((List.range g.nons.length).map fun i : Nat => -1 - (i : Int)).idxOf (-1 - (i : Int)) = i := by
    have h3 := hnd.idxOf_getElem i (by simpa using hil)
    simpa using h3
  rw [this]; omega

theorem gram_g : gramOf (SE g) = g := by
  have hl := terms_len v
  have ht0 := v.syms.t0
  have hsh : ∀ s : Int, 1 ≤ s → s < (g.terms.length + g.nons.length : Int) → symH g.terms.length (leftsOf (g.prods.map (ruleOf g))) (hdl g s) = s := by
    intro s h1 h2
    unfold symH
    rcases hdl_range v h1 h2 with ⟨e, h3⟩ | ⟨h3, _, h4⟩
    · rw [e, if_neg (by omega)]
    · rw [if_pos h3]; exact sym_g v h4 h2
  refine Gr.ext' ?_ ?_ ?_ ?_ ?_
  · show (⟨#[]⟩, 0) :: g.terms.tail = g.terms
    cases e : g.terms with
    | nil => rw [e] at ht0; cases ht0
    | cons t r => rw [e] at ht0; simp at ht0; rw [ht0]; rfl
  · show (leftsOf (g.prods.map (ruleOf g))).map (nonOf (SE g)) = g.nons
    rw [lefts_g v]
    apply List.ext_getElem
    · simp
    · intro i h1 h2
      simp only [List.getElem_map, List.getElem_range, nonOf, SE]
      rw [show (-1 - (-1 - (i : Int))).toNat = i by omega, List.getElem?_eq_getElem h2]; rfl
  · rfl
  · show symOf (g.terms.tail.length + 1) (leftsOf (g.prods.map (ruleOf g))) (if hdl g g.start = 0 then _ else hdl g g.start) = g.start
    have h1 := v.prods.s0
    have h2 := v.prods.s1
    have h3 : hdl g g.start ≠ 0 := by unfold hdl; rw [if_neg (by omega)]; omega
    rw [if_neg h3, ← hl]
    exact sym_g v (by omega) h2
  · show (g.prods.map (ruleOf g)).map (pv (SE g)) = g.prods
    rw [List.map_map]
    conv => rhs; rw [← List.map_id g.prods]
    apply List.map_congr_left
    intro p hp
    have hok := v.prods.each p (by rw [List.drop_zero]; exact hp)
    have h1 := hok.l0
    have h2 := hok.l1
    show (symOf (g.terms.tail.length + 1) (leftsOf (g.prods.map (ruleOf g))) (hdl g p.1), (p.2.1.map (hdl g)).map (symH (g.terms.tail.length + 1) (leftsOf (g.prods.map (ruleOf g)))), p.2.2) = p
    rw [← hl]
    refine Prod.ext (sym_g v (by omega) h2) (Prod.ext ?_ rfl)
    show (p.2.1.map (hdl g)).map _ = p.2.1
    rw [List.map_map]
    conv => rhs; rw [← List.map_id p.2.1]
    apply List.map_congr_left
    intro s hs
    have := hok.right s hs
    exact hsh s this.1 this.2.1

theorem told_g : toldB (SE g) = true := by
  refine decide_eq_true ⟨?_, ?_⟩
  · intro h
    have h2 := v.prods.c0
    have : (g.prods.map (ruleOf g)).length = 0 := by rw [show g.prods.map (ruleOf g) = [] from h]; rfl
    simp at this
    rw [this] at h2
    simp at h2
  · show g.nons.length ≤ (leftsOf (g.prods.map (ruleOf g))).length
    rw [lefts_g v]; simp

theorem not_closed : closedB g = false := bool_no closedB_iff fun h => by
  have h1 := h.first
  have h2 := v.syms.nnam
  rw [List.drop_zero] at h2
  have h3 := h2 _ (List.mem_of_mem_head? h1)
  have := h3.1
  simp [ByteArray.size] at this
end
end Go.Proofs.Ytmhebgebfjnfjaa

/-
  The law GramAgain: its helpers.
-/
namespace Go.Proofs.Ytmhebgebfjnfjaa
open Go.Px Go.Px.Scan Go.RowKit
set_option maxHeartbeats 1000000
set_option linter.unusedSimpArgs false
set_option linter.unusedVariables false
set_option maxRecDepth 100000
attribute [-go_sem] Builtin.append_

theorem handle_ct {w : World} {B : Nat} {v : Value} {g : Gr} (h : rGram.atN w B v g) (hB : B ≤ w.heap.size) (hs : g.terms.length + g.nons.length ≤ 1000) {s : Int} (h1 : 0 ≤ s) (h2 : s ≤ 1000) : Ct Try.prog law02_handle.id #[v, .int .i64 s] w fun r w' => r = .int .i64 (hdl g s) ∧ Chg noB w w' := by
  refine law02_handle.ct fun R hR => ?_
  obtain ⟨A1, c1, A2, c2, A3, c3, A4, c4, rfl, _, _, hc0, hg⟩ := box_all h hB
  unfold law02_handle.run
  simp -dsimp [go_sem]
  generalize w.alloc (.cells #[.slice A1 g.terms.length c1, .slice A2 g.nons.length c2, .slice A3 g.levels.length c3, .int .i64 g.start, .slice A4 g.prods.length c4] 36) = w1 at hc0 hg ⊢
  generalize w.heap.size = q at hg ⊢
  have z1 := hg w1 (Chg.refl _ _)
  refine SPL_intro (fun q1 => ?_) (fun q1 => ?_) <;> simp at q1
  · refine hR _ _ ⟨?_, hc0⟩
    unfold hdl; rw [if_pos q1]
  · have w1' : IntKind.i64.wrap (s - g.terms.length) = s - g.terms.length := IntWalk.i64_in _ (by omega)
    have w2' : IntKind.i64.wrap (s - g.terms.length + 1) = s - g.terms.length + 1 := IntWalk.i64_in _ (by omega)
    have w3' : IntKind.i64.wrap (-(s - g.terms.length + 1)) = -(s - g.terms.length + 1) := IntWalk.i64_in _ (by omega)
    simp -dsimp [go_sem, z1.k, w1', w2', w3']
    refine hR _ _ ⟨?_, hc0⟩
    unfold hdl; rw [if_neg (by omega)]

theorem levels_call {W w : World} {X : Pan} {K : Value → World → Prop} {q b B : Nat} {Z : List Value} {vg : Value} {g : Gr} (v : ValidP g) (hg : rGram.atN W B vg g) (hB : B ≤ W.heap.size) (h : St noB W w [boxC q 36 Z, bldC b (SC g 0)])
    (hK : ∀ w', St noB W w' [boxC q 36 Z, bldC b (SC g g.levels.length)] → K (.bool true) w') : CALL Try.prog X law02_levels.id #[.pointer (some ⟨b, 0, none⟩), vg] w K := by
  refine CALL_of (S := fun r w' => r = .bool true ∧ St noB W w' [boxC q 36 Z, bldC b (SC g g.levels.length)]) (law02_levels.ct fun R hR => ?_) (by rintro _ w' ⟨rfl, h⟩; exact hK w' h)
  obtain ⟨A1, c1, A2, c2, A3, c3, A4, c4, rfl, g1, g2, g3, g4, g5, ⟨l1, m1⟩, ⟨l2, m2⟩, ⟨l3, m3⟩, ⟨l4, m4⟩⟩ := (rGram_open hg).ex
  have hlt := terms_len v
  have ht1 := v.syms.t1
  have hlev := v.syms.lev
  unfold law02_levels.run
  have s1 := h.alloc #[.slice A1 g.terms.length c1, .slice A2 g.nons.length c2, .slice A3 g.levels.length c3, .int .i64 g.start, .slice A4 g.prods.length c4] 36
  simp -dsimp [go_sem]
  generalize w.heap.size = q2 at s1 ⊢
  generalize w.alloc (.cells #[.slice A1 g.terms.length c1, .slice A2 g.nons.length c2, .slice A3 g.levels.length c3, .int .i64 g.start, .slice A4 g.prods.length c4] 36) = w1 at s1 ⊢
  refine law02_levels.l6_intro _ _ _ _ _ (fun y w' => ∃ i : Nat, y = .int .i64 i ∧ i ≤ g.levels.length ∧ St noB W w' [boxC q 36 Z, bldC b (SC g i), boxC q2 36 [.slice A1 g.terms.length c1, .slice A2 g.nons.length c2, .slice A3 g.levels.length c3, .int .i64 g.start, .slice A4 g.prods.length c4]]) (fun y _ => g.levels.length - iv y) ⟨0, rfl, by omega, s1⟩ ?_
  rintro _ w2 ⟨i, rfl, hi, s2⟩ C hC
  have k2 := s2.box 2 rfl
  simp [boxAt] at k2
  simp -dsimp [go_sem, k2]
  refine SPL_intro (fun p1 => ?_) (fun p1 => ?_) <;> simp at p1
  · have wi : IntKind.i64.wrap ((i : Int) + 1) = (i : Int) + 1 := IntWalk.i64_in _ (by omega)
    have n0 := s2.nilRow 3 1
    simp -dsimp [go_sem]
    refine law02_levels.l17_intro _ _ _ _ _ _ _ _ (fun x y w' => ∃ (t k : Nat) (A : Option Addr) (n c : Nat), y = .int .i64 t ∧ x = .slice A n c ∧ t = k + 1 ∧ k ≤ g.terms.tail.length ∧ n ≤ k ∧ n = (lvl g i k).length ∧
      St noB W w' [boxC q 36 Z, bldC b (SC g i), boxC q2 36 [.slice A1 g.terms.length c1, .slice A2 g.nons.length c2, .slice A3 g.levels.length c3, .int .i64 g.start, .slice A4 g.prods.length c4], rowC 3 1 A n c ((lvl g i k).map (Value.int .i64 ·))]) (fun _ y _ => g.terms.length + 1 - iv y)
      ⟨1, 0, none, 0, 0, rfl, rfl, rfl, by omega, by omega, by simp [lvl], by simpa [lvl] using n0⟩ ?_
    rintro _ _ w3 ⟨t, k, A, n, c, rfl, rfl, ht, hk, hn, hnl, s3⟩ C' hC'
    have k3 := s3.box 2 rfl
    simp [boxAt] at k3
    simp -dsimp [go_sem, k3]
    refine SPL_intro (fun p2 => ?_) (fun p2 => ?_) <;> simp at p2
    · have hk1 : k < g.terms.tail.length := by omega
      have wt : IntKind.i64.wrap ((t : Int) + 1) = (t : Int) + 1 := IntWalk.i64_in _ (by omega)
      obtain ⟨b1, o1, rfl, hb1, x1, x2, _⟩ := terms_at (Rep.below g1 (s3.chg.below hB fun _ _ => id)) p2
      have het : g.terms[t] = g.terms.tail[k] := by subst ht; simp
      rw [het] at x2
      have hls := lvl_succ (g := g) i k
      rw [List.getElem?_eq_getElem hk1, Option.map_some, Option.getD_some] at hls
      simp -dsimp [go_sem, k3, p2, x2, wi]
      refine SPL_intro (fun p3 => ?_) (fun p3 => ?_) <;> simp only [beq_iff_eq, beq_eq_false_iff_ne, ne_eq] at p3
      · have p3 : g.terms.tail[k].2 = (i : Int) + 1 := by simpa using p3
        rw [if_pos p3] at hls
        simp -dsimp [go_sem]
        refine s3.append1 3 rfl uInts iInt rfl (by omega) (news := [.int .i64 t]) rfl (by simp [Value.oneCell']) (by unfold maxLen; omega) (by unfold maxBytes; omega) ?_
        intro g' cap w4 s4
        simp -dsimp [go_sem, wt]
        have em : (lvl g i k).map (Value.int .i64 ·) ++ [.int .i64 t] = (lvl g i (k + 1)).map (Value.int .i64 ·) := by rw [hls, List.map_append, ht]; simp
        rw [em] at s4
        exact hC' _ _ _ ⟨t + 1, k + 1, _, _, _, by simp, rfl, by omega, by omega, by omega, by rw [hls, List.length_append, hnl]; rfl, s4⟩ (by simp [iv]; omega)
      · have p3 : ¬ g.terms.tail[k].2 = (i : Int) + 1 := by simpa using p3
        rw [if_neg p3] at hls
        simp -dsimp [go_sem, wt]
        exact hC' _ _ _ ⟨t + 1, k + 1, A, n, c, by simp, rfl, by omega, by omega, by omega, by rw [hls]; exact hnl, by rw [hls]; exact s3⟩ (by simp [iv]; omega)
    · have hka : k = g.terms.tail.length := by omega
      subst hka
      obtain ⟨b2, o2, rfl, hb2, x1, x2⟩ := Go.Px.ints_at (Rep.below g3 (s3.chg.below hB fun _ _ => id)) p1
      simp -dsimp [go_sem, k3, p1, x1]
      refine CALL_Level s3 1 rfl x2 (Apart.row (j := 3) rfl (by omega) fun x hx => ?_) fun w4 s4 => ?_
      · obtain ⟨j, hj, rfl, _⟩ := lvl_mem.1 hx
        unfold inI64; omega
      · rw [levelA_g v p1] at s4 ⊢
        simp -dsimp [go_sem, wi]
        exact hC _ _ ⟨i + 1, by simp, by omega, s4.take 3⟩ (by simp [iv]; omega)
  · have hia : i = g.levels.length := by omega
    subst hia
    simp -dsimp [go_sem]
    exact hR _ _ ⟨rfl, s2.take 2⟩
end Go.Proofs.Ytmhebgebfjnfjaa

/-
  The law GramAgain.
-/
namespace Go.Proofs.Ytmhebgebfjnfjaa
open Go.Px Go.Px.Scan Go.RowKit
set_option maxHeartbeats 1000000
set_option linter.unusedSimpArgs false
set_option linter.unusedSectionVars false
set_option linter.unusedVariables false
set_option maxRecDepth 100000
attribute [-go_sem] Builtin.append_
attribute [-go_sem] law02_GramAgain.b33 law02_GramAgain.b24 law02_GramAgain.b6 law02_GramAgain.b9 law02_GramAgain.b8 law02_GramAgain.b3

section
variable {R : Ending → World → Prop} {W : World} {B q b : Nat} {g : Gr} {A1 : Option Addr} {c1 : Nat} {A2 : Option Addr} {c2 : Nat} {A3 : Option Addr} {c3 : Nat} {A4 : Option Addr} {c4 : Nat}

/-- The law's box. -/
def gZ (g : Gr) (A1 : Option Addr) (c1 : Nat) (A2 : Option Addr) (c2 : Nat) (A3 : Option Addr) (c3 : Nat) (A4 : Option Addr) (c4 : Nat) : List Value :=
  [.slice A1 g.terms.length c1, .slice A2 g.nons.length c2, .slice A3 g.levels.length c3, .int .i64 g.start, .slice A4 g.prods.length c4]

variable (v : ValidP g) (hfit : ∀ p ∈ g.prods, p.2.1.length * 8 ≤ maxBytes) (hg : rGram.atN W B (.agg #[.slice A1 g.terms.length c1, .slice A2 g.nons.length c2, .slice A3 g.levels.length c3, .int .i64 g.start, .slice A4 g.prods.length c4]) g) (hB : B ≤ W.heap.size)
include v hg hB

theorem again_end {w : World} (h : St noB W w [boxC q 36 (gZ g A1 c1 A2 c2 A3 c3 A4 c4), bldC b (SD g g.prods.length)]) (hR : ∀ w', Chg noB W w' → R (.returned (.bool true)) w') :
    law02_GramAgain.b8 R (.pointer (some ⟨q, 0, none⟩)) (.pointer (some ⟨b, 0, none⟩)) w := by
  have ht1 := v.syms.t1
  have hn1 := v.syms.n1
  have hs0 := v.prods.s0
  have hs1 := v.prods.s1
  have k := h.box 0 rfl
  simp [boxAt, gZ] at k
  unfold law02_GramAgain.b8
  simp -dsimp [go_sem, k]
  refine CALL_of (handle_ct (rGram_below hg (h.chg.below hB fun _ _ => id)) (by have := h.chg.size; omega) (by omega) (s := g.start) (by omega) (by omega)) ?_
  rintro _ w1 ⟨rfl, hc1⟩
  have s1 := h.old hc1
  have hst := start_g v
  have hh : inI64 (hdl g g.start) := by
    have : isN (SD g g.prods.length) (hdl g g.start) = true := hst
    simp [isN, SD] at this
    unfold inI64; omega
  simp -dsimp [go_sem]
  refine CALL_Start s1 1 rfl hh fun w2 s2 => ?_
  rw [hst] at s2 ⊢
  have e1 : (if true = true then { SD g g.prods.length with start := hdl g g.start } else SD g g.prods.length) = SE g := by
    simp [SD, SE]
  rw [e1] at s2
  rw [if_pos rfl]
  refine CALL_Grammar s2 1 rfl fun vv w3 ok hwf s3 hA => ?_
  obtain ⟨vg, rfl, hG⟩ := hA.2.1 (told_g v)
  rw [gram_g v] at hG
  have hrd := hG.read
  obtain ⟨D1, d1, D2, d2, D3, d3, D4, d4, rfl, _⟩ := (rGram_open hrd).ex
  have s4 := s3.alloc #[.slice D1 g.terms.length d1, .slice D2 g.nons.length d2, .slice D3 g.levels.length d3, .int .i64 g.start, .slice D4 g.prods.length d4] 36
  have hb4 := ((Chg.refl noB w3).alloc (.cells #[.slice D1 g.terms.length d1, .slice D2 g.nons.length d2, .slice D3 g.levels.length d3, .int .i64 g.start, .slice D4 g.prods.length d4] 36)).below (Nat.le_refl _) fun _ _ => id
  have hB4 : w3.heap.size ≤ (w3.alloc (.cells #[.slice D1 g.terms.length d1, .slice D2 g.nons.length d2, .slice D3 g.levels.length d3, .int .i64 g.start, .slice D4 g.prods.length d4] 36)).heap.size := by simp
  have k4 := s4.box 0 rfl
  simp [boxAt, gZ] at k4
  simp -dsimp [go_sem, k4]
  have hrd4 := rGram_below hrd hb4
  generalize hn3 : w3.heap.size = n3 at s4 hrd4 hB4 ⊢
  generalize w3.alloc (.cells #[.slice D1 g.terms.length d1, .slice D2 g.nons.length d2, .slice D3 g.levels.length d3, .int .i64 g.start, .slice D4 g.prods.length d4] 36) = w4 at s4 hrd4 hB4 ⊢
  have hW4 := s4.chg.below hB fun _ _ => id
  have hBn : B ≤ n3 := by have := s3.chg.size; omega
  refine CALL_of (refSame_ct (rGram_up (rGram_below hg hW4) hBn) hrd4 hB4) ?_
  rintro _ w5 ⟨rfl, hc5⟩
  rw [sameB_iff.2 rfl]
  have s5 := s4.old hc5
  have k5 := s5.box 2 rfl
  simp [boxAt] at k5
  have hrd5 := rGram_below hrd4 (hc5.below hB4 fun _ _ => id)
  have hB5 : n3 ≤ w5.heap.size := by have := hc5.size; omega
  simp -dsimp [go_sem, k5]
  refine CALL_of (Valid_ct hrd5 hB5) ?_
  rintro _ w6 ⟨rfl, hc6⟩
  rw [validB_iff.2 v]
  have s6 := s5.old hc6
  have k6 := s6.box 2 rfl
  simp [boxAt] at k6
  simp -dsimp [go_sem, k6]
  refine CALL_of (Closed_ct (rGram_below hrd5 (hc6.below hB5 fun _ _ => id)) (by have := hc6.size; omega)) ?_
  rintro _ w7 ⟨rfl, hc7⟩
  rw [not_closed v]
  simp -dsimp [go_sem]
  exact hR _ (s6.chg.trans hc7)

include hfit in
theorem again_prods {w : World} (h : St noB W w [boxC q 36 (gZ g A1 c1 A2 c2 A3 c3 A4 c4), bldC b (SD g 0)]) (hR : ∀ w', Chg noB W w' → R (.returned (.bool true)) w') :
    law02_GramAgain.b9 R (.pointer (some ⟨q, 0, none⟩)) (.pointer (some ⟨b, 0, none⟩)) w := by
  have ht1 := v.syms.t1
  have hn1 := v.syms.n1
  have hc1' := v.prods.c1
  obtain ⟨_, _, _, _, _, _, _, _, e, g1, g2, g3, g4, g5, _⟩ := (rGram_open hg).ex
  injection e with e
  simp only [Array.mk.injEq, List.cons.injEq, Value.slice.injEq, true_and, and_true] at e
  obtain ⟨⟨rfl, rfl⟩, ⟨rfl, rfl⟩, ⟨rfl, rfl⟩, rfl, rfl⟩ := e
  unfold law02_GramAgain.b9
  refine law02_GramAgain.l11_intro _ _ _ _ _ (fun y w' => ∃ k : Nat, y = .int .i64 k ∧ k ≤ g.prods.length ∧ St noB W w' [boxC q 36 (gZ g A1 c1 A2 c2 A3 c3 A4 c4), bldC b (SD g k)]) (fun y _ => g.prods.length - iv y) ⟨0, rfl, by omega, h⟩ ?_
  rintro _ w1 ⟨k, rfl, hk, s1⟩ C hC
  have k1 := s1.box 0 rfl
  simp [boxAt, gZ] at k1
  simp -dsimp [go_sem, k1]
  refine SPL_intro (fun p1 => ?_) (fun p1 => ?_) <;> simp at p1
  · have wk : IntKind.i64.wrap ((k : Int) + 1) = (k : Int) + 1 := IntWalk.i64_in _ (by omega)
    have hpe := v.prods.each g.prods[k] (by rw [List.drop_zero]; exact List.getElem_mem p1)
    obtain ⟨b2, o2, vr, rfl, hb2, y1, y2, y3, xr, i1, i2⟩ := prods_at g5 p1
    have x1 := s1.chg.at y1 id
    have x2 := s1.chg.at y2 id
    have x3 := s1.chg.at y3 id
    clear y1 y2 y3
    obtain ⟨Ar, cr, rfl, lr, mr, _⟩ := slice_form xr
    have hrg := rule_g v p1
    generalize hp : g.prods[k] = p at x1 x2 x3 xr i1 i2 lr hpe hrg
    have s2 := s1.alloc #[.int .i64 p.1, .slice Ar p.2.1.length cr, .int .i64 p.2.2] 59
    have hB1 : B ≤ w1.heap.size := by have := s1.chg.size; omega
    simp -dsimp [go_sem, k1, p1, x1, x2, x3]
    generalize w1.heap.size = pb at s2 ⊢
    generalize w1.alloc (.cells #[.int .i64 p.1, .slice Ar p.2.1.length cr, .int .i64 p.2.2] 59) = w2 at s2 ⊢
    have n0 := s2.nilRow 3 1
    refine law02_GramAgain.l22_intro _ _ _ _ _ _ _ _ _ (fun x y w' => ∃ (j : Nat) (A : Option Addr) (c : Nat), y = .int .i64 j ∧ x = .slice A j c ∧ j ≤ p.2.1.length ∧
      St noB W w' [boxC q 36 (gZ g A1 c1 A2 c2 A3 c3 (some ⟨b2, o2, none⟩) c4), bldC b (SD g k), boxC pb 59 [.int .i64 p.1, .slice Ar p.2.1.length cr, .int .i64 p.2.2], rowC 3 1 A j c (((p.2.1.take j).map (hdl g)).map (Value.int .i64 ·))]) (fun _ y _ => p.2.1.length - iv y)
      ⟨0, none, 0, rfl, rfl, by omega, by simpa using n0⟩ ?_
    rintro _ _ w3 ⟨j, A, c, rfl, rfl, hj, s3⟩ C' hC'
    have k3 := s3.box 2 rfl
    simp [boxAt] at k3
    simp -dsimp [go_sem, k3]
    refine SPL_intro (fun p2 => ?_) (fun p2 => ?_) <;> simp at p2
    · have s3d := s3.old ((Chg.refl noB w3).drew)
      have k3d := s3d.box 0 rfl
      have y3d := s3d.box 2 rfl
      simp [boxAt, gZ] at k3d y3d
      obtain ⟨b4, o4, rfl, hb4, z1, z2⟩ := Go.Px.ints_at (Rep.below xr (s3d.chg.below hB fun _ _ => id)) p2
      have wj := wrap_succ p2 (Nat.le_trans lr mr)
      have hright := hpe.right _ (List.getElem_mem p2)
      simp -dsimp [go_sem, k3d, y3d, p2, z1]
      refine CALL_of (handle_ct (rGram_below hg (s3d.chg.below hB fun _ _ => id)) (by have := s3d.chg.size; omega) (by omega) (s := p.2.1[j]) (by omega) (by omega)) ?_
      rintro _ w4 ⟨rfl, hc4⟩
      have s4 := s3d.old hc4
      have hh : inI64 (hdl g p.2.1[j]) := by
        rcases hdl_range v hright.1 hright.2.1 with ⟨e, h3⟩ | ⟨h3, h4, _⟩
        · rw [e]; unfold inI64; omega
        · unfold inI64; omega
      have hpf := hfit p (by rw [← hp]; exact List.getElem_mem p1)
      have htk : p.2.1.take (j + 1) = p.2.1.take j ++ [p.2.1[j]] := List.take_succ_eq_append_getElem p2
      simp -dsimp [go_sem]
      refine s4.append1 3 rfl uInts iInt rfl (by omega) (news := [.int .i64 (hdl g p.2.1[j])]) rfl (by simp [Value.oneCell']) (by omega) (by omega) ?_
      intro g' cap w5 s5
      simp -dsimp [go_sem, wj]
      have em : ((p.2.1.take j).map (hdl g)).map (Value.int .i64 ·) ++ [.int .i64 (hdl g p.2.1[j])] = ((p.2.1.take (j + 1)).map (hdl g)).map (Value.int .i64 ·) := by rw [htk, List.map_append, List.map_append]; rfl
      rw [em] at s5
      exact hC' _ _ _ ⟨j + 1, _, _, by simp, rfl, by omega, s5⟩ (by simp [iv]; omega)
    · have hja : j = p.2.1.length := by omega
      subst hja
      rw [List.take_length] at s3
      have hl0 := hpe.l0
      have hl1 := hpe.l1
      have k3' := s3.box 0 rfl
      simp [boxAt, gZ] at k3'
      simp -dsimp [go_sem, k3, k3']
      refine CALL_of (handle_ct (rGram_below hg (s3.chg.below hB fun _ _ => id)) (by have := s3.chg.size; omega) (by omega) (s := p.1) (by omega) (by omega)) ?_
      rintro _ w4 ⟨rfl, hc4⟩
      have s4 := s3.old hc4
      have k4 := s4.box 2 rfl
      simp [boxAt] at k4
      have hright : ∀ x ∈ p.2.1.map (hdl g), inI64 x := fun x hx => by
        obtain ⟨s, hs, rfl⟩ := List.mem_map.1 hx
        have hr := hpe.right s hs
        rcases hdl_range v hr.1 hr.2.1 with ⟨e, h3⟩ | ⟨h3, h4, _⟩
        · rw [e]; unfold inI64; omega
        · unfold inI64; omega
      have hh : inI64 (hdl g p.1) := by
        have : hdl g p.1 = -(p.1 - g.terms.length + 1) := if_neg (by omega)
        rw [this]; unfold inI64; omega
      have hpf := hfit p (by rw [← hp]; exact List.getElem_mem p1)
      refine CALL_Rule s4 1 rfl hh (ints_own s4 3 rfl hright) (by rw [List.length_map]; exact hpf) fun w5 s5 => ?_
      rw [hrg.1, hrg.2.1]
      have k5 := s5.box 2 rfl
      simp [boxAt] at k5
      have s6 := s5.lit 3 1 1 #[.int .i64 k] (by simp [maxLen]) rfl
      simp -dsimp [go_sem, k5]
      generalize w5.heap.size = n5 at s6 ⊢
      generalize w5.alloc (.cells #[.int .i64 k] 3) = w6 at s6 ⊢
      refine CALL_Grade s6 1 rfl i2 (Apart.row (j := 4) (l := [(k : Int)]) rfl (by omega) fun x hx => ?_) fun w7 s7 => ?_
      · rw [List.mem_singleton.1 hx]; unfold inI64; omega
      · rw [hrg.2.2] at s7 ⊢
        simp -dsimp [go_sem, wk]
        exact hC _ _ ⟨k + 1, by simp, by omega, s7.take 2⟩ (by simp [iv]; omega)
  · have hka : k = g.prods.length := by omega
    subst hka
    exact again_end v hg hB s1 hR
end
end Go.Proofs.Ytmhebgebfjnfjaa

/-
  The law GramAgain, whole.
-/
namespace Go.Px.Scan
open Go.Px
theorem rGram_fit {g : Gr} (h : rGram.fit g) : ∀ p ∈ g.prods, p.2.1.length * 8 ≤ maxBytes := by
  intro p hp
  have h1 : (rSlice rPr).fit g.prods := h.2.2.2.2
  have h2 : rPr.fit p := h1.2 p hp
  have h3 : (rSlice rInt).fit p.2.1 := h2.2.1
  have h4 : p.2.1.length * 8 ≤ reachN := h3.1
  unfold reachN at h4
  unfold maxBytes
  omega
end Go.Px.Scan
namespace Go.Proofs.Ytmhebgebfjnfjaa
open Go.Px Go.Px.Scan Go.RowKit
set_option maxHeartbeats 1000000
set_option linter.unusedSimpArgs false
set_option linter.unusedSectionVars false
set_option linter.unusedVariables false
set_option maxRecDepth 100000
attribute [-go_sem] Builtin.append_
attribute [-go_sem] law02_GramAgain.b33 law02_GramAgain.b24 law02_GramAgain.b6 law02_GramAgain.b9 law02_GramAgain.b8 law02_GramAgain.b3

section
variable {R : Ending → World → Prop} {W : World} {B q b : Nat} {g : Gr} {A1 : Option Addr} {c1 : Nat} {A2 : Option Addr} {c2 : Nat} {A3 : Option Addr} {c3 : Nat} {A4 : Option Addr} {c4 : Nat}
variable (v : ValidP g) (hfit : ∀ p ∈ g.prods, p.2.1.length * 8 ≤ maxBytes) (hg : rGram.atN W B (.agg #[.slice A1 g.terms.length c1, .slice A2 g.nons.length c2, .slice A3 g.levels.length c3, .int .i64 g.start, .slice A4 g.prods.length c4]) g) (hB : B ≤ W.heap.size)
include v hfit hg hB

theorem again_nons {w : World} (h : St noB W w [boxC q 36 (gZ g A1 c1 A2 c2 A3 c3 A4 c4), bldC b (SB g 0)]) (hR : ∀ w', Chg noB W w' → R (.returned (.bool true)) w') :
    law02_GramAgain.b24 R (.pointer (some ⟨q, 0, none⟩)) (.pointer (some ⟨b, 0, none⟩)) w := by
  have ht1 := v.syms.t1
  have hn1 := v.syms.n1
  obtain ⟨_, _, _, _, _, _, _, _, e, g1, g2, g3, g4, g5, _⟩ := (rGram_open hg).ex
  injection e with e
  simp only [Array.mk.injEq, List.cons.injEq, Value.slice.injEq, true_and, and_true] at e
  obtain ⟨⟨rfl, rfl⟩, ⟨rfl, rfl⟩, ⟨rfl, rfl⟩, rfl, rfl⟩ := e
  unfold law02_GramAgain.b24
  refine law02_GramAgain.l26_intro _ _ _ _ _ (fun y w' => ∃ k : Nat, y = .int .i64 k ∧ k ≤ g.nons.length ∧ St noB W w' [boxC q 36 (gZ g A1 c1 A2 c2 A3 c3 A4 c4), bldC b (SB g k)]) (fun y _ => g.nons.length - iv y) ⟨0, rfl, by omega, h⟩ ?_
  rintro _ w1 ⟨k, rfl, hk, s1⟩ C hC
  have k1 := s1.box 0 rfl
  simp [boxAt, gZ] at k1
  simp -dsimp [go_sem, k1]
  refine SPL_intro (fun p1 => ?_) (fun p1 => ?_) <;> simp at p1
  · have wk : IntKind.i64.wrap ((k : Int) + 1) = (k : Int) + 1 := IntWalk.i64_in _ (by omega)
    have wm : IntKind.i64.wrap (-1 - (k : Int)) = -((k : Int) + 1) := by rw [show -1 - (k : Int) = -((k : Int) + 1) by omega]; exact IntWalk.i64_in _ (by omega)
    obtain ⟨b2, o2, rfl, hb2, x1, x2⟩ := Go.Px.strs_at (Rep.below g2 (s1.chg.below hB fun _ _ => id)) p1
    simp -dsimp [go_sem, k1, p1, x1]
    refine CALL_Non s1 1 rfl x2 fun w2 s2 => ?_
    rw [nonA_g v p1] at s2 ⊢
    simp -dsimp [go_sem, wm, wk]
    exact hC _ _ ⟨k + 1, by simp, by omega, s2⟩ (by simp [iv]; omega)
  · have hka : k = g.nons.length := by omega
    subst hka
    rw [SC_zero v] at s1
    unfold law02_GramAgain.b6
    simp -dsimp [go_sem, k1]
    refine levels_call v hg hB s1 fun w2 s2 => ?_
    simp -dsimp [go_sem]
    rw [SC_SD v] at s2
    exact again_prods v hfit hg hB s2 hR

theorem again_terms {w : World} (h : St noB W w [boxC q 36 (gZ g A1 c1 A2 c2 A3 c3 A4 c4), bldC b (SA g 0)]) (hR : ∀ w', Chg noB W w' → R (.returned (.bool true)) w') :
    law02_GramAgain.b33 R (.pointer (some ⟨q, 0, none⟩)) (.pointer (some ⟨b, 0, none⟩)) w := by
  have ht1 := v.syms.t1
  have hn1 := v.syms.n1
  have hlt := terms_len v
  obtain ⟨_, _, _, _, _, _, _, _, e, g1, g2, g3, g4, g5, _⟩ := (rGram_open hg).ex
  injection e with e
  simp only [Array.mk.injEq, List.cons.injEq, Value.slice.injEq, true_and, and_true] at e
  obtain ⟨⟨rfl, rfl⟩, ⟨rfl, rfl⟩, ⟨rfl, rfl⟩, rfl, rfl⟩ := e
  unfold law02_GramAgain.b33
  refine law02_GramAgain.l35_intro _ _ _ _ _ (fun y w' => ∃ t k : Nat, y = .int .i64 t ∧ t = k + 1 ∧ k ≤ g.terms.tail.length ∧ St noB W w' [boxC q 36 (gZ g A1 c1 A2 c2 A3 c3 A4 c4), bldC b (SA g k)]) (fun y _ => g.terms.length + 1 - iv y) ⟨1, 0, rfl, rfl, by omega, h⟩ ?_
  rintro _ w1 ⟨t, k, rfl, ht, hk, s1⟩ C hC
  have k1 := s1.box 0 rfl
  simp [boxAt, gZ] at k1
  simp -dsimp [go_sem, k1]
  refine SPL_intro (fun p1 => ?_) (fun p1 => ?_) <;> simp at p1
  · have hk1 : k < g.terms.tail.length := by omega
    have wt : IntKind.i64.wrap ((t : Int) + 1) = (t : Int) + 1 := IntWalk.i64_in _ (by omega)
    obtain ⟨b2, o2, rfl, hb2, x1, _, x2, _⟩ := terms_at (Rep.below g1 (s1.chg.below hB fun _ _ => id)) p1
    have het : g.terms[t] = g.terms.tail[k] := by subst ht; simp
    rw [het] at x1 x2
    generalize hnm : g.terms.tail[k].1 = nmk at x1 x2
    simp -dsimp [go_sem, k1, p1, x1]
    refine CALL_Term s1 1 rfl x2 fun w2 s2 => ?_
    rw [← hnm, termA_g v hk1, ← ht] at s2
    rw [← hnm, termA_g v hk1, ← ht]
    simp -dsimp [go_sem, wt]
    exact hC _ _ ⟨t + 1, k + 1, by simp, by omega, by omega, by rw [ht] at s2; exact s2⟩ (by simp [iv]; omega)
  · have hka : k = g.terms.tail.length := by omega
    subst hka
    rw [SA_SB] at s1
    exact again_nons v hfit hg hB s1 hR
end

theorem GramAgain_ct {w : World} {B : Nat} {vg : Value} {g : Gr} (hg : rGram.atN w B vg g) (hB : B ≤ w.heap.size) (hfit : rGram.fit g) :
    Ct Try.prog law02_GramAgain.id #[vg] w fun r w' => r = .bool true ∧ Chg noB w w' := by
  obtain ⟨A1, c1, A2, c2, A3, c3, A4, c4, rfl, _⟩ := (rGram_open hg).ex
  refine law02_GramAgain.ct fun R hR => ?_
  unfold law02_GramAgain.run
  have s1 := (St.refl noB w).alloc #[.slice A1 g.terms.length c1, .slice A2 g.nons.length c2, .slice A3 g.levels.length c3, .int .i64 g.start, .slice A4 g.prods.length c4] 36
  simp -dsimp [go_sem]
  generalize w.heap.size = q at s1 ⊢
  generalize w.alloc (.cells #[.slice A1 g.terms.length c1, .slice A2 g.nons.length c2, .slice A3 g.levels.length c3, .int .i64 g.start, .slice A4 g.prods.length c4] 36) = w1 at s1 ⊢
  refine CALL_of (awake_ct w1) ?_
  rintro _ w2 ⟨rfl, hc2⟩
  have s2 := s1.old hc2
  have k2 := s2.box 0 rfl
  simp [boxAt] at k2
  simp -dsimp [go_sem, k2]
  refine CALL_of (refValid_ct (rGram_below hg (s2.chg.below hB fun _ _ => id)) (by have := s2.chg.size; omega)) ?_
  rintro _ w3 ⟨rfl, hc3⟩
  have s3 := s2.old hc3
  cases hv : validB g with
  | false =>
    simp -dsimp [go_sem]
    exact hR _ _ ⟨rfl, s3.chg⟩
  | true =>
    simp -dsimp [go_sem]
    unfold law02_GramAgain.b3
    refine CALL_New s3 fun w4 b s4 => ?_
    refine again_terms (validB_iff.1 hv) (rGram_fit hfit) hg hB (w := w4) (q := q) (b := b) ?_ fun w' hc => hR _ _ ⟨rfl, hc⟩
    rw [SA_zero]
    exact s4
end Go.Proofs.Ytmhebgebfjnfjaa

