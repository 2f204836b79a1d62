/-
  A builder's rules.
-/
import Derived.Test.YtmhebgebfjnfjaaGm8
namespace Go.Proofs.Ytmhebgebfjnfjaa
open Go.Px Go.Px.Scan Go.RowKit
set_option maxHeartbeats 1000000
set_option linter.unusedSimpArgs false
set_option linter.unusedVariables false
attribute [-go_sem] Builtin.append_

/-- A symbol that a rule can't have. -/
def badH (S : BS) (h : Int) : Bool := !isT S h && !isN S h
/-- A terminal's level. -/
def gradeOf (S : BS) (h : Int) : Int := ((S.terms[(h - 1).toNat]?).map (·.2)).getD 0
def ruleL (S : BS) (right : List Int) : Int := right.foldl (fun a h => if 0 < h then gradeOf S h else a) 0

/-- What Rule answers, and leaves. -/
def ruleA (S : BS) (left : Int) (right : List Int) : Int × Int × BS :=
  if isN S left = false ∨ right.any (badH S) = true then (0, 1, S)
  else if 96 ≤ S.rules.length then (0, 11, S)
  else (S.rules.length, 0, { S with rules := S.rules ++ [(left, right, ruleL S right)] })

theorem Rule1_ct {w : World} {T : Nat → Nat} {b p : Nat} {V : BV} {S : BS} (h : Bld w T b V S) (hp : w.cell? ⟨p, 0, none⟩ = some (.pointer (some ⟨b, 0, none⟩))) {x : Int} (hx : inI64 x) :
    Ct Try.prog gram_Builder_Rule_1.id #[.int .i64 x, .pointer (some ⟨p, 0, none⟩)] w fun v w' => v = .bool (badH S x) ∧ w = w' := by
  refine gram_Builder_Rule_1.ct fun R hR => ?_
  unfold gram_Builder_Rule_1.run gram_Builder_Rule_1.b1
  simp [go_sem, hp]
  refine CALL_of (isTermHandle_ct h hx) ?_
  rintro _ _ ⟨rfl, rfl⟩
  simp [go_sem]
  cases ht : isT S x with
  | true =>
    simp [go_sem]
    exact hR _ _ ⟨by unfold badH; rw [ht]; rfl, rfl⟩
  | false =>
    simp [go_sem, hp]
    refine CALL_of (isNonHandle_ct h hx) ?_
    rintro _ _ ⟨rfl, rfl⟩
    simp [go_sem]
    exact hR _ _ ⟨by unfold badH; rw [ht]; rfl, rfl⟩

theorem info_rule : (Try.prog.info? 86).map (fun i => (i.zero, i.size, i.bytes)) = some (some (.agg #[.int .i64 0, .slice none 0 0, .int .i64 0]), 3, 40) := by kernel_rfl

set_option maxRecDepth 100000 in
theorem rule5_ok {R : Ending → World → Prop} {w w0 : World} {T : Nat → Nat} {b p q : Nat} {V : BV} {S : BS} (h : Bld w T b V S) (hp : w.cell? ⟨p, 0, none⟩ = some (.pointer (some ⟨b, 0, none⟩))) (hTp : T p = 0)
    {left lev : Int} {right : List Int} {vr : Value} (hl : S.rules.length < 96) (hc0 : Chg (fun _ => False) w0 w) (hw0 : ∀ i, T i ≠ 0 → i < w0.heap.size)
    (k0 : w.cell? ⟨q, 0, none⟩ = some (.int .i64 left)) (k1 : w.cell? ⟨q, 1, none⟩ = some vr) (k2 : w.cell? ⟨q, 2, none⟩ = some (.int .i64 lev)) (hTq : T q = 0)
    (hr : w.ownsRow w0.heap.size 3 1 vr right.length (right.map (.int .i64 ·))) (hri : ∀ x ∈ right, inI64 x)
    (hR : ∀ w', After w0 T b { S with rules := S.rules ++ [(left, right, lev)] } w' → R (.returned (.tuple #[.int .i64 S.rules.length, .int .i64 0])) w') : gram_Builder_Rule.b5 R (.pointer (some ⟨p, 0, none⟩)) (.pointer (some ⟨q, 0, none⟩)) w := by
  have hcr := h.cr
  obtain ⟨a, c, hv⟩ := row_len h.rules
  rw [hv] at hcr
  obtain ⟨i0, hi, hz0, hz1, hz2⟩ := info_parts info_rule
  have hbw : b < w.heap.size := h.lt b (by rw [h.tag]; omega)
  have hpw : p < w.heap.size := World.block_lt_of_cell? _ _ hp
  have hpb : p ≠ b := fun e => by rw [e, h.tag] at hTp; omega
  have hc2 : Chg (fun _ => False) w (w.alloc (.cells #[.int .i64 left, vr, .int .i64 lev] 86)) := (Chg.refl _ _).alloc _
  have hcr1 := hc2.at hcr id
  have hp1 := hc2.at hp id
  unfold gram_Builder_Rule.b5
  simp [go_sem, hp, hcr, k0, k1, k2, hp1, hcr1]
  have hc2' : Chg (fun _ => False) w (w.alloc (.cells #[.int .i64 left, vr, .int .i64 lev] 86)).drew := hc2.drew
  have hn : ∀ j u, ([.int .i64 left, vr, .int .i64 lev] : List Value)[j]? = some u → (w.alloc (.cells #[.int .i64 left, vr, .int .i64 lev] 86)).drew.cell? ((⟨w.heap.size, 0, none⟩ : Addr).add j) = some u := by
    intro j u hj
    have := alloc_cells w [.int .i64 left, vr, .int .i64 lev] 86 rfl j u hj
    simpa using this
  have hs2 : (w.alloc (.cells #[.int .i64 left, vr, .int .i64 lev] 86)).drew.heap.size = w.heap.size + 1 := by simp
  generalize (w.alloc (.cells #[.int .i64 left, vr, .int .i64 lev] 86)).drew = w2 at hc2' hn hs2 ⊢
  have h2 := h.keep hc2' (fun _ _ => id)
  have hp2 := hc2'.at hp id
  have hr2 := ownsRow_keep hr hc2' (fun _ _ => id)
  have hrow := h2.rules.1
  rw [hv] at hrow
  have hv1 : vr.oneCell' = true := by
    obtain ⟨a', c', e⟩ := own_shape hr
    rw [e]; rfl
  refine append_own 46 46 86 Try.underlying46 hi hz0 hz1 hz2 rfl (by omega) hrow rfl hn ?_ (by unfold maxLen; omega) (by unfold maxBytes; omega) (Nat.zero_le _) ?_
  · intro u hu
    simp at hu
    rcases hu with rfl | rfl | rfl
    · rfl
    · exact hv1
    · rfl
  intro g c3 w3 ho3 hg3 hgb
  have hgt : (Value.slice a S.rules.length c).ownBlock = some g → T g = 8 := fun e => h2.rules.2 g (by rw [hv]; exact e)
  have hc3 : Chg (fun i => T i = 8) w2 w3 := grown_chg hg3 fun k hk => h2.rules.2 k (by rw [hv]; exact hk)
  have hs3 := hc3.size
  have htb : T b ≠ 8 := by rw [h.tag]; omega
  have htp : T p ≠ 8 := by rw [hTp]; omega
  have hgb' : g ≠ b := by
    rcases hgb with hgb | hgb
    · intro e; exact htb (by rw [← e]; exact hgt hgb)
    · omega
  have hb2 : b < w2.heap.size := by omega
  have k6 := hc3.at h2.cr htb
  have kf6 := (hc3.frozen (p := ⟨b, 6, none⟩) hb2 htb).trans (h2.fz 6 (by omega))
  have hp3 := hc3.at hp2 htp
  have hp4 : (w3.setCell ⟨b, 6, none⟩ (.slice (some ⟨g, 0, none⟩) (S.rules.length + 1) c3)).cell? ⟨p, 0, none⟩ = some (.pointer (some ⟨b, 0, none⟩)) := (World.cell?_setCell_other _ _ _ _ (by simp [hpb])).trans hp3
  have kc6 : (w3.setCell ⟨b, 6, none⟩ (.slice (some ⟨g, 0, none⟩) (S.rules.length + 1) c3)).cell? ⟨b, 6, none⟩ = some (.slice (some ⟨g, 0, none⟩) (S.rules.length + 1) c3) := World.cell?_setCell_same _ _ _ k6
  have hF6 : Fr b (fun j => j = 6) (fun i => T i = 8) w2 (w3.setCell ⟨b, 6, none⟩ (.slice (some ⟨g, 0, none⟩) (S.rules.length + 1) c3)) :=
    (Fr.of hc3 hb2 htb (fun i _ h => h)).trans (Fr.one _ _ _ _ _)
  have hc4 : Chg (· = b) w3 (w3.setCell ⟨b, 6, none⟩ (.slice (some ⟨g, 0, none⟩) (S.rules.length + 1) c3)) := (Chg.refl (· = b) w3).setCell (p := ⟨b, 6, none⟩) (Or.inl rfl) _
  have ho4 := ownsRow_keep ho3 hc4 (fun i hi he => by injection hi with hi; exact hgb' (hi.trans he))
  have wsub : IntKind.i64.wrap (S.rules.length : Int) = S.rules.length := IntWalk.i64_in _ (by omega)
  simp [go_sem, k6, kf6, hp3, hp4, kc6, wsub]
  have hs4 : (w3.setCell ⟨b, 6, none⟩ (.slice (some ⟨g, 0, none⟩) (S.rules.length + 1) c3)).heap.size = w3.heap.size := by simp
  have hg4 := (ownsRow_block ho4 (k := g) rfl).2
  have hb4 : (w3.setCell ⟨b, 6, none⟩ (.slice (some ⟨g, 0, none⟩) (S.rules.length + 1) c3)).frozen? = w3.frozen? := by funext x; exact World.frozen?_setCell _ _ _ _
  generalize w3.setCell ⟨b, 6, none⟩ (.slice (some ⟨g, 0, none⟩) (S.rules.length + 1) c3) = w4 at hF6 kc6 hs4 ho4 hg4 ⊢
  have hw0w := hc0.size
  have hvr : ∀ i, vr.ownBlock = some i → w0.heap.size ≤ i ∧ i < w.heap.size := fun i e => ownsRow_block hr e
  have hT0 : ∀ i, T i ≠ 0 → (if vr.ownBlock = some i then 9 else T i) = T i := fun i hi => by
    have := hw0 i hi
    have hnv : vr.ownBlock ≠ some i := fun e => by have := (hvr i e).1; omega
    rw [if_neg hnv]
  have h2' : Bld w2 (fun i => if vr.ownBlock = some i then 9 else T i) b V S := h2.retag hT0 fun i hi => by
    by_cases e : vr.ownBlock = some i
    · have := (hvr i e).2; omega
    · rw [if_neg e] at hi; exact h2.lt i hi
  generalize hTa : (fun i => if vr.ownBlock = some i then 9 else T i) = Ta at h2'
  have hTai : ∀ i, Ta i = if vr.ownBlock = some i then 9 else T i := fun i => by rw [← hTa]
  have hT8 : ∀ i, Ta i = 8 ↔ T i = 8 := fun i => by
    rw [hTai]
    by_cases e : vr.ownBlock = some i
    · rw [if_pos e]
      have : T i = 0 := Classical.byContradiction fun h0 => by have := hw0 i h0; have := (hvr i e).1; omega
      omega
    · rw [if_neg e]
  have hF6' : Fr b (fun j => j = 6) (fun i => Ta i = 8) w2 w4 := hF6.mono (fun _ h => h) fun i h => (hT8 i).2 h
  have hg8 : g < w2.heap.size → Ta g = 8 := fun hg => by
    rcases hgb with hgb | hgb
    · exact (hT8 g).2 (hgt hgb)
    · omega
  have hT1 : ∀ i, i < w2.heap.size → (fun i => if i = g then 8 else Ta i) i = Ta i := by
    intro i hi
    by_cases e : i = g
    · subst e; simp [hg8 hi]
    · simp [e]
  generalize hT1d : (fun i => if i = g then 8 else Ta i) = T1 at hT1
  have hT1g : ∀ i, T1 i = if i = g then 8 else Ta i := fun i => by rw [← hT1d]
  have hab : Ta b = 1 := h2'.tag
  have ne : ∀ k, k ≠ 1 → k ≠ 8 → ∀ i, Ta i = k → ¬ (i = b ∨ Ta i = 8) := fun k h1' h6 i hi he => by
    rcases he with he | he
    · rw [he, hab] at hi; omega
    · omega
  have hvg : vr.ownBlock ≠ some g := fun e => by
    have h9 : Ta g = 9 := by rw [hTai, if_pos e]
    rcases hgb with hgb | hgb
    · have := (hT8 g).2 (hgt hgb); omega
    · have := (hvr g e).2; omega
  refine hR _ ⟨⟨T1, { V with vr := .slice (some ⟨g, 0, none⟩) (S.rules.length + 1) c3, rs := V.rs ++ [vr] }, ⟨?_, ?_, ?_, ?_, ?_, ?_, kc6, ?_, ?_, ?_, ?_, ?_, ?_, ?_, ?_⟩, ?_⟩, ?_⟩
  · rw [hT1 b hb2]; exact hab
  · intro i hi
    by_cases e : i = g
    · rw [e]; exact hg4
    · rw [hT1g, if_neg e] at hi
      have := h2'.lt i hi
      omega
  · exact h2'.terms.fr hF6' (by omega) (by omega) (ne 2 (by omega) (by omega)) (ne 3 (by omega) (by omega)) hT1
  · exact h2'.nons.fr hF6' (by omega) (by omega) (ne 4 (by omega) (by omega)) (ne 5 (by omega) (by omega)) hT1
  · exact (hF6'.cell 4 (by omega)).trans h2'.cg
  · exact (hF6'.cell 5 (by omega)).trans h2'.cl
  · exact (hF6'.cell 7 (by omega)).trans h2'.cs
  · exact fun j hj => (hF6'.frz j).trans (h2'.fz j hj)
  · exact h2'.graded.keep hF6'.chg (ne 6 (by omega) (by omega)) hT1
  · exact h2'.levels.keep hF6'.chg (ne 7 (by omega) (by omega)) hT1
  · refine ⟨?_, fun i hi => by injection hi with hi; rw [hT1g, if_pos hi.symm]⟩
    rw [List.length_append]
    have e : ((S.rules ++ [(left, right, lev)]).zip (V.rs ++ [vr])).flatMap (fun x => ruleC x.1 x.2) = ((S.rules.zip V.rs).flatMap fun x => ruleC x.1 x.2) ++ [.int .i64 left, vr, .int .i64 lev] := by
      rw [List.zip_append h.rlen.symm, List.flatMap_append]
      simp [ruleC]
    rw [e]
    exact ho4
  · simp [h.rlen]
  · intro i r v hr' hv'
    by_cases hi : i < S.rules.length
    · rw [List.getElem?_append_left hi] at hr'
      rw [List.getElem?_append_left (by rw [h.rlen]; exact hi)] at hv'
      exact (h2'.rights i r v hr' hv').keep hF6'.chg (ne 9 (by omega) (by omega)) hT1
    · have hi' : i = S.rules.length := by
        have := (List.getElem?_eq_some_iff.1 hr').1
        simp at this
        omega
      subst hi'
      simp at hr'
      rw [← h.rlen] at hv'
      simp at hv'
      subst hr'
      subst hv'
      have hro : w2.ownsRow w0.heap.size 3 rInt.size vr right.length (right.flatMap fun x => [Value.int .i64 x]) := by rw [ints_flat]; exact hr2
      refine RightAt.keep (T := Ta) ⟨slice_of_own hro (fun _ _ => rfl) ?_ (Nat.le_refl _), fun _ i hi => by rw [hTai, if_pos hi]⟩ hF6'.chg (ne 9 (by omega) (by omega)) hT1
      intro x hx
      exact ⟨rfl, hri x hx⟩
  · refine ⟨h.ok.syms, h.ok.tnam, h.ok.nnam, h.ok.tnd, h.ok.nnd, h.ok.lev, h.ok.grd, ?_⟩
    simp; omega
  · intro i hi
    rw [hT1 i (by omega), hTai]
    refine if_neg fun e => ?_
    have := (hvr i e).1; omega
  · refine (((hc0.trans hc2').mono fun _ _ h => h.elim).trans' hF6.chg fun i hi he => ?_)
    rcases he with he | he
    · rw [he, h.tag]; omega
    · omega
end Go.Proofs.Ytmhebgebfjnfjaa
