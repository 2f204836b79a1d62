/-
  A builder's Grammar: the walk.
-/
import Derived.Test.YtmhebgebfjnfjaaGb1
namespace Go.Proofs.Ytmhebgebfjnfjaa
open Go.Px Go.Px.Scan Go.RowKit
set_option maxHeartbeats 1000000
set_option linter.unusedSimpArgs false
set_option linter.unusedVariables false
set_option maxRecDepth 100000
attribute [-go_sem] Builtin.append_
attribute [-go_sem] gram_Builder_Grammar.b5 gram_Builder_Grammar.b7 gram_Builder_Grammar.b11 gram_Builder_Grammar.b9 gram_Builder_Grammar.b10 gram_Builder_Grammar.b20 gram_Builder_Grammar.b29

def zG : List Value := [.slice none 0 0, .slice none 0 0, .slice none 0 0, .int .i64 0, .slice none 0 0]

/-- What Grammar answers. -/
def GrAns (S : BS) (w : World) (v : Value) (w' : World) : Prop :=
  Chg noB w w' ∧ (toldB S = true → ∃ vg, v = .tuple #[vg, .int .i64 0] ∧ GrNew w w' vg (gramOf S)) ∧ (toldB S = false → v = .tuple #[.agg zG.toArray, .int .i64 1])

/-- The grammar's box under way, behind the terminals: rows of nonterminals and productions. -/
def boxG (x4 : Nat) (At : Option Addr) (nt ct : Nat) (An : Option Addr) (nn cn : Nat) (Al : Option Addr) (nl cl : Nat) (Ap : Option Addr) (np cp : Nat) : Ch :=
  boxC x4 36 [.slice At nt ct, .slice An nn cn, .slice Al nl cl, .int .i64 0, .slice Ap np cp]

section
variable {R : Ending → World → Prop} {w : World} {b q x4 : Nat} {S : BS} {a0 : Option Addr} {c0 : Nat} {a2 : Option Addr} {c2 : Nat} {a4 : Option Addr} {c4 : Nat} {a5 : Option Addr} {c5 : Nat} {a6 : Option Addr} {c6 : Nat} {rs : List Value} (hr : ∀ w', Chg noB w w' → BRead w' b S a0 c0 a2 c2 a4 c4 a5 c5 a6 c6 rs) (ok : BSok S) (hwf : BSwf S)
  {al : Option Addr} {cl : Nat}
include hr ok

theorem texts_ok {w4 : World} {q2 : Nat} (h4 : St noB w w4 [boxC q 36 zG, rowC 56 2 (some ⟨q2, 0, none⟩) 1 1 [.string ⟨#[]⟩, .int .i64 0], rowC 3 1 al S.levels.length cl (S.levels.map (.int .i64 ·)), boxG x4 (some ⟨q2, 0, none⟩) 1 1 none 0 0 al S.levels.length cl none 0 0])
    (hK : ∀ At ct w', St noB w w' [boxC q 36 zG, rowC 56 2 At (S.terms.length + 1) ct ((gramOf S).terms.flatMap termE), rowC 3 1 al S.levels.length cl (S.levels.map (.int .i64 ·)), boxG x4 At (S.terms.length + 1) ct none 0 0 al S.levels.length cl none 0 0] →
      gram_Builder_Grammar.b5 R (.pointer (some ⟨b, 0, none⟩)) (.pointer (some ⟨q, 0, none⟩)) (.pointer (some ⟨x4, 0, none⟩)) w') :
    gram_Builder_Grammar.l37 R (.pointer (some ⟨b, 0, none⟩)) (.pointer (some ⟨q, 0, none⟩)) (.pointer (some ⟨x4, 0, none⟩)) (.slice a0 S.terms.length c0) (.int .i64 S.terms.length) (.int .i64 0) w4 := by
  have hsy := ok.syms
  refine gram_Builder_Grammar.l37_intro _ _ _ _ _ _ _ _ (fun y w' => ∃ (k : Nat) (At : Option Addr) (ct : Nat), y = .int .i64 k ∧ k ≤ S.terms.length ∧
    St noB w w' [boxC q 36 zG, rowC 56 2 At (k + 1) ct ([.string ⟨#[]⟩, .int .i64 0] ++ (S.terms.take k).flatMap termE), rowC 3 1 al S.levels.length cl (S.levels.map (.int .i64 ·)), boxG x4 At (k + 1) ct none 0 0 al S.levels.length cl none 0 0]) (fun y _ => S.terms.length - iv y) ⟨0, _, _, rfl, by omega, by simpa using h4⟩ ?_
  rintro _ w5 ⟨k, At, ct, rfl, hk, hst⟩ C hC
  simp -dsimp [go_sem]
  refine SPL_intro (fun p1 => ?_) (fun p1 => ?_) <;> simp at p1
  · have hst2 := hst.old ((Chg.refl noB w5).drew)
    have z := hr _ hst2.chg
    have y := hst2.box 3 rfl
    simp [boxAt] at y
    obtain ⟨g0, e0, d0, _⟩ := row_at (w := w5) (F := fun _ => True) (e := 9) (size := 1) (a := a0) (n := S.terms.length) (c := c0) ⟨(hr _ hst.chg).texts, fun _ _ => trivial⟩ (j := k) (by simpa using p1)
    obtain ⟨g1, e1, d1, _⟩ := row_at (w := w5.drew) (F := fun _ => True) (e := 3) (size := 1) (a := a4) (n := S.terms.length) (c := c4) ⟨z.graded, fun _ _ => trivial⟩ (j := k) (by simpa using p1)
    subst e0 e1
    simp only [List.getElem_map] at d0 d1
    simp -dsimp [go_sem, p1, d0, d1, y, z.k4]
    refine hst.append1d 1 rfl uTerms iTerm rfl (by omega) (news := [.string S.terms[k].1, .int .i64 S.terms[k].2]) rfl (by simp [Value.oneCell']) (by unfold maxLen; omega) (by unfold maxBytes; omega) ?_
    intro g' cap w6 h6
    have y6 := h6.box 3 rfl
    simp [boxAt] at y6
    have wk : IntKind.i64.wrap ((k : Int) + 1) = (k : Int) + 1 := IntWalk.i64_in _ (by omega)
    have h7 := h6.set 3 rfl 0 (.slice (some ⟨g', 0, none⟩) (k + 1 + 1) cap)
    have htk : S.terms.take (k + 1) = S.terms.take k ++ [S.terms[k]] := List.take_succ_eq_append_getElem p1
    have em : [Value.string ⟨#[]⟩, .int .i64 0] ++ (S.terms.take k).flatMap termE ++ [.string S.terms[k].1, .int .i64 S.terms[k].2] = [Value.string ⟨#[]⟩, .int .i64 0] ++ (S.terms.take (k + 1)).flatMap termE := by
      rw [htk, List.flatMap_append, List.append_assoc]; rfl
    rw [em] at h7
    simp -dsimp [go_sem, y6, wk]
    exact hC _ _ ⟨k + 1, _, _, by simp, by omega, h7⟩ (by simp [iv]; omega)
  · have hka : k = S.terms.length := by omega
    subst hka
    rw [List.take_length] at hst
    exact hK _ _ _ hst

omit hr ok in
include hwf in
theorem leftsR_pos (k : Nat) : (leftsOf (S.rules.take k)).length ≤ S.nons.length := leftsOf_length_le fun r hr' => hwf.left r (List.mem_of_mem_take hr')

include hwf in
theorem lefts_ok {w4 : World} {At : Option Addr} {ct : Nat} {tx : List Value} (h4 : St noB w w4 [boxC q 36 zG, rowC 56 2 At (S.terms.length + 1) ct tx, rowC 3 1 al S.levels.length cl (S.levels.map (.int .i64 ·)), boxG x4 At (S.terms.length + 1) ct none 0 0 al S.levels.length cl none 0 0])
    (hK : ∀ m An cn w', St noB w w' [boxC q 36 zG, rowC 56 2 At (S.terms.length + 1) ct tx, rowC 3 1 al S.levels.length cl (S.levels.map (.int .i64 ·)), boxG x4 At (S.terms.length + 1) ct An (leftsOf S.rules).length cn al S.levels.length cl none 0 0,
        mapC Try.prog kInt 3 3 (.map (some m)) (leftsOf S.rules).length (symOf (S.terms.length + 1) (leftsOf S.rules)), rowC 9 1 An (leftsOf S.rules).length cn (((leftsOf S.rules).map (nonOf S)).map Value.string)] →
      gram_Builder_Grammar.b7 R (.pointer (some ⟨b, 0, none⟩)) (.pointer (some ⟨q, 0, none⟩)) (.pointer (some ⟨x4, 0, none⟩)) (.map (some m)) w') :
    gram_Builder_Grammar.b5 R (.pointer (some ⟨b, 0, none⟩)) (.pointer (some ⟨q, 0, none⟩)) (.pointer (some ⟨x4, 0, none⟩)) w4 := by
  have hsy := ok.syms
  have hpr := ok.prods
  unfold gram_Builder_Grammar.b5
  have h5 := h4.map Try.prog kInt 3 3
  have z5 := hr _ h5.chg
  simp -dsimp [go_sem, mkInt, z5.k6]
  generalize w4.heap.size = m at h5 ⊢
  generalize w4.alloc (.map #[] 0) = w5 at h5 z5 ⊢
  have h6 := h5.nilRow 9 1
  refine gram_Builder_Grammar.l32_intro _ _ _ _ _ _ _ _ _ (fun y w' => ∃ (k n : Nat) (An : Option Addr) (cn : Nat), y = .int .i64 k ∧ k ≤ S.rules.length ∧ n = (leftsOf (S.rules.take k)).length ∧
    St noB w w' [boxC q 36 zG, rowC 56 2 At (S.terms.length + 1) ct tx, rowC 3 1 al S.levels.length cl (S.levels.map (.int .i64 ·)), boxG x4 At (S.terms.length + 1) ct An n cn al S.levels.length cl none 0 0,
        mapC Try.prog kInt 3 3 (.map (some m)) n (symOf (S.terms.length + 1) (leftsOf (S.rules.take k))), rowC 9 1 An n cn (((leftsOf (S.rules.take k)).map (nonOf S)).map Value.string)]) (fun y _ => S.rules.length - iv y) ⟨0, 0, none, 0, rfl, by omega, rfl, by
      have : symOf (S.terms.length + 1) (leftsOf (S.rules.take 0)) = fun _ => 0 := by funext x; simp [symOf, leftsOf]
      rw [this]
      simpa [leftsOf] using h6⟩ ?_
  rintro _ w6 ⟨k, n, An, cn, rfl, hk, hn, hst⟩ C hC
  have hln := leftsR_pos hwf k
  simp -dsimp [go_sem]
  refine SPL_intro (fun p1 => ?_) (fun p1 => ?_) <;> simp at p1
  · have z := hr _ hst.chg
    have hrk : k < rs.length := by rw [z.rlen]; exact p1
    obtain ⟨g, rfl, hcell, _⟩ := row_elem (F := fun _ => True) (a := a6) (c := c6) (n := S.rules.length) (e := 86) (size := 3) (enc := fun x : (Int × List Int × Int) × Value => ruleC x.1 x.2) (i := k) (x := (S.rules[k], rs[k])) ⟨z.rules, fun _ _ => trivial⟩ (fun _ _ => rfl) (by omega) (by simp [List.getElem?_zip_eq_some, p1, hrk])
    have d0 := hcell 0 _ rfl
    have d1 := hcell 1 _ rfl
    have d2 := hcell 2 _ rfl
    simp only [Nat.add_zero] at d0
    have hleft := hwf.left S.rules[k] (List.getElem_mem p1)
    have hii : inI64 S.rules[k].1 := by unfold inI64; omega
    obtain ⟨ar, cr, hv, _⟩ := slice_form (z.rights k S.rules[k] rs[k] (List.getElem?_eq_getElem p1) (List.getElem?_eq_getElem hrk))
    rw [hv] at d1
    have h7 := hst.alloc #[.int .i64 S.rules[k].1, rs[k], .int .i64 S.rules[k].2.2] 86
    rw [hv] at h7
    have mg : (Instr.lookup 87 (.map (some m)) (.int .i64 S.rules[k].1) false).run Try.prog (w6.alloc (.cells #[.int .i64 S.rules[k].1, .slice ar S.rules[k].2.1.length cr, .int .i64 S.rules[k].2.2] 86)) = _ := h7.mapGet mInt 4 rfl S.rules[k].1 hii
    simp -dsimp [go_sem, p1, d0, d1, d2, mg]
    generalize w6.heap.size = rb at h7 ⊢
    generalize w6.alloc (.cells #[.int .i64 S.rules[k].1, .slice ar S.rules[k].2.1.length cr, .int .i64 S.rules[k].2.2] 86) = w7 at h7 mg ⊢
    have wk : IntKind.i64.wrap ((k : Int) + 1) = (k : Int) + 1 := IntWalk.i64_in _ (by omega)
    have htk : S.rules.take (k + 1) = S.rules.take k ++ [S.rules[k]] := List.take_succ_eq_append_getElem p1
    have hlt : leftsOf (S.rules.take (k + 1)) = addL (leftsOf (S.rules.take k)) S.rules[k].1 := by rw [htk, leftsOf_snoc]
    have y7 := h7.box 3 rfl
    have yr := h7.box 6 rfl
    simp [boxAt] at y7 yr
    refine SPL_intro (fun p2 => ?_) (fun p2 => ?_) <;> simp at p2
    · have hno := (symOf_pos (by omega)).1 p2
      have hadd : addL (leftsOf (S.rules.take k)) S.rules[k].1 = leftsOf (S.rules.take k) ++ [S.rules[k].1] := if_neg hno
      rw [hadd] at hlt
      have hln1 := leftsR_pos hwf (k + 1)
      rw [hlt, List.length_append] at hln1
      have wa : IntKind.i64.wrap ((S.terms.length : Int) + 1 + n) = (S.terms.length : Int) + 1 + n := IntWalk.i64_in _ (by simp at hln1; omega)
      obtain ⟨w8, hrun, h8⟩ := h7.mapPut mInt 4 rfl S.rules[k].1 hii (by unfold maxLen; omega) (x := (S.terms.length : Int) + 1 + n) (by unfold inI64; omega) (by omega) (n + 1) (symOf (S.terms.length + 1) (leftsOf (S.rules.take (k + 1)))) (fun _ => rfl) (fun h => absurd p2 h)
        (by rw [hlt, symOf_snoc hno, if_pos rfl, ← hn]; simp) (fun c hc => by rw [hlt, symOf_snoc hno, if_neg hc])
      have hrun' : (Instr.mapUpdate 87 (.map (some m)) (.int .i64 S.rules[k].1) (.int .i64 ((S.terms.length : Int) + 1 + n))).run Try.prog w7 = _ := hrun
      have h8d := h8.old ((Chg.refl noB w8).drew)
      have y8 := h8d.box 3 rfl
      have yr8 := h8d.box 6 rfl
      simp [boxAt] at y8 yr8
      have z8 := hr _ h8d.chg
      obtain ⟨j, hj⟩ : ∃ j : Nat, S.rules[k].1 = -1 - (j : Int) := ⟨(-1 - S.rules[k].1).toNat, by omega⟩
      have hjl : j < S.nons.length := by omega
      obtain ⟨g2, e2, dn, _⟩ := row_at (F := fun _ => True) (e := 9) (size := 1) (a := a2) (n := S.nons.length) (c := c2) ⟨z8.nons, fun _ _ => trivial⟩ (j := j) (by simpa using hjl)
      subst e2
      simp only [List.getElem_map] at dn
      have ws : IntKind.i64.wrap (-1 - S.rules[k].1) = (j : Int) := by rw [show -1 - S.rules[k].1 = (j : Int) by omega]; exact IntWalk.i64_in _ (by omega)
      have hnon : nonOf S S.rules[k].1 = S.nons[j] := by
        unfold nonOf
        rw [show (-1 - S.rules[k].1).toNat = j by omega, List.getElem?_eq_getElem hjl]; rfl
      simp -dsimp [go_sem, y7, yr, wa, hrun', y8, yr8, z8.k2, ws, hjl, dn]
      refine h8.append1d 5 rfl uStrs iStr rfl (by omega) (news := [.string S.nons[j]]) rfl (by simp [Value.oneCell']) (by unfold maxLen; omega) (by unfold maxBytes; omega) ?_
      intro g' cap w9 h9
      have y9 := h9.box 3 rfl
      simp [boxAt] at y9
      have h10 := h9.set 3 rfl 1 (.slice (some ⟨g', 0, none⟩) (n + 1) cap)
      simp -dsimp [go_sem, y9, wk]
      have e3 : ((leftsOf (S.rules.take k)).map (nonOf S)).map Value.string ++ [.string S.nons[j]] = ((leftsOf (S.rules.take (k + 1))).map (nonOf S)).map Value.string := by
        rw [hlt, List.map_append, List.map_append, ← hnon]; rfl
      have h11 := h10.take 6
      rw [e3] at h11
      refine hC _ _ ⟨k + 1, n + 1, some ⟨g', 0, none⟩, cap, by simp, by omega, by rw [hlt, List.length_append, ← hn]; rfl, ?_⟩ (by simp [iv]; omega)
      exact h11
    · have hyes : S.rules[k].1 ∈ leftsOf (S.rules.take k) := Classical.byContradiction fun h => p2 ((symOf_pos (by omega)).2 h)
      have hadd : addL (leftsOf (S.rules.take k)) S.rules[k].1 = leftsOf (S.rules.take k) := if_pos hyes
      rw [hadd] at hlt
      simp -dsimp [go_sem, wk]
      refine hC _ _ ⟨k + 1, n, An, cn, by simp, by omega, by rw [hlt]; exact hn, ?_⟩ (by simp [iv]; omega)
      have := h7.take 6
      rw [hlt]
      exact this
  · have hka : k = S.rules.length := by omega
    subst hka
    rw [List.take_length] at hst hn
    subst hn
    exact hK _ _ _ _ hst

omit hr ok in
theorem size2_ct {w : World} {A : Option Addr} {n c o : Nat} (h : w.cell? ⟨b, o, none⟩ = some (.slice A n c)) : Ct Try.prog gram_names_size.id #[.pointer (some ⟨b, o, none⟩)] w fun v w' => v = .int .i64 n ∧ w = w' := by
  refine gram_names_size.ct fun R hR => ?_
  unfold gram_names_size.run gram_names_size.b1
  simp [go_sem, h]
  exact hR _ _ ⟨rfl, rfl⟩

/-- Behind the nonterminals. -/
def LG (S : BS) (q x4 : Nat) (At : Option Addr) (ct : Nat) (al : Option Addr) (cl : Nat) (m : Nat) (An : Option Addr) (cn : Nat) (Ap : Option Addr) (np cp : Nat) : List Ch :=
  [boxC q 36 zG, rowC 56 2 At (S.terms.length + 1) ct ((gramOf S).terms.flatMap termE), rowC 3 1 al S.levels.length cl (S.levels.map (.int .i64 ·)), boxG x4 At (S.terms.length + 1) ct An (leftsOf S.rules).length cn al S.levels.length cl Ap np cp,
    mapC Try.prog kInt 3 3 (.map (some m)) (leftsOf S.rules).length (symOf (S.terms.length + 1) (leftsOf S.rules)), rowC 9 1 An (leftsOf S.rules).length cn (((leftsOf S.rules).map (nonOf S)).map Value.string)]

include hwf in
theorem prods_ok {w4 : World} {At : Option Addr} {ct m : Nat} {An : Option Addr} {cn : Nat} (h4 : St noB w w4 (LG S q x4 At ct al cl m An cn none 0 0))
    (hK : ∀ Ap cp vs w', St noB w w' (LG S q x4 At ct al cl m An cn Ap S.rules.length cp ++ [rowC 59 3 Ap S.rules.length cp (((S.rules.map (pv S)).zip vs).flatMap prodE), rowsC 3 1 vs ((S.rules.map (pv S)).map fun p => p.2.1.map (.int .i64 ·))]) →
      gram_Builder_Grammar.b9 R (.pointer (some ⟨b, 0, none⟩)) (.pointer (some ⟨q, 0, none⟩)) (.pointer (some ⟨x4, 0, none⟩)) (.map (some m)) w') :
    gram_Builder_Grammar.b11 R (.pointer (some ⟨b, 0, none⟩)) (.pointer (some ⟨q, 0, none⟩)) (.pointer (some ⟨x4, 0, none⟩)) (.map (some m)) w4 := by
  have hsy := ok.syms
  have hpr := ok.prods
  have z4 := hr _ h4.chg
  unfold gram_Builder_Grammar.b11
  simp -dsimp [go_sem, z4.k6]
  have h5 := h4.nilRow 59 3
  have h6 := h5.push (c := rowsC 3 1 [] []) ⟨rfl, fun i v xs h => by simp at h⟩
  refine gram_Builder_Grammar.l13_intro _ _ _ _ _ _ _ _ _ (fun y w' => ∃ (k : Nat) (Ap : Option Addr) (cp : Nat) (vs : List Value), y = .int .i64 k ∧ k ≤ S.rules.length ∧
    St noB w w' (LG S q x4 At ct al cl m An cn Ap k cp ++ [rowC 59 3 Ap k cp ((((S.rules.take k).map (pv S)).zip vs).flatMap prodE), rowsC 3 1 vs (((S.rules.take k).map (pv S)).map fun p => p.2.1.map (.int .i64 ·))])) (fun y _ => S.rules.length - iv y) ⟨0, none, 0, [], rfl, by omega, by simpa using h6⟩ ?_
  rintro _ w6 ⟨k, Ap, cp, vs, rfl, hk, hst⟩ C hC
  simp -dsimp [go_sem]
  refine SPL_intro (fun p1 => ?_) (fun p1 => ?_) <;> simp at p1
  · have z := hr _ hst.chg
    have hrk : k < rs.length := by rw [z.rlen]; exact p1
    obtain ⟨g, rfl, hcell, _⟩ := row_elem (F := fun _ => True) (a := a6) (c := c6) (n := S.rules.length) (e := 86) (size := 3) (enc := fun x : (Int × List Int × Int) × Value => ruleC x.1 x.2) (i := k) (x := (S.rules[k], rs[k])) ⟨z.rules, fun _ _ => trivial⟩ (fun _ _ => rfl) (by omega) (by simp [List.getElem?_zip_eq_some, p1, hrk])
    have d0 := hcell 0 _ rfl
    have d1 := hcell 1 _ rfl
    have d2 := hcell 2 _ rfl
    simp only [Nat.add_zero] at d0
    have hleft := hwf.left S.rules[k] (List.getElem_mem p1)
    have hlev := hwf.lev S.rules[k] (List.getElem_mem p1)
    have hright := hwf.right S.rules[k] (List.getElem_mem p1)
    have hfit := hwf.fit S.rules[k] (List.getElem_mem p1)
    have hii : inI64 S.rules[k].1 := by unfold inI64; omega
    have hri := z.rights k S.rules[k] rs[k] (List.getElem?_eq_getElem p1) (List.getElem?_eq_getElem hrk)
    obtain ⟨ar, cr, hv, hr1, hr2, _⟩ := slice_form hri
    rw [hv] at d1 hri
    generalize hrule : S.rules[k] = r at d0 d1 d2 hleft hlev hright hfit hii hri hv hr1
    generalize hsym : symOf (S.terms.length + 1) (leftsOf S.rules) r.1 = sl
    have h7 := (hst.alloc #[.int .i64 r.1, .slice ar r.2.1.length cr, .int .i64 r.2.2] 86)
    have mg : (Instr.lookup 87 (.map (some m)) (.int .i64 r.1) false).run Try.prog (w6.alloc (.cells #[.int .i64 r.1, .slice ar r.2.1.length cr, .int .i64 r.2.2] 86)) = _ := h7.mapGet mInt 4 rfl r.1 hii
    have h8 := h7.alloc #[.int .i64 sl, .slice none 0 0, .int .i64 r.2.2] 59
    have hs7 : (w6.alloc (.cells #[.int .i64 r.1, .slice ar r.2.1.length cr, .int .i64 r.2.2] 86)).heap.size = w6.heap.size + 1 := by simp
    rw [hs7] at h8
    rw [hsym] at mg
    simp -dsimp [go_sem, p1, d0, d1, d2, mg]
    generalize w6.heap.size = rb at h7 h8 ⊢
    generalize (w6.alloc (.cells #[.int .i64 r.1, .slice ar r.2.1.length cr, .int .i64 r.2.2] 86)).alloc (.cells #[.int .i64 sl, .slice none 0 0, .int .i64 r.2.2] 59) = w8 at h8 ⊢
    have h9 := h8.nilRow 3 1
    have hslb : inI64 sl := by
      have := symOf_lt (t := S.terms.length + 1) (L := leftsOf S.rules) (h := r.1)
      have := leftsOf_length_le hwf.left
      rw [hsym] at *; unfold inI64; omega
    refine gram_Builder_Grammar.l23_intro _ _ _ _ _ _ _ _ _ _ (fun y w' => ∃ (j : Nat) (Ar : Option Addr) (cr' : Nat), y = .int .i64 j ∧ j ≤ r.2.1.length ∧
      St noB w w' (LG S q x4 At ct al cl m An cn Ap k cp ++ [rowC 59 3 Ap k cp ((((S.rules.take k).map (pv S)).zip vs).flatMap prodE), rowsC 3 1 vs (((S.rules.take k).map (pv S)).map fun p => p.2.1.map (.int .i64 ·)),
        boxC rb 86 [.int .i64 r.1, .slice ar r.2.1.length cr, .int .i64 r.2.2], boxC (rb + 1) 59 [.int .i64 sl, .slice Ar j cr', .int .i64 r.2.2], rowC 3 1 Ar j cr' (((r.2.1.take j).map (symH (S.terms.length + 1) (leftsOf S.rules))).map (.int .i64 ·))])) (fun y _ => r.2.1.length - iv y) ⟨0, none, 0, rfl, by omega, by simpa [LG] using h9⟩ ?_
    rintro _ w10 ⟨j, Ar, cr', rfl, hj, hst10⟩ C' hC'
    have z10 := hr _ hst10.chg
    have hri10 := z10.rights k r rs[k] (by rw [List.getElem?_eq_getElem p1, hrule]) (List.getElem?_eq_getElem hrk)
    rw [hv] at hri10
    have y10 := hst10.box 9 rfl
    simp [boxAt] at y10
    simp -dsimp [go_sem]
    refine SPL_intro (fun p2 => ?_) (fun p2 => ?_) <;> simp at p2
    · obtain ⟨b1, o1, rfl, hb1, e1, e2⟩ := Go.Px.ints_at hri10 p2
      have hel := hright _ (List.getElem_mem p2)
      have wj := wrap_succ p2 (Nat.le_trans hr1 hr2)
      have mg2 : (Instr.lookup 87 (.map (some m)) (.int .i64 r.2.1[j]) false).run Try.prog w10 = _ := hst10.mapGet mInt 4 rfl r.2.1[j] e2
      have htk : r.2.1.take (j + 1) = r.2.1.take j ++ [r.2.1[j]] := List.take_succ_eq_append_getElem p2
      have fin : ∀ x : Int, x = symH (S.terms.length + 1) (leftsOf S.rules) r.2.1[j] → gram_Builder_Grammar.b29 R C C' (.pointer (some ⟨rb + 1, 0, none⟩)) (.int .i64 x) (.int .i64 j) w10 := by
        intro x hx
        unfold gram_Builder_Grammar.b29
        simp -dsimp [go_sem, y10]
        have hjm : j < maxLen := by omega
        refine hst10.append1 10 rfl uInts iInt rfl (by omega) (news := [.int .i64 x]) rfl (by simp [Value.oneCell']) (by omega) ?_ ?_
        · have := hfit; omega
        intro g' cap w11 h11
        have y11 := h11.box 9 rfl
        simp [boxAt] at y11
        have h12 := h11.set 9 rfl 1 (.slice (some ⟨g', 0, none⟩) (j + 1) cap)
        simp -dsimp [go_sem, y11, wj]
        have em : ((r.2.1.take j).map (symH (S.terms.length + 1) (leftsOf S.rules))).map (Value.int .i64 ·) ++ [.int .i64 x] = ((r.2.1.take (j + 1)).map (symH (S.terms.length + 1) (leftsOf S.rules))).map (Value.int .i64 ·) := by
          rw [htk, List.map_append, List.map_append, hx]; rfl
        rw [em] at h12
        exact hC' _ _ ⟨j + 1, _, _, by simp, by omega, h12⟩ (by simp [iv]; omega)
      simp -dsimp [go_sem, p2, e1]
      refine SPL_intro (fun p3 => ?_) (fun p3 => ?_) <;> simp at p3
      · simp -dsimp [go_sem, mg2]
        exact fin _ (by unfold symH; rw [if_pos p3])
      · exact fin _ (by unfold symH; rw [if_neg (by omega)])
    · have hja : j = r.2.1.length := by omega
      subst hja
      rw [List.take_length] at hst10
      have y3 := hst10.box 3 rfl
      simp [boxAt] at y3
      have hc' := (hst10.rowSize 10 rfl)
      unfold gram_Builder_Grammar.b20
      simp -dsimp [go_sem, y10, y3]
      refine hst10.append1 6 rfl uProds iProd rfl (by omega) (news := [.int .i64 sl, .slice Ar r.2.1.length cr', .int .i64 r.2.2]) rfl (by simp [Value.oneCell']) (by unfold maxLen; omega) (by unfold maxBytes; omega) ?_
      intro g' cap w11 h11
      have y11 := h11.box 3 rfl
      simp [boxAt] at y11
      have h12 := h11.set 3 rfl 4 (.slice (some ⟨g', 0, none⟩) (k + 1) cap)
      have wk : IntKind.i64.wrap ((k : Int) + 1) = (k : Int) + 1 := IntWalk.i64_in _ (by omega)
      simp -dsimp [go_sem, y11, wk]
      obtain ⟨Fv, hov, _⟩ := hst10.get (k := 7) rfl
      have hvl : vs.length = k := by have := hov.1; simp at this; omega
      have h13 := h12.merge (j := 10) (k := 7) rfl rfl (by omega) (e := rowsC 3 1 (vs ++ [.slice Ar r.2.1.length cr']) ((((S.rules.take k).map (pv S)).map fun p => p.2.1.map (.int .i64 ·)) ++ [(r.2.1.map (symH (S.terms.length + 1) (leftsOf S.rules))).map (.int .i64 ·)])) fun F F' h1 h2 => rowsC_snoc h1 h2
      have htk : S.rules.take (k + 1) = S.rules.take k ++ [r] := by rw [← hrule]; exact List.take_succ_eq_append_getElem p1
      have e1 : ((S.rules.take (k + 1)).map (pv S)) = (S.rules.take k).map (pv S) ++ [pv S r] := by rw [htk, List.map_append]; rfl
      have e2 : (((S.rules.take (k + 1)).map (pv S)).map fun p => p.2.1.map (Value.int .i64 ·)) = (((S.rules.take k).map (pv S)).map fun p => p.2.1.map (Value.int .i64 ·)) ++ [(r.2.1.map (symH (S.terms.length + 1) (leftsOf S.rules))).map (.int .i64 ·)] := by rw [e1, List.map_append]; rfl
      have e3 : ((((S.rules.take (k + 1)).map (pv S)).zip (vs ++ [.slice Ar r.2.1.length cr'])).flatMap prodE) = ((((S.rules.take k).map (pv S)).zip vs).flatMap prodE) ++ [.int .i64 sl, .slice Ar r.2.1.length cr', .int .i64 r.2.2] := by
        rw [e1, List.zip_append (by simp [hvl]; omega), List.flatMap_append]
        congr 1
        simp [prodE, pv, hsym]
      rw [← e2, ← e3] at h13
      refine hC _ _ ⟨k + 1, _, _, _, by simp, by omega, h13.take 8⟩ (by simp [iv]; omega)
  · have hka : k = S.rules.length := by omega
    subst hka
    rw [List.take_length] at hst
    exact hK _ _ _ _ hst

include hwf in
theorem end_ok {w4 : World} {At : Option Addr} {ct m : Nat} {An : Option Addr} {cn : Nat} {Ap : Option Addr} {cp : Nat} {vs : List Value} (hne : S.rules ≠ []) (h4 : St noB w w4 (LG S q x4 At ct al cl m An cn Ap S.rules.length cp ++ [rowC 59 3 Ap S.rules.length cp (((S.rules.map (pv S)).zip vs).flatMap prodE), rowsC 3 1 vs ((S.rules.map (pv S)).map fun p => p.2.1.map (.int .i64 ·))]))
    (hR : ∀ vg w', GrNew w w' vg (gramOf S) → R (.returned (.tuple #[vg, .int .i64 0])) w') :
    gram_Builder_Grammar.b9 R (.pointer (some ⟨b, 0, none⟩)) (.pointer (some ⟨q, 0, none⟩)) (.pointer (some ⟨x4, 0, none⟩)) (.map (some m)) w4 := by
  have hsy := ok.syms
  have hpr := ok.prods
  have hpos : 0 < S.rules.length := List.length_pos_iff.2 hne
  obtain ⟨Fv, hov, _⟩ := h4.get (k := 7) rfl
  have hvl : vs.length = S.rules.length := by have := hov.1; simpa using this
  obtain ⟨Fp, hop, _⟩ := h4.get (k := 6) rfl
  obtain ⟨g, rfl, hcell, _⟩ := row_elem (enc := prodE) (i := 0) (x := (pv S S.rules[0], vs[0])) hop (fun _ _ => rfl) (by omega) (by simp [List.getElem?_zip_eq_some, hpos, hvl])
  have d0 : w4.cell? ⟨g, 0, none⟩ = some (.int .i64 (symOf (S.terms.length + 1) (leftsOf S.rules) S.rules[0].1)) := hcell 0 _ rfl
  have hL := leftsOf_length_le hwf.left
  have symb : ∀ h : Int, inI64 (symOf (S.terms.length + 1) (leftsOf S.rules) h) := fun h => by
    have := symOf_lt (t := S.terms.length + 1) (L := leftsOf S.rules) (h := h)
    unfold inI64; omega
  have symb' : ∀ h : Int, h ≤ S.terms.length → -(S.nons.length : Int) ≤ h → inI64 (symH (S.terms.length + 1) (leftsOf S.rules) h) := fun h h1 h2 => by
    unfold symH
    split
    · exact symb h
    · unfold inI64; omega
  have y4 := h4.box 3 rfl
  simp [boxAt] at y4
  have h5 := h4.set 3 rfl 3 (.int .i64 (symOf (S.terms.length + 1) (leftsOf S.rules) S.rules[0].1))
  have z5 := hr _ h5.chg
  have fin : ∀ (w5 : World) (st : Int), st = (gramOf S).start → St noB w w5 [boxC q 36 zG, rowC 56 2 At (S.terms.length + 1) ct ((gramOf S).terms.flatMap termE), rowC 3 1 al S.levels.length cl (S.levels.map (.int .i64 ·)),
      boxC x4 36 [.slice At (S.terms.length + 1) ct, .slice An (leftsOf S.rules).length cn, .slice al S.levels.length cl, .int .i64 st, .slice (some ⟨g, 0, none⟩) S.rules.length cp],
      mapC Try.prog kInt 3 3 (.map (some m)) (leftsOf S.rules).length (symOf (S.terms.length + 1) (leftsOf S.rules)), rowC 9 1 An (leftsOf S.rules).length cn (((leftsOf S.rules).map (nonOf S)).map Value.string),
      rowC 59 3 (some ⟨g, 0, none⟩) S.rules.length cp (((S.rules.map (pv S)).zip vs).flatMap prodE), rowsC 3 1 vs ((S.rules.map (pv S)).map fun p => p.2.1.map (.int .i64 ·))] →
      gram_Builder_Grammar.b10 R (.pointer (some ⟨q, 0, none⟩)) (.pointer (some ⟨x4, 0, none⟩)) w5 := by
    intro w5 st hst h6
    unfold gram_Builder_Grammar.b10
    have y6 := h6.box 3 rfl
    have yq := h6.box 0 rfl
    simp [boxAt] at y6
    simp [boxAt, zG] at yq
    have h7 := ((((h6.set 0 rfl 0 (.slice At (S.terms.length + 1) ct)).set 0 rfl 1 (.slice An (leftsOf S.rules).length cn)).set 0 rfl 2 (.slice al S.levels.length cl)).set 0 rfl 3 (.int .i64 st)).set 0 rfl 4 (.slice (some ⟨g, 0, none⟩) S.rules.length cp)
    have yq7 := h7.box 0 rfl
    simp [boxAt, zG] at yq7
    simp -dsimp [go_sem, y6, yq, yq7]
    refine hR _ _ ⟨At, ct, An, cn, al, cl, some ⟨g, 0, none⟩, cp, vs, ?_, h7.pick [1, 5, 2, 6, 7] (by decide) ?_, ?_, ?_, ?_, ?_, ?_⟩
    · simp [gramOf, hst]
    · simp [gramOf, zG]
    · intro t ht
      rcases List.mem_cons.1 ht with rfl | ht
      · exact ⟨by unfold maxLen; decide, by unfold inI64; simp⟩
      · have h1 := (ok.tnam t ht).2.1
        have h2 := ok.grd t ht
        have := ok.lev
        exact ⟨by unfold maxLen; omega, by unfold inI64; omega⟩
    · intro s hs
      obtain ⟨h, _, rfl⟩ := List.mem_map.1 hs
      unfold nonOf
      cases e : S.nons[(-1 - h).toNat]? with
      | none => unfold maxLen; decide
      | some t => have := (ok.nnam t (List.mem_of_getElem? e)).2.1; simp only [Option.getD_some]; unfold maxLen; omega
    · intro x hx
      have := hwf.sides x hx
      unfold inI64; omega
    · exact symb _
    · intro p hp
      obtain ⟨r, hr', rfl⟩ := List.mem_map.1 hp
      have h1 := hwf.lev r hr'
      have := ok.lev
      refine ⟨symb _, fun x hx => ?_, by show inI64 r.2.2; unfold inI64; omega⟩
      obtain ⟨h, hh, rfl⟩ := List.mem_map.1 hx
      have := hwf.right r hr' h hh
      exact symb' h this.2.1 this.1
  unfold gram_Builder_Grammar.b9
  have z4 := hr _ h4.chg
  have hk7 := z5.k7
  simp -dsimp [go_sem, y4, hpos, d0, hk7]
  have hh : (S.rules.head?.map (·.1)).getD 0 = S.rules[0].1 := by
    rw [List.head?_eq_getElem?, List.getElem?_eq_getElem hpos]; rfl
  refine SPL_intro (fun p1 => ?_) (fun p1 => ?_) <;> simp at p1
  · have hsi : inI64 S.start := by have := hwf.start; unfold inI64; omega
    have mg : (Instr.lookup 87 (.map (some m)) (.int .i64 S.start) false).run Try.prog (w4.setCell ⟨x4, 3, none⟩ (.int .i64 (symOf (S.terms.length + 1) (leftsOf S.rules) S.rules[0].1))) = _ := h5.mapGet mInt 4 rfl S.start hsi
    have y5 := h5.box 3 rfl
    simp [boxAt] at y5
    simp -dsimp [go_sem, hk7, mg, y5]
    have h6 := h5.set 3 rfl 3 (.int .i64 (symOf (S.terms.length + 1) (leftsOf S.rules) S.start))
    exact fin _ _ (by simp [gramOf, p1]) h6
  · exact fin _ _ (by simp [gramOf, p1, hh]) h5
end

set_option maxHeartbeats 4000000 in
theorem Grammar_ct {w : World} {T : Nat → Nat} {b : Nat} {V : BV} {S : BS} (h : Bld w T b V S) (hwf : BSwf S) :
    Ct Try.prog gram_Builder_Grammar.id #[.pointer (some ⟨b, 0, none⟩)] w fun v w' => GrAns S w v w' := by
  refine gram_Builder_Grammar.ct fun R hR => ?_
  obtain ⟨a0, c0, a2, c2, a4, c4, a5, c5, a6, c6, rs, hr⟩ := h.read
  have ok := h.ok
  have hsy := ok.syms
  have hpr := ok.prods
  have hlv := ok.lev
  have z0 := hr w (Chg.refl _ _)
  have no : ∀ w', Chg noB w w' → ¬ (S.rules ≠ [] ∧ S.nons.length ≤ (leftsOf S.rules).length) → R (.returned (.tuple #[.agg zG.toArray, .int .i64 1])) w' := fun w' hc hn =>
    hR _ _ ⟨hc, fun ht => absurd (of_decide_eq_true ht) hn, fun _ => rfl⟩
  unfold gram_Builder_Grammar.run
  have h1 := (St.refl noB w).alloc #[.slice none 0 0, .slice none 0 0, .slice none 0 0, .int .i64 0, .slice none 0 0] 36
  have z1 := hr _ h1.chg
  simp -dsimp [go_sem, z1.k6]
  generalize w.heap.size = q at h1 ⊢
  generalize w.alloc (.cells #[.slice none 0 0, .slice none 0 0, .slice none 0 0, .int .i64 0, .slice none 0 0] 36) = w1 at h1 z1 ⊢
  have y1 := h1.box 0 rfl
  simp [boxAt] at y1
  refine SPL_intro (fun q1 => ?_) (fun q1 => ?_) <;> simp at q1
  · simp -dsimp [go_sem, y1]
    refine no _ ?_ fun hn => hn.1 q1
    exact (((((h1.set 0 rfl 0 _).set 0 rfl 1 _).set 0 rfl 2 _).set 0 rfl 3 _).set 0 rfl 4 _).chg
  have h2 := h1.lit 56 2 1 #[.string ⟨#[]⟩, .int .i64 0] (by simp [maxLen]) rfl
  have z2 := hr _ h2.chg
  simp -dsimp [go_sem, z2.k5]
  generalize w1.heap.size = q2 at h2 ⊢
  generalize w1.alloc (.cells #[.string ⟨#[]⟩, .int .i64 0] 56) = w2 at h2 z2 ⊢
  have hlr : (rSlice rInt).at1 w2 w2.heap.size (.slice a5 S.levels.length c5) S.levels :=
    slice_of_own (r := rInt) (enc := fun x => [Value.int .i64 x]) (base := 0) (e := 3) (by rw [flat_one]; exact z2.levels) (fun _ _ => rfl) (fun y hy => ⟨rfl, by have := hwf.sides y hy; unfold inI64; omega⟩) (Nat.le_refl _)
  refine CALL_of (CloneI_ct hlr (Nat.le_refl _) (by unfold maxBytes; omega)) ?_
  rintro vl w3 ⟨hown, hc3⟩
  obtain ⟨al, cl, rfl⟩ : ∃ a c, vl = .slice a S.levels.length c := by
    rcases hown.2 with ⟨e1, e2⟩ | ⟨g, cap, cur, hv, _⟩
    · exact ⟨none, 0, by rw [e1, e2]⟩
    · exact ⟨_, _, hv⟩
  have h3 := h2.seq (St.ofRow hown hc3)
  have h4 := h3.alloc #[.slice (some ⟨q2, 0, none⟩) 1 1, .slice none 0 0, .slice al S.levels.length cl, .int .i64 0, .slice none 0 0] 36
  simp -dsimp [go_sem]
  generalize w3.heap.size = x4 at h4 ⊢
  generalize w3.alloc (.cells #[.slice (some ⟨q2, 0, none⟩) 1 1, .slice none 0 0, .slice al S.levels.length cl, .int .i64 0, .slice none 0 0] 36) = w4 at h4 ⊢
  have z4 := hr _ h4.chg
  simp -dsimp [go_sem, z4.k0]
  refine texts_ok hr ok h4 fun At ct w5 h5 => ?_
  refine lefts_ok hr ok hwf h5 fun m An cn w6 h6 => ?_
  unfold gram_Builder_Grammar.b7
  have h6d := h6.old ((Chg.refl noB w6).drew)
  have z6 := hr _ h6d.chg
  have y6 := h6d.box 3 rfl
  have y6' := h6.box 3 rfl
  simp [boxAt] at y6 y6'
  simp -dsimp [go_sem, y6, y6']
  refine CALL_of (size2_ct z6.k2) ?_
  rintro _ _ ⟨rfl, rfl⟩
  simp -dsimp [go_sem, y6, y6']
  refine SPL_intro (fun p1 => ?_) (fun p1 => ?_) <;> simp at p1
  · have y0 := h6d.box 0 rfl
    simp [boxAt, zG] at y0
    simp -dsimp [go_sem, y0]
    refine no _ ?_ fun hn => by have := hn.2; omega
    exact (((((h6d.set 0 rfl 0 _).set 0 rfl 1 _).set 0 rfl 2 _).set 0 rfl 3 _).set 0 rfl 4 _).chg
  · refine prods_ok hr ok hwf (m := m) (An := An) (cn := cn) h6d fun Ap cp vs w7 h7 => ?_
    refine end_ok hr ok hwf q1 h7 fun vg w8 hG => hR _ _ ⟨hG.chg, fun _ => ⟨vg, rfl, hG⟩, fun ht => ?_⟩
    exact absurd ⟨q1, by omega⟩ (of_decide_eq_false ht)
end Go.Proofs.Ytmhebgebfjnfjaa
