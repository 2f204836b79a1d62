/-
  Texts of this claim: Gp4, Gp5.
-/
import Derived.Test.YtmhebgebfjnfjaaMh
import Derived.Test.YtmhebgebfjnfjaaMc
/-
  The document's builder: Grammar, the first half.
-/
namespace Go.Px
open Go.RowKit
section
variable {G : Nat → Prop} {W w : World} {L : List Ch}
/-- append, of all that a row has. -/
theorem St.appendR {P : Program} {X : Pan} {K : Value → World → Prop} (h : St G W w L) (k : Nat) {t ty e : TypeId} {z : Value} {size bytes : Nat} {a0 : Option Addr} {n c : Nat} {xs : List Value} (hk : L[k]? = some (rowC e size a0 n c xs))
    (ht : P.underlying t = some (.slice e)) (hi : (P.info? e).map (fun i => (i.zero, i.size, i.bytes)) = some (some z, size, bytes)) (hzs : z.cells.size = size) (hsz : 0 < size)
    {a : Option Addr} {m c1 : Nat} {news : List Value} {F' : Nat → Prop} (hr : (rowC e size a m c1 news).ok w F') (h1 : ∀ u ∈ news, u.oneCell' = true)
    (h63 : n + m ≤ maxLen) (hbytes : (n + m) * bytes ≤ maxBytes)
    (hK : ∀ a' cap w', St G W w' (L.set k (rowC e size a' (n + m) cap (xs ++ news))) → K (.slice a' (n + m) cap) w') :
    RES X ((Builtin.append_ #[t, t] ty #[.slice a0 n c, .slice a m c1]).run P w) K := by
  have hl := (row_size hr).1
  rcases id hr.1.2 with ⟨h2, h3⟩ | ⟨g, cap, cur, hv, hb, hg, hn, hm, hs, htk⟩
  · injection h2 with e1 e2 e3
    subst e1 e2 e3
    have hnil : news = [] := List.length_eq_zero_iff.1 (by omega)
    subst hnil
    obtain ⟨i, hi', hz, hs1, hb1⟩ : ∃ i, P.info? e = some i ∧ i.zero = some z ∧ i.size = size ∧ i.bytes = bytes := by
      cases hq : P.info? e with
      | none => rw [hq] at hi; cases hi
      | some i => rw [hq] at hi; simp at hi; exact ⟨i, rfl, hi.1, hi.2.1, hi.2.2⟩
    obtain ⟨F, ho, _⟩ := h.get hk
    rw [run_append_owned_none w 0 t ty e i size ht hi' _ n xs ho.1, RES_ok]
    exact hK a0 c w (h.turn hk fun F hf => by rw [List.append_nil]; exact hf)
  · injection hv with e1 e2 e3
    subst e1 e3
    refine h.appendN k hk ht hi hzs hsz hl (fun j u hj => ?_) h1 h63 hbytes fun a' cap w' h' _ => hK a' cap w' h'
    have hjl := (List.getElem?_eq_some_iff.1 hj).1
    obtain ⟨g', e9, hc, _⟩ := row_at hr hjl
    injection e9 with e9; injection e9 with e9; subst e9
    have ha : Addr.add ⟨g, 0, none⟩ j = ⟨g, j, none⟩ := by unfold Addr.add; split <;> simp_all
    rw [ha, hc, (List.getElem?_eq_some_iff.1 hj).2]
end
end Go.Px
namespace Go.Px.Scan
open Go.Px
/-- A nonterminal's place among the Lefts, from 1 on. -/
def plc (L : List Int) (h : Int) : Int := if h ∈ L then ((L.idxOf h : Nat) : Int) + 1 else 0
def plcs (n : Nat) (L : List Int) : List Value := (List.range n).map fun j : Nat => Value.int .i64 (plc L (-1 - (j : Int)))
theorem plc_zero {L : List Int} {h : Int} : plc L h = 0 ↔ h ∉ L := by
  unfold plc
  split
  · rename_i hm; constructor
    · intro e; omega
    · intro e; exact absurd hm e
  · rename_i hm; simp [hm]
theorem plc_snoc {L : List Int} {x : Int} (hx : x ∉ L) (h : Int) : plc (L ++ [x]) h = if h = x then ((L.length : Nat) : Int) + 1 else plc L h := by
  unfold plc
  by_cases e : h = x
  · subst e
    rw [if_pos (by simp), if_pos rfl, List.idxOf_append, if_neg hx]
    simp
  · rw [if_neg e]
    by_cases hm : h ∈ L
    · rw [if_pos (by simp [hm]), if_pos hm, List.idxOf_append, if_pos hm]
    · rw [if_neg (by simp [hm, e]), if_neg hm]
theorem symOf_plc {t : Nat} {L : List Int} {h : Int} (hm : h ∈ L) : symOf (t + 1) L h = (t : Int) + plc L h := by
  unfold symOf plc
  rw [if_pos hm, if_pos hm]
  omega
theorem plc_le {L : List Int} {h : Int} : 0 ≤ plc L h ∧ plc L h ≤ L.length := by
  unfold plc
  split
  · rename_i hm
    have := List.idxOf_lt_length_of_mem hm
    omega
  · omega
theorem plcs_len (n : Nat) (L : List Int) : (plcs n L).length = n := by simp [plcs]
theorem plcs_nil (n : Nat) : plcs n [] = List.replicate n (Value.int .i64 0) := by
  apply List.ext_getElem
  · simp [plcs]
  · intro i h1 h2; simp [plcs, plc]
theorem plcs_get {n : Nat} {L : List Int} {j : Nat} (h : j < n) : (plcs n L)[j]'(by rw [plcs_len]; exact h) = .int .i64 (plc L (-1 - (j : Int))) := by simp [plcs]
theorem plcs_set {n : Nat} {L : List Int} {j : Nat} (hj : j < n) (hno : -1 - (j : Int) ∉ L) : (plcs n L).set j (.int .i64 ((L.length : Int) + 1)) = plcs n (L ++ [-1 - (j : Int)]) := by
  apply List.ext_getElem
  · simp [plcs]
  · intro i h1 h2
    rw [List.getElem_set]
    have hi : i < n := by simpa [plcs] using h2
    rw [plcs_get hi, plcs_get hi, plc_snoc hno]
    by_cases e : j = i
    · subst e; simp
    · rw [if_neg e, if_neg (by omega)]
/-- Where one is told, each nonterminal is a Left. -/
theorem all_left {S : BS} (hwf : BSwf S) (h : S.nons.length ≤ (leftsOf S.rules).length) {x : Int} (h1 : -(S.nons.length : Int) ≤ x) (h2 : x < 0) : x ∈ leftsOf S.rules := by
  apply Classical.byContradiction
  intro hno
  have h3 := nodup_le (l := x :: leftsOf S.rules) (m := (List.range S.nons.length).map fun i : Nat => -1 - (i : Int)) (List.nodup_cons.2 ⟨hno, leftsOf_nodup _⟩) fun y hy => by
    rcases List.mem_cons.1 hy with rfl | hy
    · exact List.mem_map.2 ⟨(-1 - y).toNat, by simp; omega, by omega⟩
    · obtain ⟨p, hp, rfl⟩ := leftsOf_mem.1 hy
      have := hwf.left p hp
      exact List.mem_map.2 ⟨(-1 - p.1).toNat, by simp; omega, by omega⟩
  simp at h3
  omega
end Go.Px.Scan
namespace Go.Proofs.Ytmhebgebfjnfjaa
open Go.Px Go.Px.Scan Go.RowKit
set_option maxHeartbeats 1000000
set_option linter.unusedSimpArgs false
set_option linter.unusedVariables false
set_option maxRecDepth 100000
attribute [-go_sem] Builtin.append_
attribute [-go_sem] ref02_Builder_Grammar.b3 ref02_Builder_Grammar.b4 ref02_Builder_Grammar.b30 ref02_Builder_Grammar.b26 ref02_Builder_Grammar.b7

/-- A row of so many zeros is made. -/
theorem mkZeros (w : World) (n : Nat) (h : n * 8 ≤ 2 * maxBytes) : (Instr.makeSlice 30 (.int .i64 n) (.int .i64 n)).run Try.prog w = .ok (.slice (some ⟨w.heap.size, 0, none⟩) n n) (w.alloc (.cells (Array.replicate n (Value.int .i64 0)) 3)) := by
  obtain ⟨i0, hi, hz0, hz1, hz2⟩ := info_parts iInt
  unfold maxBytes at h
  have := run_make (P := Try.prog) w 30 3 i0 _ Try.underlying30 hi hz0 .i64 .i64 n n (by omega) (by omega) (by rw [hz2]; omega) (by omega)
  rw [this]
  have e : madeCells (Value.int .i64 0).cells ((n : Int).toNat * i0.size) = Array.replicate n (Value.int .i64 0) := by
    rw [hz1, Nat.mul_one, Int.toNat_natCast]
    have := toList_madeCells_one (Value.int .i64 0) n
    apply Array.toList_inj.1
    rw [Array.toList_replicate]
    exact this
  rw [e]
  simp

/-- The grammar's pieces under way. -/
def LR (S : BS) (q x pl : Nat) (L : List Int) (At : Option Addr) (ct : Nat) (An : Option Addr) (cn : Nat) (al : Option Addr) (cl : Nat) (st : Int) (Ap : Option Addr) (np cp : Nat) : List Ch :=
  [boxC q 36 zG, rowC 3 1 (some ⟨pl, 0, none⟩) S.nons.length S.nons.length (plcs S.nons.length L), boxC x 36 [.slice At (S.terms.length + 1) ct, .slice An L.length cn, .slice al S.levels.length cl, .int .i64 st, .slice Ap np cp],
    rowC 56 2 At (S.terms.length + 1) ct ((gramOf S).terms.flatMap termE), rowC 9 1 An L.length cn ((L.map (nonOf S)).map Value.string), rowC 3 1 al S.levels.length cl (S.levels.map (.int .i64 ·))]

section
variable {R : Ending → World → Prop} {w : World} {F : Nat → Prop} {p q x pl : Nat} {S : BS} {a1 : Option Addr} {c1 : Nat} {a2 : Option Addr} {c2 : Nat} {a3 : Option Addr} {c3 : Nat} {a4 : Option Addr} {c4 : Nat} {vs : List Value}
  (s0 : St F w w (refL p S a1 c1 a2 c2 a3 c3 a4 c4 vs)) (ok : BSok S) (hwf : BSwf S) {At : Option Addr} {ct : Nat} {al : Option Addr} {cl : Nat}
include s0 ok hwf

theorem rlefts_ok {w4 : World} (h4 : St noB w w4 (LR S q x pl [] At ct none 0 al cl 0 none 0 0))
    (hK : ∀ An cn w', St noB w w' (LR S q x pl (leftsOf S.rules) At ct An cn al cl 0 none 0 0) → ref02_Builder_Grammar.b3 R (.pointer (some ⟨p, 0, none⟩)) (.pointer (some ⟨q, 0, none⟩)) (.slice (some ⟨pl, 0, none⟩) S.nons.length S.nons.length) (.pointer (some ⟨x, 0, none⟩)) w') :
    ref02_Builder_Grammar.b26 R (.pointer (some ⟨p, 0, none⟩)) (.pointer (some ⟨q, 0, none⟩)) (.slice (some ⟨pl, 0, none⟩) S.nons.length S.nons.length) (.pointer (some ⟨x, 0, none⟩)) w4 := by
  have hsy := ok.syms
  have hpr := ok.prods
  unfold ref02_Builder_Grammar.b26
  refine ref02_Builder_Grammar.l28_intro _ _ _ _ _ _ _ (fun y w' => ∃ (k : Nat) (An : Option Addr) (cn : Nat), y = .int .i64 k ∧ k ≤ S.rules.length ∧ St noB w w' (LR S q x pl (leftsOf (S.rules.take k)) At ct An cn al cl 0 none 0 0)) (fun y _ => S.rules.length - iv y) ⟨0, none, 0, rfl, by omega, by simpa [leftsOf] using h4⟩ ?_
  rintro _ w5 ⟨k, An, cn, rfl, hk, hst⟩ C hC
  have z := s0.old hst.chg
  have zb := z.box 0 rfl
  simp [boxAt] at zb
  simp -dsimp [go_sem, zb]
  refine SPL_intro (fun p1 => ?_) (fun p1 => ?_) <;> simp at p1
  · obtain ⟨F5, o5, _⟩ := z.get (k := 5) rfl
    have hvl : vs.length = S.rules.length := by have := o5.1; simpa using this
    have hvk : k < vs.length := by omega
    obtain ⟨F4, o4, _⟩ := z.get (k := 4) rfl
    obtain ⟨g, rfl, hcell, _⟩ := row_elem (enc := fun x : (Int × List Int × Int) × Value => ruleC x.1 x.2) (i := k) (x := (S.rules[k], vs[k])) o4 (fun _ _ => rfl) (by omega) (by simp [List.getElem?_zip_eq_some, p1, hvk])
    have d0 := hcell 0 _ rfl
    simp only [Nat.add_zero] at d0
    have hleft := hwf.left S.rules[k] (List.getElem_mem p1)
    obtain ⟨j, hj⟩ : ∃ j : Nat, S.rules[k].1 = -1 - (j : Int) := ⟨(-1 - S.rules[k].1).toNat, by omega⟩
    have hjl : j < S.nons.length := by omega
    have ws : IntKind.i64.wrap (-1 - S.rules[k].1) = (j : Int) := by rw [show -1 - S.rules[k].1 = (j : Int) by omega]; exact IntWalk.i64_in _ (by omega)
    obtain ⟨g1, e1, dp, fp⟩ := hst.rowAt 1 rfl (j := j) (by rw [plcs_len]; exact hjl)
    injection e1 with e1; injection e1 with e1; subst e1
    rw [plcs_get hjl, ← hj] at dp
    have wk : IntKind.i64.wrap ((k : Int) + 1) = (k : Int) + 1 := IntWalk.i64_in _ (by omega)
    have htk : S.rules.take (k + 1) = S.rules.take k ++ [S.rules[k]] := List.take_succ_eq_append_getElem p1
    have hlt : leftsOf (S.rules.take (k + 1)) = addL (leftsOf (S.rules.take k)) S.rules[k].1 := by rw [htk, leftsOf_snoc]
    simp -dsimp [go_sem, zb, p1, d0, ws, hjl, dp]
    refine SPL_intro (fun p2 => ?_) (fun p2 => ?_) <;> simp at p2
    · have hno := plc_zero.1 p2
      have hadd : addL (leftsOf (S.rules.take k)) S.rules[k].1 = leftsOf (S.rules.take k) ++ [S.rules[k].1] := if_neg hno
      rw [hadd] at hlt
      have hln1 := leftsR_pos hwf (k + 1)
      rw [hlt, List.length_append] at hln1
      simp at hln1
      have hst2 := hst.old (Chg.refl noB w5).drew
      have z2 := s0.old hst2.chg
      have zb2 := z2.box 0 rfl
      have y2 := hst2.box 2 rfl
      simp [boxAt] at zb2 y2
      obtain ⟨F2, o2, _⟩ := z2.get (k := 2) rfl
      obtain ⟨g2, rfl, dn, _⟩ := row_at o2 (j := j) (by simpa using hjl)
      simp only [List.getElem_map] at dn
      have hnon : nonOf S S.rules[k].1 = S.nons[j] := by
        unfold nonOf
        rw [show (-1 - S.rules[k].1).toNat = j by omega, List.getElem?_eq_getElem hjl]; rfl
      have y2' := (hst2.old ((Chg.refl noB _).alloc (.cells #[.string S.nons[j]] 9))).box 2 rfl
      simp [boxAt] at y2'
      simp -dsimp [go_sem, zb2, y2, y2', hjl, dn]
      refine hst2.append1 4 rfl uStrs iStr rfl (by omega) (news := [.string S.nons[j]]) rfl (by simp [Value.oneCell']) (by unfold maxLen; omega) (by unfold maxBytes; omega) ?_
      intro g' cap w9 h9
      have y9 := h9.box 2 rfl
      simp [boxAt] at y9
      have h10 := h9.set 2 rfl 1 (.slice (some ⟨g', 0, none⟩) ((leftsOf (S.rules.take k)).length + 1) cap)
      simp -dsimp [go_sem, y9]
      generalize w9.setCell ⟨x, 1, none⟩ (.slice (some ⟨g', 0, none⟩) ((leftsOf (S.rules.take k)).length + 1) cap) = w10 at h10 ⊢
      obtain ⟨g1, e1, dp, fp⟩ := h10.rowAt 1 rfl (j := j) (by rw [plcs_len]; exact hjl)
      injection e1 with e1; injection e1 with e1; subst e1
      rw [plcs_get hjl] at dp
      have h11 := h10.setRow 1 rfl j (.int .i64 (((leftsOf (S.rules.take k)).length : Int) + 1))
      rw [plcs_set hjl (by rw [← hj]; exact hno), ← hj] at h11
      simp -dsimp [go_sem, hjl, dp, fp]
      unfold ref02_Builder_Grammar.b30
      simp -dsimp [go_sem, wk]
      refine hC _ _ ⟨k + 1, some ⟨g', 0, none⟩, cap, by simp, by omega, ?_⟩ (by simp [iv]; omega)
      have e3 : ((leftsOf (S.rules.take k)).map (nonOf S)).map Value.string ++ [.string S.nons[j]] = ((leftsOf (S.rules.take k) ++ [S.rules[k].1]).map (nonOf S)).map Value.string := by
        rw [List.map_append, List.map_append, ← hnon]; rfl
      rw [e3] at h11
      rw [hlt]
      simpa only [LR, List.length_append, List.length_singleton, List.set_cons_zero, List.set_cons_succ] using h11
    · have hyes : S.rules[k].1 ∈ leftsOf (S.rules.take k) := Classical.byContradiction fun h => p2 (plc_zero.2 h)
      have hadd : addL (leftsOf (S.rules.take k)) S.rules[k].1 = leftsOf (S.rules.take k) := if_pos hyes
      rw [hadd] at hlt
      unfold ref02_Builder_Grammar.b30
      simp -dsimp [go_sem, wk]
      refine hC _ _ ⟨k + 1, An, cn, by simp, by omega, ?_⟩ (by simp [iv]; omega)
      rw [hlt]
      exact hst
  · have hka : k = S.rules.length := by omega
    subst hka
    rw [List.take_length] at hst
    exact hK _ _ _ hst
end
end Go.Proofs.Ytmhebgebfjnfjaa

/-
  The document's builder: Grammar.
-/
namespace Go.Proofs.Ytmhebgebfjnfjaa
open Go.Px Go.Px.Scan Go.RowKit
set_option maxHeartbeats 1000000
set_option linter.unusedSimpArgs false
set_option linter.unusedVariables false
set_option linter.unusedSectionVars false
set_option maxRecDepth 100000
attribute [-go_sem] Builtin.append_
attribute [-go_sem] ref02_Builder_Grammar.b3 ref02_Builder_Grammar.b4 ref02_Builder_Grammar.b6 ref02_Builder_Grammar.b12 ref02_Builder_Grammar.b16 ref02_Builder_Grammar.b22 ref02_Builder_Grammar.b25 ref02_Builder_Grammar.b26 ref02_Builder_Grammar.b7

theorem bGram0 (a : Option Addr) (n c : Nat) (w : World) : (Instr.build 36 #[(0, .slice a n c)]).run Try.prog w = .ok (.agg #[.slice a n c, .slice none 0 0, .slice none 0 0, .int .i64 0, .slice none 0 0]) w := by simp [go_sem]
theorem bTerm0 (w : World) : (Instr.build 56 #[]).run Try.prog w = .ok (.agg #[.string ⟨#[]⟩, .int .i64 0]) w := by simp [go_sem]
attribute [go_sem ↓] bGram0 bTerm0
theorem gram_good {S : BS} (ok : BSok S) (hwf : BSwf S) : (∀ t ∈ (gramOf S).terms, t.1.size ≤ maxLen ∧ inI64 t.2) ∧ (∀ s ∈ (gramOf S).nons, s.size ≤ maxLen) ∧ (∀ x ∈ (gramOf S).levels, inI64 x) ∧ inI64 (gramOf S).start ∧ ∀ p ∈ (gramOf S).prods, inI64 p.1 ∧ (∀ x ∈ p.2.1, inI64 x) ∧ inI64 p.2.2 := by
  have hsy := ok.syms
  have hL := leftsOf_length_le hwf.left
  have symb : ∀ h : Int, inI64 (symOf (S.terms.length + 1) (leftsOf S.rules) h) := fun h => by
    have := symOf_lt (t := S.terms.length + 1) (L := leftsOf S.rules) (h := h)
    unfold inI64; omega
  have symb' : ∀ h : Int, h ≤ S.terms.length → -(S.nons.length : Int) ≤ h → inI64 (symH (S.terms.length + 1) (leftsOf S.rules) h) := fun h h1 h2 => by
    unfold symH
    split
    · exact symb h
    · unfold inI64; omega
  refine ⟨?_, ?_, ?_, ?_, ?_⟩
  · intro t ht
    rcases List.mem_cons.1 ht with rfl | ht
    · exact ⟨by unfold maxLen; decide, by unfold inI64; simp⟩
    · have h1 := (ok.tnam t ht).2.1
      have h2 := ok.grd t ht
      have := ok.lev
      exact ⟨by unfold maxLen; omega, by unfold inI64; omega⟩
  · intro s hs
    obtain ⟨h, _, rfl⟩ := List.mem_map.1 hs
    unfold nonOf
    cases e : S.nons[(-1 - h).toNat]? with
    | none => unfold maxLen; decide
    | some t => have := (ok.nnam t (List.mem_of_getElem? e)).2.1; simp only [Option.getD_some]; unfold maxLen; omega
  · intro x hx
    have := hwf.sides x hx
    unfold inI64; omega
  · exact symb _
  · intro p hp
    obtain ⟨r, hr', rfl⟩ := List.mem_map.1 hp
    have h1 := hwf.lev r hr'
    have := ok.lev
    refine ⟨symb _, fun x hx => ?_, by show inI64 r.2.2; unfold inI64; omega⟩
    obtain ⟨h, hh, rfl⟩ := List.mem_map.1 hx
    have := hwf.right r hr' h hh
    exact symb' h this.2.1 this.1

section
variable {R : Ending → World → Prop} {w : World} {F : Nat → Prop} {p q x pl : Nat} {S : BS} {a1 : Option Addr} {c1 : Nat} {a2 : Option Addr} {c2 : Nat} {a3 : Option Addr} {c3 : Nat} {a4 : Option Addr} {c4 : Nat} {vs : List Value}
  (s0 : St F w w (refL p S a1 c1 a2 c2 a3 c3 a4 c4 vs)) (ok : BSok S) (hwf : BSwf S) {At : Option Addr} {ct : Nat} {al : Option Addr} {cl : Nat} {An : Option Addr} {cn : Nat}
include s0 ok hwf

/-- The productions under way. -/
def LP (S : BS) (k : Nat) (Ap : Option Addr) (cp : Nat) (us : List Value) : List Ch :=
  [rowC 59 3 Ap k cp ((((S.rules.take k).map (pv S)).zip us).flatMap prodE), rowsC 3 1 us (((S.rules.take k).map (pv S)).map fun p => p.2.1.map (.int .i64 ·))]

theorem rprods_ok {w4 : World} {st : Int} (hall : S.nons.length ≤ (leftsOf S.rules).length) (hst0 : st = (gramOf S).start) (h4 : St noB w w4 (LR S q x pl (leftsOf S.rules) At ct An cn al cl st none 0 0))
    (hR : ∀ vg w', GrNew w w' vg (gramOf S) → R (.returned (.tuple #[vg, .int .i64 0])) w') :
    ref02_Builder_Grammar.b7 R (.pointer (some ⟨p, 0, none⟩)) (.pointer (some ⟨q, 0, none⟩)) (.slice (some ⟨pl, 0, none⟩) S.nons.length S.nons.length) (.pointer (some ⟨x, 0, none⟩)) w4 := by
  have hsy := ok.syms
  have hpr := ok.prods
  have h5 := h4.nilRow 59 3
  have h6 := h5.push (c := rowsC 3 1 [] []) ⟨rfl, fun i v xs h => by simp at h⟩
  unfold ref02_Builder_Grammar.b7
  refine ref02_Builder_Grammar.l9_intro _ _ _ _ _ _ _ (fun y w' => ∃ (k : Nat) (Ap : Option Addr) (cp : Nat) (us : List Value), y = .int .i64 k ∧ k ≤ S.rules.length ∧
    St noB w w' (LR S q x pl (leftsOf S.rules) At ct An cn al cl st Ap k cp ++ LP S k Ap cp us)) (fun y _ => S.rules.length - iv y) ⟨0, none, 0, [], rfl, by omega, by simpa [LP] using h6⟩ ?_
  rintro _ w6 ⟨k, Ap, cp, us, rfl, hk, hst⟩ C hC
  have z := s0.old hst.chg
  have zb := z.box 0 rfl
  simp [boxAt] at zb
  simp -dsimp [go_sem, zb]
  refine SPL_intro (fun p1 => ?_) (fun p1 => ?_) <;> simp at p1
  · obtain ⟨F5, o5, _⟩ := z.get (k := 5) rfl
    have hvl : vs.length = S.rules.length := by have := o5.1; simpa using this
    have hvk : k < vs.length := by omega
    obtain ⟨ar, n', cr, hv, hrow⟩ := o5.2 k vs[k] _ (List.getElem?_eq_getElem hvk) (by rw [List.getElem?_map, List.getElem?_eq_getElem p1]; rfl)
    have hn' : n' = S.rules[k].2.1.length := by have := (row_size hrow).1; simpa using this.symm
    subst hn'
    obtain ⟨F4, o4, _⟩ := z.get (k := 4) rfl
    obtain ⟨g, rfl, hcell, _⟩ := row_elem (enc := fun x : (Int × List Int × Int) × Value => ruleC x.1 x.2) (i := k) (x := (S.rules[k], vs[k])) o4 (fun _ _ => rfl) (by omega) (by simp [List.getElem?_zip_eq_some, p1, hvk])
    have d0 := hcell 0 _ rfl
    have d1 := hcell 1 _ rfl
    have d2 := hcell 2 _ rfl
    simp only [Nat.add_zero, hv] at d0 d1
    have hmem : S.rules[k].1 ∈ leftsOf S.rules := leftsOf_mem.2 ⟨_, List.getElem_mem p1, rfl⟩
    have hleft := hwf.left S.rules[k] (List.getElem_mem p1)
    have hlev := hwf.lev S.rules[k] (List.getElem_mem p1)
    have hright := hwf.right S.rules[k] (List.getElem_mem p1)
    have hfit := hwf.fit S.rules[k] (List.getElem_mem p1)
    generalize hrule : S.rules[k] = r at d0 d1 d2 hleft hlev hright hfit hv hrow hmem
    have hpl := plc_le (L := leftsOf S.rules) (h := r.1)
    have hLn := leftsOf_length_le hwf.left
    have hsym : symOf (S.terms.length + 1) (leftsOf S.rules) r.1 = (S.terms.length : Int) + plc (leftsOf S.rules) r.1 := symOf_plc hmem
    obtain ⟨j, hj⟩ : ∃ j : Nat, r.1 = -1 - (j : Int) := ⟨(-1 - r.1).toNat, by omega⟩
    have hjl : j < S.nons.length := by omega
    have ws : IntKind.i64.wrap (-1 - r.1) = (j : Int) := by rw [show -1 - r.1 = (j : Int) by omega]; exact IntWalk.i64_in _ (by omega)
    have wsl : IntKind.i64.wrap ((S.terms.length : Int) + plc (leftsOf S.rules) r.1) = (S.terms.length : Int) + plc (leftsOf S.rules) r.1 := IntWalk.i64_in _ (by omega)
    have h7 := (hst.alloc #[.int .i64 r.1, .slice ar r.2.1.length cr, .int .i64 r.2.2] 116)
    have h7d := h7.old (Chg.refl noB _).drew
    have h27 := h7d.alloc #[.int .i64 0, .slice none 0 0, .int .i64 0] 59
    have h8 := h7d.alloc #[.int .i64 ((S.terms.length : Int) + plc (leftsOf S.rules) r.1), .slice none 0 0, .int .i64 r.2.2] 59
    have hs7 : (w6.alloc (.cells #[.int .i64 r.1, .slice ar r.2.1.length cr, .int .i64 r.2.2] 116)).drew.heap.size = w6.heap.size + 1 := by simp
    rw [hs7] at h8 h27
    have z7 := (s0.old h7d.chg).box 0 rfl
    have z27 := (s0.old h27.chg).box 0 rfl
    have y7 := h7d.box 8 rfl
    have y27 := h27.box 8 rfl
    obtain ⟨g1, e1, dp7, _⟩ := h7d.rowAt 1 rfl (j := j) (by rw [plcs_len]; exact hjl)
    injection e1 with e1; injection e1 with e1; subst e1
    obtain ⟨g1, e1, dp27, _⟩ := h27.rowAt 1 rfl (j := j) (by rw [plcs_len]; exact hjl)
    injection e1 with e1; injection e1 with e1; subst e1
    rw [plcs_get hjl, ← hj] at dp7 dp27
    simp [boxAt] at z7 z27 y7 y27
    simp only [World.cell?_drew, World.alloc_drew] at dp7 dp27
    simp -dsimp [go_sem, zb, p1, d0, d1, d2, z7, z27, y7, y27, dp7, dp27, ws, wsl, hjl]
    rw [World.alloc_drew] at h8
    generalize w6.heap.size = rb at h8 ⊢
    generalize ((w6.alloc (.cells #[.int .i64 r.1, .slice ar r.2.1.length cr, .int .i64 r.2.2] 116)).alloc (.cells #[.int .i64 ((S.terms.length : Int) + plc (leftsOf S.rules) r.1), .slice none 0 0, .int .i64 r.2.2] 59)).drew = w8 at h8 ⊢
    have h9 := h8.nilRow 3 1
    refine ref02_Builder_Grammar.l19_intro _ _ _ _ _ _ _ _ _ _ (fun y w' => ∃ (j : Nat) (Ar : Option Addr) (cr' : Nat), y = .int .i64 j ∧ j ≤ r.2.1.length ∧
      St noB w w' (LR S q x pl (leftsOf S.rules) At ct An cn al cl st Ap k cp ++ LP S k Ap cp us ++ [boxC rb 116 [.int .i64 r.1, .slice ar r.2.1.length cr, .int .i64 r.2.2], boxC (rb + 1) 59 [.int .i64 ((S.terms.length : Int) + plc (leftsOf S.rules) r.1), .slice Ar j cr', .int .i64 r.2.2],
        rowC 3 1 Ar j cr' (((r.2.1.take j).map (symH (S.terms.length + 1) (leftsOf S.rules))).map (.int .i64 ·))])) (fun y _ => r.2.1.length - iv y) ⟨0, none, 0, rfl, by omega, by simpa [LR, LP] using h9⟩ ?_
    rintro _ w10 ⟨j, Ar, cr', rfl, hj, hst10⟩ C' hC'
    have y10 := hst10.box 8 rfl
    simp [boxAt] at y10
    simp -dsimp [go_sem, y10]
    refine SPL_intro (fun p2 => ?_) (fun p2 => ?_) <;> simp at p2
    · obtain ⟨F5, o5, _⟩ := (s0.old hst10.chg).get (k := 5) rfl
      obtain ⟨ar', n', cr'', hv', hrow'⟩ := o5.2 k vs[k] _ (List.getElem?_eq_getElem hvk) (by rw [List.getElem?_map, List.getElem?_eq_getElem (by omega)]; rfl)
      rw [hv] at hv'
      injection hv' with e1 e2 e3
      subst e1 e2 e3
      rw [hrule] at hrow'
      obtain ⟨b1, rfl, x1, _⟩ := row_at hrow' (j := j) (by simpa using p2)
      simp only [List.getElem_map] at x1
      have hel := hright _ (List.getElem_mem p2)
      have hsz := (row_size hrow')
      have wj := wrap_succ p2 (by omega)
      have htk : r.2.1.take (j + 1) = r.2.1.take j ++ [r.2.1[j]] := List.take_succ_eq_append_getElem p2
      have fin : ∀ (x1 : Int) (w10 : World), x1 = symH (S.terms.length + 1) (leftsOf S.rules) r.2.1[j] → St noB w w10 (LR S q x pl (leftsOf S.rules) At ct An cn al cl st Ap k cp ++ LP S k Ap cp us ++ [boxC rb 116 [.int .i64 r.1, .slice (some ⟨b1, 0, none⟩) r.2.1.length cr, .int .i64 r.2.2], boxC (rb + 1) 59 [.int .i64 ((S.terms.length : Int) + plc (leftsOf S.rules) r.1), .slice Ar j cr', .int .i64 r.2.2],
        rowC 3 1 Ar j cr' (((r.2.1.take j).map (symH (S.terms.length + 1) (leftsOf S.rules))).map (.int .i64 ·))]) → ref02_Builder_Grammar.b25 R C C' (.pointer (some ⟨rb + 1, 0, none⟩)) (.int .i64 j) (.int .i64 x1) w10 := by
        intro x1 w10 hx hst10
        have y10 := hst10.box 9 rfl
        simp [boxAt] at y10
        unfold ref02_Builder_Grammar.b25
        simp -dsimp [go_sem, y10]
        refine hst10.append1 10 rfl uInts iInt rfl (by omega) (news := [.int .i64 x1]) rfl (by simp [Value.oneCell']) (by omega) (by omega) ?_
        intro g' cap w11 h11
        have y11 := h11.box 9 rfl
        simp [boxAt] at y11
        have h12 := h11.set 9 rfl 1 (.slice (some ⟨g', 0, none⟩) (j + 1) cap)
        simp -dsimp [go_sem, y11]
        unfold ref02_Builder_Grammar.b22
        simp -dsimp [go_sem, wj]
        have em : ((r.2.1.take j).map (symH (S.terms.length + 1) (leftsOf S.rules))).map (Value.int .i64 ·) ++ [.int .i64 x1] = ((r.2.1.take (j + 1)).map (symH (S.terms.length + 1) (leftsOf S.rules))).map (Value.int .i64 ·) := by
          rw [htk, List.map_append, List.map_append, hx]; rfl
        rw [em] at h12
        exact hC' _ _ ⟨j + 1, _, _, by simp, by omega, h12⟩ (by simp [iv]; omega)
      simp -dsimp [go_sem, y10, p2, x1]
      refine SPL_intro (fun p3 => ?_) (fun p3 => ?_) <;> simp at p3
      · have hm := all_left hwf hall hel.1 p3
        have hpl := plc_le (L := leftsOf S.rules) (h := r.2.1[j])
        have hsym : symH (S.terms.length + 1) (leftsOf S.rules) r.2.1[j] = (S.terms.length : Int) + plc (leftsOf S.rules) r.2.1[j] := by
          unfold symH; rw [if_pos p3]; exact symOf_plc hm
        obtain ⟨i, hi⟩ : ∃ i : Nat, r.2.1[j] = -1 - (i : Int) := ⟨(-1 - r.2.1[j]).toNat, by omega⟩
        have hil : i < S.nons.length := by omega
        have wi : IntKind.i64.wrap (-1 - r.2.1[j]) = (i : Int) := by rw [show -1 - r.2.1[j] = (i : Int) by omega]; exact IntWalk.i64_in _ (by omega)
        have ws2 : IntKind.i64.wrap ((S.terms.length : Int) + plc (leftsOf S.rules) r.2.1[j]) = (S.terms.length : Int) + plc (leftsOf S.rules) r.2.1[j] := IntWalk.i64_in _ (by omega)
        have hst11 := hst10.old (Chg.refl noB w10).drew
        have zb := (s0.old hst11.chg).box 0 rfl
        simp [boxAt] at zb
        obtain ⟨g1, e1, dp, _⟩ := hst10.rowAt 1 rfl (j := i) (by rw [plcs_len]; exact hil)
        injection e1 with e1; injection e1 with e1; subst e1
        rw [plcs_get hil, ← hi] at dp
        simp -dsimp [go_sem, zb, wi, hil, dp, ws2]
        exact fin _ _ hsym.symm hst11
      · exact fin _ _ (by unfold symH; rw [if_neg (by omega)]) hst10
    · have hja : j = r.2.1.length := by omega
      subst hja
      rw [List.take_length] at hst10
      have y9 := hst10.box 9 rfl
      have y3 := hst10.box 2 rfl
      simp [boxAt] at y9 y3
      have hc' := (hst10.rowSize 10 rfl)
      unfold ref02_Builder_Grammar.b16
      simp -dsimp [go_sem, y9, y3]
      refine hst10.append1 6 rfl uProds iProd rfl (by omega) (news := [.int .i64 ((S.terms.length : Int) + plc (leftsOf S.rules) r.1), .slice Ar r.2.1.length cr', .int .i64 r.2.2]) rfl (by simp [Value.oneCell']) (by unfold maxLen; omega) (by unfold maxBytes; omega) ?_
      intro g' cap w11 h11
      have y11 := h11.box 2 rfl
      simp [boxAt] at y11
      have h12 := h11.set 2 rfl 4 (.slice (some ⟨g', 0, none⟩) (k + 1) cap)
      have wk : IntKind.i64.wrap ((k : Int) + 1) = (k : Int) + 1 := IntWalk.i64_in _ (by omega)
      simp -dsimp [go_sem, y11]
      unfold ref02_Builder_Grammar.b12
      simp -dsimp [go_sem, wk]
      obtain ⟨Fv, hov, _⟩ := hst10.get (k := 7) rfl
      have hul : us.length = k := by have := hov.1; simp at this; omega
      have h13 := h12.merge (j := 10) (k := 7) rfl rfl (by omega) (e := rowsC 3 1 (us ++ [.slice Ar r.2.1.length cr']) ((((S.rules.take k).map (pv S)).map fun p => p.2.1.map (.int .i64 ·)) ++ [(r.2.1.map (symH (S.terms.length + 1) (leftsOf S.rules))).map (.int .i64 ·)])) fun F F' h1 h2 => rowsC_snoc h1 h2
      have htk : S.rules.take (k + 1) = S.rules.take k ++ [r] := by rw [← hrule]; exact List.take_succ_eq_append_getElem p1
      have e1 : ((S.rules.take (k + 1)).map (pv S)) = (S.rules.take k).map (pv S) ++ [pv S r] := by rw [htk, List.map_append]; rfl
      have e2 : (((S.rules.take (k + 1)).map (pv S)).map fun p => p.2.1.map (Value.int .i64 ·)) = (((S.rules.take k).map (pv S)).map fun p => p.2.1.map (Value.int .i64 ·)) ++ [(r.2.1.map (symH (S.terms.length + 1) (leftsOf S.rules))).map (.int .i64 ·)] := by rw [e1, List.map_append]; rfl
      have e3 : ((((S.rules.take (k + 1)).map (pv S)).zip (us ++ [.slice Ar r.2.1.length cr'])).flatMap prodE) = ((((S.rules.take k).map (pv S)).zip us).flatMap prodE) ++ [.int .i64 ((S.terms.length : Int) + plc (leftsOf S.rules) r.1), .slice Ar r.2.1.length cr', .int .i64 r.2.2] := by
        rw [e1, List.zip_append (by simp [hul]; omega), List.flatMap_append]
        congr 1
        simp [prodE, pv, hsym]
      rw [← e2, ← e3] at h13
      refine hC _ _ ⟨k + 1, _, _, _, by simp, by omega, h13.take 8⟩ (by simp [iv]; omega)
  · have hka : k = S.rules.length := by omega
    subst hka
    unfold LP at hst
    rw [List.take_length] at hst
    have y6 := hst.box 2 rfl
    have yq := hst.box 0 rfl
    simp [boxAt] at y6
    simp [boxAt, zG] at yq
    have h7 := ((((hst.set 0 rfl 0 (.slice At (S.terms.length + 1) ct)).set 0 rfl 1 (.slice An (leftsOf S.rules).length cn)).set 0 rfl 2 (.slice al S.levels.length cl)).set 0 rfl 3 (.int .i64 st)).set 0 rfl 4 (.slice Ap S.rules.length cp)
    have yq7 := h7.box 0 rfl
    simp [boxAt, zG] at yq7
    unfold ref02_Builder_Grammar.b6
    simp -dsimp [go_sem, y6, yq, yq7]
    obtain ⟨q1, q2, q3, q4, q5⟩ := gram_good ok hwf
    refine hR _ _ ⟨At, ct, An, cn, al, cl, Ap, cp, us, ?_, h7.pick [3, 4, 5, 6, 7] (by decide) ?_, q1, q2, q3, q4, q5⟩
    · rw [hst0]; simp [gramOf]
    · simp [gramOf, zG, LR]

set_option maxHeartbeats 4000000 in
theorem rGrammar_ct' : Ct Try.prog ref02_Builder_Grammar.id #[.pointer (some ⟨p, 0, none⟩)] w fun v w' => GrAns S w v w' := by
  refine ref02_Builder_Grammar.ct fun R hR => ?_
  have hsy := ok.syms
  have hpr := ok.prods
  have hlv := ok.lev
  have no : ∀ w', Chg noB w w' → ¬ (S.rules ≠ [] ∧ S.nons.length ≤ (leftsOf S.rules).length) → R (.returned (.tuple #[.agg zG.toArray, .int .i64 1])) w' := fun w' hc hn =>
    hR _ _ ⟨hc, fun ht => absurd (of_decide_eq_true ht) hn, fun _ => rfl⟩
  unfold ref02_Builder_Grammar.run
  have h1 := (St.refl noB w).alloc #[.slice none 0 0, .slice none 0 0, .slice none 0 0, .int .i64 0, .slice none 0 0] 36
  have z1 := (s0.old h1.chg).box 0 rfl
  simp [boxAt] at z1
  simp -dsimp [go_sem, z1]
  generalize w.heap.size = q at h1 ⊢
  generalize w.alloc (.cells #[.slice none 0 0, .slice none 0 0, .slice none 0 0, .int .i64 0, .slice none 0 0] 36) = w1 at h1 z1 ⊢
  have y1 := h1.box 0 rfl
  simp [boxAt] at y1
  refine SPL_intro (fun q1 => ?_) (fun q1 => ?_) <;> simp at q1
  · simp -dsimp [go_sem, y1]
    refine no _ ?_ fun hn => hn.1 q1
    exact (((((h1.set 0 rfl 0 _).set 0 rfl 1 _).set 0 rfl 2 _).set 0 rfl 3 _).set 0 rfl 4 _).chg
  have h2 := h1.lit 3 1 S.nons.length (Array.replicate S.nons.length (Value.int .i64 0)) (by unfold maxLen; omega) (by simp)
  have h3 := h2.lit 56 2 1 #[.string ⟨#[]⟩, .int .i64 0] (by simp [maxLen]) rfl
  have hs2 : (w1.alloc (.cells (Array.replicate S.nons.length (Value.int .i64 0)) 3)).heap.size = w1.heap.size + 1 := by simp
  rw [hs2] at h3
  have h4 := h3.alloc #[.slice (some ⟨w1.heap.size + 1, 0, none⟩) 1 1, .slice none 0 0, .slice none 0 0, .int .i64 0, .slice none 0 0] 36
  have hs3 : ((w1.alloc (.cells (Array.replicate S.nons.length (Value.int .i64 0)) 3)).alloc (.cells #[.string ⟨#[]⟩, .int .i64 0] 56)).heap.size = w1.heap.size + 1 + 1 := by simp
  rw [hs3] at h4
  have h4d := h4.old (Chg.refl noB _).drew
  have hmk := mkZeros w1 S.nons.length (by unfold maxBytes; omega)
  have z4 := (s0.old h4.chg).box 0 rfl
  simp [boxAt] at z4
  simp -dsimp [go_sem, z1, hmk, z4]
  obtain ⟨F1, o1, _⟩ := (s0.old h4d.chg).get (k := 1) rfl
  generalize (((w1.alloc (.cells (Array.replicate S.nons.length (Value.int .i64 0)) 3)).alloc (.cells #[.string ⟨#[]⟩, .int .i64 0] 56)).alloc (.cells #[.slice (some ⟨w1.heap.size + 1, 0, none⟩) 1 1, .slice none 0 0, .slice none 0 0, .int .i64 0, .slice none 0 0] 36)).drew = w4 at h4d o1 ⊢
  generalize w1.heap.size + 1 + 1 = x at h4d ⊢
  refine h4d.appendR 2 rfl uTerms iTerm rfl (by omega) o1 (by
    intro u hu
    obtain ⟨t, _, hu⟩ := List.mem_flatMap.1 hu
    simp [termE] at hu
    rcases hu with rfl | rfl <;> rfl) (by unfold maxLen; omega) (by unfold maxBytes; omega) ?_
  intro At ct w5 h5
  have y5 := h5.box 3 rfl
  simp [boxAt] at y5
  have h6 := h5.set 3 rfl 0 (.slice At (1 + S.terms.length) ct)
  have h6d := h6.old (Chg.refl noB _).drew
  have z6 := (s0.old h6.chg).box 0 rfl
  have y6 := h6.box 3 rfl
  simp [boxAt] at z6 y6
  simp -dsimp [go_sem, y5, y6, z6]
  have h7 := h6d.nilRow 3 1
  obtain ⟨F3, o3, _⟩ := (s0.old h7.chg).get (k := 3) rfl
  refine h7.appendR 4 rfl uInts iInt rfl (by omega) o3 (by
    intro u hu
    obtain ⟨t, _, rfl⟩ := List.mem_map.1 hu
    rfl) (by unfold maxLen; omega) (by unfold maxBytes; omega) ?_
  intro al cl w8 h8
  have y8 := h8.box 3 rfl
  simp [boxAt] at y8
  have h9 := (h8.set 3 rfl 2 (.slice al (0 + S.levels.length) cl)).nilRow 9 1
  simp only [Nat.zero_add] at h9 ⊢
  simp -dsimp [go_sem, y8]
  have e0 : (1 + S.terms.length) = S.terms.length + 1 := by omega
  have e1 : [Value.string ⟨#[]⟩, .int .i64 0] ++ S.terms.flatMap termE = (gramOf S).terms.flatMap termE := by simp [gramOf, termE]
  have h10 : St noB w _ (LR S q x w1.heap.size [] At ct none 0 al cl 0 none 0 0) := h9.pick [0, 1, 3, 2, 5, 4] (by decide) (by simp [LR, plcs_nil, zG, e0, ← e1])
  refine rlefts_ok s0 ok hwf h10 fun An cn w11 h11 => ?_
  unfold ref02_Builder_Grammar.b3
  have h11d := h11.old (Chg.refl noB _).drew
  have z11 := (s0.old h11d.chg).box 0 rfl
  have y11 := h11d.box 2 rfl
  have yq := h11d.box 0 rfl
  simp [boxAt] at z11 y11
  simp [boxAt, zG] at yq
  simp -dsimp [go_sem, z11, y11]
  refine SPL_intro (fun p1 => ?_) (fun p1 => ?_) <;> simp at p1
  · simp -dsimp [go_sem, yq]
    refine no _ ?_ fun hn => by have := hn.2; omega
    exact (((((h11d.set 0 rfl 0 _).set 0 rfl 1 _).set 0 rfl 2 _).set 0 rfl 3 _).set 0 rfl 4 _).chg
  · have hpos : 0 < S.rules.length := List.length_pos_iff.2 q1
    have hall : S.nons.length ≤ (leftsOf S.rules).length := by omega
    have hLn := leftsOf_length_le hwf.left
    have fin : ∀ (first : Int) (w12 : World), first ∈ leftsOf S.rules → first = (if S.start = 0 then (S.rules.head?.map (·.1)).getD 0 else S.start) → St noB w w12 (LR S q x w1.heap.size (leftsOf S.rules) At ct An cn al cl 0 none 0 0) →
        ref02_Builder_Grammar.b4 R (.pointer (some ⟨p, 0, none⟩)) (.pointer (some ⟨q, 0, none⟩)) (.slice (some ⟨w1.heap.size, 0, none⟩) S.nons.length S.nons.length) (.pointer (some ⟨x, 0, none⟩)) (.int .i64 first) w12 := by
      intro first w12 hm he h12
      unfold ref02_Builder_Grammar.b4
      have hpl := plc_le (L := leftsOf S.rules) (h := first)
      have hsym : symOf (S.terms.length + 1) (leftsOf S.rules) first = (S.terms.length : Int) + plc (leftsOf S.rules) first := symOf_plc hm
      obtain ⟨r, hr, hr1⟩ := leftsOf_mem.1 hm
      have hlf := hwf.left r hr
      rw [hr1] at hlf
      obtain ⟨j, hj⟩ : ∃ j : Nat, first = -1 - (j : Int) := ⟨(-1 - first).toNat, by omega⟩
      have hjl : j < S.nons.length := by omega
      have ws : IntKind.i64.wrap (-1 - first) = (j : Int) := by rw [show -1 - first = (j : Int) by omega]; exact IntWalk.i64_in _ (by omega)
      have wsl : IntKind.i64.wrap ((S.terms.length : Int) + plc (leftsOf S.rules) first) = (S.terms.length : Int) + plc (leftsOf S.rules) first := IntWalk.i64_in _ (by omega)
      have h12d := h12.old (Chg.refl noB _).drew
      have z12 := (s0.old h12d.chg).box 0 rfl
      have y12 := h12d.box 2 rfl
      simp [boxAt] at z12 y12
      obtain ⟨g1, e1, dp, _⟩ := h12.rowAt 1 rfl (j := j) (by rw [plcs_len]; exact hjl)
      injection e1 with e1; injection e1 with e1
      rw [plcs_get hjl, ← hj, ← e1] at dp
      have h13 := (h12.set 2 rfl 3 (.int .i64 ((S.terms.length : Int) + plc (leftsOf S.rules) first))).old (Chg.refl noB _).drew
      simp -dsimp [go_sem, z12, y12, dp, ws, wsl, hjl]
      refine rprods_ok s0 ok hwf hall (st := (S.terms.length : Int) + plc (leftsOf S.rules) first) (by rw [← hsym, he]; rfl) h13 fun vg w14 hG => hR _ _ ⟨hG.chg, fun _ => ⟨vg, rfl, hG⟩, fun ht => ?_⟩
      exact absurd ⟨q1, hall⟩ (of_decide_eq_false ht)
    simp -dsimp [go_sem, z11]
    refine SPL_intro (fun p2 => ?_) (fun p2 => ?_) <;> simp at p2
    · obtain ⟨F5, o5, _⟩ := (s0.old h11d.chg).get (k := 5) rfl
      have hvl : vs.length = S.rules.length := by have := o5.1; simpa using this
      obtain ⟨F4, o4, _⟩ := (s0.old h11d.chg).get (k := 4) rfl
      obtain ⟨g, rfl, hcell, _⟩ := row_elem (enc := fun x : (Int × List Int × Int) × Value => ruleC x.1 x.2) (i := 0) (x := (S.rules[0], vs[0])) o4 (fun _ _ => rfl) (by omega) (by simp [List.getElem?_zip_eq_some, hpos, hvl])
      have d0 := hcell 0 _ rfl
      simp at d0
      simp -dsimp [go_sem, z11, hpos, d0]
      have hh : (S.rules.head?.map (·.1)).getD 0 = S.rules[0].1 := by
        rw [List.head?_eq_getElem?, List.getElem?_eq_getElem hpos]; rfl
      exact fin _ _ (leftsOf_mem.2 ⟨_, List.getElem_mem hpos, rfl⟩) (by rw [if_pos p2, hh]) h11d
    · have := hwf.start
      exact fin _ _ (all_left hwf hall this.1 (by omega)) (by rw [if_neg p2]) h11d
end

theorem rGrammar_ct {w : World} {F : Nat → Prop} {p : Nat} {S : BS} (h : (refC p S).ok w F) (ok : BSok S) (hwf : BSwf S) : Ct Try.prog ref02_Builder_Grammar.id #[.pointer (some ⟨p, 0, none⟩)] w fun v w' => GrAns S w v w' := by
  obtain ⟨a1, c1, a2, c2, a3, c3, a4, c4, vs, hp⟩ := h
  exact rGrammar_ct' (St.enter hp) ok hwf
end Go.Proofs.Ytmhebgebfjnfjaa

