/-
  The document's Copy of a grammar: it reads as the grammar does.
-/
import Derived.Test.YtkacbjhiobnbfaaPa
import Derived.Test.YtkacbjhiobnbfaaMc
namespace Go.Px
open Go.RowKit
/-- A row reads, element by element. -/
theorem row_reads {α β : Type} {r : Rep α} {enc : β → List Value} {w : World} {F : Nat → Prop} {e B : Nat} {a : Option Addr} {n c : Nat} {m : List β} {l : List α} (h : (rowC e r.size a n c (m.flatMap enc)).ok w F) (hs : ∀ x ∈ m, (enc x).length = r.size) (hpos : 0 < r.size) (hm : m.length = n) (hl : l.length = n)
    (hr : ∀ (i : Nat) x y, m[i]? = some x → l[i]? = some y → r.ok w B (enc x) y) (hB : w.heap.size ≤ B) : (rSlice r).at1 w B (.slice a n c) l := by
  obtain ⟨_, hnc, hcm⟩ := row_size h
  subst hl
  refine ⟨a, c, rfl, hnc, hcm, trivial, fun hp => ?_⟩
  obtain ⟨g, hg, _, _, _, hlt⟩ := row_elem h hs hpos (i := 0) (x := m[0]) (List.getElem?_eq_getElem (by omega))
  refine ⟨g, 0, hg, by omega, fun i y hy => ?_⟩
  have hi := (List.getElem?_eq_some_iff.1 hy).1
  obtain ⟨g', hg', hc, _⟩ := row_elem h hs hpos (i := i) (x := m[i]) (List.getElem?_eq_getElem (by omega))
  rw [hg] at hg'
  injection hg' with hg'; injection hg' with hg'; subst hg'
  refine ⟨enc m[i], hr i _ _ (List.getElem?_eq_getElem (by omega)) hy, fun j u hj => ?_⟩
  rw [Nat.zero_add]
  exact hc j u hj
end Go.Px
namespace Go.Proofs.Ytkacbjhiobnbfaa
open Go.Px Go.Px.Scan Go.RowKit
set_option maxHeartbeats 1000000
set_option linter.unusedSimpArgs false
set_option linter.unusedVariables false
set_option maxRecDepth 100000
attribute [-go_sem] Builtin.append_
attribute [-go_sem] ref02_Copy.b3 ref02_Copy.b7 ref02_Copy.b4

def cTerm (t : ByteArray × Int) : List Value := [.string t.1, .int .i64 t.2]
def cStr (s : ByteArray) : List Value := [.string s]
def cInt (x : Int) : List Value := [.int .i64 x]
def cPr (p : (Int × List Int × Int) × Value) : List Value := [.int .i64 p.1.1, p.2, .int .i64 p.1.2.2]
theorem cInt_flat (l : List Int) : l.flatMap cInt = l.map (.int .i64 ·) := flat_one _ _
theorem bProdC (x y : Int) (w : World) : (Instr.build 47 #[(0, .int .i64 x), (2, .int .i64 y)]).run Try.prog w = .ok (.agg #[.int .i64 x, .slice none 0 0, .int .i64 y]) w := by simp [go_sem]
theorem bGramC (x : Int) (w : World) : (Instr.build 27 #[(3, .int .i64 x)]).run Try.prog w = .ok (.agg #[.slice none 0 0, .slice none 0 0, .slice none 0 0, .int .i64 x, .slice none 0 0]) w := by simp [go_sem]
attribute [go_sem ↓] bProdC bGramC

/-- What a copy's memory is. -/
def CpL (q rb ob : Nat) (g : Gr) (A1 : Option Addr) (c1 : Nat) (A2 : Option Addr) (c2 : Nat) (A3 : Option Addr) (c3 : Nat) (A4 : Option Addr) (c4 : Nat) (At : Option Addr) (ct : Nat) (An : Option Addr) (cn : Nat) (Al : Option Addr) (cl : Nat) (k : Nat) (Ap : Option Addr) (cp : Nat) (vs : List Value) : List Ch :=
  [boxC q 27 [.slice A1 g.terms.length c1, .slice A2 g.nons.length c2, .slice A3 g.levels.length c3, .int .i64 g.start, .slice A4 g.prods.length c4],
   boxC rb 27 [.slice none 0 0, .slice none 0 0, .slice none 0 0, .int .i64 0, .slice none 0 0],
   boxC ob 27 [.slice At g.terms.length ct, .slice An g.nons.length cn, .slice Al g.levels.length cl, .int .i64 g.start, .slice Ap k cp],
   rowC 106 2 At g.terms.length ct (g.terms.flatMap cTerm), rowC 9 1 An g.nons.length cn (g.nons.flatMap cStr), rowC 3 1 Al g.levels.length cl (g.levels.flatMap cInt),
   rowC 47 3 Ap k cp (((g.prods.take k).zip vs).flatMap cPr), rowsC 3 1 vs ((g.prods.take k).map fun p => p.2.1.flatMap cInt)]

structure GFit (g : Gr) : Prop where
  terms : g.terms.length * 24 ≤ maxBytes
  nons : g.nons.length * 16 ≤ maxBytes
  levels : g.levels.length * 8 ≤ maxBytes
  prods : g.prods.length * 40 ≤ maxBytes
  right : ∀ p ∈ g.prods, p.2.1.length * 8 ≤ maxBytes
theorem reach_max {n : Nat} (h : n ≤ reachN) : n ≤ maxBytes := Nat.le_trans h (by decide)
theorem gram_fit {g : Gr} (h : rGram.fit g) : GFit g where
  terms := reach_max h.1.1
  nons := reach_max h.2.1.1
  levels := reach_max h.2.2.1.1
  prods := reach_max h.2.2.2.2.1
  right p hp := reach_max (h.2.2.2.2.2 p hp).2.1.1

theorem Copy_ct {w : World} {B : Nat} {vg : Value} {g : Gr} (h : rGram.atN w B vg g) (hB : B ≤ w.heap.size) (hfit : GFit g) : Ct Try.prog ref02_Copy.id #[vg] w fun v w' => rGram.atN w' w'.heap.size v g ∧ Chg noB w w' := by
  refine ref02_Copy.ct fun R hR => ?_
  obtain ⟨A1, c1, A2, c2, A3, c3, A4, c4, rfl, h1, h2, h3, hst, h4, k1, k2, k3, k4⟩ := (rGram_open h).ex
  obtain ⟨g1, g2, g3, g4, g5⟩ := hfit
  obtain ⟨q, hq⟩ : ∃ q, w.heap.size = q := ⟨_, rfl⟩
  obtain ⟨rb, hrb⟩ : ∃ rb, (w.alloc (.cells #[.slice A1 g.terms.length c1, .slice A2 g.nons.length c2, .slice A3 g.levels.length c3, .int .i64 g.start, .slice A4 g.prods.length c4] 27)).heap.size = rb := ⟨_, rfl⟩
  obtain ⟨ob, hob⟩ : ∃ ob, ((w.alloc (.cells #[.slice A1 g.terms.length c1, .slice A2 g.nons.length c2, .slice A3 g.levels.length c3, .int .i64 g.start, .slice A4 g.prods.length c4] 27)).alloc (.cells #[.slice none 0 0, .slice none 0 0, .slice none 0 0, .int .i64 0, .slice none 0 0] 27)).heap.size = ob := ⟨_, rfl⟩
  have s1 := ((St.refl noB w).alloc #[.slice A1 g.terms.length c1, .slice A2 g.nons.length c2, .slice A3 g.levels.length c3, .int .i64 g.start, .slice A4 g.prods.length c4] 27).alloc #[.slice none 0 0, .slice none 0 0, .slice none 0 0, .int .i64 0, .slice none 0 0] 27
  rw [hq] at s1
  have cs := (s1.box 0 rfl).1.2.2.2.1
  have s2 := (((St.refl noB w).alloc #[.slice A1 g.terms.length c1, .slice A2 g.nons.length c2, .slice A3 g.levels.length c3, .int .i64 g.start, .slice A4 g.prods.length c4] 27).alloc #[.slice none 0 0, .slice none 0 0, .slice none 0 0, .int .i64 0, .slice none 0 0] 27).alloc #[.slice none 0 0, .slice none 0 0, .slice none 0 0, .int .i64 g.start, .slice none 0 0] 27
  rw [hq, hrb, hob] at s2
  unfold ref02_Copy.run
  simp -dsimp [go_sem, hq, hrb, hob, cs]
  generalize ((w.alloc (.cells #[.slice A1 g.terms.length c1, .slice A2 g.nons.length c2, .slice A3 g.levels.length c3, .int .i64 g.start, .slice A4 g.prods.length c4] 27)).alloc (.cells #[.slice none 0 0, .slice none 0 0, .slice none 0 0, .int .i64 0, .slice none 0 0] 27)).alloc (.cells #[.slice none 0 0, .slice none 0 0, .slice none 0 0, .int .i64 g.start, .slice none 0 0] 27) = W3 at s2 ⊢
  clear s1 cs hrb hob
  have y3 := s2.box 2 rfl
  have z3 := s2.box 0 rfl
  simp [boxAt] at y3 z3
  simp -dsimp [go_sem, y3, z3]
  have s3 := ((s2.nilRow 106 2).nilRow 9 1).nilRow 3 1
  have rdg : ∀ w', Chg noB w w' → rGram.atN w' B (.agg #[.slice A1 g.terms.length c1, .slice A2 g.nons.length c2, .slice A3 g.levels.length c3, .int .i64 g.start, .slice A4 g.prods.length c4]) g := fun w' hc => rGram_below h (hc.below hB fun _ _ => id)
  have bl : ∀ {w' : World}, Chg noB w w' → Below B w w' := fun hc => hc.below hB fun _ _ => id
  refine s3.appendRd (r := rTerm) (enc := cTerm) 3 rfl uTerms iTerm rfl (by decide) (Rep.below h1 (bl s3.chg)) (fun ⟨_, _, e, h2, h3⟩ _ => by obtain ⟨rfl, _⟩ := h2; obtain ⟨rfl, _⟩ := h3; exact e) (fun x _ u hu => by simp [cTerm] at hu; rcases hu with rfl | rfl <;> rfl) (fun _ _ => rfl) (by omega) (by omega) ?_
  intro At ct w4 s4
  rw [Nat.zero_add] at s4 ⊢
  have y4 := s4.box 2 rfl
  have z4 := s4.box 0 rfl
  simp [boxAt] at y4 z4
  have s5 := s4.set 2 rfl 0 (.slice At g.terms.length ct)
  simp -dsimp [go_sem, y4, z4]
  generalize w4.setCell ⟨ob, 0, none⟩ (.slice At g.terms.length ct) = w5 at s5 ⊢
  refine s5.appendRd (r := rStr) (enc := cStr) 4 rfl uStrs iStr rfl (by decide) (Rep.below h2 (bl s5.chg)) (fun h _ => h.1) (fun x _ u hu => by simp [cStr] at hu; rcases hu with rfl | rfl <;> rfl) (fun _ _ => rfl) (by omega) (by omega) ?_
  intro An cn w6 s6
  rw [Nat.zero_add] at s6 ⊢
  have y6 := s6.box 2 rfl
  have z6 := s6.box 0 rfl
  simp [boxAt] at y6 z6
  have s7 := s6.set 2 rfl 1 (.slice An g.nons.length cn)
  have y7 := s7.box 2 rfl
  have z7 := s7.box 0 rfl
  simp [boxAt] at y7 z7
  simp -dsimp [go_sem, y6, z6]
  generalize w6.setCell ⟨ob, 1, none⟩ (.slice An g.nons.length cn) = w7 at s7 ⊢
  refine s7.appendRd (r := rInt) (enc := cInt) 5 rfl uInts iInt rfl (by decide) (Rep.below h3 (bl s7.chg)) (fun h _ => h.1) (fun x _ u hu => by simp [cInt] at hu; rcases hu with rfl | rfl <;> rfl) (fun _ _ => rfl) (by omega) (by omega) ?_
  intro Al cl w8 s8
  rw [Nat.zero_add] at s8 ⊢
  have y8 := s8.box 2 rfl
  simp [boxAt] at y8
  have s9 := s8.set 2 rfl 2 (.slice Al g.levels.length cl)
  simp -dsimp [go_sem, y8]
  generalize w8.setCell ⟨ob, 2, none⟩ (.slice Al g.levels.length cl) = w9 at s9 ⊢
  have s10 : St noB w w9 (CpL q rb ob g A1 c1 A2 c2 A3 c3 A4 c4 At ct An cn Al cl 0 none 0 []) := by
    have h1 := (s9.nilRow 47 3).push (c := rowsC 3 1 [] []) ⟨rfl, fun i v xs h => by simp at h⟩
    exact h1
  clear s2 s3 s4 s5 s6 s7 s8 s9 y4 z4 y6 z6 y8 y3 z3
  unfold ref02_Copy.b4
  refine ref02_Copy.l6_intro _ _ _ _ _ _ (fun y w' => ∃ (k : Nat) (Ap : Option Addr) (cp : Nat) (vs : List Value), y = .int .i64 k ∧ k ≤ g.prods.length ∧ St noB w w' (CpL q rb ob g A1 c1 A2 c2 A3 c3 A4 c4 At ct An cn Al cl k Ap cp vs)) (fun y _ => g.prods.length - iv y) ⟨0, none, 0, [], rfl, Nat.zero_le _, s10⟩ ?_
  rintro _ w10 ⟨k, Ap, cp, vs, rfl, hk, s11⟩ C hC
  have z11 := s11.box 0 rfl
  have y11 := s11.box 2 rfl
  simp [boxAt] at z11 y11
  have hvs : vs.length = k := by
    obtain ⟨F, ho, _⟩ := s11.get (k := 7) rfl
    have := ho.1; simp at this; omega
  unfold ref02_Copy.b7
  simp -dsimp [go_sem, z11]
  refine SPL_intro (fun p1 => ?_) (fun p1 => ?_) <;> simp at p1
  · obtain ⟨bp, op, vr, ep, hbp, x1, x2, x3, hr, zl, zv⟩ := prods_at (Rep.below h4 (bl s11.chg)) p1
    subst ep
    obtain ⟨Ar, cr, rfl, hr1, hr2, _⟩ := slice_form hr
    have htk : g.prods.take (k + 1) = g.prods.take k ++ [g.prods[k]] := List.take_succ_eq_append_getElem p1
    have g5' := g5 _ (List.getElem_mem p1)
    have wk := wrap_succ p1 (by omega)
    have hbp1 : bp < w10.heap.size := by have := s11.chg.size; omega
    generalize g.prods[k] = p at x1 x2 x3 hr zl zv hr1 hr2 htk g5' ⊢
    obtain ⟨pb, hpb⟩ : ∃ pb, w10.heap.size = pb := ⟨_, rfl⟩
    have hcz : Chg noB w10 (w10.alloc (.cells #[.int .i64 0, .slice none 0 0, .int .i64 0] 47)) := (Chg.refl _ _).alloc _
    have s12 := s11.alloc #[.int .i64 0, .slice none 0 0, .int .i64 0] 47
    rw [hpb] at s12
    have z12 := (s12.box 0 rfl).1.2.2.2.2.1
    have x1z := (hcz.cell (p := ⟨bp, op + k * 3, none⟩) hbp1 id).trans x1
    have x3z := (hcz.cell (p := ⟨bp, op + k * 3 + 2, none⟩) hbp1 id).trans x3
    have sA := s11.alloc #[.int .i64 p.1, .slice none 0 0, .int .i64 p.2.2] 47
    have zA := (sA.box 0 rfl).1.2.2.2.2.1
    have hcA : Chg noB w10 (w10.alloc (.cells #[.int .i64 p.1, .slice none 0 0, .int .i64 p.2.2] 47)) := (Chg.refl _ _).alloc _
    have x2A := (hcA.cell (p := ⟨bp, op + k * 3 + 1, none⟩) hbp1 id).trans x2
    simp -dsimp [go_sem, z11, p1, x1, x2, x3, hpb, z12, x1z, x3z, zA, x2A]
    have s13 := (s11.alloc #[.int .i64 p.1, .slice none 0 0, .int .i64 p.2.2] 47).old (Chg.refl noB _).drew.drew
    rw [hpb] at s13
    generalize (w10.alloc (.cells #[.int .i64 p.1, .slice none 0 0, .int .i64 p.2.2] 47)).drew.drew = w13 at s13 ⊢
    have s14 := s13.nilRow 3 1
    have hrw : (rSlice rInt).at1 w B (.slice Ar p.2.1.length cr) p.2.1 := (rSlice rInt).keep hr (Nat.le_refl _) fun i hi => (s11.chg.block i (by omega) id).symm
    refine s14.appendRd (r := rInt) (enc := cInt) 9 rfl uInts iInt rfl (by decide) (Rep.below hrw (bl s14.chg)) (fun h _ => h.1) (fun x _ u hu => by simp [cInt] at hu; rcases hu with rfl | rfl <;> rfl) (fun _ _ => rfl) (by omega) (by omega) ?_
    intro a15 c15 w15 s15
    rw [Nat.zero_add] at s15 ⊢
    have y15 := s15.box 8 rfl
    have o15 := s15.box 2 rfl
    simp [boxAt] at y15 o15
    have s16 := s15.set 8 rfl 1 (.slice a15 p.2.1.length c15)
    have y16 := s16.box 8 rfl
    have o16 := s16.box 2 rfl
    simp [boxAt] at y16 o16
    simp -dsimp [go_sem, y15, y16, o16]
    have hsz16 : (w15.setCell ⟨pb, 1, none⟩ (.slice a15 p.2.1.length c15)).heap.size = w15.heap.size := by simp
    rw [← hsz16]
    generalize w15.setCell ⟨pb, 1, none⟩ (.slice a15 p.2.1.length c15) = w16 at s16 ⊢
    refine s16.append1 6 rfl uProds iProd rfl (by omega) (news := [.int .i64 p.1, .slice a15 p.2.1.length c15, .int .i64 p.2.2]) rfl (by simp [Value.oneCell']) (by omega) (by omega) ?_
    intro g' cap w17 s17
    have y17 := s17.box 2 rfl
    simp [boxAt] at y17
    have s18 := s17.set 2 rfl 4 (.slice (some ⟨g', 0, none⟩) (k + 1) cap)
    simp -dsimp [go_sem, y17, wk]
    have s19 := s18.merge (j := 9) (k := 7) rfl rfl (by omega) (e := rowsC 3 1 (vs ++ [.slice a15 p.2.1.length c15]) (((g.prods.take k).map fun p => p.2.1.flatMap cInt) ++ [p.2.1.flatMap cInt])) fun F F' h1 h2 => rowsC_snoc (size := 1) h1 h2
    have e2 : (((g.prods.take (k + 1)).zip (vs ++ [.slice a15 p.2.1.length c15])).flatMap cPr) = (((g.prods.take k).zip vs).flatMap cPr) ++ [.int .i64 p.1, .slice a15 p.2.1.length c15, .int .i64 p.2.2] := by
      rw [htk, List.zip_append (by simp [hvs]; omega), List.flatMap_append]
      simp [cPr]
    have e3 : ((g.prods.take (k + 1)).map fun p => p.2.1.flatMap cInt) = ((g.prods.take k).map fun p => p.2.1.flatMap cInt) ++ [p.2.1.flatMap cInt] := by rw [htk, List.map_append]; rfl
    refine hC _ _ ⟨k + 1, some ⟨g', 0, none⟩, cap, vs ++ [.slice a15 p.2.1.length c15], by simp, by omega, ?_⟩ (by simp [iv]; omega)
    have := s19.take 8
    rw [← e2, ← e3] at this
    exact this
  · have hkl : k = g.prods.length := by omega
    subst hkl
    unfold ref02_Copy.b3
    have y2 := s11.box 1 rfl
    simp [boxAt] at y2
    have s12 := ((((s11.set 1 rfl 0 (.slice At g.terms.length ct)).set 1 rfl 1 (.slice An g.nons.length cn)).set 1 rfl 2 (.slice Al g.levels.length cl)).set 1 rfl 3 (.int .i64 g.start)).set 1 rfl 4 (.slice Ap g.prods.length cp)
    have y12 := s12.box 1 rfl
    simp [boxAt] at y12
    simp -dsimp [go_sem, y11, y2, y12]
    refine hR _ _ ⟨?_, s12.chg⟩
    generalize (((((w10.setCell ⟨rb, 0, none⟩ (.slice At g.terms.length ct)).setCell ⟨rb, 1, none⟩ (.slice An g.nons.length cn)).setCell ⟨rb, 2, none⟩ (.slice Al g.levels.length cl)).setCell ⟨rb, 3, none⟩ (.int .i64 g.start)).setCell ⟨rb, 4, none⟩ (.slice Ap g.prods.length cp)) = w12 at s12 ⊢
    obtain ⟨Ft, ot, _⟩ := s12.get (k := 3) rfl
    obtain ⟨Fn, on, _⟩ := s12.get (k := 4) rfl
    obtain ⟨Fl, ol, _⟩ := s12.get (k := 5) rfl
    obtain ⟨Fp, op, _⟩ := s12.get (k := 6) rfl
    obtain ⟨Fr, or, _⟩ := s12.get (k := 7) rfl
    rw [List.take_length] at op or
    have tz : ∀ i (hi : i < g.terms.length), g.terms[i].1.size ≤ maxLen ∧ inI64 g.terms[i].2 := fun i hi => by obtain ⟨_, _, _, _, _, _, q1, q2⟩ := terms_at h1 hi; exact ⟨q1, q2⟩
    have nz : ∀ i (hi : i < g.nons.length), g.nons[i].size ≤ maxLen := fun i hi => by obtain ⟨_, _, _, _, _, q1⟩ := Go.Px.strs_at h2 hi; exact q1
    have lz : ∀ i (hi : i < g.levels.length), inI64 g.levels[i] := fun i hi => by obtain ⟨_, _, _, _, _, q1⟩ := Go.Px.ints_at h3 hi; exact q1
    refine rGram_mk (row_reads ot (fun _ _ => rfl) (by decide) rfl rfl (fun i x y hx hy => ?_) (Nat.le_refl _)) (row_reads on (fun _ _ => rfl) (by decide) rfl rfl (fun i x y hx hy => ?_) (Nat.le_refl _)) (row_reads ol (fun _ _ => rfl) (by decide) rfl rfl (fun i x y hx hy => ?_) (Nat.le_refl _)) rfl hst (row_reads op (fun _ _ => rfl) (by decide) (by simp [hvs]) rfl (fun i x y hx hy => ?_) (Nat.le_refl _))
    · rw [hx] at hy; injection hy with hy; subst hy
      obtain ⟨hi, rfl⟩ := List.getElem?_eq_some_iff.1 hx
      exact ⟨[_], [_], rfl, ⟨rfl, (tz i hi).1⟩, ⟨rfl, (tz i hi).2⟩⟩
    · rw [hx] at hy; injection hy with hy; subst hy
      obtain ⟨hi, rfl⟩ := List.getElem?_eq_some_iff.1 hx
      exact ⟨rfl, nz i hi⟩
    · rw [hx] at hy; injection hy with hy; subst hy
      obtain ⟨hi, rfl⟩ := List.getElem?_eq_some_iff.1 hx
      exact ⟨rfl, lz i hi⟩
    · obtain ⟨hi, rfl⟩ := List.getElem?_eq_some_iff.1 hy
      have hy' : ((fun g : Gr => (g.terms, g.nons, g.levels, g.start, g.prods)) g).2.2.2.2[i]? = some g.prods[i] := hy
      obtain ⟨hx1, hx2⟩ := List.getElem?_zip_eq_some.1 hx
      rw [hy] at hx1
      injection hx1 with hx1
      obtain ⟨bq, oq, vq, eq, _, _, _, _, hrr, q1, q2⟩ := prods_at h4 hi
      obtain ⟨a', n', c', hv', hrow⟩ := or.2 i x.2 _ hx2 (by rw [List.getElem?_map, List.getElem?_eq_getElem hi]; rfl)
      have rz : ∀ j (hj : j < g.prods[i].2.1.length), inI64 g.prods[i].2.1[j] := fun j hj => by
        obtain ⟨_, _, rfl, _⟩ := slice_form hrr
        obtain ⟨_, _, _, _, _, q1⟩ := Go.Px.ints_at hrr hj; exact q1
      have hn' : n' = g.prods[i].2.1.length := by
        have := (row_size hrow).1
        dsimp only at this
        rw [cInt_flat, List.length_map] at this; omega
      subst hn'
      have hrd := row_reads (r := rInt) (B := w12.heap.size) hrow (fun _ _ => rfl) (by decide) rfl rfl (fun j x y hx hy => by
        rw [hx] at hy; injection hy with hy; subst hy
        obtain ⟨hj, rfl⟩ := List.getElem?_eq_some_iff.1 hx
        exact ⟨rfl, rz j hj⟩) (Nat.le_refl _)
      rw [← hv'] at hrd
      refine ⟨[_], [_, _], by simp only [cPr, ← hx1]; rfl, ⟨rfl, q1⟩, [_], [_], rfl, hrd, rfl, q2⟩
end Go.Proofs.Ytkacbjhiobnbfaa

