/-
  TreeTexts.
-/
import Derived.Test.YtkacbjhiobnbfaaTg
import Derived.Test.YtkacbjhiobnbfaaTf
import Derived.Test.YtkacbjhiobnbfaaMd
namespace Go.Proofs.Ytkacbjhiobnbfaa
open Go.Px Go.Px.Scan Go.RowKit
set_option maxHeartbeats 1000000
set_option linter.unusedSimpArgs false
set_option linter.unusedVariables false
set_option maxRecDepth 100000
attribute [-go_sem] law20_TreeTexts.b1_6 law20_TreeTexts.b1_5 law20_TreeTexts.b1_4 law20_TreeTexts.b1_3 law20_TreeTexts.b1_2 law20_TreeTexts.b1_1

theorem sameB_self (g : Gr) : sameB g g = true := sameB_iff.2 rfl
theorem TreeTexts_ct {w : World} {B : Nat} {vg nv : Value} {l : List Nd} {g : Gr} {root : Int} (hg : rGram.atN w B vg g) (h : (rSlice rNd).at1 w B nv l) (hB : B ≤ w.heap.size) (hfit : GFit g) (hN : l.length * 48 ≤ maxBytes) (hkd : ∀ x ∈ l, x.2.2.2.length * 8 ≤ maxBytes) (hr : inI64 root) :
    Ct Try.prog law20_TreeTexts.id #[vg, nv, .int .i64 root] w fun v w' => v = .bool true ∧ Chg noB w w' := by
  refine law20_TreeTexts.ct fun R hR => ?_
  have hN3 : l.length ≤ 3000000000000 := by unfold maxBytes at hN; omega
  have hin := ndIn_of h
  obtain ⟨A1, c1, A2, c2, A3, c3, A4, c4, rfl, h1, h2, h3, hst, h4, k1, k2, k3, k4⟩ := (rGram_open hg).ex
  have s0 := (St.refl noB w).alloc #[.slice A1 g.terms.length c1, .slice A2 g.nons.length c2, .slice A3 g.levels.length c3, .int .i64 g.start, .slice A4 g.prods.length c4] 27
  have bl : ∀ {w'}, Chg noB w w' → Below B w w' := fun hc => hc.below hB fun _ _ => id
  have rn : ∀ {w'}, Chg noB w w' → (rSlice rNd).at1 w' w'.heap.size nv l := fun hc => Rep.up (Rep.below h (bl hc)) (by have := hc.size; omega)
  have rg : ∀ {w'}, Chg noB w w' → rGram.atN w' w'.heap.size (.agg #[.slice A1 g.terms.length c1, .slice A2 g.nons.length c2, .slice A3 g.levels.length c3, .int .i64 g.start, .slice A4 g.prods.length c4]) g := fun hc => rGram_up (rGram_below hg (bl hc)) (by have := hc.size; omega)
  unfold law20_TreeTexts.run
  simp -dsimp [go_sem]
  generalize w.heap.size = q at s0 ⊢
  generalize w.alloc (.cells #[.slice A1 g.terms.length c1, .slice A2 g.nons.length c2, .slice A3 g.levels.length c3, .int .i64 g.start, .slice A4 g.prods.length c4] 27) = w1 at s0 ⊢
  refine CALL_of (refNdCopy_ct (rn s0.chg) (Nat.le_refl _) hN hkd) ?_
  rintro _ w2 ⟨ca, cc, vs, rfl, s2⟩
  have s2 := s0.seq s2
  have rc : ∀ {w'}, Chg noB w2 w' → (rSlice rNd).at1 w' w'.heap.size (.slice ca l.length cc) l := fun hc => ndC_at (s2.old hc) 1 2 rfl rfl hin
  have y2 := s2.box 0 rfl
  simp [boxAt] at y2
  unfold law20_TreeTexts.b1_6
  simp -dsimp [go_sem, y2]
  refine CALL_of (Copy_ct (rg s2.chg) (Nat.le_refl _) hfit) ?_
  rintro v3 w3 ⟨hr3, hc3⟩
  obtain ⟨D1, d1, D2, d2, D3, d3, D4, d4, rfl, _⟩ := (rGram_open hr3).ex
  have rd : ∀ {w'}, Chg noB w3 w' → rGram.atN w' w'.heap.size (.agg #[.slice D1 g.terms.length d1, .slice D2 g.nons.length d2, .slice D3 g.levels.length d3, .int .i64 g.start, .slice D4 g.prods.length d4]) g := fun hc => rGram_up (rGram_below hr3 (hc.below (Nat.le_refl _) fun _ _ => id)) hc.size
  have s3 := s2.old hc3
  have s4 := s3.alloc #[.slice D1 g.terms.length d1, .slice D2 g.nons.length d2, .slice D3 g.levels.length d3, .int .i64 g.start, .slice D4 g.prods.length d4] 27
  have hc4 : Chg noB w3 (w3.alloc (.cells #[.slice D1 g.terms.length d1, .slice D2 g.nons.length d2, .slice D3 g.levels.length d3, .int .i64 g.start, .slice D4 g.prods.length d4] 27)) := (Chg.refl _ _).alloc _
  unfold law20_TreeTexts.b1_5
  simp -dsimp [go_sem]
  generalize w3.alloc (.cells #[.slice D1 g.terms.length d1, .slice D2 g.nons.length d2, .slice D3 g.levels.length d3, .int .i64 g.start, .slice D4 g.prods.length d4] 27) = w4 at s4 hc4 ⊢
  generalize w3.heap.size = q4 at s4 ⊢
  refine CALL_of (TreeText_ct (rd hc4) (rc (hc3.trans hc4)) (Nat.le_refl _) hN3 hkd hr) ?_
  rintro v5 w5 ⟨hv5, hc5⟩
  have s5 := s4.old hc5
  have hc5 := hc4.trans hc5
  have y5 := s5.box 0 rfl
  simp [boxAt] at y5
  unfold law20_TreeTexts.b1_4
  obtain ⟨ts, te, hte⟩ : ∃ (ts : ByteArray) (te : Int), v5 = .tuple #[.string ts, .int .i64 te] := by
    rw [hv5]
    cases textB g l root with
    | none => exact ⟨_, _, rfl⟩
    | some t => exact ⟨_, _, rfl⟩
  rw [hte]
  simp -dsimp [go_sem, y5]
  refine CALL_of (refTreeText_ct (rg s5.chg) (rn s5.chg) (Nat.le_refl _) hN3 hkd hr) ?_
  rintro v6 w6 ⟨hv6, hc6⟩
  have s6 := s5.old hc6
  have hc6 := hc5.trans hc6
  obtain rfl : v6 = .tuple #[.string ts, .int .i64 te] := (hv6.trans hv5.symm).trans hte
  unfold law20_TreeTexts.b1_3
  simp -dsimp [go_sem]
  unfold law20_TreeTexts.b1_2
  simp -dsimp [go_sem]
  refine CALL_of (refNdSame_ct (rc (hc3.trans hc6)) (rn s6.chg) (Nat.le_refl _)) ?_
  rintro _ w7 ⟨rfl, hc7⟩
  have s7 := s6.old hc7
  have hc7 := hc6.trans hc7
  have y7 := s7.box 0 rfl
  have z7 := s7.box 3 rfl
  simp [boxAt] at y7 z7
  simp -dsimp [go_sem]
  unfold law20_TreeTexts.b1_1
  simp -dsimp [go_sem, y7, z7]
  refine CALL_of (refSame_ct (rd hc7) (rg s7.chg) (Nat.le_refl _)) ?_
  rintro _ w8 ⟨rfl, hc8⟩
  rw [sameB_self]
  simp -dsimp [go_sem]
  refine CALL_of (awake20_ct w8) ?_
  rintro _ w9 ⟨rfl, hc9⟩
  exact hR _ _ ⟨rfl, (s7.chg.trans hc8).trans hc9⟩

end Go.Proofs.Ytkacbjhiobnbfaa

