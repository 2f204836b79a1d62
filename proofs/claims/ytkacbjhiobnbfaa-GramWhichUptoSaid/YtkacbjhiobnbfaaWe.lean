/-
  GramWhich.
-/
import Derived.Test.YtkacbjhiobnbfaaWd
import Derived.Test.YtkacbjhiobnbfaaMe
import Derived.Test.YtkacbjhiobnbfaaMf
namespace Go.Px
open Go.RowKit
/-- Slices whose cells are there, whatever is in them. -/
def cellsAny (vs : List Value) : Ch where
  ok w F := ∀ v ∈ vs, ∃ a n c, v = .slice a n c ∧ n ≤ maxLen ∧ (0 < n → ∃ g, a = some ⟨g, 0, none⟩ ∧ F g ∧ g < w.heap.size ∧ ∀ j, j < n → (∃ u, w.cell? ⟨g, j, none⟩ = some u) ∧ w.frozen? ⟨g, j, none⟩ = false)
  keep h hc hX hF := fun v hv => by
    obtain ⟨a, n, c, e, hn, hr⟩ := h v hv
    refine ⟨a, n, c, e, hn, fun hp => ?_⟩
    obtain ⟨g, ea, hFg, hg, hcell⟩ := hr hp
    refine ⟨g, ea, hF g hg hFg, Nat.lt_of_lt_of_le hg hc.size, fun j hj => ?_⟩
    obtain ⟨⟨u, hu⟩, hf⟩ := hcell j hj
    exact ⟨⟨u, (hc.cell (p := ⟨g, j, none⟩) hg (hX g hg hFg)).trans hu⟩, (hc.frozen (p := ⟨g, j, none⟩) hg (hX g hg hFg)).trans hf⟩
theorem any_of_run {w : World} {F : Nat → Prop} {a : Option Addr} {n c : Nat} {xs : List Value} (h : (runC a xs).ok w F) (hn : xs.length = n) (hm : n ≤ maxLen) : (cellsAny [.slice a n c]).ok w F := by
  intro v hv
  rw [List.mem_singleton] at hv
  subst hv
  refine ⟨a, n, c, rfl, hm, fun hp => ?_⟩
  rcases h with h | ⟨g, ea, hF, hg, hc, hf⟩
  · rw [h] at hn; simp at hn; omega
  · exact ⟨g, ea, hF, hg, fun j hj => ⟨⟨_, hc j _ (List.getElem?_eq_getElem (by omega))⟩, hf j (by omega)⟩⟩
theorem any_of_runs {w : World} {F : Nat → Prop} {vs : List Value} {xss : List (List Value)} (h : (runsC vs xss).ok w F) : (cellsAny vs).ok w F := by
  intro v hv
  obtain ⟨i, hi, rfl⟩ := List.getElem_of_mem hv
  obtain ⟨a, c, e, hl, hm, hr⟩ := h.2 i vs[i] (xss[i]'(by rw [← h.1]; exact hi)) (List.getElem?_eq_getElem hi) (List.getElem?_eq_getElem _)
  obtain ⟨a', n', c', e', hn', hr'⟩ := any_of_run (c := c) hr rfl (by omega) _ (List.mem_singleton.2 rfl)
  exact ⟨a', n', c', e.trans e', hn', hr'⟩
section
variable {G : Nat → Prop} {W w : World} {L : List Ch}
theorem St.cellsSet (h : St G W w L) (k : Nat) {vs : List Value} (hk : L[k]? = some (cellsAny vs)) {g n c : Nat} (hv : Value.slice (some ⟨g, 0, none⟩) n c ∈ vs) {j : Nat} (hj : j < n) (u : Value) : St G W (w.setCell ⟨g, j, none⟩ u) L := by
  obtain ⟨F, ho, _, hs⟩ := h.opn hk
  obtain ⟨a0, n0, c0, e0, hn0, hr0⟩ := ho _ hv
  injection e0 with e0 e1 e2
  subst e0 e1
  obtain ⟨g', ea, hFg, hg, hcell⟩ := hr0 (by omega)
  injection ea with ea; injection ea with ea; subst ea
  have hcg : Chg (· = g) w (w.setCell ⟨g, j, none⟩ u) := chg_setCell w ⟨g, j, none⟩ u
  have h2 := hs (w.setCell ⟨g, j, none⟩ u) (cellsAny vs) (hcg.mono fun i _ e => by rw [e]; exact hFg) (fun v hv' => by
    obtain ⟨a, m, d, e, hm, hr⟩ := ho v hv'
    refine ⟨a, m, d, e, hm, fun hp => ?_⟩
    obtain ⟨g', ea, hF', hg', hc'⟩ := hr hp
    refine ⟨g', ea, Or.inl hF', by simpa using hg', fun i hi => ?_⟩
    obtain ⟨⟨x, hx⟩, hf⟩ := hc' i hi
    refine ⟨?_, (World.frozen?_setCell _ _ _ _).trans hf⟩
    by_cases ee : (⟨g', i, none⟩ : Addr) = ⟨g, j, none⟩
    · rw [ee] at hx ⊢
      exact ⟨u, World.cell?_setCell_same _ _ _ hx⟩
    · exact ⟨x, (World.cell?_setCell_other _ _ _ _ (Ne.symm ee)).trans hx⟩)
  have e : L.set k (cellsAny vs) = L := by
    apply List.ext_getElem
    · simp
    · intro i h1 h2
      rw [List.getElem_set]
      split
      · rename_i e; subst e
        rw [List.getElem?_eq_getElem h2] at hk; injection hk with hk; exact hk.symm
      · rfl
  rw [e] at h2
  exact h2
theorem St.cellsAt (h : St G W w L) (k : Nat) {vs : List Value} (hk : L[k]? = some (cellsAny vs)) {a : Option Addr} {n c : Nat} (hv : Value.slice a n c ∈ vs) {j : Nat} (hj : j < n) : ∃ g u, a = some ⟨g, 0, none⟩ ∧ w.cell? ⟨g, j, none⟩ = some u ∧ w.frozen? ⟨g, j, none⟩ = false := by
  obtain ⟨F, ho, _⟩ := h.get hk
  obtain ⟨a0, n0, c0, e0, hn, hr⟩ := ho _ hv
  injection e0 with e1 e2 e3
  subst e1 e2 e3
  obtain ⟨g, ea, _, _, hc⟩ := hr (by omega)
  obtain ⟨⟨u, hu⟩, hf⟩ := hc j hj
  exact ⟨g, u, ea, hu, hf⟩
end
/-- A clipped slice reads. -/
theorem run_reads {α β : Type} {r : Rep α} {enc : β → List Value} {w : World} {F : Nat → Prop} {B : Nat} {a : Option Addr} {n : Nat} {m : List β} {l : List α} (h : (runC a (m.flatMap enc)).ok w F) (hs : ∀ x ∈ m, (enc x).length = r.size) (hpos : 0 < r.size) (hm : m.length = n) (hl : l.length = n) (hn : n ≤ maxLen)
    (hr : ∀ (i : Nat) x y, m[i]? = some x → l[i]? = some y → r.ok w B (enc x) y) (hB : w.heap.size ≤ B) : (rSlice r).at1 w B (.slice a n n) l := by
  subst hl
  refine ⟨a, l.length, rfl, Nat.le_refl _, hn, trivial, fun hp => ?_⟩
  rcases h with h | ⟨g, ea, hF, hg, hc, hf⟩
  · have h1 := flat_len m hs
    rw [h] at h1
    have : 0 < m.length * r.size := Nat.mul_pos (by omega) hpos
    simp at h1; omega
  · refine ⟨g, 0, ea, by omega, fun i y hy => ?_⟩
    have hi := (List.getElem?_eq_some_iff.1 hy).1
    refine ⟨enc (m[i]'(by omega)), hr i _ _ (List.getElem?_eq_getElem (by omega)) hy, fun j u hj => ?_⟩
    have hj2 : j < r.size := by rw [← hs _ (List.getElem_mem (by omega : i < m.length))]; exact (List.getElem?_eq_some_iff.1 hj).1
    have h1 := flat_at hs (List.getElem?_eq_getElem (by omega : i < m.length)) hj2
    rw [hj] at h1
    rw [Nat.zero_add]
    exact hc _ u h1
end Go.Px
namespace Go.Proofs.Ytkacbjhiobnbfaa
open Go.Px Go.Px.Scan Go.RowKit
set_option maxHeartbeats 1000000
set_option linter.unusedSimpArgs false
set_option linter.unusedVariables false
set_option maxRecDepth 100000
attribute [-go_sem] Builtin.append_ law02_GramWhich.b4 law02_GramWhich.b4_1 law02_GramWhich.b4_2 law02_GramWhich.b5 law02_GramWhich.b8_1 law02_GramWhich.b9 law02_GramWhich.b14 law02_GramWhich.b17 law02_GramWhich.b18 law02_GramWhich.b21_1 law02_GramWhich.b1_1 law02_GramWhich.b1_2 law02_GramWhich.b1_3 law02_GramWhich.b1_4 law02_GramWhich.b1_5 law02_GramWhich.b1_6 law02_GramWhich.b1_7

theorem cop_rd {G : Nat → Prop} {W w : World} {L : List Ch} {g : Gr} {At An Al Ap : Option Addr} {cp : Nat} {vs : List Value} (s : St G W w (CopC g At An Al Ap cp vs ++ L)) (hg : GrIn g) (hm : g.terms.length ≤ maxLen ∧ g.nons.length ≤ maxLen ∧ g.levels.length ≤ maxLen) :
    rGram.atN w w.heap.size (.agg #[.slice At g.terms.length g.terms.length, .slice An g.nons.length g.nons.length, .slice Al g.levels.length g.levels.length, .int .i64 g.start, .slice Ap g.prods.length cp]) g := by
  obtain ⟨F1, o1, _⟩ := s.get (k := 0) rfl
  obtain ⟨F2, o2, _⟩ := s.get (k := 1) rfl
  obtain ⟨F3, o3, _⟩ := s.get (k := 2) rfl
  obtain ⟨F5, o5, _⟩ := s.get (k := 3) rfl
  obtain ⟨F6, o6, _⟩ := s.get (k := 4) rfl
  have hvs : vs.length = g.prods.length := by have := o6.1; simpa using this
  have r1 := run_reads (r := rTerm) (B := w.heap.size) (l := g.terms) o1 (fun _ _ => rfl) (by decide) rfl rfl hm.1 (fun i x y hx hy => by
    rw [hx] at hy; injection hy with hy; subst hy
    have := hg.terms x (List.mem_of_getElem? hx)
    exact ⟨[_], [_], rfl, ⟨rfl, this.1⟩, ⟨rfl, this.2⟩⟩) (Nat.le_refl _)
  have r2 := run_reads (r := rStr) (B := w.heap.size) (l := g.nons) o2 (fun _ _ => rfl) (by decide) rfl rfl hm.2.1 (fun i x y hx hy => by
    rw [hx] at hy; injection hy with hy; subst hy
    exact ⟨rfl, hg.nons x (List.mem_of_getElem? hx)⟩) (Nat.le_refl _)
  have r3 := run_reads (r := rInt) (B := w.heap.size) (l := g.levels) o3 (fun _ _ => rfl) (by decide) rfl rfl hm.2.2 (fun i x y hx hy => by
    rw [hx] at hy; injection hy with hy; subst hy
    exact ⟨rfl, hg.levels x (List.mem_of_getElem? hx)⟩) (Nat.le_refl _)
  have r5 := row_reads (r := rPr) (B := w.heap.size) (l := g.prods) o5 (fun _ _ => rfl) (by decide) (by simp [hvs]) rfl (fun i x y hx hy => by
    obtain ⟨hi, rfl⟩ := List.getElem?_eq_some_iff.1 hy
    obtain ⟨hx1, hx2⟩ := List.getElem?_zip_eq_some.1 hx
    rw [List.getElem?_eq_getElem hi] at hx1
    injection hx1 with hx1
    obtain ⟨q1, q2, q3⟩ := hg.prods _ (List.getElem_mem hi)
    obtain ⟨a', c', hv', hl', hm', hrow⟩ := o6.2 i x.2 (g.prods[i].2.1.flatMap xInt) hx2 (by rw [List.getElem?_map, List.getElem?_eq_getElem hi]; rfl)
    have hxl : (g.prods[i].2.1.flatMap xInt).length = g.prods[i].2.1.length := by rw [xInt_flat]; simp
    rw [hxl] at hv' hl'
    have hrd := run_reads (r := rInt) (B := w.heap.size) (l := g.prods[i].2.1) hrow (fun _ _ => rfl) (by decide) rfl rfl (by omega) (fun j x y hx hy => by
      rw [hx] at hy; injection hy with hy; subst hy
      exact ⟨rfl, q3 x (List.mem_of_getElem? hx)⟩) (Nat.le_refl _)
    have hrd2 : (rSlice rInt).at1 w w.heap.size (.slice a' g.prods[i].2.1.length c') g.prods[i].2.1 := by
      obtain ⟨A', k', e, h1, h2, h3, h4⟩ := hrd
      injection e with e; injection e with ea _ _; subst ea
      exact ⟨a', c', rfl, by omega, hm', trivial, h4⟩
    refine ⟨[_], [_, _], by simp only [xPr, ← hx1]; rfl, ⟨rfl, q1⟩, [_], [_], rfl, by rw [hv']; exact hrd2, rfl, q2⟩) (Nat.le_refl _)
  exact rGram_mk r1 r2 r3 rfl hg.start r5

theorem GramWhich_ct {w : World} {B : Nat} {vg : Value} {g : Gr} (h : rGram.atN w B vg g) (hB : B ≤ w.heap.size) (hfit : GFitR g) :
    Ct Try.prog law02_GramWhich.id #[vg] w fun v w' => v = .bool true ∧ Chg noB w w' := by
  refine law02_GramWhich.ct fun R hR => ?_
  have hg := grIn_of h
  obtain ⟨A1, c1, A2, c2, A3, c3, A4, c4, rfl, h1, h2, h3, hst, h4, k1, k2, k3, k4⟩ := (rGram_open h).ex
  have hm : g.terms.length ≤ maxLen ∧ g.nons.length ≤ maxLen ∧ g.levels.length ≤ maxLen := ⟨by omega, by omega, by omega⟩
  have rg : ∀ {w'}, Chg noB w w' → rGram.atN w' w'.heap.size (.agg #[.slice A1 g.terms.length c1, .slice A2 g.nons.length c2, .slice A3 g.levels.length c3, .int .i64 g.start, .slice A4 g.prods.length c4]) g := fun hc => rGram_up (rGram_below h (hc.below hB fun _ _ => id)) (by have := hc.size; omega)
  have s0 := (St.refl noB w).alloc #[.slice A1 g.terms.length c1, .slice A2 g.nons.length c2, .slice A3 g.levels.length c3, .int .i64 g.start, .slice A4 g.prods.length c4] 27
  unfold law02_GramWhich.run
  simp -dsimp [go_sem]
  generalize w.heap.size = q at s0 ⊢
  generalize w.alloc (.cells #[.slice A1 g.terms.length c1, .slice A2 g.nons.length c2, .slice A3 g.levels.length c3, .int .i64 g.start, .slice A4 g.prods.length c4] 27) = w1 at s0 ⊢
  refine CALL_of (awake_ct w1) ?_
  rintro _ w2 ⟨rfl, hc2⟩
  have s2 := s0.old hc2
  have y2 := s2.box 0 rfl
  simp [boxAt] at y2
  unfold law02_GramWhich.b1_7
  simp -dsimp [go_sem, y2]
  refine CALL_of (lend_ct (rg s2.chg) (Nat.le_refl _) hfit) ?_
  rintro _ w3 ⟨b, at', asn, ai, ar, ap, ct, cs, ci, cr, cp, vs, rfl, s3⟩
  have s3 := s2.seq s3
  have s3 : St noB w w3 (LgC b g at' asn ai ar ap ct cs ci cr cp vs ++ [boxC q 27 [.slice A1 g.terms.length c1, .slice A2 g.nons.length c2, .slice A3 g.levels.length c3, .int .i64 g.start, .slice A4 g.prods.length c4]]) := s3.pick [1, 2, 3, 4, 5, 6, 7, 0] (by decide) rfl
  have yb : ∀ {w' : World} {L : List Ch}, St noB w w' (LgC b g at' asn ai ar ap ct cs ci cr cp vs ++ L) → w'.cell? ⟨b, 0, none⟩ = some (.slice at' g.terms.length ct) ∧ w'.cell? ⟨b, 1, none⟩ = some (.slice asn g.nons.length cs) ∧ w'.cell? ⟨b, 2, none⟩ = some (.slice ai g.levels.length ci) ∧ w'.cell? ⟨b, 3, none⟩ = some (.int .i64 g.start) ∧ w'.cell? ⟨b, 4, none⟩ = some (.slice ap g.prods.length cp) := by
    intro w' L s'
    have y := (s'.box 0 rfl).1
    obtain ⟨a0, a1, a2, a3, a4, _⟩ := y
    exact ⟨a0, a1, a2, a3, a4⟩
  have y3 := yb s3
  unfold law02_GramWhich.b1_6
  simp -dsimp [go_sem, y3]
  refine CALL_of (Valid_ct (lent_rd s3 hg) (Nat.le_refl _)) ?_
  rintro _ w4 ⟨rfl, hc4⟩
  have s4 := s3.old hc4
  have y4 := yb s4
  unfold law02_GramWhich.b1_5
  simp -dsimp [go_sem, y4]
  refine CALL_of (Closed_ct (lent_rd s4 hg) (Nat.le_refl _)) ?_
  rintro _ w5 ⟨rfl, hc5⟩
  have s5 := s4.old hc5
  have y5 := yb s5
  unfold law02_GramWhich.b1_4
  simp -dsimp [go_sem, y5]
  refine CALL_of (Copy_ct (lent_rd s5 hg) (Nat.le_refl _) hfit.fit) ?_
  rintro _ w6 ⟨At, An, Al, Ap, cp2, us, rfl, s6⟩
  have hc6 := s6.chg
  have s6' := s5.seq s6
  have s7 := s6'.alloc #[.slice At g.terms.length g.terms.length, .slice An g.nons.length g.nons.length, .slice Al g.levels.length g.levels.length, .int .i64 g.start, .slice Ap g.prods.length cp2] 27
  unfold law02_GramWhich.b1_3
  have y6 := s6'.box 7 rfl
  simp [boxAt] at y6
  have yq : ∀ {w' : World} {L : List Ch} , St noB w w' (LgC b g at' asn ai ar ap ct cs ci cr cp vs ++ [boxC q 27 [.slice A1 g.terms.length c1, .slice A2 g.nons.length c2, .slice A3 g.levels.length c3, .int .i64 g.start, .slice A4 g.prods.length c4]] ++ L) → w'.cell? ⟨q, 0, none⟩ = some (.slice A1 g.terms.length c1) ∧ w'.cell? ⟨q, 1, none⟩ = some (.slice A2 g.nons.length c2) ∧ w'.cell? ⟨q, 2, none⟩ = some (.slice A3 g.levels.length c3) ∧ w'.cell? ⟨q, 3, none⟩ = some (.int .i64 g.start) ∧ w'.cell? ⟨q, 4, none⟩ = some (.slice A4 g.prods.length c4) := by
    intro w' L s'
    have y := (s'.box 7 rfl).1
    obtain ⟨a0, a1, a2, a3, a4, _⟩ := y
    exact ⟨a0, a1, a2, a3, a4⟩
  have s7 : St noB w (w6.alloc (.cells #[.slice At g.terms.length g.terms.length, .slice An g.nons.length g.nons.length, .slice Al g.levels.length g.levels.length, .int .i64 g.start, .slice Ap g.prods.length cp2] 27)) (LgC b g at' asn ai ar ap ct cs ci cr cp vs ++ [boxC q 27 [.slice A1 g.terms.length c1, .slice A2 g.nons.length c2, .slice A3 g.levels.length c3, .int .i64 g.start, .slice A4 g.prods.length c4]] ++ (CopC g At An Al Ap cp2 us ++ [boxC w6.heap.size 27 [.slice At g.terms.length g.terms.length, .slice An g.nons.length g.nons.length, .slice Al g.levels.length g.levels.length, .int .i64 g.start, .slice Ap g.prods.length cp2]])) := s7
  have y7 := yq s7
  simp -dsimp [go_sem, y7]
  clear y7 y6
  generalize w6.alloc (.cells #[.slice At g.terms.length g.terms.length, .slice An g.nons.length g.nons.length, .slice Al g.levels.length g.levels.length, .int .i64 g.start, .slice Ap g.prods.length cp2] 27) = w7 at s7 ⊢
  generalize w6.heap.size = cb at s7 ⊢
  clear s6' s6 hc6
  have rc : ∀ {w' : World}, St noB w w' (LgC b g at' asn ai ar ap ct cs ci cr cp vs ++ [boxC q 27 [.slice A1 g.terms.length c1, .slice A2 g.nons.length c2, .slice A3 g.levels.length c3, .int .i64 g.start, .slice A4 g.prods.length c4]] ++ (CopC g At An Al Ap cp2 us ++ [boxC cb 27 [.slice At g.terms.length g.terms.length, .slice An g.nons.length g.nons.length, .slice Al g.levels.length g.levels.length, .int .i64 g.start, .slice Ap g.prods.length cp2]])) → rGram.atN w' w'.heap.size (.agg #[.slice At g.terms.length g.terms.length, .slice An g.nons.length g.nons.length, .slice Al g.levels.length g.levels.length, .int .i64 g.start, .slice Ap g.prods.length cp2]) g := by
    intro w' s'
    have s'' : St noB w w' (CopC g At An Al Ap cp2 us ++ []) := s'.pick [8, 9, 10, 11, 12] (by decide) rfl
    exact cop_rd s'' hg hm
  refine CALL_of (refSame_ct (rc s7) (rg s7.chg) (Nat.le_refl _)) ?_
  rintro _ w8 ⟨rfl, hc8⟩
  have s8 := s7.old hc8
  rw [sameB_self]
  have y8 := yb (L := _) (s8.take 8 : St noB w w8 (LgC b g at' asn ai ar ap ct cs ci cr cp vs ++ [boxC q 27 [.slice A1 g.terms.length c1, .slice A2 g.nons.length c2, .slice A3 g.levels.length c3, .int .i64 g.start, .slice A4 g.prods.length c4]]))
  have z8 := (s8.box 13 rfl).1
  obtain ⟨z80, z81, z82, z83, z84, _⟩ := z8
  unfold law02_GramWhich.b1_2
  simp -dsimp [go_sem, y8, z80, z81, z82, z83, z84]
  have s8d := s8.old (Chg.refl noB _).drew
  refine CALL_of (Same_ct (lent_rd (L := []) (s8d.take 7) hg) (rc s8d) (Nat.le_refl _)) ?_
  rintro _ w9 ⟨rfl, hc9⟩
  have s9 := s8d.old hc9
  rw [sameB_self]
  have y9 := yq s9
  unfold law02_GramWhich.b1_1
  simp -dsimp [go_sem, y9]
  refine CALL_of (whole_ct (L := []) (s9.take 7) (rg s9.chg) (Nat.le_refl _)) ?_
  rintro _ w10 ⟨rfl, hc10⟩
  have s10 := s9.old hc10
  have hus : us.length = g.prods.length := by
    obtain ⟨F, ho, _⟩ := s10.get (k := 12) rfl
    have := ho.1; simpa using this
  have hxs : ∀ j (hj : j < g.prods.length), ((g.prods.zip us).flatMap xPr)[j * 3 + 1]? = some (us[j]'(by omega)) := by
    intro j hj
    have h1 := flat_at (enc := xPr) (size := 3) (l := g.prods.zip us) (i := j) (x := (g.prods[j], us[j]'(by omega))) (fun _ _ => rfl) (by rw [List.getElem?_eq_getElem (by simp; omega)]; simp) (j := 1) (by omega)
    rw [h1]; rfl
  have hns : (g.nons.flatMap xStr).length = g.nons.length := by have := flat_len (enc := xStr) (size := 1) g.nons (fun _ _ => rfl); omega
  -- the copy is turned
  have s11 : St noB w w10 (LgC b g at' asn ai ar ap ct cs ci cr cp vs ++ [boxC q 27 [.slice A1 g.terms.length c1, .slice A2 g.nons.length c2, .slice A3 g.levels.length c3, .int .i64 g.start, .slice A4 g.prods.length c4], boxC cb 27 [.slice At g.terms.length g.terms.length, .slice An g.nons.length g.nons.length, .slice Al g.levels.length g.levels.length, .int .i64 g.start, .slice Ap g.prods.length cp2], rowC 47 3 Ap g.prods.length cp2 ((g.prods.zip us).flatMap xPr), cellsAny us, cellsAny [.slice An g.nons.length g.nons.length]]) :=
    ((s10.turn (k := 12) rfl fun F ho => any_of_runs ho).turn (k := 9) rfl fun F ho => any_of_run (c := g.nons.length) ho hns hm.2.1).pick [0, 1, 2, 3, 4, 5, 6, 7, 13, 11, 12, 9] (by decide) rfl
  clear s10 s9 s8 s8d s7 s5 s4 s3 s2 s0
  -- the end
  have hend : ∀ (w' : World) (L : List Ch), St noB w w' (LgC b g at' asn ai ar ap ct cs ci cr cp vs ++ [boxC q 27 [.slice A1 g.terms.length c1, .slice A2 g.nons.length c2, .slice A3 g.levels.length c3, .int .i64 g.start, .slice A4 g.prods.length c4]] ++ L) → law02_GramWhich.b4 R (.pointer (some ⟨q, 0, none⟩)) (.bool true) (.pointer (some ⟨b, 0, none⟩)) (.bool (validB g)) (.bool (closedB g)) (.bool true) (.bool true) (.bool true) w' := by
    intro w' L s'
    have y' := yq s'
    unfold law02_GramWhich.b4
    simp -dsimp [go_sem, y']
    refine CALL_of (whole_ct (L := []) (s'.take 7) (rg s'.chg) (Nat.le_refl _)) ?_
    rintro _ wa ⟨rfl, hca⟩
    have sa := s'.old hca
    have ya := yq sa
    simp -dsimp [go_sem]
    unfold law02_GramWhich.b4_2
    simp -dsimp [go_sem, ya]
    refine CALL_of (refValid_ct (rg sa.chg) (Nat.le_refl _)) ?_
    rintro _ wb ⟨rfl, hcb⟩
    have sb := sa.old hcb
    have yb' := yq sb
    simp -dsimp [go_sem]
    unfold law02_GramWhich.b4_1
    simp -dsimp [go_sem, yb']
    refine CALL_of (refClosed_ct (rg sb.chg) (Nat.le_refl _)) ?_
    rintro _ wc ⟨rfl, hcc⟩
    simp -dsimp [go_sem]
    exact hR _ _ ⟨rfl, sb.chg.trans hcc⟩
  have nl : g.nons.length ≤ 9223372036854775807 := by have := hm.2.1; unfold maxLen at this; omega
  have pl : g.prods.length ≤ 9223372036854775807 := by have := k4.2; unfold maxLen at this; omega
  unfold law02_GramWhich.b9
  refine law02_GramWhich.l11_intro _ _ _ _ _ _ _ _ _ _ _ _ (fun y w' => ∃ (i : Nat) (xs : List Value), y = .int .i64 i ∧ i ≤ g.prods.length ∧ (∀ j (hj : j < g.prods.length), xs[j * 3 + 1]? = some (us[j]'(by omega))) ∧ St noB w w' (LgC b g at' asn ai ar ap ct cs ci cr cp vs ++ [boxC q 27 [.slice A1 g.terms.length c1, .slice A2 g.nons.length c2, .slice A3 g.levels.length c3, .int .i64 g.start, .slice A4 g.prods.length c4], boxC cb 27 [.slice At g.terms.length g.terms.length, .slice An g.nons.length g.nons.length, .slice Al g.levels.length g.levels.length, .int .i64 g.start, .slice Ap g.prods.length cp2], rowC 47 3 Ap g.prods.length cp2 xs, cellsAny us, cellsAny [.slice An g.nons.length g.nons.length]])) (fun y _ => g.prods.length - iv y) ⟨0, _, rfl, by omega, hxs, s11⟩ ?_
  rintro _ w12 ⟨i, xs, rfl, hi, hxs, s12⟩ C hC
  have z12 := (s12.box 8 rfl).1
  obtain ⟨_, z121, _, _, z124, _⟩ := z12
  simp -dsimp [go_sem, z124]
  refine SPL_intro (fun p1 => ?_) (fun p1 => ?_) <;> simp at p1
  · have wi : IntKind.i64.wrap ((i : Int) + 1) = (i : Int) + 1 := IntWalk.i64_in _ (by omega)
    have hiu : i < us.length := by omega
    obtain ⟨ak, nk, ck, hv, hnk⟩ : ∃ a n c, us[i] = .slice a n c ∧ n ≤ maxLen := by
      obtain ⟨F, ho, _⟩ := s12.get (k := 10) rfl
      obtain ⟨a, n, c, e, hn, _⟩ := ho _ (List.getElem_mem hiu)
      exact ⟨a, n, c, e, hn⟩
    have hmem : Value.slice ak nk ck ∈ us := hv ▸ List.getElem_mem hiu
    have hxi := hxs i p1
    rw [hv] at hxi
    have hxl := (s12.rowSize 9 rfl).1
    unfold law02_GramWhich.b18
    refine law02_GramWhich.l20_intro _ _ _ _ _ _ (fun y w' => ∃ d : Nat, y = .int .i64 d ∧ d ≤ nk ∧ St noB w w' (LgC b g at' asn ai ar ap ct cs ci cr cp vs ++ [boxC q 27 [.slice A1 g.terms.length c1, .slice A2 g.nons.length c2, .slice A3 g.levels.length c3, .int .i64 g.start, .slice A4 g.prods.length c4], boxC cb 27 [.slice At g.terms.length g.terms.length, .slice An g.nons.length g.nons.length, .slice Al g.levels.length g.levels.length, .int .i64 g.start, .slice Ap g.prods.length cp2], rowC 47 3 Ap g.prods.length cp2 xs, cellsAny us, cellsAny [.slice An g.nons.length g.nons.length]])) (fun y _ => nk - iv y) ⟨0, rfl, by omega, s12⟩ ?_
    rintro _ w13 ⟨d, rfl, hd, s13⟩ C3 hC3
    have z13 := (s13.box 8 rfl).1
    obtain ⟨_, _, _, _, z134, _⟩ := z13
    obtain ⟨gx, ex, cx, fx⟩ := s13.rowAt 9 rfl (j := i * 3 + 1) (by omega)
    rw [List.getElem?_eq_getElem (by omega)] at hxi
    injection hxi with hxi
    rw [hxi] at cx
    have z134' := z134
    rw [ex] at z134'
    simp -dsimp [go_sem, z134', p1, cx]
    refine SPL_intro (fun p2 => ?_) (fun p2 => ?_) <;> simp at p2
    · have wd : IntKind.i64.wrap ((d : Int) + 1) = (d : Int) + 1 := IntWalk.i64_in _ (by unfold maxLen at hnk; omega)
      obtain ⟨gk, u, ek, cu, fu⟩ := s13.cellsAt 10 rfl hmem p2
      subst ek
      have s14 := s13.cellsSet 10 rfl hmem p2 (.int .i64 (-5))
      unfold law02_GramWhich.b21_1
      simp -dsimp [go_sem, z134', p1, cx, p2, cu, fu, wd]
      exact hC3 _ _ ⟨d + 1, by simp, by omega, s14⟩ (by simp [iv]; omega)
    · obtain ⟨gx0, ex0, cx0, fx0⟩ := s13.rowAt 9 rfl (j := i * 3) (by omega)
      rw [ex] at ex0
      injection ex0 with ex0; injection ex0 with ex0; subst ex0
      have s13' : St noB w w13 (LgC b g at' asn ai ar ap ct cs ci cr cp vs ++ [boxC q 27 [.slice A1 g.terms.length c1, .slice A2 g.nons.length c2, .slice A3 g.levels.length c3, .int .i64 g.start, .slice A4 g.prods.length c4], boxC cb 27 [.slice At g.terms.length g.terms.length, .slice An g.nons.length g.nons.length, .slice Al g.levels.length g.levels.length, .int .i64 g.start, .slice Ap g.prods.length cp2], rowC 47 3 (some ⟨gx, 0, none⟩) g.prods.length cp2 xs, cellsAny us, cellsAny [.slice An g.nons.length g.nons.length]]) := by rw [← ex]; exact s13
      have s14 := s13'.setRow 9 rfl (i * 3) (.int .i64 (-5))
      unfold law02_GramWhich.b17
      simp -dsimp [go_sem, z134', p1, cx0, fx0]
      unfold law02_GramWhich.b14
      simp -dsimp [go_sem, wi]
      refine hC _ _ ⟨i + 1, xs.set (i * 3) (.int .i64 (-5)), by simp, by omega, fun j hj => ?_, ?_⟩ (by simp [iv]; omega)
      · rw [List.getElem?_set_ne (by omega)]; exact hxs j hj
      · rw [← ex] at s14; exact s14
  · unfold law02_GramWhich.b5
    refine law02_GramWhich.l7_intro _ _ _ _ _ _ _ _ _ _ _ _ (fun y w' => ∃ i : Nat, y = .int .i64 i ∧ i ≤ g.nons.length ∧ St noB w w' (LgC b g at' asn ai ar ap ct cs ci cr cp vs ++ [boxC q 27 [.slice A1 g.terms.length c1, .slice A2 g.nons.length c2, .slice A3 g.levels.length c3, .int .i64 g.start, .slice A4 g.prods.length c4], boxC cb 27 [.slice At g.terms.length g.terms.length, .slice An g.nons.length g.nons.length, .slice Al g.levels.length g.levels.length, .int .i64 g.start, .slice Ap g.prods.length cp2], rowC 47 3 Ap g.prods.length cp2 xs, cellsAny us, cellsAny [.slice An g.nons.length g.nons.length]])) (fun y _ => g.nons.length - iv y) ⟨0, rfl, by omega, s12⟩ ?_
    rintro _ w13 ⟨d, rfl, hd, s13⟩ C3 hC3
    have z13 := (s13.box 8 rfl).1
    obtain ⟨_, z131, _⟩ := z13
    simp -dsimp [go_sem, z131]
    refine SPL_intro (fun p2 => ?_) (fun p2 => ?_) <;> simp at p2
    · have wd : IntKind.i64.wrap ((d : Int) + 1) = (d : Int) + 1 := IntWalk.i64_in _ (by omega)
      obtain ⟨gk, u, ek, cu, fu⟩ := s13.cellsAt 11 rfl (List.mem_singleton.2 rfl) p2
      subst ek
      have s14 := s13.cellsSet 11 rfl (List.mem_singleton.2 rfl) p2 (.string ⟨#[109, 105, 110, 101]⟩)
      unfold law02_GramWhich.b8_1
      simp -dsimp [go_sem, z131, p2, cu, fu, wd]
      exact hC3 _ _ ⟨d + 1, by simp, by omega, s14⟩ (by simp [iv]; omega)
    · exact hend _ _ s13
end Go.Proofs.Ytkacbjhiobnbfaa

