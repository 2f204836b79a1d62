/-
  Texts of this claim: Le2, Le3.
-/
import Derived.Test.YtkacbjhiobnbfaaTk
import Derived.Test.YtkacbjhiobnbfaaGi
import Derived.Test.YtkacbjhiobnbfaaTl
import Derived.Test.YtkacbjhiobnbfaaTo
/-
  TreeGrows: what came out is turned.
-/
namespace Go.Px
open Go.RowKit
/-- Rows of numbers, whatever is in them. -/
def rowsAny (vs : List Value) : Ch where
  ok w F := ∀ v ∈ vs, ∃ a n c xs, v = .slice a n c ∧ (rowC 3 1 a n c xs).ok w F
  keep h hc hX hF := fun v hv => by obtain ⟨a, n, c, xs, e, hr⟩ := h v hv; exact ⟨a, n, c, xs, e, (rowC 3 1 a n c xs).keep hr hc hX hF⟩
theorem any_of_rows {w : World} {F : Nat → Prop} {vs : List Value} {xss : List (List Value)} (h : (rowsC 3 1 vs xss).ok w F) : (rowsAny vs).ok w F := by
  intro v hv
  obtain ⟨i, hi, rfl⟩ := List.getElem_of_mem hv
  obtain ⟨a, n, c, e, hr⟩ := h.2 i vs[i] (xss[i]'(by rw [← h.1]; exact hi)) (List.getElem?_eq_getElem hi) (List.getElem?_eq_getElem _)
  exact ⟨a, n, c, _, e, hr⟩
section
variable {G : Nat → Prop} {W w : World} {L : List Ch}
theorem St.setAny (h : St G W w L) (k : Nat) {vs : List Value} (hk : L[k]? = some (rowsAny vs)) {g n c : Nat} (hv : Value.slice (some ⟨g, 0, none⟩) n c ∈ vs) (j : Nat) (u : Value) : St G W (w.setCell ⟨g, j, none⟩ u) L := by
  obtain ⟨F, ho, _, hs⟩ := h.opn hk
  obtain ⟨a0, n0, c0, xs0, e0, hr0⟩ := ho _ hv
  injection e0 with e0 e1 e2
  subst e0
  have hFg : F g := hr0.2 g rfl
  have hcg : Chg (· = g) w (w.setCell ⟨g, j, none⟩ u) := chg_setCell w ⟨g, j, none⟩ u
  have h2 := hs (w.setCell ⟨g, j, none⟩ u) (rowsAny vs) (hcg.mono fun i _ e => by rw [e]; exact hFg) (fun v hv' => by
    obtain ⟨a, m, d, xs, e, hr⟩ := ho v hv'
    by_cases ha : a = some ⟨g, 0, none⟩
    · subst ha
      exact ⟨_, m, d, xs.set j u, e, (hr.1.stored j u).1, fun i hi => Or.inl (hr.2 i hi)⟩
    · refine ⟨a, m, d, xs, e, ?_⟩
      refine ⟨⟨hr.1.1, ?_⟩, fun i hi => Or.inl (hr.2 i hi)⟩
      rcases hr.1.2 with h1 | ⟨g', cap, cur, hv2, hb, hg, r⟩
      · exact Or.inl h1
      · refine Or.inr ⟨g', cap, cur, hv2, hb, ?_, r⟩
        have hne : g' ≠ g := by
          rintro rfl
          injection hv2 with hv2
          exact ha hv2
        rw [hcg.block g' (Array.getElem?_eq_some_iff.1 hg).1 hne]
        exact hg)
  rw [Go.Px.Scan.set_same hk] at h2
  exact h2
theorem St.anyAt (h : St G W w L) (k : Nat) {vs : List Value} (hk : L[k]? = some (rowsAny vs)) {a : Option Addr} {n c : Nat} (hv : Value.slice a n c ∈ vs) {j : Nat} (hj : j < n) : ∃ g u, a = some ⟨g, 0, none⟩ ∧ w.cell? ⟨g, j, none⟩ = some u ∧ w.frozen? ⟨g, j, none⟩ = false := by
  obtain ⟨F, ho, _⟩ := h.get hk
  obtain ⟨a0, n0, c0, xs, e0, hr⟩ := ho _ hv
  injection e0 with e1 e2 e3
  subst e1 e2 e3
  have hs := row_size hr
  obtain ⟨g, e, hc, hf, _⟩ := row_at hr (j := j) (by omega)
  exact ⟨g, _, e, hc, hf⟩
end
end Go.Px
namespace Go.Proofs.Ytkacbjhiobnbfaa
open Go.Px Go.Px.Scan Go.RowKit
set_option maxHeartbeats 1000000
set_option linter.unusedSimpArgs false
set_option linter.unusedVariables false
set_option maxRecDepth 100000
attribute [-go_sem] law20_TreeGrows.b9 law20_TreeGrows.b24 law20_TreeGrows.b23 law20_TreeGrows.b20 law20_TreeGrows.b27_1 law20_TreeGrows.b13 law20_TreeGrows.b38_1
theorem bJunk (x : Int) (w : World) : (Instr.build 61 #[(0, .int .i64 x)]).run Try.prog w = .ok (.agg #[.int .i64 x, .int .i64 0, .int .i64 0, .slice none 0 0]) w := by simp [go_sem]
attribute [go_sem ↓] bJunk
theorem set4_get {xs : List Value} {k j : Nat} {u0 u1 u2 u3 : Value} (h : k ≠ j) : ((((xs.set (k * 4) u0).set (k * 4 + 1) u1).set (k * 4 + 2) u2).set (k * 4 + 3) u3)[j * 4 + 3]? = xs[j * 4 + 3]? := by
  rw [List.getElem?_set_ne (by omega), List.getElem?_set_ne (by omega), List.getElem?_set_ne (by omega), List.getElem?_set_ne (by omega)]

theorem scrub {G : Nat → Prop} {W w1 : World} {L0 : List Ch} {R : EP} {C6 : VP} {x5 : Value} {a : Option Addr} {n c : Nat} {xs : List Value} {us : List Value} (s : St G W w1 ([rowC 61 4 a n c xs, rowsAny us] ++ L0)) (hn : n ≤ 3000000000000) (hus : us.length = n)
    (hx : ∀ j (h : j < us.length), xs[j * 4 + 3]? = some us[j]) (hC : ∀ w', St G W w' L0 → law20_TreeGrows.b9 R C6 x5 w') : law20_TreeGrows.l17 R C6 x5 (.slice a n c) (.int .i64 0) w1 := by
  have hxl : xs.length = n * 4 := (s.rowSize 0 rfl).1
  refine law20_TreeGrows.l17_intro _ _ _ _ _ _ (fun y w' => ∃ (k : Nat) (xs : List Value), y = .int .i64 k ∧ k ≤ n ∧ xs.length = n * 4 ∧ (∀ j (h : j < us.length), k ≤ j → xs[j * 4 + 3]? = some us[j]) ∧ St G W w' ([rowC 61 4 a n c xs, rowsAny us] ++ L0)) (fun y _ => n - iv y) ⟨0, xs, rfl, by omega, hxl, fun j h _ => hx j h, s⟩ ?_
  rintro _ w2 ⟨k, xs, rfl, hk, hxl, hx, s2⟩ C hC2
  simp -dsimp [go_sem]
  refine SPL_intro (fun p1 => ?_) (fun p1 => ?_) <;> simp at p1
  · have hku : k < us.length := by omega
    have hxk := hx k hku (Nat.le_refl _)
    have wk : IntKind.i64.wrap ((k : Int) + 1) = (k : Int) + 1 := IntWalk.i64_in _ (by omega)
    obtain ⟨ak, nk, ck, hv⟩ : ∃ a n c, us[k] = .slice a n c := by
      obtain ⟨F, ho, _⟩ := s2.get (k := 1) rfl
      obtain ⟨a, n, c, _, e, _⟩ := ho _ (List.getElem_mem hku)
      exact ⟨a, n, c, e⟩
    rw [hv] at hxk
    have hmem : Value.slice ak nk ck ∈ us := hv ▸ List.getElem_mem hku
    have hnk : nk ≤ maxLen := by
      obtain ⟨F, ho, _⟩ := s2.get (k := 1) rfl
      obtain ⟨a, n, c, _, e, hr⟩ := ho _ hmem
      injection e with e1 e2 e3
      have := row_size hr; omega
    have rd : ∀ w', St G W w' ([rowC 61 4 a n c xs, rowsAny us] ++ L0) → ∃ g, a = some ⟨g, 0, none⟩ ∧ w'.cell? ⟨g, k * 4 + 3, none⟩ = some (.slice ak nk ck) := by
      intro w' s'
      obtain ⟨g, e, hc, _⟩ := s'.rowAt 0 rfl (j := k * 4 + 3) (by omega)
      refine ⟨g, e, ?_⟩
      rw [hc, ← List.getElem?_eq_getElem (by omega)]
      exact hxk
    have hend : ∀ w', St G W w' ([rowC 61 4 a n c xs, rowsAny us] ++ L0) → law20_TreeGrows.b23 R C6 C (.slice a n c) (.int .i64 k) w' := by
      intro w' s'
      obtain ⟨g0, e0, c0, f0⟩ := s'.rowAt 0 rfl (j := k * 4) (by omega)
      subst e0
      have s3 := s'.setRow 0 rfl (k * 4) (.int .i64 (-8))
      obtain ⟨g1, e1, c1, f1⟩ := s3.rowAt 0 rfl (j := k * 4 + 1) (by simp; omega)
      injection e1 with e1; injection e1 with e1; subst e1
      have s4 := s3.setRow 0 rfl (k * 4 + 1) (.int .i64 0)
      obtain ⟨g1, e1, c2, f2⟩ := s4.rowAt 0 rfl (j := k * 4 + 2) (by simp; omega)
      injection e1 with e1; injection e1 with e1; subst e1
      have s5 := s4.setRow 0 rfl (k * 4 + 2) (.int .i64 0)
      obtain ⟨g1, e1, c3, f3⟩ := s5.rowAt 0 rfl (j := k * 4 + 3) (by simp; omega)
      injection e1 with e1; injection e1 with e1; subst e1
      have s6 := s5.setRow 0 rfl (k * 4 + 3) (.slice none 0 0)
      unfold law20_TreeGrows.b23
      simp -dsimp [go_sem, p1, c0, f0, c1, f1, c2, f2, c3, f3]
      unfold law20_TreeGrows.b20
      simp -dsimp [go_sem, wk]
      exact hC2 _ _ ⟨k + 1, _, by simp, by omega, by simp [hxl], fun j h hj => by
        have := hx j h (by omega)
        rw [← this]
        exact set4_get (by omega), s6⟩ (by simp [iv]; omega)
    unfold law20_TreeGrows.b24
    refine law20_TreeGrows.l26_intro _ _ _ _ _ _ _ (fun y w' => ∃ d : Nat, y = .int .i64 d ∧ d ≤ nk ∧ St G W w' ([rowC 61 4 a n c xs, rowsAny us] ++ L0)) (fun y _ => nk - iv y) ⟨0, rfl, by omega, s2⟩ ?_
    rintro _ w3 ⟨d, rfl, hd, s3⟩ C3 hC3
    obtain ⟨g, ea, cx⟩ := rd w3 s3
    have p1' : k < n := p1
    rw [ea]
    simp -dsimp [go_sem, p1, cx]
    refine SPL_intro (fun p2 => ?_) (fun p2 => ?_) <;> simp at p2
    · obtain ⟨gk, u, ek, cu, fu⟩ := s3.anyAt 1 rfl hmem p2
      subst ek
      have wd : IntKind.i64.wrap ((d : Int) + 1) = (d : Int) + 1 := IntWalk.i64_in _ (by unfold maxLen at hnk; omega)
      have s4 := s3.setAny 1 rfl hmem d (.int .i64 (-6))
      unfold law20_TreeGrows.b27_1
      simp -dsimp [go_sem, p1, cx, p2, cu, fu, wd]
      exact hC3 _ _ ⟨d + 1, by simp, by omega, s4⟩ (by simp [iv]; omega)
    · rw [← ea]
      exact hend _ s3
  · exact hC _ ((s2.pick (List.range' 2 L0.length) List.nodup_range' (by
      apply List.ext_getElem
      · simp
      · intro i h1 h2
        simp at h1
        simp [List.getElem_range', show 2 + i = i + 2 by omega])))

theorem scrubL {G : Nat → Prop} {W w1 : World} {L0 : List Ch} {R : EP} {C6 : VP} {x0 x3 x4 x5 : Value} {m n c : Nat} {xs : List Value} (s : St G W w1 ([rowC 3 1 (some ⟨m, 0, none⟩) (n + 8) (n + 8) xs] ++ L0)) (hn : n ≤ 20000000000000)
    (hC : ∀ w', St G W w' L0 → law20_TreeGrows.b13 R C6 x0 x3 x4 x5 w') : law20_TreeGrows.l37 R C6 x0 x3 x4 x5 (.slice (some ⟨m, 0, none⟩) n c) (.int .i64 0) w1 := by
  refine law20_TreeGrows.l37_intro _ _ _ _ _ _ _ _ _ (fun y w' => ∃ (k : Nat) (xs : List Value), y = .int .i64 k ∧ k ≤ n ∧ St G W w' ([rowC 3 1 (some ⟨m, 0, none⟩) (n + 8) (n + 8) xs] ++ L0)) (fun y _ => n - iv y) ⟨0, xs, rfl, by omega, s⟩ ?_
  rintro _ w2 ⟨k, xs, rfl, hk, s2⟩ C hC2
  simp -dsimp [go_sem]
  refine SPL_intro (fun p1 => ?_) (fun p1 => ?_) <;> simp at p1
  · have wk : IntKind.i64.wrap ((k : Int) + 1) = (k : Int) + 1 := IntWalk.i64_in _ (by omega)
    have hxl := (s2.rowSize 0 rfl).1
    obtain ⟨g0, e0, c0, f0⟩ := s2.rowAt 0 rfl (j := k) (by omega)
    injection e0 with e0; injection e0 with e0; subst e0
    have s3 := s2.setRow 0 rfl k (.int .i64 (-4))
    unfold law20_TreeGrows.b38_1
    simp -dsimp [go_sem, p1, c0, f0, wk]
    exact hC2 _ _ ⟨k + 1, _, by simp, by omega, s3⟩ (by simp [iv]; omega)
  · exact hC _ ((s2.pick (List.range' 1 L0.length) List.nodup_range' (by
      apply List.ext_getElem
      · simp
      · intro i h1 h2
        simp at h1
        simp [List.getElem_range', show 1 + i = i + 1 by omega])))
end Go.Proofs.Ytkacbjhiobnbfaa

/-
  TreeGrows.
-/
namespace Go.Px.Scan
open Go.Px Go.RowKit
def stepS (o : Nd) (s : List Nd × List Nat) : (Int × Int) × (List Nd × List Nat) := if o.1.tmod 2 = 0 then leafS s.1 s.2 o.2.1 o.2.2.1 else joinS s.1 s.2 o.2.1 o.2.2.1 o.2.2.2
structure InvA (l : List Nd) (met : List Nat) (i : Nat) : Prop where
  met : ∀ m ∈ met, m < l.length
  len : l.length ≤ i
  nums : ndIn l
  kids : ∀ x ∈ l, x.2.2.2.length * 8 ≤ maxBytes
theorem InvA.leaf {l : List Nd} {met : List Nat} {i : Nat} (h : InvA l met i) {sy tk : Int} (h1 : inI64 sy) (h2 : inI64 tk) : InvA (leafS l met sy tk).2.1 (leafS l met sy tk).2.2 (i + 1) := by
  unfold leafS
  split
  · exact ⟨h.met, by have := h.len; simp; omega, h.nums, h.kids⟩
  · refine ⟨fun m hm => by have := h.met m hm; simp; omega, by have := h.len; simp; omega, fun x hx => ?_, fun x hx => ?_⟩
    · rcases List.mem_append.1 hx with hx | hx
      · exact h.nums x hx
      · rw [List.mem_singleton] at hx; subst hx; exact ⟨h1, (by unfold inI64; decide : inI64 (-1)), h2, by simp⟩
    · rcases List.mem_append.1 hx with hx | hx
      · exact h.kids x hx
      · rw [List.mem_singleton] at hx; subst hx; simp
theorem InvA.join {l : List Nd} {met : List Nat} {i : Nat} (h : InvA l met i) {sy pr : Int} {ks : List Int} (h1 : inI64 sy) (h2 : inI64 pr) (h3 : ∀ k ∈ ks, inI64 k) (h4 : ks.length * 8 ≤ maxBytes) : InvA (joinS l met sy pr ks).2.1 (joinS l met sy pr ks).2.2 (i + 1) := by
  unfold joinS
  split
  · exact ⟨h.met, by have := h.len; simp; omega, h.nums, h.kids⟩
  · rename_i hno
    have hok : kidsOk l.length met ks := by
      by_cases e : kidsOk l.length met ks
      · exact e
      · exact absurd (Or.inr (Or.inr e)) hno
    refine ⟨fun m hm => ?_, by have := h.len; simp; omega, fun x hx => ?_, fun x hx => ?_⟩
    · have : m < l.length := by
        rcases List.mem_append.1 hm with hm | hm
        · obtain ⟨y, hy, rfl⟩ := List.mem_map.1 hm
          have := hok.1 y hy; omega
        · exact h.met m hm
      simp; omega
    · rcases List.mem_append.1 hx with hx | hx
      · exact h.nums x hx
      · rw [List.mem_singleton] at hx; subst hx; exact ⟨h1, h2, (by unfold inI64; decide : inI64 0), h3⟩
    · rcases List.mem_append.1 hx with hx | hx
      · exact h.kids x hx
      · rw [List.mem_singleton] at hx; subst hx; exact h4
theorem arC_read {G : Nat → Prop} {W w : World} {L : List Ch} {k T b : Nat} {l : List Nd} {met : List Nat} (s : St G W w L) (hk : L[k]? = some (arC T b l met)) (hin : ndIn l) : ∃ a c, w.cell? ⟨b, 0, none⟩ = some (.slice a l.length c) ∧ (rSlice rNd).at1 w w.heap.size (.slice a l.length c) l ∧ b < w.heap.size := by
  obtain ⟨F, ⟨an, cn, at', ct, vs⟩, si, _⟩ := s.inEx hk
  have y0 := si.box 0 rfl
  simp [boxAt] at y0
  obtain ⟨F1, h1, _⟩ := si.get (k := 1) rfl
  obtain ⟨F3, h3, _⟩ := si.get (k := 3) rfl
  exact ⟨an, cn, y0.1.1, ndC_rd h1 h3 hin (Nat.le_refl _), y0.2.2⟩
end Go.Px.Scan
namespace Go.Proofs.Ytkacbjhiobnbfaa
open Go.Px Go.Px.Scan Go.RowKit
set_option maxHeartbeats 1000000
set_option linter.unusedSimpArgs false
set_option linter.unusedVariables false
set_option maxRecDepth 100000
attribute [-go_sem] law20_TreeGrows.b1_1 law20_TreeGrows.b4 law20_TreeGrows.b3 law20_TreeGrows.b3_1 law20_TreeGrows.b13 law20_TreeGrows.b13_1 law20_TreeGrows.b13_2 law20_TreeGrows.b14 law20_TreeGrows.b15 law20_TreeGrows.b15_1 law20_TreeGrows.b28 law20_TreeGrows.b9 law20_TreeGrows.b29 law20_TreeGrows.b30 law20_TreeGrows.b31 law20_TreeGrows.b31_1 law20_TreeGrows.b31_2 law20_TreeGrows.b32 law20_TreeGrows.b33 law20_TreeGrows.b33_1 law20_TreeGrows.b33_2 law20_TreeGrows.b33_3 law20_TreeGrows.b35 law20_TreeGrows.b39 law20_TreeGrows.b39_1 law20_TreeGrows.b40

/-- What is looked at behind each step. -/
theorem looked {W w1 : World} {R : EP} {C : VP} {x0 : Value} {ba br i n c : Nat} {A : Option Addr} {l : List Nd} {met : List Nat} (hI : InvA l met (i + 1)) (hn : i < n) (hN : n * 48 ≤ maxBytes) (hx0 : x0 = .slice A n c)
    (s : St noB W w1 [arC 81 ba l met, arC 70 br l met]) (hC : ∀ w', St noB W w' [arC 81 ba l met, arC 70 br l met] → C (.int .i64 ((i + 1 : Nat) : Int)) w') :
    law20_TreeGrows.b13 R C x0 (.pointer (some ⟨ba, 0, none⟩)) (.pointer (some ⟨br, 0, none⟩)) (.int .i64 i) w1 := by
  subst hx0
  have hl : l.length ≤ n := by have := hI.len; omega
  have hl48 : l.length * 48 ≤ maxBytes := by omega
  have wi : IntKind.i64.wrap ((i : Int) + 1) = ((i + 1 : Nat) : Int) := by rw [show (i : Int) + 1 = ((i + 1 : Nat) : Int) by omega]; exact IntWalk.i64_in _ (by unfold maxBytes at hN; omega)
  have wn : IntKind.i64.wrap ((n : Int) - 1) = (n : Int) - 1 := IntWalk.i64_in _ (by unfold maxBytes at hN; omega)
  have h9 : ∀ w', St noB W w' [arC 81 ba l met, arC 70 br l met] → law20_TreeGrows.b9 R C (.int .i64 i) w' := by
    intro w' s'
    unfold law20_TreeGrows.b9
    simp -dsimp [go_sem, wi]
    exact hC w' s'
  have h14 : ∀ p w', St noB W w' [arC 81 ba l met, arC 70 br l met] → law20_TreeGrows.b14 R C (.pointer (some ⟨ba, 0, none⟩)) (.pointer (some ⟨br, 0, none⟩)) (.int .i64 i) (.bool p) w' := by
    intro p w' s'
    unfold law20_TreeGrows.b14
    cases p with
    | false =>
      simp -dsimp [go_sem]
      unfold law20_TreeGrows.b28
      exact h9 w' s'
    | true =>
      simp -dsimp [go_sem]
      unfold law20_TreeGrows.b15
      refine CALL_of (Nodes_ct s' (k := 0) rfl hl48 hI.kids hI.nums) ?_
      rintro _ w2 ⟨a, c, us, rfl, s2⟩
      have s3 := s'.seq s2
      obtain ⟨a2, c2, hcell, hrd, _⟩ := arC_read s3 (k := 1) rfl hI.nums
      unfold law20_TreeGrows.b15_1
      simp -dsimp [go_sem, hcell]
      refine CALL_of (refNdSame_ct (ndC_at s3 2 3 rfl rfl hI.nums) hrd (Nat.le_refl _)) ?_
      rintro _ w4 ⟨rfl, hc4⟩
      have s4 := s3.old hc4
      simp -dsimp [go_sem]
      have hus : us.length = l.length := by
        obtain ⟨F, ho, _⟩ := s4.get (k := 3) rfl
        have := ho.1; simpa using this
      have s5 := (s4.turn (k := 3) rfl fun F ho => any_of_rows ho).pick [2, 3, 0, 1] (L' := [rowC 61 4 a l.length c ((l.zip us).flatMap cNd), rowsAny us] ++ [arC 81 ba l met, arC 70 br l met]) (by decide) rfl
      exact scrub s5 (by unfold maxBytes at hl48; omega) hus (fun j h => zip_get (by omega) h) fun w' s' => h9 w' s'
  obtain ⟨a2, c2, hcell, hrd, hbr⟩ := arC_read s (k := 1) rfl hI.nums
  unfold law20_TreeGrows.b13
  have s1 := s.old (Chg.refl noB _).drew
  simp -dsimp [go_sem, hcell]
  refine CALL_of (ArLen_ct s1 (k := 0) rfl) ?_
  rintro _ _ ⟨rfl, rfl⟩
  simp -dsimp [go_sem, hcell]
  unfold law20_TreeGrows.b13_2
  simp -dsimp [go_sem]
  refine SPL_intro (fun p1 => ?_) (fun p1 => ?_)
  · exact h14 _ _ s1
  · unfold law20_TreeGrows.b13_1
    simp -dsimp [go_sem, wn]
    exact h14 _ _ s1

theorem TreeGrows_ct {w : World} {B : Nat} {vsc : Value} {sc : List Nd} (h : (rSlice rNd).at1 w B vsc sc) (hB : B ≤ w.heap.size) (hN : sc.length * 48 ≤ maxBytes) (hkd : ∀ x ∈ sc, x.2.2.2.length * 8 ≤ reachN) :
    Ct Try.prog law20_TreeGrows.id #[vsc] w fun v w' => v = .bool true ∧ Chg noB w w' := by
  refine law20_TreeGrows.ct fun R hR => ?_
  obtain ⟨A, cn, rfl, hl1, hl2, _⟩ := slice_form h
  have hin := ndIn_of h
  unfold law20_TreeGrows.run
  simp -dsimp [go_sem]
  refine CALL_of (New_ct w) ?_
  rintro _ w1 ⟨rfl, s1⟩
  generalize w.heap.size = ba at s1 ⊢
  unfold law20_TreeGrows.b1_1
  have s2 := s1.alloc #[.slice none 0 0, .slice none 0 0] 70
  simp -dsimp [go_sem]
  generalize w1.alloc (.cells #[.slice none 0 0, .slice none 0 0] 70) = w2 at s2 ⊢
  generalize w1.heap.size = br at s2 ⊢
  have s3 : St noB w w2 [arC 81 ba [] [], arC 70 br [] []] := (s2.turn (k := 0) rfl fun F ho => arC_new (T := 81) ho).turn (k := 1) rfl fun F ho => arC_new (T := 70) ho
  have i0 : InvA [] [] 0 := ⟨by simp, by simp, fun x hx => by simp at hx, by simp⟩
  unfold law20_TreeGrows.b4
  refine law20_TreeGrows.l6_intro _ _ _ _ _ _ (fun y w' => ∃ (i : Nat) (l : List Nd) (met : List Nat), y = .int .i64 i ∧ i ≤ sc.length ∧ InvA l met i ∧ St noB w w' [arC 81 ba l met, arC 70 br l met]) (fun y _ => sc.length - iv y) ⟨0, [], [], rfl, by omega, i0, s3⟩ ?_
  rintro _ w3 ⟨i, l, met, rfl, hi, hI, s4⟩ C hC
  have hl : l.length ≤ i := hI.len
  simp -dsimp [go_sem]
  refine SPL_intro (fun p1 => ?_) (fun p1 => ?_) <;> simp at p1
  · obtain ⟨bp, op, vr, ep, hbp, x1, x2, x3, x4, hkr, z1, z2, z3⟩ := nodes_at h p1
    subst ep
    have hbpw : bp < w.heap.size := by omega
    have x1 := (s4.chg.cell (p := ⟨bp, op + i * 4, none⟩) hbpw id).trans x1
    have x2 := (s4.chg.cell (p := ⟨bp, op + i * 4 + 1, none⟩) hbpw id).trans x2
    have x3 := (s4.chg.cell (p := ⟨bp, op + i * 4 + 2, none⟩) hbpw id).trans x3
    have x4 := (s4.chg.cell (p := ⟨bp, op + i * 4 + 3, none⟩) hbpw id).trans x4
    obtain ⟨Ar, cr, rfl, hr1, hr2, _⟩ := slice_form hkr
    have hk8 := hkd _ (List.getElem_mem p1)
    have hki := (hin _ (List.getElem_mem p1)).2.2.2
    obtain ⟨o, ho⟩ : ∃ o, sc[i] = o := ⟨_, rfl⟩
    rw [ho] at x1 x2 x3 x4 hkr hr1 z1 z2 z3 hk8 hki
    obtain ⟨kd, a, b, ks⟩ := o
    simp only at x1 x2 x3 x4 hkr hr1 z1 z2 z3 hk8 hki
    have ho' : sc[i].2.2.2 = ks := by rw [ho]
    have rk : ∀ {w'}, Chg noB w w' → (rSlice rInt).at1 w' w'.heap.size (.slice Ar ks.length cr) ks := fun hc => Rep.up (Rep.below hkr (hc.below hB fun _ _ => id)) (by have := hc.size; omega)
    have hk8' := reach_max hk8
    have hlb : (l.length + 1) * 48 ≤ maxBytes := by omega
    have fin : ∀ l' met' w', InvA l' met' (i + 1) → St noB w w' [arC 81 ba l' met', arC 70 br l' met'] → law20_TreeGrows.b13 R C (.slice (some ⟨bp, op, none⟩) sc.length cn) (.pointer (some ⟨ba, 0, none⟩)) (.pointer (some ⟨br, 0, none⟩)) (.int .i64 i) w' := by
      intro l' met' w' hI' s'
      exact looked hI' p1 hN rfl s' fun w2 s2 => hC _ _ ⟨i + 1, l', met', rfl, by omega, hI', s2⟩ (by simp [iv]; omega)
    have s5 := s4.alloc #[.int .i64 kd, .int .i64 a, .int .i64 b, .slice Ar ks.length cr] 72
    simp -dsimp [go_sem, p1, x1, x2, x3, x4, ho']
    generalize w3.alloc (.cells #[.int .i64 kd, .int .i64 a, .int .i64 b, .slice Ar ks.length cr] 72) = w5 at s5 ⊢
    generalize w3.heap.size = ob at s5 ⊢
    have s5 : St noB w w5 [arC 81 ba l met, arC 70 br l met, boxC ob 72 [.int .i64 kd, .int .i64 a, .int .i64 b, .slice Ar ks.length cr]] := s5
    have y5 := s5.box 2 rfl
    simp [boxAt] at y5
    unfold law20_TreeGrows.b29
    simp -dsimp [go_sem, y5]
    unfold law20_TreeGrows.b30
    refine SPL_intro (fun p2 => ?_) (fun p2 => ?_)
    · unfold law20_TreeGrows.b31
      simp -dsimp [go_sem, y5]
      refine CALL_of (Leaf_ct s5 (k := 0) rfl hI.met hlb) ?_
      rintro _ w6 ⟨rfl, s6⟩
      have y6 := s6.box 2 rfl
      simp [boxAt] at y6
      unfold law20_TreeGrows.b31_2
      simp -dsimp [go_sem, y6]
      refine CALL_of (refLeaf_ct s6 (k := 1) rfl hI.met hlb) ?_
      rintro _ w7 ⟨rfl, s7⟩
      have s7 : St noB w w7 [arC 81 ba (leafS l met a b).2.1 (leafS l met a b).2.2, arC 70 br (leafS l met a b).2.1 (leafS l met a b).2.2, boxC ob 72 [.int .i64 kd, .int .i64 a, .int .i64 b, .slice Ar ks.length cr]] := s7
      have hI' := hI.leaf z2 z3
      generalize leafS l met a b = st at s7 hI' ⊢
      unfold law20_TreeGrows.b31_1
      simp -dsimp [go_sem]
      unfold law20_TreeGrows.b32
      simp -dsimp [go_sem]
      exact fin _ _ _ hI' (s7.take 2)
    · unfold law20_TreeGrows.b33
      simp -dsimp [go_sem, y5]
      refine CALL_of (Lent_ct (rk s5.chg) (Nat.le_refl _) hk8) ?_
      rintro _ w6 ⟨m, rfl, s6⟩
      have s6 := s5.seq s6
      have y6 := s6.box 2 rfl
      simp [boxAt] at y6
      unfold law20_TreeGrows.b33_3
      simp -dsimp [go_sem, y6]
      refine CALL_of (Join_ct s6 (k := 0) rfl hI.met hlb hk8' fun w' c s' => lent_at s' 3 rfl hki) ?_
      rintro _ w7 ⟨rfl, s7⟩
      have y7 := s7.box 2 rfl
      simp [boxAt] at y7
      unfold law20_TreeGrows.b33_2
      simp -dsimp [go_sem, y7]
      refine CALL_of (refJoin_ct s7 (k := 1) rfl hI.met hlb hk8' fun w' c s' => rk s'.chg) ?_
      rintro _ w8 ⟨rfl, s8⟩
      have s8 : St noB w w8 [arC 81 ba (joinS l met a b ks).2.1 (joinS l met a b ks).2.2, arC 70 br (joinS l met a b ks).2.1 (joinS l met a b ks).2.2, boxC ob 72 [.int .i64 kd, .int .i64 a, .int .i64 b, .slice Ar ks.length cr], lentC m ks] := s8
      have hI' := hI.join z2 z3 hki hk8'
      generalize joinS l met a b ks = st at s8 hI' ⊢
      have y8 := s8.box 2 rfl
      simp [boxAt] at y8
      unfold law20_TreeGrows.b33_1
      simp -dsimp [go_sem]
      unfold law20_TreeGrows.b39
      simp -dsimp [go_sem]
      unfold law20_TreeGrows.b39_1
      simp -dsimp [go_sem, y8]
      refine CALL_of (Whole_ct s8 (k := 3) rfl (rk s8.chg) (Nat.le_refl _) hk8) ?_
      rintro _ w9 ⟨rfl, hc9⟩
      have s9 := s8.old hc9
      simp -dsimp [go_sem]
      unfold law20_TreeGrows.b40
      simp -dsimp [go_sem]
      unfold law20_TreeGrows.b35
      have s10 := s9.pick [3, 0, 1] (L' := [lentC m ks] ++ [arC 81 ba st.2.1 st.2.2, arC 70 br st.2.1 st.2.2]) (by decide) rfl
      exact scrubL s10 (by unfold reachN at hk8; omega) fun w' s' => fin _ _ _ hI' s'
  · have hl48 : l.length * 48 ≤ maxBytes := by omega
    obtain ⟨a2, c2, hcell, hrd, hbr⟩ := arC_read s4 (k := 1) rfl hI.nums
    have s5 := s4.old (Chg.refl noB _).drew
    unfold law20_TreeGrows.b3
    simp -dsimp [go_sem, hcell]
    refine CALL_of (Nodes_ct s5 (k := 0) rfl hl48 hI.kids hI.nums) ?_
    rintro _ w6 ⟨a, c, us, rfl, s6⟩
    have s7 := s5.seq s6
    have hcell6 := (s6.chg.cell (p := ⟨br, 0, none⟩) hbr id).trans hcell
    have hrd6 : (rSlice rNd).at1 w6 w6.heap.size (.slice a2 l.length c2) l := Rep.up (Rep.below hrd (((Chg.refl noB _).drew.trans s6.chg).below (Nat.le_refl _) fun _ _ => id)) s6.chg.size
    unfold law20_TreeGrows.b3_1
    simp -dsimp [go_sem, hcell6]
    refine CALL_of (refNdSame_ct (ndC_at s7 2 3 rfl rfl hI.nums) hrd6 (Nat.le_refl _)) ?_
    rintro _ w8 ⟨rfl, hc8⟩
    simp -dsimp [go_sem]
    refine CALL_of (awake20_ct w8) ?_
    rintro _ w9 ⟨rfl, hc9⟩
    exact hR _ _ ⟨rfl, (s7.chg.trans hc8).trans hc9⟩
end Go.Proofs.Ytkacbjhiobnbfaa

