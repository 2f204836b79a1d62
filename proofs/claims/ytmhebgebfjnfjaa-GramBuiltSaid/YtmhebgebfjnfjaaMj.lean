/-
  Texts of this claim: Gp6, Gp7, Gp8, Gp9.
-/
import Derived.Test.YtmhebgebfjnfjaaMi
import Derived.Test.YtmhebgebfjnfjaaGd
import Derived.Laws.CopyRow
import Derived.Laws.IdiomCopy
import Derived.Test.YtmhebgebfjnfjaaGg
import Derived.Test.YtmhebgebfjnfjaaMd
/-
  The document's Lent and Whole; calls of the document's builder.
-/
namespace Go.Px
open Go.RowKit
section
variable {G : Nat → Prop} {W w : World} {L : List Ch}
theorem St.setRowBox (h : St G W w L) (k : Nat) {b : Nat} {t : TypeId} {cs : List Value} (hk : L[k]? = some (boxC b t cs)) (cs' : List Value) : St G W (w.setRow b cs'.toArray) (L.set k (boxC b t cs')) := by
  obtain ⟨F, ho, _, hs⟩ := h.opn hk
  refine hs _ _ ?_ ⟨Or.inl ho.1, setRow_heap w b _ _ t _ ho.2⟩
  exact ⟨rfl, rfl, rfl, by simp [World.setRow], fun j hj hF => by
    have : j ≠ b := fun e => hF (e ▸ ho.1)
    exact setRow_other w b j _ this⟩
theorem row_of_box {w : World} {F : Nat → Prop} {b : Nat} {e : TypeId} {cs : List Value} {size n : Nat} (h : (boxC b e cs).ok w F) (hn : n ≤ maxLen) (hs : cs.length = n * size) : (rowC e size (some ⟨b, 0, none⟩) n n cs).ok w F :=
  ⟨⟨by simpa using hs, Or.inr ⟨b, n, _, rfl, Nat.zero_le _, h.2, Nat.le_refl _, hn, by simpa using hs, by rw [← hs]; simp⟩⟩, fun i hi => by injection hi with hi; rw [← hi]; exact h.1⟩
end
end Go.Px
namespace Go.Proofs.Ytmhebgebfjnfjaa
open Go.Px Go.Px.Scan Go.RowKit
set_option maxHeartbeats 1000000
set_option linter.unusedSimpArgs false
set_option linter.unusedVariables false
set_option maxRecDepth 100000
attribute [-go_sem] Builtin.append_

/-- What stands behind a lent list. -/
def spares (k : Nat) : List Value := (List.range 8).map fun i : Nat => if i < k then Value.int .i64 (7000 + (i : Int)) else .int .i64 0
theorem spares_zero : spares 0 = List.replicate 8 (Value.int .i64 0) := rfl
theorem spares_set {k : Nat} (h : k < 8) : (spares k).set k (.int .i64 (7000 + (k : Int))) = spares (k + 1) := by
  apply List.ext_getElem
  · simp [spares]
  · intro i h1 h2
    simp only [spares, List.getElem_set, List.getElem_map, List.getElem_range]
    by_cases e : k = i
    · subst e; simp
    · rw [if_neg e]
      by_cases e2 : i < k
      · rw [if_pos e2, if_pos (by omega)]
      · rw [if_neg e2, if_neg (by omega)]

/-- A lent list's memory. -/
def lentC (m : Nat) (l : List Int) : Ch := rowC 3 1 (some ⟨m, 0, none⟩) (l.length + 8) (l.length + 8) (l.map (.int .i64 ·) ++ spares 8)

theorem copy_in {w1 : World} {B m : Nat} {A : Option Addr} {c : Nat} {l : List Int} {L : List Ch} {W : World} {G : Nat → Prop} (hu : (rSlice rInt).at1 w1 B (.slice A l.length c) l) (h : St G W w1 (L ++ [boxC m 3 (List.replicate (l.length + 8) (Value.int .i64 0))])) :
    ∃ r w2, (Builtin.copy_ #[30, 30] 3 #[.slice (some ⟨m, 0, none⟩) (l.length + 8) (l.length + 8), .slice A l.length c]).run Try.prog w1 = .ok r w2 ∧ St G W w2 (L ++ [boxC m 3 (l.map (.int .i64 ·) ++ spares 0)]) := by
  have hi : (Try.prog.info? 3).map (·.size) = some 1 := by
    obtain ⟨i0, h1, _, h2, _⟩ := info_parts iInt
    rw [h1]; simp [h2]
  by_cases h0 : l.length = 0
  · refine ⟨_, w1, run_copy_none (P := Try.prog) w1 30 30 3 3 _ _ _ _ _ _ Try.underlying30 hi (by rw [h0]; simp), ?_⟩
    have : l = [] := List.length_eq_zero_iff.1 h0
    subst this
    simpa [spares_zero] using h
  · have hp : 0 < l.length := by omega
    obtain ⟨b, o, rfl, hb, _, _⟩ := Go.Px.ints_at hu hp
    have hk : (L ++ [boxC m 3 (List.replicate (l.length + 8) (Value.int .i64 0))])[L.length]? = some (boxC m 3 (List.replicate (l.length + 8) (Value.int .i64 0))) := by simp
    obtain ⟨F, ho, _⟩ := h.get hk
    refine ⟨_, _, run_copy_row (P := Try.prog) w1 30 30 3 3 m 0 (l.length + 8) (l.length + 8) ⟨b, o, none⟩ l.length c _ 3 (l.map (.int .i64 ·)) Try.underlying30 hi ho.2 (by simp) (fun j v hj => ?_) (by simp) (by
      intro v hv; obtain ⟨y, _, rfl⟩ := List.mem_map.1 hv; rfl), ?_⟩
    · have hjl := (List.getElem?_eq_some_iff.1 hj).1
      have hje := (List.getElem?_eq_some_iff.1 hj).2
      simp at hjl hje
      obtain ⟨b', o', e9, _, x1, _⟩ := Go.Px.ints_at hu hjl
      injection e9 with e9; injection e9 with e9 e10; subst e9 e10
      have ha : Addr.add ⟨b, o, none⟩ j = ⟨b, o + j, none⟩ := by unfold Addr.add; split <;> simp_all
      rw [ha, x1, hje]
    · have h2 := h.setRowBox L.length hk (l.map (.int .i64 ·) ++ spares 0)
      have e : ((List.replicate (l.length + 8) (Value.int .i64 0)).toArray.toList.take 0 ++ l.map (Value.int .i64 ·) ++ (List.replicate (l.length + 8) (Value.int .i64 0)).toArray.toList.drop (0 + (l.map (Value.int .i64 ·)).length)) = l.map (.int .i64 ·) ++ spares 0 := by
        rw [spares_zero]; simp
      rw [e]
      simpa using h2

theorem Lent_ct {w : World} {B : Nat} {u : Value} {l : List Int} (hu : (rSlice rInt).at1 w B u l) (hB : B ≤ w.heap.size) (hfit : l.length * 8 ≤ reachN) :
    Ct Try.prog ref01_Lent.id #[u] w fun v w' => ∃ m, v = .tuple #[.slice (some ⟨m, 0, none⟩) l.length (l.length + 8), .slice (some ⟨m, 0, none⟩) (l.length + 8) (l.length + 8)] ∧ St noB w w' [lentC m l] := by
  refine ref01_Lent.ct fun R hR => ?_
  obtain ⟨A, c, rfl, hl1, hl2, _⟩ := slice_form hu
  have hn : l.length ≤ 20000000000000 := by unfold reachN at hfit; omega
  have wn : IntKind.i64.wrap ((l.length : Int) + 8) = (l.length : Int) + 8 := IntWalk.i64_in _ (by omega)
  have hmk := mkZeros w (l.length + 8) (by unfold reachN at hfit; unfold maxBytes; omega)
  rw [show (((l.length + 8 : Nat)) : Int) = (l.length : Int) + 8 by omega] at hmk
  have h1 := (St.refl noB w).alloc (Array.replicate (l.length + 8) (Value.int .i64 0)) 3
  rw [Array.toList_replicate] at h1
  have hu1 : (rSlice rInt).at1 (w.alloc (.cells (Array.replicate (l.length + 8) (Value.int .i64 0)) 3)) B (.slice A l.length c) l := Rep.below hu (h1.chg.below hB fun _ _ => id)
  obtain ⟨r2, w2, hcp, h2⟩ := copy_in (L := []) hu1 h1
  unfold ref01_Lent.run
  simp -dsimp [go_sem, wn, hmk, hcp]
  have h3 : St noB w w2 [rowC 3 1 (some ⟨w.heap.size, 0, none⟩) (l.length + 8) (l.length + 8) (l.map (.int .i64 ·) ++ spares 0)] :=
    h2.turn (k := 0) rfl fun F ho => row_of_box ho (by unfold maxLen; omega) (by simp [spares])
  generalize w.heap.size = m at h3 ⊢
  refine ref01_Lent.l6_intro _ _ _ _ _ (fun y w' => ∃ k : Nat, y = .int .i64 k ∧ k ≤ 8 ∧ St noB w w' [rowC 3 1 (some ⟨m, 0, none⟩) (l.length + 8) (l.length + 8) (l.map (.int .i64 ·) ++ spares k)]) (fun y _ => 8 - iv y) ⟨0, rfl, by omega, h3⟩ ?_
  rintro _ w4 ⟨k, rfl, hk, h4⟩ C hC
  simp -dsimp [go_sem]
  refine SPL_intro (fun p1 => ?_) (fun p1 => ?_) <;> simp at p1
  · have hk8 : k < 8 := by omega
    have w1 : IntKind.i64.wrap ((l.length : Int) + k) = (l.length : Int) + k := IntWalk.i64_in _ (by omega)
    have w2 : IntKind.i64.wrap (7000 + (k : Int)) = 7000 + (k : Int) := IntWalk.i64_in _ (by omega)
    have w3 : IntKind.i64.wrap ((k : Int) + 1) = (k : Int) + 1 := IntWalk.i64_in _ (by omega)
    obtain ⟨g1, e1, d1, f1⟩ := h4.rowAt 0 rfl (j := l.length + k) (by simp [spares]; omega)
    injection e1 with e1; injection e1 with e1; subst e1
    have h5 := h4.setRow 0 rfl (l.length + k) (.int .i64 (7000 + (k : Int)))
    have es : (l.map (Value.int .i64 ·) ++ spares k).set (l.length + k) (.int .i64 (7000 + (k : Int))) = l.map (.int .i64 ·) ++ spares (k + 1) := by
      rw [List.set_append_right _ _ (by simp)]
      simp only [List.length_map, Nat.add_sub_cancel_left]
      rw [spares_set hk8]
    rw [es] at h5
    have x1 : 0 ≤ (l.length : Int) + k := by omega
    have x2 : (l.length : Int) + k < (l.length : Int) + 8 := by omega
    have x3 : ((l.length : Int) + k).toNat = l.length + k := by omega
    simp -dsimp [go_sem, w1, w2, w3, x1, x2, x3, d1, f1]
    exact hC _ _ ⟨k + 1, by simp, by omega, h5⟩ (by simp [iv]; omega)
  · have : k = 8 := by omega
    subst this
    have x1 : (l.length : Int) ≤ (l.length : Int) + 8 := by omega
    simp -dsimp [go_sem, x1]
    exact hR _ _ ⟨m, rfl, h4⟩

attribute [-go_sem] ref01_Whole.b9
theorem spares_get {k : Nat} (h : k < 8) : (spares 8)[k]'(by simp [spares]; exact h) = .int .i64 (7000 + (k : Int)) := by
  simp [spares, h]

theorem Whole_ct {G : Nat → Prop} {W w : World} {L : List Ch} {k m B : Nat} {u : Value} {l : List Int} (h : St G W w L) (hk : L[k]? = some (lentC m l)) (hu : (rSlice rInt).at1 w B u l) (hB : B ≤ w.heap.size) (hfit : l.length * 8 ≤ reachN) :
    Ct Try.prog ref01_Whole.id #[.slice (some ⟨m, 0, none⟩) (l.length + 8) (l.length + 8), u] w fun v w' => v = .bool true ∧ Chg noB w w' := by
  refine ref01_Whole.ct fun R hR => ?_
  obtain ⟨A, c, rfl, hl1, hl2, _⟩ := slice_form hu
  have hn : l.length ≤ 20000000000000 := by unfold reachN at hfit; omega
  unfold ref01_Whole.run
  simp -dsimp [go_sem]
  refine ref01_Whole.l6_intro _ _ _ _ _ (fun y w' => ∃ i : Nat, y = .int .i64 i ∧ i ≤ l.length + 8 ∧ Chg noB w w') (fun y _ => l.length + 8 - iv y) ⟨0, rfl, by omega, Chg.refl _ _⟩ ?_
  rintro _ w1 ⟨i, rfl, hi, hc1⟩ C hC
  have h1 := h.old hc1
  have cc : ((l.length + 8 : Nat) : Int) = (l.length : Int) + 8 := by omega
  simp -dsimp [go_sem]
  refine SPL_intro (fun p1 => ?_) (fun p1 => ?_) <;> simp at p1
  · have p1' : (i : Int) < (l.length : Int) + 8 := by omega
    have p1n : i < l.length + 8 := by omega
    have wi : IntKind.i64.wrap ((i : Int) + 1) = (i : Int) + 1 := IntWalk.i64_in _ (by omega)
    have hc2 := hc1.trans (Chg.refl noB w1).drew
    have h2 := h.old hc2
    obtain ⟨g1, e1, d1, f1⟩ := h2.rowAt k hk (j := i) (by simp [spares]; omega)
    injection e1 with e1; injection e1 with e1; subst e1
    by_cases hil : i < l.length
    · have hil' : (i : Int) < l.length := by omega
      obtain ⟨b1, o1, rfl, _, x1, x2⟩ := Go.Px.ints_at (Rep.below hu (hc2.below hB fun _ _ => id)) hil
      rw [List.getElem_append_left (by simpa using hil), List.getElem_map] at d1
      have hge : ¬ (l.length : Int) ≤ i := by omega
      simp -dsimp [go_sem, p1', p1n, hil, hil', d1, x1, hge]
      unfold ref01_Whole.b9
      simp -dsimp [go_sem, wi]
      exact hC _ _ ⟨i + 1, by simp, by omega, hc2⟩ (by simp [iv]; omega)
    · have hil' : ¬ (i : Int) < l.length := by omega
      have hge : (l.length : Int) ≤ i := by omega
      rw [List.getElem_append_right (by simpa using hil)] at d1
      simp only [List.length_map] at d1
      rw [spares_get (by omega)] at d1
      have w2 : IntKind.i64.wrap (7000 + (i : Int)) = 7000 + (i : Int) := IntWalk.i64_in _ (by omega)
      have w3 : IntKind.i64.wrap (7000 + (i : Int) - l.length) = 7000 + ((i - l.length : Nat) : Int) := by rw [show 7000 + (i : Int) - l.length = 7000 + ((i - l.length : Nat) : Int) by omega]; exact IntWalk.i64_in _ (by omega)
      simp -dsimp [go_sem, p1', p1n, hil, hil', d1, hge, w2, w3]
      unfold ref01_Whole.b9
      simp -dsimp [go_sem, wi]
      exact hC _ _ ⟨i + 1, by simp, by omega, hc2⟩ (by simp [iv]; omega)
  · simp -dsimp [go_sem]
    exact hR _ _ ⟨rfl, hc1⟩

section
variable {G : Nat → Prop} {W w : World} {L : List Ch} {X : Pan} {K : Value → World → Prop} {p : Nat} {S : BS}
theorem CALL_rTerm (h : St G W w L) (k : Nat) (hk : L[k]? = some (refC p S)) (ok : BSok S) {s : ByteArray} (hs : s.size ≤ maxLen)
    (hK : ∀ w', St G W w' (L.set k (refC p (termA S s).2.2)) → K (.tuple #[.int .i64 (termA S s).1, .int .i64 (termA S s).2.1]) w') : CALL Try.prog X ref02_Builder_Term.id #[.pointer (some ⟨p, 0, none⟩), .string s] w K := by
  obtain ⟨F, hok, _, hs'⟩ := h.opn hk
  refine CALL_of (rTerm_ct hok ok hs) ?_
  rintro _ w' ⟨rfl, h1, h2⟩
  exact hK _ (hs' _ _ h1 h2)
theorem CALL_rNon (h : St G W w L) (k : Nat) (hk : L[k]? = some (refC p S)) (ok : BSok S) {s : ByteArray} (hs : s.size ≤ maxLen)
    (hK : ∀ w', St G W w' (L.set k (refC p (nonA S s).2.2)) → K (.tuple #[.int .i64 (nonA S s).1, .int .i64 (nonA S s).2.1]) w') : CALL Try.prog X ref02_Builder_Non.id #[.pointer (some ⟨p, 0, none⟩), .string s] w K := by
  obtain ⟨F, hok, _, hs'⟩ := h.opn hk
  refine CALL_of (rNon_ct hok ok hs) ?_
  rintro _ w' ⟨rfl, h1, h2⟩
  exact hK _ (hs' _ _ h1 h2)
theorem CALL_rStart (h : St G W w L) (k : Nat) (hk : L[k]? = some (refC p S)) (ok : BSok S) {x : Int} (hx : inI64 x)
    (hK : ∀ w', St G W w' (L.set k (refC p (if isN S x then { S with start := x } else S))) → K (.int .i64 (if isN S x then 0 else 1)) w') : CALL Try.prog X ref02_Builder_Start.id #[.pointer (some ⟨p, 0, none⟩), .int .i64 x] w K := by
  obtain ⟨F, hok, _, hs'⟩ := h.opn hk
  refine CALL_of (rStart_ct hok ok hx) ?_
  rintro _ w' ⟨rfl, h1, h2⟩
  exact hK _ (hs' _ _ h1 h2)
theorem CALL_rLevel (h : St G W w L) (k : Nat) (hk : L[k]? = some (refC p S)) (ok : BSok S) (hwf : BSwf S) {side : Int} (hx : inI64 side) {u : Value} {l : List Int} {B : Nat} (hu : Apart G W w L k B u l)
    (hK : ∀ w', St G W w' (L.set k (refC p (levelA S side l).2.2)) → K (.tuple #[.int .i64 (levelA S side l).1, .int .i64 (levelA S side l).2.1]) w') : CALL Try.prog X ref02_Builder_Level.id #[.pointer (some ⟨p, 0, none⟩), .int .i64 side, u] w K := by
  obtain ⟨F, hok, hF, hd, hs'⟩ := St.opn2 h hk
  refine CALL_of (rLevel_ct hok ok hwf hx (hu F hF hd)) ?_
  rintro _ w' ⟨rfl, h1, h2⟩
  exact hK _ (hs' _ _ h1 h2)
theorem CALL_rRule (h : St G W w L) (k : Nat) (hk : L[k]? = some (refC p S)) (ok : BSok S) {left : Int} (hx : inI64 left) {u : Value} {l : List Int} {B : Nat} (hu : Apart G W w L k B u l) (hn : l.length * 8 ≤ maxBytes)
    (hK : ∀ w', St G W w' (L.set k (refC p (ruleA S left l).2.2)) → K (.tuple #[.int .i64 (ruleA S left l).1, .int .i64 (ruleA S left l).2.1]) w') : CALL Try.prog X ref02_Builder_Rule.id #[.pointer (some ⟨p, 0, none⟩), .int .i64 left, u] w K := by
  obtain ⟨F, hok, hF, hd, hs'⟩ := St.opn2 h hk
  refine CALL_of (rRule_ct hok ok hx (hu F hF hd) hn) ?_
  rintro _ w' ⟨rfl, h1, h2⟩
  exact hK _ (hs' _ _ h1 h2)
theorem CALL_rGrade (h : St G W w L) (k : Nat) (hk : L[k]? = some (refC p S)) (ok : BSok S) {level : Int} (hx : inI64 level) {u : Value} {l : List Int} {B : Nat} (hu : Apart G W w L k B u l)
    (hK : ∀ w', St G W w' (L.set k (refC p (gradeA S level l).2)) → K (.int .i64 (gradeA S level l).1) w') : CALL Try.prog X ref02_Builder_Grade.id #[.pointer (some ⟨p, 0, none⟩), .int .i64 level, u] w K := by
  obtain ⟨F, hok, hF, hd, hs'⟩ := St.opn2 h hk
  refine CALL_of (rGrade_ct hok ok hx (hu F hF hd)) ?_
  rintro _ w' ⟨rfl, h1, h2⟩
  exact hK _ (hs' _ _ h1 h2)
theorem CALL_rGrammar (h : St G W w L) (k : Nat) (hk : L[k]? = some (refC p S)) (ok : BSok S) (hwf : BSwf S) (hK : ∀ v w', St G W w' L → GrAns S w v w' → K v w') : CALL Try.prog X ref02_Builder_Grammar.id #[.pointer (some ⟨p, 0, none⟩)] w K := by
  obtain ⟨F, hok, _⟩ := h.get hk
  refine CALL_of (rGrammar_ct hok ok hwf) ?_
  intro v w' hA
  exact hK v w' (h.old hA.1) hA
end
end Go.Proofs.Ytmhebgebfjnfjaa

/-
  Both builders: told.
-/
namespace Go.Px
open Go.RowKit
/-- Rows of numbers that are owned: how long each is. -/
def rowsN (vs : List Value) (ns : List Nat) : Ch where
  ok w F := vs.length = ns.length ∧ ∀ (i : Nat) v n, vs[i]? = some v → ns[i]? = some n → ∃ a c xs, v = .slice a n c ∧ (rowC 3 1 a n c xs).ok w F
  keep h hc hX hF := ⟨h.1, fun i v n h1 h2 => by obtain ⟨a, c, xs, hv, hr⟩ := h.2 i v n h1 h2; exact ⟨a, c, xs, hv, (rowC 3 1 a n c xs).keep hr hc hX hF⟩⟩

section
variable {G : Nat → Prop} {W w : World} {L : List Ch}
theorem St.setRowsN (h : St G W w L) (k : Nat) {vs : List Value} {ns : List Nat} (hk : L[k]? = some (rowsN vs ns)) {i g n c : Nat} (hv : vs[i]? = some (.slice (some ⟨g, 0, none⟩) n c)) (j : Nat) (u : Value) : St G W (w.setCell ⟨g, j, none⟩ u) (L.set k (rowsN vs ns)) := by
  obtain ⟨F, ho, _, hs⟩ := h.opn hk
  have hil := (List.getElem?_eq_some_iff.1 hv).1
  have hin : i < ns.length := by rw [← ho.1]; exact hil
  obtain ⟨a', c', xs', hv', hr'⟩ := ho.2 i _ ns[i] hv (List.getElem?_eq_getElem hin)
  have hg : F g := hr'.2 g (by rw [← hv']; rfl)
  refine hs _ _ ((chg_setCell _ _ _).mono fun i _ e => by rw [e]; exact hg) ⟨ho.1, fun i' v n' h1 h2 => ?_⟩
  obtain ⟨a, c, xs, rfl, hr⟩ := ho.2 i' v n' h1 h2
  by_cases e : (Value.slice a n' c).ownBlock = some g
  · have ha : a = some ⟨g, 0, none⟩ := by
      rcases hr.1.2 with ⟨h3, _⟩ | ⟨g', cap, cur, h3, _⟩
      · rw [h3] at e; cases e
      · injection h3 with h3; subst h3; injection e with e; rw [← e]
    subst ha
    exact ⟨_, c, xs.set j u, rfl, (hr.1.stored j u).1, fun i hi => Or.inl (hr.2 i hi)⟩
  · exact ⟨a, c, xs, rfl, (rowC 3 1 a n' c xs).keep (X := (· = g)) (F := fun i => F i ∧ i ≠ g) ⟨hr.1, fun i hi => ⟨hr.2 i hi, fun h9 => e (h9 ▸ hi)⟩⟩ (chg_setCell w ⟨g, j, none⟩ u) (fun b _ h9 => h9.2) fun b _ h9 => Or.inl h9.1⟩
theorem rowsN_of {w : World} {F : Nat → Prop} {vs : List Value} {ls : List (List Int)} (h : (rowsC 3 1 vs (ls.map fun l => l.map (Value.int .i64 ·))).ok w F) : (rowsN vs (ls.map List.length)).ok w F := by
  refine ⟨by have := h.1; simpa using this, fun i v n h1 h2 => ?_⟩
  rw [List.getElem?_map] at h2
  cases hl : ls[i]? with
  | none => rw [hl] at h2; cases h2
  | some l =>
    rw [hl] at h2
    injection h2 with h2
    obtain ⟨a, n', c, hv, hr⟩ := h.2 i v _ h1 (by rw [List.getElem?_map, hl]; rfl)
    have := (row_size hr).1
    simp at this
    have e : n' = n := by omega
    subst e
    exact ⟨a, c, _, hv, hr⟩
end
end Go.Px
namespace Go.Proofs.Ytmhebgebfjnfjaa
open Go.Px Go.Px.Scan Go.RowKit
set_option maxHeartbeats 1000000
set_option linter.unusedSimpArgs false
set_option linter.unusedVariables false
set_option maxRecDepth 100000
attribute [-go_sem] Builtin.append_
attribute [-go_sem] law02_both_told.b5 law02_both_told.b6 law02_both_told.b10 law02_both_told.b14 law02_both_told.b19 law02_both_told.b21

/-- Both builders. -/
def bothL (xb b p : Nat) (S : BS) : List Ch := [boxC xb 68 [.pointer (some ⟨b, 0, none⟩), .pointer (some ⟨p, 0, none⟩)], bldC b S, refC p S]
def bothC (xb : Nat) (S : BS) : Ch := Ch.ex fun b : Nat => Ch.ex fun p : Nat => Ch.all (bothL xb b p S)
def DoneB (F : Nat → Prop) (w : World) (xb : Nat) (S' : BS) (w' : World) : Prop := Chg F w w' ∧ (bothC xb S').ok w' (fun i => F i ∨ (w.heap.size ≤ i ∧ i < w'.heap.size))
theorem bothC_leave {F : Nat → Prop} {w w' : World} {xb b p : Nat} {S : BS} {X : List Ch} (h : St F w w' (bothL xb b p S ++ X)) : DoneB F w xb S w' := by
  have h9 := h.take 3
  rw [show (bothL xb b p S ++ X).take 3 = bothL xb b p S from rfl] at h9
  exact ⟨h.chg, b, p, h9.leave⟩
theorem bld_ok {w : World} {F : Nat → Prop} {b : Nat} {S : BS} (h : (bldC b S).ok w F) : BSok S ∧ BSwf S := by
  obtain ⟨hwf, T, V, hb, hT⟩ := h
  exact ⟨hb.ok, hwf⟩
theorem ref_read {w : World} {F : Nat → Prop} {p : Nat} {S : BS} (h : (refC p S).ok w F) : ∃ a1 c1 a2 c2 a3 c3 a4 c4, w.cell? ⟨p, 0, none⟩ = some (.slice a1 S.terms.length c1) ∧ w.cell? ⟨p, 1, none⟩ = some (.slice a2 S.nons.length c2) ∧ w.cell? ⟨p, 2, none⟩ = some (.slice a3 S.levels.length c3) ∧ w.cell? ⟨p, 3, none⟩ = some (.slice a4 S.rules.length c4) := by
  obtain ⟨a1, c1, a2, c2, a3, c3, a4, c4, vs, hp⟩ := h
  have := (St.enter hp).box 0 rfl
  simp [boxAt] at this
  exact ⟨a1, c1, a2, c2, a3, c3, a4, c4, this.1.1, this.1.2.1, this.1.2.2.1, this.1.2.2.2.1⟩

/-- The grammar that is answered. -/
def toldG (S : BS) : Gr := if toldB S = true then gramOf S else ⟨[], [], [], 0, []⟩
theorem GrNew.zero {w w' : World} (hc : Chg noB w w') : GrNew w w' (.agg zG.toArray) ⟨[], [], [], 0, []⟩ := by
  refine ⟨none, 0, none, 0, none, 0, none, 0, [], rfl, ?_, by simp, by simp, by simp, by simp [inI64], by simp⟩
  exact (((((St.start hc).nilRow 56 2).nilRow 9 1).nilRow 3 1).nilRow 59 3).push ⟨rfl, fun i v xs h => by simp at h⟩
theorem GrAns.told {S : BS} {w w' : World} {v : Value} (h : GrAns S w v w') : ∃ vg, v = .tuple #[vg, .int .i64 (if toldB S = true then 0 else 1)] ∧ GrNew w w' vg (toldG S) := by
  cases e : toldB S with
  | true =>
    obtain ⟨vg, hv, hg⟩ := h.2.1 e
    exact ⟨vg, by simpa using hv, by unfold toldG; rw [if_pos e]; exact hg⟩
  | false =>
    exact ⟨_, by simpa using h.2.2 e, by unfold toldG; rw [if_neg (by simp [e])]; exact GrNew.zero h.1⟩

section
variable {R : Ending → World → Prop} {w : World} {F : Nat → Prop} {xb b p gq hq : Nat} {S : BS} {g : Gr} {A1 : Option Addr} {c1 : Nat} {A2 : Option Addr} {c2 : Nat} {A3 : Option Addr} {c3 : Nat} {A4 : Option Addr} {c4 : Nat} {vs : List Value}

/-- What is there while the told grammar is turned. -/
def LT (xb b p : Nat) (S : BS) (gq : Nat) (g : Gr) (A1 : Option Addr) (c1 : Nat) (A2 : Option Addr) (c2 : Nat) (A3 : Option Addr) (c3 : Nat) (A4 : Option Addr) (c4 : Nat) (vs : List Value) (xs ys : List Value) (ns : List Nat) : List Ch :=
  bothL xb b p S ++ [rowC 56 2 A1 g.terms.length c1 xs, rowC 3 1 A3 g.levels.length c3 ys, rowC 59 3 A4 g.prods.length c4 ((g.prods.zip vs).flatMap prodE), rowsN vs ns, boxC gq 36 [.slice A1 g.terms.length c1, .slice A2 g.nons.length c2, .slice A3 g.levels.length c3, .int .i64 g.start, .slice A4 g.prods.length c4]]

theorem told_end {w4 : World} {xs ys : List Value} {e : Int} (h : St F w w4 (LT xb b p S gq g A1 c1 A2 c2 A3 c3 A4 c4 vs xs ys (g.prods.map fun p => p.2.1.length)))
    (hR : ∀ w', DoneB F w xb S w' → R (.returned (.bool true)) w') :
    law02_both_told.b5 R (.pointer (some ⟨xb, 0, none⟩)) (.int .i64 S.terms.length) (.int .i64 S.nons.length) (.int .i64 S.levels.length) (.int .i64 S.rules.length) (.int .i64 e) (.int .i64 e) (.bool true) w4 := by
  obtain ⟨F2, o2, _⟩ := h.get (k := 2) rfl
  obtain ⟨a1, d1, a2, d2, a3, d3, a4, d4, k0, k1, k2, k3⟩ := ref_read o2
  have kb := h.box 0 rfl
  simp [boxAt] at kb
  unfold law02_both_told.b5
  simp -dsimp [go_sem, kb, k0, k1, k2, k3]
  exact hR _ (bothC_leave h)

theorem told_levels {w4 : World} {xs : List Value} {e : Int} (h : ∃ ys, St F w w4 (LT xb b p S gq g A1 c1 A2 c2 A3 c3 A4 c4 vs xs ys (g.prods.map fun p => p.2.1.length))) (hl : g.levels.length ≤ maxLen)
    (hR : ∀ w', DoneB F w xb S w' → R (.returned (.bool true)) w') :
    law02_both_told.b6 R (.pointer (some ⟨xb, 0, none⟩)) (.int .i64 S.terms.length) (.int .i64 S.nons.length) (.int .i64 S.levels.length) (.int .i64 S.rules.length) (.pointer (some ⟨gq, 0, none⟩)) (.int .i64 e) (.int .i64 e) (.bool true) w4 := by
  unfold law02_both_told.b6
  refine law02_both_told.l8_intro _ _ _ _ _ _ _ _ _ _ _ _ (fun y w' => ∃ (k : Nat) (ys : List Value), y = .int .i64 k ∧ k ≤ g.levels.length ∧ St F w w' (LT xb b p S gq g A1 c1 A2 c2 A3 c3 A4 c4 vs xs ys (g.prods.map fun p => p.2.1.length))) (fun y _ => g.levels.length - iv y) ⟨0, h.choose, rfl, by omega, h.choose_spec⟩ ?_
  rintro _ w5 ⟨k, ys, rfl, hk, h5⟩ C hC
  have y5 := h5.box 7 rfl
  simp [boxAt] at y5
  simp -dsimp [go_sem, y5]
  refine SPL_intro (fun p1 => ?_) (fun p1 => ?_) <;> simp at p1
  · have wk := wrap_succ p1 hl
    obtain ⟨g1, rfl, d1, f1⟩ := h5.rowAt 4 rfl (j := k) (by have := (h5.rowSize 4 rfl).1; omega)
    have h6 := h5.setRow 4 rfl k (.int .i64 9)
    simp -dsimp [go_sem, y5, p1, d1, f1, wk]
    exact hC _ _ ⟨k + 1, _, by simp, by omega, h6⟩ (by simp [iv]; omega)
  · exact told_end h5 hR

theorem told_terms {w4 : World} {e : Int} (h : ∃ xs ys, St F w w4 (LT xb b p S gq g A1 c1 A2 c2 A3 c3 A4 c4 vs xs ys (g.prods.map fun p => p.2.1.length))) (hl : g.levels.length ≤ maxLen) (ht : g.terms.length ≤ maxLen)
    (hR : ∀ w', DoneB F w xb S w' → R (.returned (.bool true)) w') :
    law02_both_told.b10 R (.pointer (some ⟨xb, 0, none⟩)) (.int .i64 S.terms.length) (.int .i64 S.nons.length) (.int .i64 S.levels.length) (.int .i64 S.rules.length) (.pointer (some ⟨gq, 0, none⟩)) (.int .i64 e) (.int .i64 e) (.bool true) w4 := by
  unfold law02_both_told.b10
  obtain ⟨xs0, ys0, h⟩ := h
  refine law02_both_told.l12_intro _ _ _ _ _ _ _ _ _ _ _ _ (fun y w' => ∃ (k : Nat) (xs ys : List Value), y = .int .i64 k ∧ k ≤ g.terms.length ∧ St F w w' (LT xb b p S gq g A1 c1 A2 c2 A3 c3 A4 c4 vs xs ys (g.prods.map fun p => p.2.1.length))) (fun y _ => g.terms.length - iv y) ⟨0, xs0, ys0, rfl, by omega, h⟩ ?_
  rintro _ w5 ⟨k, xs, ys, rfl, hk, h5⟩ C hC
  have y5 := h5.box 7 rfl
  simp [boxAt] at y5
  simp -dsimp [go_sem, y5]
  refine SPL_intro (fun p1 => ?_) (fun p1 => ?_) <;> simp at p1
  · have wk := wrap_succ p1 ht
    obtain ⟨g1, rfl, d1, f1⟩ := h5.rowAt 3 rfl (j := k * 2) (by have := (h5.rowSize 3 rfl).1; omega)
    have h6 := h5.setRow 3 rfl (k * 2) (.string ⟨#[109, 105, 110, 101]⟩)
    simp -dsimp [go_sem, y5, p1, d1, f1, wk]
    exact hC _ _ ⟨k + 1, _, _, by simp, by omega, h6⟩ (by simp [iv]; omega)
  · exact told_levels ⟨_, h5⟩ hl hR

theorem told_prods {w4 : World} {e : Int} (h : ∃ xs ys, St F w w4 (LT xb b p S gq g A1 c1 A2 c2 A3 c3 A4 c4 vs xs ys (g.prods.map fun p => p.2.1.length))) (hl : g.levels.length ≤ maxLen) (ht : g.terms.length ≤ maxLen) (hp : g.prods.length ≤ maxLen)
    (hR : ∀ w', DoneB F w xb S w' → R (.returned (.bool true)) w') :
    law02_both_told.b14 R (.pointer (some ⟨xb, 0, none⟩)) (.int .i64 S.terms.length) (.int .i64 S.nons.length) (.int .i64 S.levels.length) (.int .i64 S.rules.length) (.pointer (some ⟨gq, 0, none⟩)) (.int .i64 e) (.int .i64 e) (.bool true) w4 := by
  unfold law02_both_told.b14
  obtain ⟨xs0, ys0, h⟩ := h
  refine law02_both_told.l16_intro _ _ _ _ _ _ _ _ _ _ _ _ (fun y w' => ∃ (k : Nat) (xs ys : List Value), y = .int .i64 k ∧ k ≤ g.prods.length ∧ St F w w' (LT xb b p S gq g A1 c1 A2 c2 A3 c3 A4 c4 vs xs ys (g.prods.map fun p => p.2.1.length))) (fun y _ => g.prods.length - iv y) ⟨0, xs0, ys0, rfl, by omega, h⟩ ?_
  rintro _ w5 ⟨k, xs, ys, rfl, hk, h5⟩ C hC
  have y5 := h5.box 7 rfl
  simp [boxAt] at y5
  simp -dsimp [go_sem, y5]
  refine SPL_intro (fun p1 => ?_) (fun p1 => ?_) <;> simp at p1
  · have wk := wrap_succ p1 hp
    unfold law02_both_told.b21
    refine law02_both_told.l23_intro _ _ _ _ _ _ (fun y w' => ∃ (j : Nat) (xs ys : List Value), y = .int .i64 j ∧ j ≤ g.prods[k].2.1.length ∧ St F w w' (LT xb b p S gq g A1 c1 A2 c2 A3 c3 A4 c4 vs xs ys (g.prods.map fun p => p.2.1.length))) (fun y _ => g.prods[k].2.1.length - iv y) ⟨0, xs, ys, rfl, by omega, h5⟩ ?_
    rintro _ w6 ⟨j, xs, ys, rfl, hj, h6⟩ C' hC'
    obtain ⟨F6, o6, _⟩ := h6.get (k := 6) rfl
    have hvl : vs.length = g.prods.length := by have := o6.1; simpa using this
    have hvk : k < vs.length := by omega
    obtain ⟨a, c, zs, hv, hr⟩ := o6.2 k vs[k] g.prods[k].2.1.length (List.getElem?_eq_getElem hvk) (by rw [List.getElem?_map, List.getElem?_eq_getElem p1]; rfl)
    obtain ⟨F5, o5, _⟩ := h6.get (k := 5) rfl
    obtain ⟨g4, rfl, hcell, _⟩ := row_elem (enc := prodE) (i := k) (x := (g.prods[k], vs[k])) o5 (fun _ _ => rfl) (by omega) (by simp [List.getElem?_zip_eq_some, p1, hvk])
    have d1 := hcell 1 _ rfl
    simp only [hv] at d1
    have y6 := h6.box 7 rfl
    simp [boxAt] at y6
    simp -dsimp [go_sem, y6, p1, d1]
    refine SPL_intro (fun p2 => ?_) (fun p2 => ?_) <;> simp at p2
    · have hsz := row_size hr
      have wj := wrap_succ p2 (by omega)
      obtain ⟨g1, rfl, e1, f1, _⟩ := row_at hr (j := j) (by omega)
      have h7 := h6.setRowsN 6 rfl (i := k) (by rw [List.getElem?_eq_getElem hvk, hv]) j (.int .i64 99)
      simp -dsimp [go_sem, y6, p1, d1, p2, e1, f1, wj]
      exact hC' _ _ ⟨j + 1, _, _, by simp, by omega, h7⟩ (by simp [iv]; omega)
    · unfold law02_both_told.b19
      simp -dsimp [go_sem, wk]
      exact hC _ _ ⟨k + 1, _, _, by simp, by omega, h6⟩ (by simp [iv]; omega)
  · exact told_terms ⟨_, _, h5⟩ hl ht hR
end

section
variable (a b c d : Value) (w : World)
theorem ext40 : (Instr.extract (.tuple #[a, b, c, d]) 0).run Try.prog w = .ok a w := by simp [go_sem]
theorem ext41 : (Instr.extract (.tuple #[a, b, c, d]) 1).run Try.prog w = .ok b w := by simp [go_sem]
theorem ext42 : (Instr.extract (.tuple #[a, b, c, d]) 2).run Try.prog w = .ok c w := by simp [go_sem]
theorem ext43 : (Instr.extract (.tuple #[a, b, c, d]) 3).run Try.prog w = .ok d w := by simp [go_sem]
theorem ext20 : (Instr.extract (.tuple #[a, b]) 0).run Try.prog w = .ok a w := by simp [go_sem]
theorem ext21 : (Instr.extract (.tuple #[a, b]) 1).run Try.prog w = .ok b w := by simp [go_sem]
end

theorem rGram_mono {w : World} {B B' : Nat} {v : Value} {g : Gr} (h : rGram.atN w B v g) (hb : B ≤ B') : rGram.atN w B' v g := by
  obtain ⟨cs, rfl, hc⟩ := h
  exact ⟨cs, rfl, rGram.keep hc hb fun _ _ => rfl⟩

theorem told_both (S : BS) : ∃ (g : Gr) (e : Int), ∀ w v w', GrAns S w v w' → ∃ vg, v = .tuple #[vg, .int .i64 e] ∧ GrNew w w' vg g := ⟨toldG S, _, fun _ _ _ h => h.told⟩

theorem told_ct {w : World} {F : Nat → Prop} {xb : Nat} {S : BS} (h : (bothC xb S).ok w F) : Ct Try.prog law02_both_told.id #[.pointer (some ⟨xb, 0, none⟩)] w fun v w' => v = .bool true ∧ DoneB F w xb S w' := by
  refine law02_both_told.ct fun R hR => ?_
  obtain ⟨b, p, hp⟩ := h
  have s0 := St.enter hp
  obtain ⟨g, e, htold⟩ := told_both S
  have kb := s0.box 0 rfl
  simp [boxAt] at kb
  obtain ⟨F1, o1, _⟩ := s0.get (k := 1) rfl
  obtain ⟨ok, hwf⟩ := bld_ok o1
  unfold law02_both_told.run
  simp -dsimp [go_sem, kb]
  refine CALL_Sizes s0 1 rfl fun w1 s1 => ?_
  have kb := s1.box 0 rfl
  simp [boxAt] at kb
  unfold law02_both_told.b1_3
  rw [RUN_eq, ext40, RES_ok, RUN_eq, ext41, RES_ok, RUN_eq, ext42, RES_ok, RUN_eq, ext43, RES_ok]
  simp -dsimp [go_sem, kb]
  refine CALL_Grammar s1 1 rfl fun v w2 _ _ s2 hA => ?_
  obtain ⟨vg, rfl, hG⟩ := htold _ _ _ hA
  have hrd := hG.read
  obtain ⟨A1, c1, A2, c2, A3, c3, A4, c4, vs, rfl, hst, g1, g2, g3, g4, g5⟩ := hG
  obtain ⟨_, _, _, _, _, _, _, _, e9, _, _, _, _, _, ⟨l1, m1⟩, ⟨l2, m2⟩, ⟨l3, m3⟩, ⟨l4, m4⟩⟩ := (rGram_open hrd).ex
  simp at e9
  obtain ⟨⟨rfl, rfl⟩, ⟨rfl, rfl⟩, ⟨rfl, rfl⟩, ⟨rfl, rfl⟩⟩ := e9
  have s3 := s1.seq hst
  have s4 := s3.alloc #[.slice A1 g.terms.length c1, .slice A2 g.nons.length c2, .slice A3 g.levels.length c3, .int .i64 g.start, .slice A4 g.prods.length c4] 36
  have kb := s4.box 0 rfl
  simp [boxAt] at kb
  unfold law02_both_told.b1_2
  rw [RUN_eq, ext20, RES_ok, RUN_eq, ext21, RES_ok]
  simp -dsimp [go_sem, kb]
  have hrd4 := rGram_below hrd (((Chg.refl noB w2).alloc (.cells #[.slice A1 g.terms.length c1, .slice A2 g.nons.length c2, .slice A3 g.levels.length c3, .int .i64 g.start, .slice A4 g.prods.length c4] 36)).below (Nat.le_refl _) fun _ _ => id)
  have hB4 : w2.heap.size ≤ (w2.alloc (.cells #[.slice A1 g.terms.length c1, .slice A2 g.nons.length c2, .slice A3 g.levels.length c3, .int .i64 g.start, .slice A4 g.prods.length c4] 36)).heap.size := by simp
  generalize w2.alloc (.cells #[.slice A1 g.terms.length c1, .slice A2 g.nons.length c2, .slice A3 g.levels.length c3, .int .i64 g.start, .slice A4 g.prods.length c4] 36) = w4 at s4 hrd4 hB4 ⊢
  generalize hB : w2.heap.size = gq at s4 hrd4 hB4 ⊢
  refine CALL_rGrammar s4 2 rfl ok hwf fun v2 w5 s5 hA2 => ?_
  obtain ⟨vg2, rfl, hG2⟩ := htold _ _ _ hA2
  have hrd5 := rGram_below hrd4 (hA2.1.below hB4 fun _ _ => id)
  have hB5 := hA2.1.size
  have hrd2 := hG2.read
  obtain ⟨B1, d1, B2, d2, B3, d3, B4, d4, rfl, _⟩ := (rGram_open hrd2).ex
  have s6 := s5.alloc #[.slice B1 g.terms.length d1, .slice B2 g.nons.length d2, .slice B3 g.levels.length d3, .int .i64 g.start, .slice B4 g.prods.length d4] 36
  have kg := s6.box 8 rfl
  simp [boxAt] at kg
  unfold law02_both_told.b1_1
  rw [RUN_eq, ext20, RES_ok, RUN_eq, ext21, RES_ok]
  simp -dsimp [go_sem, kg]
  have hcz : Chg noB w5 (w5.alloc (.cells #[.slice B1 g.terms.length d1, .slice B2 g.nons.length d2, .slice B3 g.levels.length d3, .int .i64 g.start, .slice B4 g.prods.length d4] 36)) := (Chg.refl noB w5).alloc _
  have hrd6 := rGram_below hrd5 (hcz.below (show gq ≤ w5.heap.size by omega) fun _ _ => id)
  have hrd26 := rGram_below hrd2 (hcz.below (Nat.le_refl _) fun _ _ => id)
  have hB6 := hcz.size
  generalize w5.alloc (.cells #[.slice B1 g.terms.length d1, .slice B2 g.nons.length d2, .slice B3 g.levels.length d3, .int .i64 g.start, .slice B4 g.prods.length d4] 36) = w6 at s6 hrd6 hrd26 hB6 ⊢
  refine CALL_of (refSame_ct (rGram_mono hrd6 (show gq ≤ w5.heap.size by omega)) hrd26 hB6) ?_
  rintro _ w7 ⟨rfl, hc7⟩
  have s7 := s6.old hc7
  rw [show sameB g g = true from sameB_iff.2 rfl]
  have s8 := s7.turn (k := 7) rfl fun F ho => by
    have := rowsN_of (ls := g.prods.map (·.2.1)) (vs := vs) (w := w7) (F := F) (by rw [List.map_map]; exact ho)
    exact this
  have s9 := s8.pick (L' := LT xb b p S gq g A1 c1 A2 c2 A3 c3 A4 c4 vs (g.terms.flatMap termE) (g.levels.map (.int .i64 ·)) (g.prods.map fun p => p.2.1.length)) [0, 1, 2, 3, 5, 6, 7, 8] (by decide) (by simp [LT, bothL, List.map_map]; rfl)
  exact told_prods ⟨_, _, s9⟩ (by omega) (by omega) (by omega) fun w' hd => hR _ _ ⟨rfl, hd⟩
end Go.Proofs.Ytmhebgebfjnfjaa

/-
  Both builders: one call.
-/
namespace Go.Px.Scan
open Go.Px
/-- A call: kind, number, list, text. -/
abbrev OpT := Int × Int × List Int × ByteArray
def rOp : Rep OpT := rInt.prod (rInt.prod ((rSlice rInt).prod rStr))
def opK (o : OpT) : Int := if o.1.tmod 8 < 0 then o.1.tmod 8 + 8 else o.1.tmod 8
end Go.Px.Scan
namespace Go.Proofs.Ytmhebgebfjnfjaa
open Go.Px Go.Px.Scan Go.RowKit
set_option maxHeartbeats 1000000
set_option linter.unusedSimpArgs false
set_option linter.unusedVariables false
set_option maxRecDepth 100000
attribute [-go_sem] Builtin.append_
attribute [-go_sem] law02_both_listed.b2 law02_both_listed.b4 law02_both_listed.b5

/-- What a call leaves. -/
noncomputable def doesA (S : BS) (o : OpT) : BS :=
  if opK o = 0 then (termA S o.2.2.2).2.2 else if opK o = 1 then (nonA S o.2.2.2).2.2 else if opK o = 2 then (levelA S o.2.1 o.2.2.1).2.2 else if opK o = 3 then (ruleA S o.2.1 o.2.2.1).2.2
  else if opK o = 4 then (gradeA S o.2.1 o.2.2.1).2 else if opK o = 5 then (if isN S o.2.1 then { S with start := o.2.1 } else S) else S
/-- A call's value. -/
def opV (o : OpT) (A : Option Addr) (c : Nat) : Value := .agg #[.int .i64 o.1, .int .i64 o.2.1, .slice A o.2.2.1.length c, .string o.2.2.2]

section
variable {w : World} {F : Nat → Prop} {xb : Nat} {S : BS} {o : OpT} {A : Option Addr} {c B : Nat}

theorem named_ct (h : (bothC xb S).ok w F) (hs : o.2.2.2.size ≤ maxLen) (t : Bool) : Ct Try.prog law02_both_named.id #[.pointer (some ⟨xb, 0, none⟩), opV o A c, .bool t] w fun v w' => v = .bool true ∧ DoneB F w xb (if t then (termA S o.2.2.2).2.2 else (nonA S o.2.2.2).2.2) w' := by
  refine law02_both_named.ct fun R hR => ?_
  obtain ⟨b, p, hp⟩ := h
  have s0 := St.enter hp
  obtain ⟨F1, o1, _⟩ := s0.get (k := 1) rfl
  obtain ⟨ok, hwf⟩ := bld_ok o1
  have s1 := s0.alloc #[.int .i64 o.1, .int .i64 o.2.1, .slice A o.2.2.1.length c, .string o.2.2.2] 71
  have s1d := s1.old (Chg.refl noB _).drew
  have k1 := s1d.box 0 rfl
  have y1 := s1d.box 3 rfl
  simp [boxAt] at k1 y1
  unfold law02_both_named.run opV
  cases t with
  | true =>
    simp -dsimp [go_sem, k1, y1]
    generalize w.heap.size = q at s1d y1 ⊢
    generalize (w.alloc (.cells #[.int .i64 o.1, .int .i64 o.2.1, .slice A o.2.2.1.length c, .string o.2.2.2] 71)).drew = w1 at s1d ⊢
    refine CALL_Term s1d 1 rfl hs fun w2 s2 => ?_
    have s2d := s2.old (Chg.refl noB _).drew
    have k2 := s2d.box 0 rfl
    have y2 := s2d.box 3 rfl
    simp [boxAt] at k2 y2
    simp -dsimp [go_sem, k2, y2]
    refine CALL_rTerm s2d 2 rfl ok hs fun w3 s3 => ?_
    simp -dsimp [go_sem]
    exact hR _ _ ⟨rfl, bothC_leave (X := [_]) s3⟩
  | false =>
    simp -dsimp [go_sem, k1, y1]
    generalize w.heap.size = q at s1d y1 ⊢
    generalize (w.alloc (.cells #[.int .i64 o.1, .int .i64 o.2.1, .slice A o.2.2.1.length c, .string o.2.2.2] 71)).drew = w1 at s1d ⊢
    refine CALL_Non s1d 1 rfl hs fun w2 s2 => ?_
    have s2d := s2.old (Chg.refl noB _).drew
    have k2 := s2d.box 0 rfl
    have y2 := s2d.box 3 rfl
    simp [boxAt] at k2 y2
    simp -dsimp [go_sem, k2, y2]
    refine CALL_rNon s2d 2 rfl ok hs fun w3 s3 => ?_
    simp -dsimp [go_sem]
    exact hR _ _ ⟨rfl, bothC_leave (X := [_]) s3⟩

theorem Apart.of {G : Nat → Prop} {W w : World} {L : List Ch} {k B : Nat} {u : Value} {l : List Int} (h : St G W w L) (hu : ∀ w', Chg G W w' → (rSlice rInt).at1 w' B u l) : Apart G W w L k B u l := fun F hF _ w' hc =>
  hu w' (h.chg.trans' hc fun i hi e => (hF i e).2 hi)

theorem lent_rd {w w' : World} {F X : Nat → Prop} {m : Nat} {l : List Int} (h : (lentC m l).ok w F) (hl : ∀ x ∈ l, inI64 x) (hc : Chg X w w') (hX : ∀ i, F i → ¬ X i) : (rSlice rInt).at1 w' w.heap.size (.slice (some ⟨m, 0, none⟩) l.length (l.length + 8)) l := by
  have hs := row_size h
  refine ⟨_, _, rfl, by omega, by omega, trivial, fun hp => ?_⟩
  obtain ⟨g, e, _, _, hF', hg⟩ := row_at h (j := 0) (by simp; omega)
  injection e with e; injection e with e; subst e
  refine ⟨m, 0, rfl, hg, fun i x hi => ⟨[.int .i64 x], ⟨rfl, hl x (List.mem_of_getElem? hi)⟩, fun n u hm => ?_⟩⟩
  have hm0 : n = 0 := by have := (List.getElem?_eq_some_iff.1 hm).1; simp at this; omega
  subst hm0
  simp at hm
  subst hm
  have hil := (List.getElem?_eq_some_iff.1 hi).1
  have hx := (List.getElem?_eq_some_iff.1 hi).2
  obtain ⟨g', e, hcell, _⟩ := row_at h (j := i) (by simp; omega)
  injection e with e; injection e with e; subst e
  rw [List.getElem_append_left (by simpa using hil), List.getElem_map, hx] at hcell
  have := (hc.cell (p := ⟨m, i, none⟩) hg (hX m hF')).trans hcell
  simpa [rInt] using this

theorem Apart.lent {G : Nat → Prop} {W w : World} {L : List Ch} {k j m : Nat} {l : List Int} (hj : L[j]? = some (lentC m l)) (hjk : j ≠ k) (hl : ∀ x ∈ l, inI64 x) : Apart G W w L k w.heap.size (.slice (some ⟨m, 0, none⟩) l.length (l.length + 8)) l := fun F hF hd w' hc => by
  obtain ⟨F', ho, hdis⟩ := hd j _ hjk hj
  exact lent_rd ho hl hc hdis

/-- Behind both answers: the list is whole, and is turned. -/
theorem listed_end {R : Ending → World → Prop} {b p q m : Nat} {w4 : World} (h : St F w w4 (bothL xb b p S ++ [boxC q 71 [.int .i64 o.1, .int .i64 o.2.1, .slice A o.2.2.1.length c, .string o.2.2.2], lentC m o.2.2.1]))
    (hu : ∀ w', Chg F w w' → (rSlice rInt).at1 w' B (.slice A o.2.2.1.length c) o.2.2.1) (hB : B ≤ w.heap.size) (hfit : o.2.2.1.length * 8 ≤ reachN) (hR : ∀ w', DoneB F w xb S w' → R (.returned (.bool true)) w') :
    law02_both_listed.b2 R (.pointer (some ⟨q, 0, none⟩)) (.slice (some ⟨m, 0, none⟩) o.2.2.1.length (o.2.2.1.length + 8)) (.slice (some ⟨m, 0, none⟩) (o.2.2.1.length + 8) (o.2.2.1.length + 8)) (.bool true) w4 := by
  have y4 := h.box 3 rfl
  simp [boxAt] at y4
  unfold law02_both_listed.b2
  simp -dsimp [go_sem, y4]
  refine CALL_of (Whole_ct h (k := 4) rfl (hu _ h.chg) (by have := h.chg.size; omega) hfit) ?_
  rintro _ w5 ⟨rfl, hc5⟩
  have h5 := h.old hc5
  unfold law02_both_listed.b5
  have hn : o.2.2.1.length ≤ 20000000000000 := by unfold reachN at hfit; omega
  refine law02_both_listed.l7_intro _ _ _ _ _ _ (fun y w' => ∃ (k : Nat) (xs : List Value), y = .int .i64 k ∧ k ≤ o.2.2.1.length ∧ St F w w' (bothL xb b p S ++ [boxC q 71 [.int .i64 o.1, .int .i64 o.2.1, .slice A o.2.2.1.length c, .string o.2.2.2], rowC 3 1 (some ⟨m, 0, none⟩) (o.2.2.1.length + 8) (o.2.2.1.length + 8) xs])) (fun y _ => o.2.2.1.length - iv y) ⟨0, _, rfl, by omega, h5⟩ ?_
  rintro _ w6 ⟨k, xs, rfl, hk, h6⟩ C hC
  simp -dsimp [go_sem]
  refine SPL_intro (fun p1 => ?_) (fun p1 => ?_) <;> simp at p1
  · have wk := wrap_succ p1 (show o.2.2.1.length ≤ maxLen by unfold maxLen; omega)
    have hz := (h6.rowSize 4 rfl).1
    obtain ⟨g1, e1, d1, f1⟩ := h6.rowAt 4 rfl (j := k) (by omega)
    injection e1 with e1; injection e1 with e1; subst e1
    have h7 := h6.setRow 4 rfl k (.int .i64 77)
    simp -dsimp [go_sem, p1, d1, f1, wk]
    exact hC _ _ ⟨k + 1, _, by simp, by omega, h7⟩ (by simp [iv]; omega)
  · unfold law02_both_listed.b4
    simp -dsimp [go_sem]
    exact hR _ (bothC_leave h6)

theorem listed_ct (h : (bothC xb S).ok w F) (hA : inI64 o.2.1) (hu : ∀ w', Chg F w w' → (rSlice rInt).at1 w' B (.slice A o.2.2.1.length c) o.2.2.1) (hB : B ≤ w.heap.size) (hfit : o.2.2.1.length * 8 ≤ reachN) (k : Int) (hk : k = 2 ∨ k = 3 ∨ k = 4) :
    Ct Try.prog law02_both_listed.id #[.pointer (some ⟨xb, 0, none⟩), opV o A c, .int .i64 k] w fun v w' => v = .bool true ∧ DoneB F w xb (if k = 2 then (levelA S o.2.1 o.2.2.1).2.2 else if k = 3 then (ruleA S o.2.1 o.2.2.1).2.2 else (gradeA S o.2.1 o.2.2.1).2) w' := by
  refine law02_both_listed.ct fun R hR => ?_
  obtain ⟨b, p, hp⟩ := h
  have s0 := St.enter hp
  obtain ⟨F1, o1, _⟩ := s0.get (k := 1) rfl
  obtain ⟨ok, hwf⟩ := bld_ok o1
  have hfit' : o.2.2.1.length * 8 ≤ maxBytes := by unfold reachN at hfit; unfold maxBytes; omega
  have hll : ∀ x ∈ o.2.2.1, inI64 x := fun x hx => by
    obtain ⟨j, hj, rfl⟩ := List.getElem_of_mem hx
    obtain ⟨_, _, _, _, _, h9⟩ := Go.Px.ints_at (hu w (Chg.refl _ _)) hj
    exact h9
  have s1 := s0.alloc #[.int .i64 o.1, .int .i64 o.2.1, .slice A o.2.2.1.length c, .string o.2.2.2] 71
  have y1 := s1.box 3 rfl
  simp [boxAt] at y1
  unfold law02_both_listed.run opV
  simp -dsimp [go_sem, y1]
  have hB1 : B ≤ (w.alloc (.cells #[.int .i64 o.1, .int .i64 o.2.1, .slice A o.2.2.1.length c, .string o.2.2.2] 71)).heap.size := by have := s1.chg.size; omega
  have hu1 := hu _ s1.chg
  refine CALL_of (Lent_ct hu1 hB1 hfit) ?_
  rintro _ w2 ⟨m, rfl, hl2⟩
  have s2 := s1.seq hl2
  unfold law02_both_listed.b1_9
  rw [RUN_eq, ext20, RES_ok, RUN_eq, ext21, RES_ok]
  have s2d := s2.old (Chg.refl noB _).drew
  have k2 := s2d.box 0 rfl
  have y2 := s2d.box 3 rfl
  simp [boxAt] at k2 y2
  rcases hk with rfl | rfl | rfl
  · simp -dsimp [go_sem, k2, y2]
    refine CALL_Level s2d 1 rfl hA (Apart.lent (j := 4) rfl (by omega) hll) fun w3 s3 => ?_
    have s3d := s3.old (Chg.refl noB _).drew
    have k3 := s3d.box 0 rfl
    have y3 := s3d.box 3 rfl
    simp [boxAt] at k3 y3
    simp -dsimp [go_sem, k3, y3]
    refine CALL_rLevel s3d 2 rfl ok hwf hA (Apart.of s3d hu) fun w4 s4 => ?_
    simp -dsimp [go_sem]
    exact listed_end s4 hu hB hfit fun w' hd => hR _ _ ⟨rfl, hd⟩
  · simp -dsimp [go_sem, k2, y2]
    obtain ⟨F4, o4, _⟩ := s2d.get (k := 4) rfl
    refine CALL_Rule s2d 1 rfl hA (lent_rd o4 hll (Chg.refl noB _) fun _ _ => id) hfit' fun w3 s3 => ?_
    have s3d := s3.old (Chg.refl noB _).drew
    have k3 := s3d.box 0 rfl
    have y3 := s3d.box 3 rfl
    simp [boxAt] at k3 y3
    simp -dsimp [go_sem, k3, y3]
    refine CALL_rRule s3d 2 rfl ok hA (Apart.of s3d hu) hfit' fun w4 s4 => ?_
    simp -dsimp [go_sem]
    exact listed_end s4 hu hB hfit fun w' hd => hR _ _ ⟨rfl, hd⟩
  · simp -dsimp [go_sem, k2, y2]
    refine CALL_Grade s2d 1 rfl hA (Apart.lent (j := 4) rfl (by omega) hll) fun w3 s3 => ?_
    have s3d := s3.old (Chg.refl noB _).drew
    have k3 := s3d.box 0 rfl
    have y3 := s3d.box 3 rfl
    simp [boxAt] at k3 y3
    simp -dsimp [go_sem, k3, y3]
    refine CALL_rGrade s3d 2 rfl ok hA (Apart.of s3d hu) fun w4 s4 => ?_
    simp -dsimp [go_sem]
    exact listed_end s4 hu hB hfit fun w' hd => hR _ _ ⟨rfl, hd⟩
end
end Go.Proofs.Ytmhebgebfjnfjaa

/-
  Both builders: any call; the law GramPlays.
-/
namespace Go.Proofs.Ytmhebgebfjnfjaa
open Go.Px Go.Px.Scan Go.RowKit
set_option maxHeartbeats 1000000
set_option linter.unusedSimpArgs false
set_option linter.unusedVariables false
set_option maxRecDepth 100000
attribute [-go_sem] Builtin.append_
attribute [-go_sem] law02_both_does.b4

theorem DoneB.lift {F : Nat → Prop} {w w1 w2 : World} {xb : Nat} {S' : BS} (hc : Chg F w w1) (h : DoneB (fun i => F i ∨ (w.heap.size ≤ i ∧ i < w1.heap.size)) w1 xb S' w2) : DoneB F w xb S' w2 := by
  have h1 := hc.size
  have h2 := h.1.size
  refine ⟨hc.trans' h.1 (fun i hi e => ?_), (bothC xb S').keep (X := noB) h.2 (Chg.refl _ _) (fun _ _ _ => id) fun i hi e => ?_⟩
  · rcases e with e | e
    · exact e
    · omega
  · rcases e with (e | e) | e
    · exact Or.inl e
    · exact Or.inr ⟨e.1, hi⟩
    · exact Or.inr ⟨by omega, hi⟩

theorem op_at {w : World} {B : Nat} {A : Option Addr} {n c : Nat} {l : List OpT} (h : (rSlice rOp).at1 w B (.slice A n c) l) {i : Nat} (hi : i < l.length) :
    ∃ b o A' c', A = some ⟨b, o, none⟩ ∧ b < B ∧ w.cell? ⟨b, o + i * 4, none⟩ = some (.int .i64 l[i].1) ∧ w.cell? ⟨b, o + i * 4 + 1, none⟩ = some (.int .i64 l[i].2.1) ∧ w.cell? ⟨b, o + i * 4 + 2, none⟩ = some (.slice A' l[i].2.2.1.length c') ∧ w.cell? ⟨b, o + i * 4 + 3, none⟩ = some (.string l[i].2.2.2) ∧
      inI64 l[i].1 ∧ inI64 l[i].2.1 ∧ (rSlice rInt).at1 w B (.slice A' l[i].2.2.1.length c') l[i].2.2.1 ∧ l[i].2.2.2.size ≤ maxLen := by
  obtain ⟨b, o, ys, hA, hb, ⟨c1, c2, rfl, ⟨rfl, h1⟩, c3, c4, rfl, ⟨rfl, h2⟩, c5, c6, rfl, h3, rfl, h4⟩, hc⟩ := slice_at h hi
  obtain ⟨A', k, rfl, h5⟩ := h3
  exact ⟨b, o, A', k, hA, hb, hc 0 _ rfl, hc 1 _ rfl, hc 2 _ rfl, hc 3 _ rfl, h1, h2, ⟨A', k, rfl, h5⟩, h4⟩

theorem refC_zero {w : World} {F : Nat → Prop} {p : Nat} (h : (boxC p 66 [.slice none 0 0, .slice none 0 0, .slice none 0 0, .slice none 0 0, .int .i64 0]).ok w F) : (refC p S0).ok w F := by
  refine ⟨none, 0, none, 0, none, 0, none, 0, [], fun i => if i = p then 1 else 0, fun i hi => ?_, fun k d hk => ?_⟩
  · by_cases e : i = p
    · subst e; exact ⟨h.1, (Array.getElem?_eq_some_iff.1 h.2).1⟩
    · dsimp only at hi; rw [if_neg e] at hi; exact absurd rfl hi
  · match k, hk with
    | 0, hk => injection hk with hk; subst hk; exact ⟨by simp, h.2⟩
    | 1, hk => injection hk with hk; subst hk; exact rowC_nil _ _ _ _
    | 2, hk => injection hk with hk; subst hk; exact rowC_nil _ _ _ _
    | 3, hk => injection hk with hk; subst hk; exact rowC_nil _ _ _ _
    | 4, hk => injection hk with hk; subst hk; exact rowC_nil _ _ _ _
    | 5, hk => injection hk with hk; subst hk; exact ⟨rfl, fun i v xs h => by simp at h⟩

section
variable {w : World} {F : Nat → Prop} {xb : Nat} {S : BS} {o : OpT} {A : Option Addr} {c B : Nat}

theorem does_ct (h : (bothC xb S).ok w F) (hK : inI64 o.1) (hA : inI64 o.2.1) (hu : ∀ w', Chg F w w' → (rSlice rInt).at1 w' B (.slice A o.2.2.1.length c) o.2.2.1) (hB : B ≤ w.heap.size) (hfit : o.2.2.1.length * 8 ≤ reachN) (hs : o.2.2.2.size ≤ maxLen) :
    Ct Try.prog law02_both_does.id #[.pointer (some ⟨xb, 0, none⟩), opV o A c] w fun v w' => v = .bool true ∧ DoneB F w xb (doesA S o) w' := by
  refine law02_both_does.ct fun R hR => ?_
  obtain ⟨b, p, hp⟩ := h
  have s0 := St.enter hp
  obtain ⟨F1, o1, _⟩ := s0.get (k := 1) rfl
  obtain ⟨ok, hwf⟩ := bld_ok o1
  have s1 := s0.alloc #[.int .i64 o.1, .int .i64 o.2.1, .slice A o.2.2.1.length c, .string o.2.2.2] 71
  have y1 := s1.box 3 rfl
  simp [boxAt] at y1
  unfold inI64 at hK
  have t1 : -8 < o.1.tmod 8 ∧ o.1.tmod 8 < 8 := ⟨Int.lt_tmod_of_pos _ (by omega), Int.tmod_lt_of_pos _ (by omega)⟩
  have wt : IntKind.i64.wrap (o.1.tmod 8) = o.1.tmod 8 := IntWalk.i64_in _ (by omega)
  have wt8 : IntKind.i64.wrap (o.1.tmod 8 + 8) = o.1.tmod 8 + 8 := IntWalk.i64_in _ (by omega)
  have fin : ∀ k : Int, k = opK o → law02_both_does.b4 R (.pointer (some ⟨xb, 0, none⟩)) (.pointer (some ⟨w.heap.size, 0, none⟩)) (.int .i64 k) (w.alloc (.cells #[.int .i64 o.1, .int .i64 o.2.1, .slice A o.2.2.1.length c, .string o.2.2.2] 71)) := by
    intro k hk
    clear y1
    generalize w.alloc (.cells #[.int .i64 o.1, .int .i64 o.2.1, .slice A o.2.2.1.length c, .string o.2.2.2] 71) = w1 at s1 ⊢
    have y1 := s1.box 3 rfl
    simp [boxAt] at y1
    unfold law02_both_does.b4
    have hb1 : (bothC xb S).ok w1 (fun i => F i ∨ (w.heap.size ≤ i ∧ i < w1.heap.size)) := ⟨b, p, (s1.take 3).leave⟩
    have hz1 := s1.chg.size
    have hu1 : ∀ w', Chg (fun i => F i ∨ (w.heap.size ≤ i ∧ i < w1.heap.size)) w1 w' → (rSlice rInt).at1 w' B (.slice A o.2.2.1.length c) o.2.2.1 := fun w' hc => hu w' (s1.chg.trans' hc fun i hi e => by
      rcases e with e | e
      · exact e
      · omega)
    have hR' : ∀ S' w', DoneB (fun i => F i ∨ (w.heap.size ≤ i ∧ i < w1.heap.size)) w1 xb S' w' → doesA S o = S' → R (.returned (.bool true)) w' := fun S' w' hd e => hR _ _ ⟨rfl, by rw [e]; exact DoneB.lift s1.chg hd⟩
    have cases8 : k = 0 ∨ k = 1 ∨ k = 2 ∨ k = 3 ∨ k = 4 ∨ k = 5 ∨ k = 6 ∨ k = 7 := by
      have : 0 ≤ k ∧ k < 8 := by rw [hk]; unfold opK; split <;> omega
      omega
    have ho : opV o A c = .agg #[.int .i64 o.1, .int .i64 o.2.1, .slice A o.2.2.1.length c, .string o.2.2.2] := rfl
    rcases cases8 with rfl | rfl | rfl | rfl | rfl | rfl | rfl | rfl
    · simp -dsimp [go_sem, y1]
      rw [← ho]
      refine CALL_of (named_ct hb1 hs true) ?_
      rintro _ w2 ⟨rfl, hd⟩
      exact hR' _ _ hd (by simp [doesA, ← hk])
    · simp -dsimp [go_sem, y1]
      rw [← ho]
      refine CALL_of (named_ct hb1 hs false) ?_
      rintro _ w2 ⟨rfl, hd⟩
      exact hR' _ _ hd (by simp [doesA, ← hk])
    · simp -dsimp [go_sem, y1]
      rw [← ho]
      refine CALL_of (listed_ct hb1 hA hu1 (by omega) hfit 2 (by omega)) ?_
      rintro _ w2 ⟨rfl, hd⟩
      exact hR' _ _ hd (by simp [doesA, ← hk])
    · simp -dsimp [go_sem, y1]
      rw [← ho]
      refine CALL_of (listed_ct hb1 hA hu1 (by omega) hfit 3 (by omega)) ?_
      rintro _ w2 ⟨rfl, hd⟩
      exact hR' _ _ hd (by simp [doesA, ← hk])
    · simp -dsimp [go_sem, y1]
      rw [← ho]
      refine CALL_of (listed_ct hb1 hA hu1 (by omega) hfit 4 (by omega)) ?_
      rintro _ w2 ⟨rfl, hd⟩
      exact hR' _ _ hd (by simp [doesA, ← hk])
    · have s1d := s1.old (Chg.refl noB _).drew
      have k1 := s1d.box 0 rfl
      have y1d := s1d.box 3 rfl
      simp [boxAt] at k1 y1d
      simp -dsimp [go_sem, y1d, k1, y1]
      refine CALL_Start s1d 1 rfl hA fun w2 s2 => ?_
      have s2d := s2.old (Chg.refl noB _).drew
      have k2 := s2d.box 0 rfl
      have y2 := s2d.box 3 rfl
      simp [boxAt] at k2 y2
      simp -dsimp [go_sem, k2, y2]
      refine CALL_rStart s2d 2 rfl ok hA fun w3 s3 => ?_
      simp -dsimp [go_sem]
      refine hR _ _ ⟨rfl, ?_⟩
      have : doesA S o = (if isN S o.2.1 then { S with start := o.2.1 } else S) := by simp [doesA, ← hk]
      rw [this]
      exact bothC_leave (X := [_]) s3
    · simp -dsimp [go_sem, y1]
      refine CALL_of (told_ct hb1) ?_
      rintro _ w2 ⟨rfl, hd⟩
      exact hR' _ _ hd (by simp [doesA, ← hk])
    · simp -dsimp [go_sem, y1]
      refine CALL_of (told_ct hb1) ?_
      rintro _ w2 ⟨rfl, hd⟩
      exact hR' _ _ hd (by simp [doesA, ← hk])
  unfold law02_both_does.run opV
  unfold law02_both_does.b1
  simp -dsimp [go_sem, y1, wt]
  refine SPL_intro (fun q1 => ?_) (fun q1 => ?_) <;> simp at q1
  · simp -dsimp [go_sem, wt8]
    exact fin _ (by unfold opK; rw [if_pos q1])
  · exact fin _ (by unfold opK; rw [if_neg (by omega)])
end

theorem bBoth (a b : Option Addr) (w : World) : (Instr.build 68 #[(0, .pointer a), (1, .pointer b)]).run Try.prog w = .ok (.agg #[.pointer a, .pointer b]) w := by simp [go_sem]
theorem bRef (w : World) : (Instr.build 66 #[]).run Try.prog w = .ok (.agg #[.slice none 0 0, .slice none 0 0, .slice none 0 0, .slice none 0 0, .int .i64 0]) w := by simp [go_sem]
attribute [go_sem ↓] bBoth bRef
theorem GramPlays_ct {w : World} {B : Nat} {v : Value} {l : List OpT} (hl : (rSlice rOp).at1 w B v l) (hB : B ≤ w.heap.size) (hfit : (rSlice rOp).fit l) : Ct Try.prog law02_GramPlays.id #[v] w fun r w' => r = .bool true ∧ Chg noB w w' := by
  refine law02_GramPlays.ct fun R hR => ?_
  obtain ⟨A, c, rfl, hl1, hl2, _⟩ := slice_form hl
  unfold law02_GramPlays.run
  simp -dsimp [go_sem]
  refine CALL_of (awake_ct w) ?_
  rintro _ w1 ⟨rfl, hc1⟩
  refine CALL_New (St.start hc1) fun w2 b h2 => ?_
  have h3 := h2.alloc #[.slice none 0 0, .slice none 0 0, .slice none 0 0, .slice none 0 0, .int .i64 0] 66
  have h4 := h3.alloc #[.pointer (some ⟨b, 0, none⟩), .pointer (some ⟨w2.heap.size, 0, none⟩)] 68
  have hs3 : (w2.alloc (.cells #[.slice none 0 0, .slice none 0 0, .slice none 0 0, .slice none 0 0, .int .i64 0] 66)).heap.size = w2.heap.size + 1 := by simp
  rw [hs3] at h4
  have y4 := h4.box 2 rfl
  simp [boxAt] at y4
  simp -dsimp [go_sem, y4]
  generalize (w2.alloc (.cells #[.slice none 0 0, .slice none 0 0, .slice none 0 0, .slice none 0 0, .int .i64 0] 66)).alloc (.cells #[.pointer (some ⟨b, 0, none⟩), .pointer (some ⟨w2.heap.size, 0, none⟩)] 68) = w4 at h4 ⊢
  generalize w2.heap.size = p at h4 ⊢
  have h5 := h4.turn (k := 1) rfl fun F ho => refC_zero ho
  have h6 : St noB w w4 (bothL (p + 1) b p S0) := h5.pick [2, 0, 1] (by decide) rfl
  have h7 : (bothC (p + 1) S0).ok w4 (fun i => w.heap.size ≤ i ∧ i < w4.heap.size) := (bothC (p + 1) S0).keep (X := noB) ⟨b, p, h6.leave⟩ (Chg.refl _ _) (fun _ _ _ => id) fun i _ e => e.elim (fun e => e.elim) id
  have hn : l.length ≤ maxLen := by omega
  have grow : ∀ (S' : BS) (w5 w6 : World), Chg noB w w5 → DoneB (fun i => w.heap.size ≤ i ∧ i < w5.heap.size) w5 (p + 1) S' w6 → Chg noB w w6 ∧ (bothC (p + 1) S').ok w6 (fun i => w.heap.size ≤ i ∧ i < w6.heap.size) := fun S' w5 w6 hc hd => by
    have h1 := hc.size
    have h2 := hd.1.size
    refine ⟨hc.trans' hd.1 fun i hi e => by omega, (bothC (p + 1) S').keep (X := noB) hd.2 (Chg.refl _ _) (fun _ _ _ => id) fun i hi e => ?_⟩
    rcases e with e | e
    · exact ⟨e.1, hi⟩
    · exact ⟨by omega, hi⟩
  refine law02_GramPlays.l7_intro _ _ _ _ _ (fun y w' => ∃ (k : Nat) (S : BS), y = .int .i64 k ∧ k ≤ l.length ∧ Chg noB w w' ∧ (bothC (p + 1) S).ok w' (fun i => w.heap.size ≤ i ∧ i < w'.heap.size)) (fun y _ => l.length - iv y) ⟨0, S0, rfl, by omega, h6.chg, h7⟩ ?_
  rintro _ w5 ⟨k, S, rfl, hk, hc5, hb5⟩ C hC
  simp -dsimp [go_sem]
  refine SPL_intro (fun p1 => ?_) (fun p1 => ?_) <;> simp at p1
  · have wk := wrap_succ p1 hn
    obtain ⟨b1, o1, A', c', rfl, hb1, e0, e1, e2, e3, i1, i2, i3, i4⟩ := op_at (Rep.below hl (hc5.below hB fun _ _ => id)) p1
    have hf : rOp.fit l[k] := hfit.2 _ (List.getElem_mem p1)
    have hf2 : l[k].2.2.1.length * 8 ≤ reachN := hf.2.2.1.1
    obtain ⟨_, _, A2, c2, e9, hbB, _, _, e5, _, _, _, i5, _⟩ := op_at hl p1
    injection e9 with e9; injection e9 with e9 e10; subst e9 e10
    have e6 := (hc5.cell (p := ⟨b1, o1 + k * 4 + 2, none⟩) (show b1 < w.heap.size by omega) (fun h => h)).trans e5
    rw [e2] at e6
    injection e6 with e6
    injection e6 with e6 _ e7
    subst e6 e7
    simp -dsimp [go_sem, p1, e0, e1, e2, e3]
    refine CALL_of (does_ct (o := l[k]) (A := A') (c := c') (B := B) hb5 i1 i2 (fun w' hc => Rep.below i5 ((hc5.trans' hc fun i hi e => by omega).below hB fun _ _ => id)) (by have := hc5.size; omega) hf2 i4) ?_
    rintro _ w6 ⟨rfl, hd⟩
    obtain ⟨g1, g2⟩ := grow _ _ _ hc5 hd
    simp -dsimp [go_sem, wk]
    exact hC _ _ ⟨k + 1, _, by simp, by omega, g1, g2⟩ (by simp [iv]; omega)
  · simp -dsimp [go_sem]
    refine CALL_of (told_ct hb5) ?_
    rintro _ w6 ⟨rfl, hd⟩
    obtain ⟨g1, g2⟩ := grow _ _ _ hc5 hd
    refine CALL_of (told_ct g2) ?_
    rintro _ w7 ⟨rfl, hd⟩
    obtain ⟨g1, g2⟩ := grow _ _ _ g1 hd
    simp -dsimp [go_sem]
    exact hR _ _ ⟨rfl, g1⟩
end Go.Proofs.Ytmhebgebfjnfjaa

