/-
  The document's Lent and Whole.
-/
import Derived.Test.YtkacbjhiobnbfaaMa
import Derived.Test.YtkacbjhiobnbfaaGc
import Derived.Test.YtkacbjhiobnbfaaPa
import Derived.Laws.CopyRow
import Derived.Laws.IdiomCopy
import Derived.Laws.MakeOwn
namespace Go.Px
open Go.RowKit
section
variable {G : Nat → Prop} {W w : World} {L : List Ch}
theorem St.setRowBox (h : St G W w L) (k : Nat) {b : Nat} {t : TypeId} {cs : List Value} (hk : L[k]? = some (boxC b t cs)) (cs' : List Value) : St G W (w.setRow b cs'.toArray) (L.set k (boxC b t cs')) := by
  obtain ⟨F, ho, _, hs⟩ := h.opn hk
  refine hs _ _ ?_ ⟨Or.inl ho.1, setRow_heap w b _ _ t _ ho.2⟩
  exact ⟨rfl, rfl, rfl, by simp [World.setRow], fun j hj hF => by
    have : j ≠ b := fun e => hF (e ▸ ho.1)
    exact setRow_other w b j _ this⟩
theorem row_of_box {w : World} {F : Nat → Prop} {b : Nat} {e : TypeId} {cs : List Value} {size n : Nat} (h : (boxC b e cs).ok w F) (hn : n ≤ maxLen) (hs : cs.length = n * size) : (rowC e size (some ⟨b, 0, none⟩) n n cs).ok w F :=
  ⟨⟨by simpa using hs, Or.inr ⟨b, n, _, rfl, Nat.zero_le _, h.2, Nat.le_refl _, hn, by simpa using hs, by rw [← hs]; simp⟩⟩, fun i hi => by injection hi with hi; rw [← hi]; exact h.1⟩
end
end Go.Px
namespace Go.Proofs.Ytkacbjhiobnbfaa
open Go.Px Go.Px.Scan Go.RowKit
set_option maxHeartbeats 1000000
set_option linter.unusedSimpArgs false
set_option linter.unusedVariables false
set_option maxRecDepth 100000
attribute [-go_sem] Builtin.append_

theorem iInt' : (Try.prog.info? 3).map (fun i => (i.zero, i.size, i.bytes)) = some (some (.int .i64 0), 1, 8) := by kernel_rfl
/-- A row of so many zeros is made. -/
theorem mkZeros (w : World) (n : Nat) (h : n * 8 ≤ 2 * maxBytes) : (Instr.makeSlice 24 (.int .i64 n) (.int .i64 n)).run Try.prog w = .ok (.slice (some ⟨w.heap.size, 0, none⟩) n n) (w.alloc (.cells (Array.replicate n (Value.int .i64 0)) 3)) := by
  obtain ⟨i0, hi, hz0, hz1, hz2⟩ := info_parts iInt'
  unfold maxBytes at h
  have := run_make (P := Try.prog) w 24 3 i0 _ Try.underlying24 hi hz0 .i64 .i64 n n (by omega) (by omega) (by rw [hz2]; omega) (by omega)
  rw [this]
  have e : madeCells (Value.int .i64 0).cells ((n : Int).toNat * i0.size) = Array.replicate n (Value.int .i64 0) := by
    rw [hz1, Nat.mul_one, Int.toNat_natCast]
    have := toList_madeCells_one (Value.int .i64 0) n
    apply Array.toList_inj.1
    rw [Array.toList_replicate]
    exact this
  rw [e]
  simp

/-- What stands behind a lent list. -/
def spares (k : Nat) : List Value := (List.range 8).map fun i : Nat => if i < k then Value.int .i64 (7000 + (i : Int)) else .int .i64 0
theorem spares_zero : spares 0 = List.replicate 8 (Value.int .i64 0) := rfl
theorem spares_set {k : Nat} (h : k < 8) : (spares k).set k (.int .i64 (7000 + (k : Int))) = spares (k + 1) := by
  apply List.ext_getElem
  · simp [spares]
  · intro i h1 h2
    simp only [spares, List.getElem_set, List.getElem_map, List.getElem_range]
    by_cases e : k = i
    · subst e; simp
    · rw [if_neg e]
      by_cases e2 : i < k
      · rw [if_pos e2, if_pos (by omega)]
      · rw [if_neg e2, if_neg (by omega)]

/-- A lent list's memory. -/
def lentC (m : Nat) (l : List Int) : Ch := rowC 3 1 (some ⟨m, 0, none⟩) (l.length + 8) (l.length + 8) (l.map (.int .i64 ·) ++ spares 8)

theorem copy_in {w1 : World} {B m : Nat} {A : Option Addr} {c : Nat} {l : List Int} {L : List Ch} {W : World} {G : Nat → Prop} (hu : (rSlice rInt).at1 w1 B (.slice A l.length c) l) (h : St G W w1 (L ++ [boxC m 3 (List.replicate (l.length + 8) (Value.int .i64 0))])) :
    ∃ r w2, (Builtin.copy_ #[24, 24] 3 #[.slice (some ⟨m, 0, none⟩) (l.length + 8) (l.length + 8), .slice A l.length c]).run Try.prog w1 = .ok r w2 ∧ St G W w2 (L ++ [boxC m 3 (l.map (.int .i64 ·) ++ spares 0)]) := by
  have hi : (Try.prog.info? 3).map (·.size) = some 1 := by
    obtain ⟨i0, h1, _, h2, _⟩ := info_parts iInt'
    rw [h1]; simp [h2]
  by_cases h0 : l.length = 0
  · refine ⟨_, w1, run_copy_none (P := Try.prog) w1 24 24 3 3 _ _ _ _ _ _ Try.underlying24 hi (by rw [h0]; simp), ?_⟩
    have : l = [] := List.length_eq_zero_iff.1 h0
    subst this
    simpa [spares_zero] using h
  · have hp : 0 < l.length := by omega
    obtain ⟨b, o, rfl, hb, _, _⟩ := Go.Px.ints_at hu hp
    have hk : (L ++ [boxC m 3 (List.replicate (l.length + 8) (Value.int .i64 0))])[L.length]? = some (boxC m 3 (List.replicate (l.length + 8) (Value.int .i64 0))) := by simp
    obtain ⟨F, ho, _⟩ := h.get hk
    refine ⟨_, _, run_copy_row (P := Try.prog) w1 24 24 3 3 m 0 (l.length + 8) (l.length + 8) ⟨b, o, none⟩ l.length c _ 3 (l.map (.int .i64 ·)) Try.underlying24 hi ho.2 (by simp) (fun j v hj => ?_) (by simp) (by
      intro v hv; obtain ⟨y, _, rfl⟩ := List.mem_map.1 hv; rfl), ?_⟩
    · have hjl := (List.getElem?_eq_some_iff.1 hj).1
      have hje := (List.getElem?_eq_some_iff.1 hj).2
      simp at hjl hje
      obtain ⟨b', o', e9, _, x1, _⟩ := Go.Px.ints_at hu hjl
      injection e9 with e9; injection e9 with e9 e10; subst e9 e10
      have ha : Addr.add ⟨b, o, none⟩ j = ⟨b, o + j, none⟩ := by unfold Addr.add; split <;> simp_all
      rw [ha, x1, hje]
    · have h2 := h.setRowBox L.length hk (l.map (.int .i64 ·) ++ spares 0)
      have e : ((List.replicate (l.length + 8) (Value.int .i64 0)).toArray.toList.take 0 ++ l.map (Value.int .i64 ·) ++ (List.replicate (l.length + 8) (Value.int .i64 0)).toArray.toList.drop (0 + (l.map (Value.int .i64 ·)).length)) = l.map (.int .i64 ·) ++ spares 0 := by
        rw [spares_zero]; simp
      rw [e]
      simpa using h2

theorem Lent_ct {w : World} {B : Nat} {u : Value} {l : List Int} (hu : (rSlice rInt).at1 w B u l) (hB : B ≤ w.heap.size) (hfit : l.length * 8 ≤ reachN) :
    Ct Try.prog ref01_Lent.id #[u] w fun v w' => ∃ m, v = .tuple #[.slice (some ⟨m, 0, none⟩) l.length (l.length + 8), .slice (some ⟨m, 0, none⟩) (l.length + 8) (l.length + 8)] ∧ St noB w w' [lentC m l] := by
  refine ref01_Lent.ct fun R hR => ?_
  obtain ⟨A, c, rfl, hl1, hl2, _⟩ := slice_form hu
  have hn : l.length ≤ 20000000000000 := by unfold reachN at hfit; omega
  have wn : IntKind.i64.wrap ((l.length : Int) + 8) = (l.length : Int) + 8 := IntWalk.i64_in _ (by omega)
  have hmk := mkZeros w (l.length + 8) (by unfold reachN at hfit; unfold maxBytes; omega)
  rw [show (((l.length + 8 : Nat)) : Int) = (l.length : Int) + 8 by omega] at hmk
  have h1 := (St.refl noB w).alloc (Array.replicate (l.length + 8) (Value.int .i64 0)) 3
  rw [Array.toList_replicate] at h1
  have hu1 : (rSlice rInt).at1 (w.alloc (.cells (Array.replicate (l.length + 8) (Value.int .i64 0)) 3)) B (.slice A l.length c) l := Rep.below hu (h1.chg.below hB fun _ _ => id)
  obtain ⟨r2, w2, hcp, h2⟩ := copy_in (L := []) hu1 h1
  unfold ref01_Lent.run
  simp -dsimp [go_sem, wn, hmk, hcp]
  have h3 : St noB w w2 [rowC 3 1 (some ⟨w.heap.size, 0, none⟩) (l.length + 8) (l.length + 8) (l.map (.int .i64 ·) ++ spares 0)] :=
    h2.turn (k := 0) rfl fun F ho => row_of_box ho (by unfold maxLen; omega) (by simp [spares])
  generalize w.heap.size = m at h3 ⊢
  refine ref01_Lent.l6_intro _ _ _ _ _ (fun y w' => ∃ k : Nat, y = .int .i64 k ∧ k ≤ 8 ∧ St noB w w' [rowC 3 1 (some ⟨m, 0, none⟩) (l.length + 8) (l.length + 8) (l.map (.int .i64 ·) ++ spares k)]) (fun y _ => 8 - iv y) ⟨0, rfl, by omega, h3⟩ ?_
  rintro _ w4 ⟨k, rfl, hk, h4⟩ C hC
  simp -dsimp [go_sem]
  refine SPL_intro (fun p1 => ?_) (fun p1 => ?_) <;> simp at p1
  · have hk8 : k < 8 := by omega
    have w1 : IntKind.i64.wrap ((l.length : Int) + k) = (l.length : Int) + k := IntWalk.i64_in _ (by omega)
    have w2 : IntKind.i64.wrap (7000 + (k : Int)) = 7000 + (k : Int) := IntWalk.i64_in _ (by omega)
    have w3 : IntKind.i64.wrap ((k : Int) + 1) = (k : Int) + 1 := IntWalk.i64_in _ (by omega)
    obtain ⟨g1, e1, d1, f1⟩ := h4.rowAt 0 rfl (j := l.length + k) (by simp [spares]; omega)
    injection e1 with e1; injection e1 with e1; subst e1
    have h5 := h4.setRow 0 rfl (l.length + k) (.int .i64 (7000 + (k : Int)))
    have es : (l.map (Value.int .i64 ·) ++ spares k).set (l.length + k) (.int .i64 (7000 + (k : Int))) = l.map (.int .i64 ·) ++ spares (k + 1) := by
      rw [List.set_append_right _ _ (by simp)]
      simp only [List.length_map, Nat.add_sub_cancel_left]
      rw [spares_set hk8]
    rw [es] at h5
    have x1 : 0 ≤ (l.length : Int) + k := by omega
    have x2 : (l.length : Int) + k < (l.length : Int) + 8 := by omega
    have x3 : ((l.length : Int) + k).toNat = l.length + k := by omega
    simp -dsimp [go_sem, w1, w2, w3, x1, x2, x3, d1, f1]
    exact hC _ _ ⟨k + 1, by simp, by omega, h5⟩ (by simp [iv]; omega)
  · have : k = 8 := by omega
    subst this
    have x1 : (l.length : Int) ≤ (l.length : Int) + 8 := by omega
    simp -dsimp [go_sem, x1]
    exact hR _ _ ⟨m, rfl, h4⟩

attribute [-go_sem] ref01_Whole.b9
theorem spares_get {k : Nat} (h : k < 8) : (spares 8)[k]'(by simp [spares]; exact h) = .int .i64 (7000 + (k : Int)) := by
  simp [spares, h]

theorem Whole_ct {G : Nat → Prop} {W w : World} {L : List Ch} {k m B : Nat} {u : Value} {l : List Int} (h : St G W w L) (hk : L[k]? = some (lentC m l)) (hu : (rSlice rInt).at1 w B u l) (hB : B ≤ w.heap.size) (hfit : l.length * 8 ≤ reachN) :
    Ct Try.prog ref01_Whole.id #[.slice (some ⟨m, 0, none⟩) (l.length + 8) (l.length + 8), u] w fun v w' => v = .bool true ∧ Chg noB w w' := by
  refine ref01_Whole.ct fun R hR => ?_
  obtain ⟨A, c, rfl, hl1, hl2, _⟩ := slice_form hu
  have hn : l.length ≤ 20000000000000 := by unfold reachN at hfit; omega
  unfold ref01_Whole.run
  simp -dsimp [go_sem]
  refine ref01_Whole.l6_intro _ _ _ _ _ (fun y w' => ∃ i : Nat, y = .int .i64 i ∧ i ≤ l.length + 8 ∧ Chg noB w w') (fun y _ => l.length + 8 - iv y) ⟨0, rfl, by omega, Chg.refl _ _⟩ ?_
  rintro _ w1 ⟨i, rfl, hi, hc1⟩ C hC
  have h1 := h.old hc1
  have cc : ((l.length + 8 : Nat) : Int) = (l.length : Int) + 8 := by omega
  simp -dsimp [go_sem]
  refine SPL_intro (fun p1 => ?_) (fun p1 => ?_) <;> simp at p1
  · have p1' : (i : Int) < (l.length : Int) + 8 := by omega
    have p1n : i < l.length + 8 := by omega
    have wi : IntKind.i64.wrap ((i : Int) + 1) = (i : Int) + 1 := IntWalk.i64_in _ (by omega)
    have hc2 := hc1.trans (Chg.refl noB w1).drew
    have h2 := h.old hc2
    obtain ⟨g1, e1, d1, f1⟩ := h2.rowAt k hk (j := i) (by simp [spares]; omega)
    injection e1 with e1; injection e1 with e1; subst e1
    by_cases hil : i < l.length
    · have hil' : (i : Int) < l.length := by omega
      obtain ⟨b1, o1, rfl, _, x1, x2⟩ := Go.Px.ints_at (Rep.below hu (hc2.below hB fun _ _ => id)) hil
      rw [List.getElem_append_left (by simpa using hil), List.getElem_map] at d1
      have hge : ¬ (l.length : Int) ≤ i := by omega
      simp -dsimp [go_sem, p1', p1n, hil, hil', d1, x1, hge]
      unfold ref01_Whole.b9
      simp -dsimp [go_sem, wi]
      exact hC _ _ ⟨i + 1, by simp, by omega, hc2⟩ (by simp [iv]; omega)
    · have hil' : ¬ (i : Int) < l.length := by omega
      have hge : (l.length : Int) ≤ i := by omega
      rw [List.getElem_append_right (by simpa using hil)] at d1
      simp only [List.length_map] at d1
      rw [spares_get (by omega)] at d1
      have w2 : IntKind.i64.wrap (7000 + (i : Int)) = 7000 + (i : Int) := IntWalk.i64_in _ (by omega)
      have w3 : IntKind.i64.wrap (7000 + (i : Int) - l.length) = 7000 + ((i - l.length : Nat) : Int) := by rw [show 7000 + (i : Int) - l.length = 7000 + ((i - l.length : Nat) : Int) by omega]; exact IntWalk.i64_in _ (by omega)
      simp -dsimp [go_sem, p1', p1n, hil, hil', d1, hge, w2, w3]
      unfold ref01_Whole.b9
      simp -dsimp [go_sem, wi]
      exact hC _ _ ⟨i + 1, by simp, by omega, hc2⟩ (by simp [iv]; omega)
  · simp -dsimp [go_sem]
    exact hR _ _ ⟨rfl, hc1⟩

theorem lent_rd {w w' : World} {F X : Nat → Prop} {m : Nat} {l : List Int} (h : (lentC m l).ok w F) (hl : ∀ x ∈ l, inI64 x) (hc : Chg X w w') (hX : ∀ i, F i → ¬ X i) : (rSlice rInt).at1 w' w.heap.size (.slice (some ⟨m, 0, none⟩) l.length (l.length + 8)) l := by
  have hs := row_size h
  refine ⟨_, _, rfl, by omega, by omega, trivial, fun hp => ?_⟩
  obtain ⟨g, e, _, _, hF', hg⟩ := row_at h (j := 0) (by simp; omega)
  injection e with e; injection e with e; subst e
  refine ⟨m, 0, rfl, hg, fun i x hi => ⟨[.int .i64 x], ⟨rfl, hl x (List.mem_of_getElem? hi)⟩, fun n u hm => ?_⟩⟩
  have hm0 : n = 0 := by have := (List.getElem?_eq_some_iff.1 hm).1; simp at this; omega
  subst hm0
  simp at hm
  subst hm
  have hil := (List.getElem?_eq_some_iff.1 hi).1
  have hx := (List.getElem?_eq_some_iff.1 hi).2
  obtain ⟨g', e, hcell, _⟩ := row_at h (j := i) (by simp; omega)
  injection e with e; injection e with e; subst e
  rw [List.getElem_append_left (by simpa using hil), List.getElem_map, hx] at hcell
  have := (hc.cell (p := ⟨m, i, none⟩) hg (hX m hF')).trans hcell
  simpa [rInt] using this

end Go.Proofs.Ytkacbjhiobnbfaa

