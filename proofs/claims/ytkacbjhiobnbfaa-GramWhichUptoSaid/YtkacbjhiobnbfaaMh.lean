/-
  Texts of this claim: Gc0, Gc1, Gc2.
-/
import Derived.Test.YtkacbjhiobnbfaaMa
import Derived.Test.YtkacbjhiobnbfaaGb
import Derived.Test.YtkacbjhiobnbfaaMc
import Derived.Test.YtkacbjhiobnbfaaPa
/-
  Clone and Clip of lists, in pieces.
-/
namespace Go.Px
open Go.RowKit
theorem flat_len {α : Type} {enc : α → List Value} {size : Nat} : ∀ l : List α, (∀ x ∈ l, (enc x).length = size) → (l.flatMap enc).length = l.length * size
  | [], _ => by simp
  | x :: t, h => by rw [List.flatMap_cons, List.length_append, h x (by simp), flat_len t fun y hy => h y (by simp [hy]), List.length_cons, Nat.succ_mul]; omega
/-- A slice that is read, cell by cell. -/
theorem flat_cells {α : Type} {r : Rep α} {enc : α → List Value} {w : World} {B : Nat} {b o : Nat} {n c : Nat} {l : List α} (h : (rSlice r).at1 w B (.slice (some ⟨b, o, none⟩) n c) l) (hr : ∀ {w B ys x}, r.ok w B ys x → x ∈ l → ys = enc x) (hs : ∀ x ∈ l, (enc x).length = r.size) (hpos : 0 < r.size) :
    ∀ j u, (l.flatMap enc)[j]? = some u → w.cell? ⟨b, o + j, none⟩ = some u := by
  intro j u hu
  have hlen := flat_len l hs
  have hj : j < l.length * r.size := by rw [← hlen]; exact (List.getElem?_eq_some_iff.1 hu).1
  have hi : j / r.size < l.length := (Nat.div_lt_iff_lt_mul hpos).2 hj
  have hm : j % r.size < r.size := Nat.mod_lt _ hpos
  have hdm : j / r.size * r.size + j % r.size = j := by rw [Nat.mul_comm]; exact Nat.div_add_mod j r.size
  obtain ⟨b', o', ys, hA, hb, hok, hc⟩ := slice_at h hi
  injection hA with hA; injection hA with h1 h2; subst h1 h2
  have hy := hr hok (List.getElem_mem hi)
  have hf := flat_at hs (List.getElem?_eq_getElem hi) hm
  rw [hdm, hu] at hf
  have := hc (j % r.size) u (by rw [hy]; exact hf.symm)
  rw [show o + j = o + (j / r.size * r.size + j % r.size) by omega]
  exact this
end Go.Px
namespace Go.Proofs.Ytkacbjhiobnbfaa
open Go.Px Go.Px.Scan Go.RowKit
set_option maxHeartbeats 1000000
set_option linter.unusedSimpArgs false
set_option linter.unusedVariables false
set_option maxRecDepth 100000
attribute [-go_sem] Builtin.append_

theorem CloneT_ct {w : World} {B : Nat} {v : Value} {l : List (ByteArray × Int)} (h : (rSlice rTerm).at1 w B v l) (hB : B ≤ w.heap.size) (hn : l.length * 24 ≤ maxBytes) :
    Ct Try.prog slices_Clone_api_Term_api_Term.id #[v] w fun v' w' => ∃ a c, v' = .slice a l.length c ∧ St noB w w' [rowC 106 2 a l.length c (l.flatMap fun t => [.string t.1, .int .i64 t.2])] := by
  refine slices_Clone_api_Term_api_Term.ct fun R hR => ?_
  obtain ⟨A, c, rfl, hl, hm, _⟩ := slice_form h
  unfold slices_Clone_api_Term_api_Term.run
  simp -dsimp [go_sem]
  rw [slice_nil_eq 22 Try.underlying22]
  cases A with
  | none =>
    have hz : l = [] := by
      rcases Nat.eq_zero_or_pos l.length with h0 | h0
      · exact List.length_eq_zero_iff.1 h0
      · obtain ⟨b, o, e, _⟩ := terms_at h h0
        cases e
    subst hz
    simp -dsimp [go_sem]
    exact hR _ _ ⟨none, 0, rfl, (St.refl noB w).nilRow 106 2⟩
  | some a =>
    simp -dsimp [go_sem]
    have h1 := (St.refl noB w).lit 106 2 0 #[] (by simp) (by simp)
    generalize hw1 : w.alloc (.cells #[] 106) = w1 at h1 ⊢
    refine h1.appendN 0 rfl uTerms iTerm rfl (by omega) (m := l.length) (news := l.flatMap fun t => [.string t.1, .int .i64 t.2]) ?_ ?_ ?_ (by omega) (by omega) ?_
    · exact flat_len l fun _ _ => rfl
    · intro j u hu
      have hp : 0 < l.length := by
        rcases Nat.eq_zero_or_pos l.length with h0 | h0
        · rw [List.length_eq_zero_iff.1 h0] at hu; simp at hu
        · exact h0
      obtain ⟨b, o, e, _⟩ := terms_at h hp
      injection e with e
      subst e
      rw [Addr.add_lit]
      exact flat_cells (Rep.below h (h1.chg.below hB fun _ _ => id)) (enc := fun t => [Value.string t.1, .int .i64 t.2]) (fun ⟨c1, c2, e, h2, h3⟩ _ => by obtain ⟨rfl, _⟩ := h2; obtain ⟨rfl, _⟩ := h3; exact e) (fun _ _ => rfl) (by decide) j u hu
    · intro u hu
      obtain ⟨t, _, hu⟩ := List.mem_flatMap.1 hu
      simp at hu
      rcases hu with rfl | rfl <;> rfl
    · intro a' cap w' h2 _
      simp only [Nat.zero_add, List.nil_append] at h2 ⊢
      exact hR _ _ ⟨_, _, rfl, h2⟩

theorem CloneS_ct {w : World} {B : Nat} {v : Value} {l : List ByteArray} (h : (rSlice rStr).at1 w B v l) (hB : B ≤ w.heap.size) (hn : l.length * 16 ≤ maxBytes) :
    Ct Try.prog slices_Clone_string_string.id #[v] w fun v' w' => ∃ a c, v' = .slice a l.length c ∧ St noB w w' [rowC 9 1 a l.length c (l.flatMap fun t => [.string t])] := by
  refine slices_Clone_string_string.ct fun R hR => ?_
  obtain ⟨A, c, rfl, hl, hm, _⟩ := slice_form h
  unfold slices_Clone_string_string.run
  simp -dsimp [go_sem]
  rw [slice_nil_eq 23 Try.underlying23]
  cases A with
  | none =>
    have hz : l = [] := by
      rcases Nat.eq_zero_or_pos l.length with h0 | h0
      · exact List.length_eq_zero_iff.1 h0
      · obtain ⟨b, o, e, _⟩ := strs_at h h0
        cases e
    subst hz
    simp -dsimp [go_sem]
    exact hR _ _ ⟨none, 0, rfl, (St.refl noB w).nilRow 9 1⟩
  | some a =>
    simp -dsimp [go_sem]
    have h1 := (St.refl noB w).lit 9 1 0 #[] (by simp) (by simp)
    generalize hw1 : w.alloc (.cells #[] 9) = w1 at h1 ⊢
    refine h1.appendN 0 rfl uStrs iStr rfl (by omega) (m := l.length) (news := l.flatMap fun t => [.string t]) ?_ ?_ ?_ (by omega) (by omega) ?_
    · exact flat_len l fun _ _ => rfl
    · intro j u hu
      have hp : 0 < l.length := by
        rcases Nat.eq_zero_or_pos l.length with h0 | h0
        · rw [List.length_eq_zero_iff.1 h0] at hu; simp at hu
        · exact h0
      obtain ⟨b, o, e, _⟩ := strs_at h hp
      injection e with e
      subst e
      rw [Addr.add_lit]
      exact flat_cells (Rep.below h (h1.chg.below hB fun _ _ => id)) (enc := fun t => [Value.string t]) (fun h _ => h.1) (fun _ _ => rfl) (by decide) j u hu
    · intro u hu
      obtain ⟨t, _, hu⟩ := List.mem_flatMap.1 hu
      simp at hu
      subst hu; rfl
    · intro a' cap w' h2 _
      simp only [Nat.zero_add, List.nil_append] at h2 ⊢
      exact hR _ _ ⟨_, _, rfl, h2⟩
end Go.Proofs.Ytkacbjhiobnbfaa

/-
  Cells of a slice, whatever its capacity.
-/
namespace Go.Px
open Go.RowKit
/-- So many cells from a block's first one on. -/
def runC (a : Option Addr) (xs : List Value) : Ch where
  ok w F := xs = [] ∨ ∃ g, a = some ⟨g, 0, none⟩ ∧ F g ∧ g < w.heap.size ∧ (∀ (j : Nat) u, xs[j]? = some u → w.cell? ⟨g, j, none⟩ = some u) ∧ ∀ j, j < xs.length → w.frozen? ⟨g, j, none⟩ = false
  keep h hc hX hF := by
    rcases h with h | ⟨g, h1, h2, h3, h4, h5⟩
    · exact Or.inl h
    · exact Or.inr ⟨g, h1, hF g h3 h2, Nat.lt_of_lt_of_le h3 hc.size, fun j u hj => (hc.cell (p := ⟨g, j, none⟩) h3 (hX g h3 h2)).trans (h4 j u hj), fun j hj => (hc.frozen (p := ⟨g, j, none⟩) h3 (hX g h3 h2)).trans (h5 j hj)⟩
theorem run_of_row {w : World} {F : Nat → Prop} {e size : Nat} {a : Option Addr} {n c : Nat} {xs : List Value} (h : (rowC e size a n c xs).ok w F) : (runC a xs).ok w F := by
  by_cases h0 : xs = []
  · exact Or.inl h0
  · have hp : 0 < xs.length := List.length_pos_iff.2 h0
    obtain ⟨g, rfl, _, _, hF, hg⟩ := row_at h hp
    refine Or.inr ⟨g, rfl, hF, hg, fun j u hj => ?_, fun j hj => ?_⟩
    · have hjl := (List.getElem?_eq_some_iff.1 hj).1
      obtain ⟨g', e1, hc, _⟩ := row_at h hjl
      injection e1 with e1; injection e1 with e1; subst e1
      rw [hc, (List.getElem?_eq_some_iff.1 hj).2]
    · obtain ⟨g', e1, _, hf, _⟩ := row_at h hj
      injection e1 with e1; injection e1 with e1; subst e1
      exact hf
section
variable {G : Nat → Prop} {W w : World} {L : List Ch}
theorem St.runAt (h : St G W w L) (k : Nat) {a : Option Addr} {xs : List Value} (hk : L[k]? = some (runC a xs)) {j : Nat} (hj : j < xs.length) :
    ∃ g, a = some ⟨g, 0, none⟩ ∧ w.cell? ⟨g, j, none⟩ = some xs[j] ∧ w.frozen? ⟨g, j, none⟩ = false := by
  obtain ⟨F, ho, _⟩ := h.get hk
  rcases ho with ho | ⟨g, h1, h2, h3, h4, h5⟩
  · rw [ho] at hj; exact absurd hj (Nat.not_lt_zero _)
  · exact ⟨g, h1, h4 j _ (List.getElem?_eq_getElem hj), h5 j hj⟩
theorem St.setRun (h : St G W w L) (k : Nat) {g : Nat} {xs : List Value} (hk : L[k]? = some (runC (some ⟨g, 0, none⟩) xs)) (j : Nat) (hj : j < xs.length) (u : Value) : St G W (w.setCell ⟨g, j, none⟩ u) (L.set k (runC (some ⟨g, 0, none⟩) (xs.set j u))) := by
  obtain ⟨F, ho, _, hs⟩ := h.opn hk
  rcases ho with ho | ⟨g', h1, h2, h3, h4, h5⟩
  · rw [ho] at hj; exact absurd hj (Nat.not_lt_zero _)
  · injection h1 with h1; injection h1 with h1; subst h1
    refine hs _ _ ((chg_setCell _ _ _).mono fun i _ e => by rw [e]; exact h2) (Or.inr ⟨g, rfl, Or.inl h2, by simpa using h3, fun i v hi => ?_, fun i hi => (World.frozen?_setCell _ _ _ _).trans (h5 i (by simpa using hi))⟩)
    rw [List.getElem?_set] at hi
    by_cases e : j = i
    · subst e
      rw [if_pos rfl, if_pos hj] at hi
      injection hi with hi
      rw [← hi]
      exact World.cell?_setCell_same _ _ _ (h4 j _ (List.getElem?_eq_getElem hj))
    · rw [if_neg e] at hi
      exact (World.cell?_setCell_other _ _ _ _ (by intro e2; injection e2 with _ e2; exact e e2)).trans (h4 i v hi)
end
end Go.Px
namespace Go.Px
open Go.RowKit
/-- Slices that have just as many cells as they may: one for each. -/
def runsC (vs : List Value) (xss : List (List Value)) : Ch where
  ok w F := vs.length = xss.length ∧ ∀ (i : Nat) v xs, vs[i]? = some v → xss[i]? = some xs → ∃ a c, v = .slice a xs.length c ∧ xs.length ≤ c ∧ c ≤ maxLen ∧ (runC a xs).ok w F
  keep h hc hX hF := ⟨h.1, fun i v xs h1 h2 => by obtain ⟨a, c, hv, hl, hm, hr⟩ := h.2 i v xs h1 h2; exact ⟨a, c, hv, hl, hm, (runC a xs).keep hr hc hX hF⟩⟩
theorem runsC_nil (w : World) (F : Nat → Prop) : (runsC [] []).ok w F := ⟨rfl, fun i v xs h => by simp at h⟩
theorem runsC_snoc {a : Option Addr} {c : Nat} {xs : List Value} {vs : List Value} {xss : List (List Value)} {w : World} {F F' : Nat → Prop} (h : (runC a xs).ok w F) (hl : xs.length ≤ c) (hm : c ≤ maxLen) (h' : (runsC vs xss).ok w F') : (runsC (vs ++ [.slice a xs.length c]) (xss ++ [xs])).ok w (fun i => F i ∨ F' i) := by
  refine ⟨by simp [h'.1], fun i v ys h1 h2 => ?_⟩
  by_cases hi : i < vs.length
  · rw [List.getElem?_append_left hi] at h1
    rw [List.getElem?_append_left (by rw [← h'.1]; exact hi)] at h2
    obtain ⟨a', c', hv, q1, q2, hr⟩ := h'.2 i v ys h1 h2
    exact ⟨a', c', hv, q1, q2, (runC a' ys).keep (X := noB) hr (Chg.refl _ _) (fun _ _ _ => id) fun _ _ e => Or.inr e⟩
  · have hil := (List.getElem?_eq_some_iff.1 h1).1
    simp at hil
    have hie : i = vs.length := by omega
    subst hie
    rw [List.getElem?_append_right (Nat.le_refl _)] at h1
    rw [h'.1, List.getElem?_append_right (Nat.le_refl _)] at h2
    simp at h1 h2
    subst h1 h2
    exact ⟨a, c, rfl, hl, hm, (runC a xs).keep (X := noB) h (Chg.refl _ _) (fun _ _ _ => id) fun _ _ e => Or.inl e⟩
end Go.Px

/-
  Clip.
-/
namespace Go.Proofs.Ytkacbjhiobnbfaa
open Go.Px Go.Px.Scan Go.RowKit
set_option maxHeartbeats 1000000
set_option linter.unusedSimpArgs false
set_option linter.unusedVariables false
set_option maxRecDepth 100000
attribute [-go_sem] Builtin.append_

theorem ClipT_ct {w : World} {a : Option Addr} {n c : Nat} (h : n ≤ c) (ha : a = none → n = 0 ∧ c = 0) : Ct Try.prog slices_Clip_api_Term_api_Term.id #[.slice a n c] w fun v w' => v = .slice a n n ∧ w = w' := by
  refine slices_Clip_api_Term_api_Term.ct fun R hR => ?_
  unfold slices_Clip_api_Term_api_Term.run
  cases a with
  | none =>
    obtain ⟨rfl, rfl⟩ := ha rfl
    simp -dsimp [go_sem]
    exact hR _ _ ⟨rfl, rfl⟩
  | some a =>
    simp -dsimp [go_sem, h]
    exact hR _ _ ⟨rfl, rfl⟩

theorem ClipS_ct {w : World} {a : Option Addr} {n c : Nat} (h : n ≤ c) (ha : a = none → n = 0 ∧ c = 0) : Ct Try.prog slices_Clip_string_string.id #[.slice a n c] w fun v w' => v = .slice a n n ∧ w = w' := by
  refine slices_Clip_string_string.ct fun R hR => ?_
  unfold slices_Clip_string_string.run
  cases a with
  | none =>
    obtain ⟨rfl, rfl⟩ := ha rfl
    simp -dsimp [go_sem]
    exact hR _ _ ⟨rfl, rfl⟩
  | some a =>
    simp -dsimp [go_sem, h]
    exact hR _ _ ⟨rfl, rfl⟩

theorem ClipI_ct {w : World} {a : Option Addr} {n c : Nat} (h : n ≤ c) (ha : a = none → n = 0 ∧ c = 0) : Ct Try.prog slices_Clip_int_int.id #[.slice a n c] w fun v w' => v = .slice a n n ∧ w = w' := by
  refine slices_Clip_int_int.ct fun R hR => ?_
  unfold slices_Clip_int_int.run
  cases a with
  | none =>
    obtain ⟨rfl, rfl⟩ := ha rfl
    simp -dsimp [go_sem]
    exact hR _ _ ⟨rfl, rfl⟩
  | some a =>
    simp -dsimp [go_sem, h]
    exact hR _ _ ⟨rfl, rfl⟩
end Go.Proofs.Ytkacbjhiobnbfaa

