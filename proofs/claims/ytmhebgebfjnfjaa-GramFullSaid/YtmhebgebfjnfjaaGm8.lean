/-
  Lists of numbers: does one of them fit, a copy.
-/
import Derived.Test.YtmhebgebfjnfjaaGm7
namespace Go.Proofs.Ytmhebgebfjnfjaa
open Go.Px Go.Px.Scan Go.RowKit
set_option maxHeartbeats 1000000
set_option linter.unusedSimpArgs false
set_option linter.unusedVariables false
attribute [-go_sem] Builtin.append_

theorem IndexFuncI_ct {w : World} {B : Nat} {v : Value} {l : List Int} (h : (rSlice rInt).at1 w B v l) {g : FuncId} {first cap : Array Value} {p : Int → Bool}
    (hp : ∀ x ∈ l, inI64 x → Ct Try.prog g (first.toList ++ [Value.int .i64 x] ++ cap.toList).toArray w fun v w' => v = .bool (p x) ∧ w = w') :
    Ct Try.prog slices_IndexFunc_int_int.id #[v, .func (.func g) first cap] w fun r w' => (∃ i, r = .int .i64 i ∧ (0 ≤ i ↔ l.any p = true) ∧ i ≤ l.length) ∧ w = w' := by
  refine slices_IndexFunc_int_int.ct fun R hR => ?_
  obtain ⟨A, c, rfl, hl, hm, _⟩ := slice_form h
  unfold slices_IndexFunc_int_int.run slices_IndexFunc_int_int.b1 slices_IndexFunc_int_int.b4
  simp [go_sem]
  refine slices_IndexFunc_int_int.l6_intro _ _ _ _ _ _ (fun x w1 => ∃ k : Nat, x = .int .i64 k ∧ k ≤ l.length ∧ (l.take k).any p = false ∧ w = w1) (fun x _ => l.length - iv x) ⟨0, rfl, by omega, by simp, rfl⟩ ?_
  rintro _ _ ⟨k, rfl, hk, hall, rfl⟩ C hC
  unfold slices_IndexFunc_int_int.b7
  simp [go_sem]
  refine SPL_intro (fun h2 => ?_) (fun h2 => ?_) <;> simp at h2
  · obtain ⟨b1, o1, rfl, hb1, hc1, hr1⟩ := Go.Px.ints_at h h2
    have wk := wrap_succ h2 (Nat.le_trans hl hm)
    simp [go_sem, h2, hc1]
    refine CALLY_of (hp l[k] (List.getElem_mem h2) hr1) ?_
    rintro _ _ ⟨rfl, rfl⟩
    refine SPL_intro (fun h3 => ?_) (fun h3 => ?_)
    · refine hR _ _ ⟨⟨k, rfl, ?_, by omega⟩, rfl⟩
      refine ⟨fun _ => List.any_eq_true.2 ⟨_, List.getElem_mem h2, h3⟩, fun _ => by omega⟩
    · simp [go_sem, wk]
      refine hC _ _ ⟨k + 1, by simp, by omega, ?_, rfl⟩ (by simp [iv]; omega)
      rw [List.take_succ_eq_append_getElem h2, List.any_append, hall]
      simp [h3]
  · have hka : k = l.length := by omega
    rw [hka, List.take_length] at hall
    unfold slices_IndexFunc_int_int.b3
    exact hR _ _ ⟨⟨-1, rfl, by rw [hall]; simp, by omega⟩, rfl⟩

theorem ContainsFuncI_ct {w : World} {B : Nat} {v : Value} {l : List Int} (h : (rSlice rInt).at1 w B v l) {g : FuncId} {first cap : Array Value} {p : Int → Bool}
    (hp : ∀ x ∈ l, inI64 x → Ct Try.prog g (first.toList ++ [Value.int .i64 x] ++ cap.toList).toArray w fun v w' => v = .bool (p x) ∧ w = w') :
    Ct Try.prog slices_ContainsFunc_int_int.id #[v, .func (.func g) first cap] w fun r w' => r = .bool (l.any p) ∧ w = w' := by
  refine slices_ContainsFunc_int_int.ct fun R hR => ?_
  unfold slices_ContainsFunc_int_int.run slices_ContainsFunc_int_int.b1
  refine CALL_of (IndexFuncI_ct h hp) ?_
  rintro _ _ ⟨⟨i, rfl, hi, _⟩, rfl⟩
  simp [go_sem]
  refine hR _ _ ⟨?_, rfl⟩
  congr 1
  cases ha : l.any p
  · rw [ha] at hi; simpa using hi
  · rw [ha] at hi; simpa using hi

theorem ints_flat (l : List Int) : l.flatMap (fun x => [Value.int .i64 x]) = l.map (.int .i64 ·) := by
  induction l with
  | nil => rfl
  | cons x r ih => simp [ih]

theorem info_int' : (Try.prog.info? 3).map (fun i => (i.zero, i.size, i.bytes)) = some (some (.int .i64 0), 1, 8) := by kernel_rfl

theorem slice_nil_eq (t : TypeId) {e : TypeId} (ht : Try.prog.underlying t = some (.slice e)) (A : Option Addr) (n c : Nat) (w : World) : (binOp BinOp.eql t (.slice A n c) (.slice none 0 0)).run Try.prog w = .ok (.bool A.isNone) w := by
  simp only [binOp, Op.equal]
  rw [show Op.maxDepth = 9999 + 1 from rfl]
  unfold Op.equalIn
  cases A <;> simp [run_underlying ht, go_sem]

set_option maxRecDepth 100000 in
theorem CloneI_ct {w : World} {B : Nat} {v : Value} {l : List Int} (h : (rSlice rInt).at1 w B v l) (hB : B ≤ w.heap.size) (hn : l.length * 8 ≤ maxBytes) :
    Ct Try.prog slices_Clone_int_int.id #[v] w fun v' w' => w'.ownsRow w.heap.size 3 1 v' l.length (l.map (.int .i64 ·)) ∧ Chg (fun _ => False) w w' := by
  refine slices_Clone_int_int.ct fun R hR => ?_
  obtain ⟨A, c, rfl, hl, hm, _⟩ := slice_form h
  unfold slices_Clone_int_int.run slices_Clone_int_int.b1
  simp [go_sem]
  rw [slice_nil_eq 30 Try.underlying30]
  cases A with
  | none =>
    have hz : l.length = 0 := by
      rcases Nat.eq_zero_or_pos l.length with h0 | h0
      · exact h0
      · obtain ⟨b, o, e, _⟩ := Go.Px.ints_at h h0
        cases e
    have hl0 : l = [] := List.eq_nil_of_length_eq_zero hz
    subst hl0
    simp [go_sem]
    exact hR _ _ ⟨⟨by simp, Or.inl ⟨rfl, rfl⟩⟩, Chg.refl _ _⟩
  | some a =>
    simp [go_sem]
    have hc1 : Chg (fun _ => False) w (w.alloc (.cells #[] 3)) := (Chg.refl _ _).alloc _
    have hx : (w.alloc (.cells #[] 3)).heap[w.heap.size]? = some (.cells #[] 3 (0, 0)) := heap_alloc_new w _
    have hs1 : (w.alloc (.cells #[] 3)).heap.size = w.heap.size + 1 := by simp
    obtain ⟨i0, hi, hz0, hz1, hz2⟩ := info_parts info_int'
    generalize w.alloc (.cells #[] 3) = w1 at hc1 hx hs1 ⊢
    have hown : w1.ownsRow w.heap.size 3 1 (.slice (some ⟨w.heap.size, 0, none⟩) 0 0) 0 [] := ⟨by simp, Or.inr ⟨_, 0, #[], rfl, Nat.le_refl _, hx, by omega, by simp [maxLen], by simp, by simp⟩⟩
    have hnews : ∀ j u, (l.map (Value.int .i64 ·))[j]? = some u → w1.cell? (a.add j) = some u := by
      intro j u hu
      have hj : j < l.length := by have := (List.getElem?_eq_some_iff.1 hu).1; simpa using this
      obtain ⟨b1, o1, e, hb1, hc, hr1⟩ := Go.Px.ints_at h hj
      injection e with e
      subst e
      have : u = .int .i64 l[j] := by have := (List.getElem?_eq_some_iff.1 hu).2; simpa using this.symm
      subst this
      rw [Addr.add_lit]
      exact (hc1.cell (p := ⟨b1, o1 + j, none⟩) (by show b1 < _; omega) id).trans hc
    obtain ⟨v', w', hrun, hown', hgr, _, hb⟩ := run_append_own_at (P := Try.prog) w1 w.heap.size 30 30 3 i0 _ 1 8 Try.underlying30 hi hz0 hz1 hz2 rfl (by omega) _ 0 [] hown a l.length c (l.map (.int .i64 ·)) (by simp) hnews (by
        intro u hu
        obtain ⟨x, _, rfl⟩ := List.mem_map.1 hu
        rfl) (by omega) (by unfold maxBytes at hn; omega) (by omega)
    rw [hrun, RES_ok]
    simp only [Nat.zero_add, List.nil_append] at hown'
    have hg : Chg (fun i => i = w.heap.size) w1 w' := grown_chg hgr fun k hk => by
      simp [Value.ownBlock] at hk
      exact hk.symm
    exact hR _ _ ⟨hown', hc1.trans' hg fun i hi e => by omega⟩
end Go.Proofs.Ytmhebgebfjnfjaa

namespace Go.Proofs.Ytmhebgebfjnfjaa
open Go.Px Go.Px.Scan Go.RowKit
/-! ### More marks -/
theorem Row.retag {w : World} {T T' : Nat → Nat} {tag e size : Nat} {v : Value} {n : Nat} {xs : List Value} (h : Row w T tag e size v n xs) (ht : tag ≠ 0) (hT : ∀ i, T i ≠ 0 → T' i = T i) : Row w T' tag e size v n xs :=
  ⟨h.1, fun i hi => by rw [hT i (by rw [h.2 i hi]; exact ht)]; exact h.2 i hi⟩
theorem Nm.retag {w : World} {T T' : Nat → Nat} {b o tx tm : Nat} {v m : Value} {l : List ByteArray} (h : Nm w T b o tx tm v m l) (hx : tx ≠ 0) (hm : tm ≠ 0) (hT : ∀ i, T i ≠ 0 → T' i = T i) : Nm w T' b o tx tm v m l :=
  ⟨h.c0, h.c1, h.f0, h.f1, h.row.retag hx hT, h.map, fun i hi => by rw [hT i (by rw [h.tag i hi]; exact hm)]; exact h.tag i hi⟩
theorem RightAt.retag {w : World} {T T' : Nat → Nat} {v : Value} {l : List Int} (h : RightAt w T v l) (hT : ∀ i, T i ≠ 0 → T' i = T i) : RightAt w T' v l :=
  ⟨h.rd, fun hl i hi => by have := h.tg hl i hi; rw [hT i (by omega)]; exact this⟩
theorem Bld.retag {w : World} {T T' : Nat → Nat} {b : Nat} {V : BV} {S : BS} (h : Bld w T b V S) (hT : ∀ i, T i ≠ 0 → T' i = T i) (hlt : ∀ i, T' i ≠ 0 → i < w.heap.size) : Bld w T' b V S :=
  ⟨by rw [hT b (by rw [h.tag]; omega)]; exact h.tag, hlt, h.terms.retag (by omega) (by omega) hT, h.nons.retag (by omega) (by omega) hT, h.cg, h.cl, h.cr, h.cs, h.fz, h.graded.retag (by omega) hT, h.levels.retag (by omega) hT, h.rules.retag (by omega) hT, h.rlen,
    fun i r v hr hv => (h.rights i r v hr hv).retag hT, h.ok⟩
end Go.Proofs.Ytmhebgebfjnfjaa
