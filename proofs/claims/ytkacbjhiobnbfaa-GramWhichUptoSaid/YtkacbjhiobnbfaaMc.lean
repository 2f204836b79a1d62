/-
  Texts of this claim: Gm7, Gm8, Gm9, Gm10, Gm11.
-/
import Derived.Test.YtkacbjhiobnbfaaMb
/-
  A builder's other calls: names of nonterminals, handles, the start, the sizes.
-/
namespace Go.Proofs.Ytkacbjhiobnbfaa
open Go.Px Go.Px.Scan Go.RowKit
set_option maxHeartbeats 1000000
set_option linter.unusedSimpArgs false
attribute [-go_sem] Builtin.append_

/-- What Non answers, and leaves. -/
noncomputable def nonA (S : BS) (s : ByteArray) : Int × Int × BS :=
  if nmB s = false then (0, 1, S)
  else if posH S.nons s ≠ 0 then (- posH S.nons s, 0, S)
  else if 64 ≤ S.terms.length + S.nons.length then (0, 11, S)
  else (- ((S.nons.length : Int) + 1), 0, { S with nons := S.nons ++ [s] })

theorem posH_le (l : List ByteArray) (s : ByteArray) : posH l s ≤ l.length := by unfold posH; split <;> omega

set_option maxRecDepth 100000 in
theorem non3_ok {R : Ending → World → Prop} {w w1 : World} {T : Nat → Nat} {b : Nat} {V : BV} {S : BS} (h : Bld w T b V S) {s : ByteArray} (hs : s.size ≤ maxLen) (htp : NameP s) (ht : nmB s = true) (hc1 : Chg (fun _ => False) w w1)
    (hR : ∀ v w', v = .tuple #[.int .i64 (nonA S s).1, .int .i64 (nonA S s).2.1] ∧ After w T b (nonA S s).2.2 w' → R (.returned v) w') : gram_Builder_Non.b3 R (.pointer (some ⟨b, 0, none⟩)) (.string s) w1 := by
  have hsy := h.ok.syms
  have hbw : b < w.heap.size := h.lt b (by rw [h.tag]; omega)
  unfold gram_Builder_Non.b3
  have h1 := h.keep hc1 (fun _ _ => id)
  simp [go_sem]
  refine CALL_of (find_ct h1.nons hs) ?_
  rintro _ _ ⟨rfl, rfl⟩
  simp [go_sem]
  have hpp := posH_pos S.nons s
  have hpl := posH_le S.nons s
  refine SPL_intro (fun h2 => ?_) (fun h2 => ?_) <;> simp at h2
  · have ha : nonA S s = (- posH S.nons s, 0, S) := by unfold nonA; rw [if_neg (by simp [ht]), if_pos (by omega)]
    rw [ha] at hR
    have hw : IntKind.i64.wrap (- posH S.nons s) = - posH S.nons s := IntWalk.i64_in _ (by omega)
    simp [go_sem, hw]
    exact hR _ _ ⟨rfl, After.same h hc1⟩
  · have hz : posH S.nons s = 0 := by omega
    have hno : s ∉ S.nons := posH_zero.1 hz
    simp [go_sem]
    have h1d := h1.keep (F := fun _ => False) (Chg.refl _ _).drew (fun _ _ => id)
    refine CALL_of (size_ct h1d.terms) ?_
    rintro _ _ ⟨rfl, rfl⟩
    refine CALL_of (size_ct h1d.nons) ?_
    rintro _ _ ⟨rfl, rfl⟩
    have wsum : IntKind.i64.wrap (((S.terms.map (·.1)).length : Int) + S.nons.length) = ((S.terms.map (·.1)).length : Int) + S.nons.length := IntWalk.i64_in _ (by rw [List.length_map]; omega)
    rw [List.length_map] at wsum ⊢
    simp [go_sem, wsum]
    refine SPL_intro (fun h3 => ?_) (fun h3 => ?_) <;> simp at h3
    · have ha : nonA S s = (0, 11, S) := by unfold nonA; rw [if_neg (by simp [ht]), if_neg (by simp [hz]), if_pos (by omega)]
      rw [ha] at hR
      exact hR _ _ ⟨rfl, After.same h hc1.drew⟩
    · have ha : nonA S s = (- ((S.nons.length : Int) + 1), 0, { S with nons := S.nons ++ [s] }) := by unfold nonA; rw [if_neg (by simp [ht]), if_neg (by simp [hz]), if_neg (by omega)]
      rw [ha] at hR
      simp [go_sem]
      have hsz16 : s.size ≤ 1000 := by have := htp.2.1; omega
      have hc2 : Chg (fun _ => False) w w1.drew := hc1.drew
      have hb1 : b < w1.drew.heap.size := by have := hc2.size; omega
      refine CALL_of (intern_ct h1d.nons hsz16 hno (by omega) h1d.lt (by omega) (by omega) (by omega) (by rw [h.tag]; omega) (by rw [h.tag]; omega)) ?_
      rintro _ w5 ⟨rfl, T5, v5, m5, hN⟩
      have hw : IntKind.i64.wrap (- ((S.nons.length : Int) + 1)) = - ((S.nons.length : Int) + 1) := IntWalk.i64_in _ (by omega)
      simp [go_sem, hw]
      have hF := hN.fr
      have neA : ∀ k, k ≠ 1 → k ≠ 4 → k ≠ 5 → ∀ i, T i = k → ¬ (i = b ∨ (T i = 4 ∨ T i = 5)) := fun k h1' h2' h3' i hi he => by
        rcases he with he | he
        · rw [he, h.tag] at hi; omega
        · omega
      refine hR _ _ ⟨?_, ⟨T5, { V with vn := v5, vk := m5 }, ⟨?_, hN.lt, ?_, hN.nm, ?_, ?_, ?_, ?_, ?_, ?_, ?_, ?_, h1d.rlen, ?_, ?_⟩, ?_⟩, ?_⟩
      · simp
      · rw [hN.old b hb1]; exact h.tag
      · exact h1d.terms.fr hF (by omega) (by omega) (neA 2 (by omega) (by omega) (by omega)) (neA 3 (by omega) (by omega) (by omega)) hN.old
      · exact (hF.cell 4 (by omega)).trans h1d.cg
      · exact (hF.cell 5 (by omega)).trans h1d.cl
      · exact (hF.cell 6 (by omega)).trans h1d.cr
      · exact (hF.cell 7 (by omega)).trans h1d.cs
      · exact fun j hj => (hF.frz j).trans (h1d.fz j hj)
      · exact h1d.graded.keep hF.chg (neA 6 (by omega) (by omega) (by omega)) hN.old
      · exact h1d.levels.keep hF.chg (neA 7 (by omega) (by omega) (by omega)) hN.old
      · exact h1d.rules.keep hF.chg (neA 8 (by omega) (by omega) (by omega)) hN.old
      · exact fun i r v hr hv => (h1d.rights i r v hr hv).keep hF.chg (neA 9 (by omega) (by omega) (by omega)) hN.old
      · refine ⟨?_, h.ok.tnam, ?_, h.ok.tnd, ?_, h.ok.lev, h.ok.grd, h.ok.prods⟩
        · simp; omega
        · intro t ht; simp at ht; rcases ht with ht | rfl
          · exact h.ok.nnam t ht
          · exact htp
        · refine List.nodup_append.2 ⟨h.ok.nnd, by simp, fun a' ha' b' hb' => ?_⟩
          simp at hb'; subst hb'
          intro e; subst e; exact hno ha'
      · exact fun i hi => hN.old i (by have := hc2.size; omega)
      · refine (hc2.mono fun _ _ h => h.elim).trans (hF.chg.mono fun i hi he => ?_)
        rcases he with he | he
        · rw [he, h.tag]; omega
        · omega

set_option maxRecDepth 100000 in
theorem Non_ct {w : World} {T : Nat → Nat} {b : Nat} {V : BV} {S : BS} (h : Bld w T b V S) {s : ByteArray} (hs : s.size ≤ maxLen) :
    Ct Try.prog gram_Builder_Non.id #[.pointer (some ⟨b, 0, none⟩), .string s] w fun v w' => v = .tuple #[.int .i64 (nonA S s).1, .int .i64 (nonA S s).2.1] ∧ After w T b (nonA S s).2.2 w' := by
  refine gram_Builder_Non.ct fun R hR => ?_
  cases ht : nmB s with
  | false =>
    have ha : nonA S s = (0, 1, S) := by unfold nonA; rw [if_pos ht]
    rw [ha] at hR
    unfold gram_Builder_Non.run gram_Builder_Non.b1 gram_Builder_Non.b4
    simp [go_sem]
    refine CALL_of (isName_ct hs w) ?_
    rintro _ w1 ⟨rfl, hc1⟩
    rw [ht]
    simp [go_sem]
    unfold gram_Builder_Non.b5
    simp [go_sem]
    exact hR _ _ ⟨rfl, After.same h hc1⟩
  | true =>
    unfold gram_Builder_Non.run gram_Builder_Non.b1 gram_Builder_Non.b4
    simp [go_sem]
    refine CALL_of (isName_ct hs w) ?_
    rintro _ w1 ⟨rfl, hc1⟩
    rw [ht]
    simp [go_sem]
    unfold gram_Builder_Non.b5
    simp [go_sem]
    exact non3_ok h hs (nmB_iff.1 ht) ht hc1 hR

/-- A terminal's handle; a nonterminal's. -/
def isT (S : BS) (h : Int) : Bool := decide (1 ≤ h ∧ h ≤ S.terms.length)
def isN (S : BS) (h : Int) : Bool := decide (h < 0 ∧ -(S.nons.length : Int) ≤ h)

theorem isTermHandle_ct {w : World} {T : Nat → Nat} {b : Nat} {V : BV} {S : BS} (h : Bld w T b V S) {x : Int} (hx : inI64 x) :
    Ct Try.prog gram_Builder_isTermHandle.id #[.pointer (some ⟨b, 0, none⟩), .int .i64 x] w fun v w' => v = .bool (isT S x) ∧ w = w' := by
  refine gram_Builder_isTermHandle.ct fun R hR => ?_
  have := h.ok.syms
  unfold gram_Builder_isTermHandle.run gram_Builder_isTermHandle.b1
  simp [go_sem]
  refine SPL_intro (fun h2 => ?_) (fun h2 => ?_) <;> simp at h2
  · simp [go_sem]
    refine CALL_of (size_ct h.terms) ?_
    rintro _ _ ⟨rfl, rfl⟩
    simp [go_sem]
    refine hR _ _ ⟨?_, rfl⟩
    unfold isT
    congr 1
    refine decide_eq_decide.2 ?_
    omega
  · refine hR _ _ ⟨?_, rfl⟩
    unfold isT
    congr 1
    refine (decide_eq_false ?_).symm
    omega

theorem isNonHandle_ct {w : World} {T : Nat → Nat} {b : Nat} {V : BV} {S : BS} (h : Bld w T b V S) {x : Int} (hx : inI64 x) :
    Ct Try.prog gram_Builder_isNonHandle.id #[.pointer (some ⟨b, 0, none⟩), .int .i64 x] w fun v w' => v = .bool (isN S x) ∧ w = w' := by
  refine gram_Builder_isNonHandle.ct fun R hR => ?_
  have := h.ok.syms
  unfold gram_Builder_isNonHandle.run gram_Builder_isNonHandle.b1
  simp [go_sem]
  refine SPL_intro (fun h2 => ?_) (fun h2 => ?_) <;> simp at h2
  · simp [go_sem]
    refine CALL_of (size_ct h.nons) ?_
    rintro _ _ ⟨rfl, rfl⟩
    have hw : IntKind.i64.wrap (- (S.nons.length : Int)) = - (S.nons.length : Int) := IntWalk.i64_in _ (by omega)
    simp [go_sem, hw]
    refine hR _ _ ⟨?_, rfl⟩
    unfold isN
    congr 1
    refine decide_eq_decide.2 ?_
    omega
  · refine hR _ _ ⟨?_, rfl⟩
    unfold isN
    congr 1
    refine (decide_eq_false ?_).symm
    omega

/-- A cell of the block is turned. -/
theorem Fr.one (b j : Nat) (F : Nat → Prop) (w : World) (u : Value) : Fr b (· = j) F w (w.setCell ⟨b, j, none⟩ u) := Fr.set (J := (· = j)) (j := j) rfl u

end Go.Proofs.Ytkacbjhiobnbfaa

/-
  Lists of numbers: does one of them fit, a copy.
-/
namespace Go.Proofs.Ytkacbjhiobnbfaa
open Go.Px Go.Px.Scan Go.RowKit
set_option maxHeartbeats 1000000
set_option linter.unusedSimpArgs false
set_option linter.unusedVariables false
attribute [-go_sem] Builtin.append_

theorem IndexFuncI_ct {w : World} {B : Nat} {v : Value} {l : List Int} (h : (rSlice rInt).at1 w B v l) {g : FuncId} {first cap : Array Value} {p : Int → Bool}
    (hp : ∀ x ∈ l, inI64 x → Ct Try.prog g (first.toList ++ [Value.int .i64 x] ++ cap.toList).toArray w fun v w' => v = .bool (p x) ∧ w = w') :
    Ct Try.prog slices_IndexFunc_int_int.id #[v, .func (.func g) first cap] w fun r w' => (∃ i, r = .int .i64 i ∧ (0 ≤ i ↔ l.any p = true) ∧ i ≤ l.length) ∧ w = w' := by
  refine slices_IndexFunc_int_int.ct fun R hR => ?_
  obtain ⟨A, c, rfl, hl, hm, _⟩ := slice_form h
  unfold slices_IndexFunc_int_int.run slices_IndexFunc_int_int.b1 slices_IndexFunc_int_int.b4
  simp [go_sem]
  refine slices_IndexFunc_int_int.l6_intro _ _ _ _ _ _ (fun x w1 => ∃ k : Nat, x = .int .i64 k ∧ k ≤ l.length ∧ (l.take k).any p = false ∧ w = w1) (fun x _ => l.length - iv x) ⟨0, rfl, by omega, by simp, rfl⟩ ?_
  rintro _ _ ⟨k, rfl, hk, hall, rfl⟩ C hC
  unfold slices_IndexFunc_int_int.b7
  simp [go_sem]
  refine SPL_intro (fun h2 => ?_) (fun h2 => ?_) <;> simp at h2
  · obtain ⟨b1, o1, rfl, hb1, hc1, hr1⟩ := Go.Px.ints_at h h2
    have wk := wrap_succ h2 (Nat.le_trans hl hm)
    simp [go_sem, h2, hc1]
    refine CALLY_of (hp l[k] (List.getElem_mem h2) hr1) ?_
    rintro _ _ ⟨rfl, rfl⟩
    refine SPL_intro (fun h3 => ?_) (fun h3 => ?_)
    · refine hR _ _ ⟨⟨k, rfl, ?_, by omega⟩, rfl⟩
      refine ⟨fun _ => List.any_eq_true.2 ⟨_, List.getElem_mem h2, h3⟩, fun _ => by omega⟩
    · simp [go_sem, wk]
      refine hC _ _ ⟨k + 1, by simp, by omega, ?_, rfl⟩ (by simp [iv]; omega)
      rw [List.take_succ_eq_append_getElem h2, List.any_append, hall]
      simp [h3]
  · have hka : k = l.length := by omega
    rw [hka, List.take_length] at hall
    unfold slices_IndexFunc_int_int.b3
    exact hR _ _ ⟨⟨-1, rfl, by rw [hall]; simp, by omega⟩, rfl⟩

theorem ContainsFuncI_ct {w : World} {B : Nat} {v : Value} {l : List Int} (h : (rSlice rInt).at1 w B v l) {g : FuncId} {first cap : Array Value} {p : Int → Bool}
    (hp : ∀ x ∈ l, inI64 x → Ct Try.prog g (first.toList ++ [Value.int .i64 x] ++ cap.toList).toArray w fun v w' => v = .bool (p x) ∧ w = w') :
    Ct Try.prog slices_ContainsFunc_int_int.id #[v, .func (.func g) first cap] w fun r w' => r = .bool (l.any p) ∧ w = w' := by
  refine slices_ContainsFunc_int_int.ct fun R hR => ?_
  unfold slices_ContainsFunc_int_int.run slices_ContainsFunc_int_int.b1
  refine CALL_of (IndexFuncI_ct h hp) ?_
  rintro _ _ ⟨⟨i, rfl, hi, _⟩, rfl⟩
  simp [go_sem]
  refine hR _ _ ⟨?_, rfl⟩
  congr 1
  cases ha : l.any p
  · rw [ha] at hi; simpa using hi
  · rw [ha] at hi; simpa using hi

theorem ints_flat (l : List Int) : l.flatMap (fun x => [Value.int .i64 x]) = l.map (.int .i64 ·) := by
  induction l with
  | nil => rfl
  | cons x r ih => simp [ih]

theorem info_int' : (Try.prog.info? 3).map (fun i => (i.zero, i.size, i.bytes)) = some (some (.int .i64 0), 1, 8) := by kernel_rfl

theorem slice_nil_eq (t : TypeId) {e : TypeId} (ht : Try.prog.underlying t = some (.slice e)) (A : Option Addr) (n c : Nat) (w : World) : (binOp BinOp.eql t (.slice A n c) (.slice none 0 0)).run Try.prog w = .ok (.bool A.isNone) w := by
  simp only [binOp, Op.equal]
  rw [show Op.maxDepth = 9999 + 1 from rfl]
  unfold Op.equalIn
  cases A <;> simp [run_underlying ht, go_sem]

set_option maxRecDepth 100000 in
theorem CloneI_ct {w : World} {B : Nat} {v : Value} {l : List Int} (h : (rSlice rInt).at1 w B v l) (hB : B ≤ w.heap.size) (hn : l.length * 8 ≤ maxBytes) :
    Ct Try.prog slices_Clone_int_int.id #[v] w fun v' w' => w'.ownsRow w.heap.size 3 1 v' l.length (l.map (.int .i64 ·)) ∧ Chg (fun _ => False) w w' := by
  refine slices_Clone_int_int.ct fun R hR => ?_
  obtain ⟨A, c, rfl, hl, hm, _⟩ := slice_form h
  unfold slices_Clone_int_int.run slices_Clone_int_int.b1
  simp [go_sem]
  rw [slice_nil_eq 24 Try.underlying24]
  cases A with
  | none =>
    have hz : l.length = 0 := by
      rcases Nat.eq_zero_or_pos l.length with h0 | h0
      · exact h0
      · obtain ⟨b, o, e, _⟩ := Go.Px.ints_at h h0
        cases e
    have hl0 : l = [] := List.eq_nil_of_length_eq_zero hz
    subst hl0
    simp [go_sem]
    exact hR _ _ ⟨⟨by simp, Or.inl ⟨rfl, rfl⟩⟩, Chg.refl _ _⟩
  | some a =>
    simp [go_sem]
    have hc1 : Chg (fun _ => False) w (w.alloc (.cells #[] 3)) := (Chg.refl _ _).alloc _
    have hx : (w.alloc (.cells #[] 3)).heap[w.heap.size]? = some (.cells #[] 3 (0, 0)) := heap_alloc_new w _
    have hs1 : (w.alloc (.cells #[] 3)).heap.size = w.heap.size + 1 := by simp
    obtain ⟨i0, hi, hz0, hz1, hz2⟩ := info_parts info_int'
    generalize w.alloc (.cells #[] 3) = w1 at hc1 hx hs1 ⊢
    have hown : w1.ownsRow w.heap.size 3 1 (.slice (some ⟨w.heap.size, 0, none⟩) 0 0) 0 [] := ⟨by simp, Or.inr ⟨_, 0, #[], rfl, Nat.le_refl _, hx, by omega, by simp [maxLen], by simp, by simp⟩⟩
    have hnews : ∀ j u, (l.map (Value.int .i64 ·))[j]? = some u → w1.cell? (a.add j) = some u := by
      intro j u hu
      have hj : j < l.length := by have := (List.getElem?_eq_some_iff.1 hu).1; simpa using this
      obtain ⟨b1, o1, e, hb1, hc, hr1⟩ := Go.Px.ints_at h hj
      injection e with e
      subst e
      have : u = .int .i64 l[j] := by have := (List.getElem?_eq_some_iff.1 hu).2; simpa using this.symm
      subst this
      rw [Addr.add_lit]
      exact (hc1.cell (p := ⟨b1, o1 + j, none⟩) (by show b1 < _; omega) id).trans hc
    obtain ⟨v', w', hrun, hown', hgr, _, hb⟩ := run_append_own_at (P := Try.prog) w1 w.heap.size 24 24 3 i0 _ 1 8 Try.underlying24 hi hz0 hz1 hz2 rfl (by omega) _ 0 [] hown a l.length c (l.map (.int .i64 ·)) (by simp) hnews (by
        intro u hu
        obtain ⟨x, _, rfl⟩ := List.mem_map.1 hu
        rfl) (by omega) (by unfold maxBytes at hn; omega) (by omega)
    rw [hrun, RES_ok]
    simp only [Nat.zero_add, List.nil_append] at hown'
    have hg : Chg (fun i => i = w.heap.size) w1 w' := grown_chg hgr fun k hk => by
      simp [Value.ownBlock] at hk
      exact hk.symm
    exact hR _ _ ⟨hown', hc1.trans' hg fun i hi e => by omega⟩
end Go.Proofs.Ytkacbjhiobnbfaa

namespace Go.Proofs.Ytkacbjhiobnbfaa
open Go.Px Go.Px.Scan Go.RowKit
/-! ### More marks -/
theorem Row.retag {w : World} {T T' : Nat → Nat} {tag e size : Nat} {v : Value} {n : Nat} {xs : List Value} (h : Row w T tag e size v n xs) (ht : tag ≠ 0) (hT : ∀ i, T i ≠ 0 → T' i = T i) : Row w T' tag e size v n xs :=
  ⟨h.1, fun i hi => by rw [hT i (by rw [h.2 i hi]; exact ht)]; exact h.2 i hi⟩
theorem Nm.retag {w : World} {T T' : Nat → Nat} {b o tx tm : Nat} {v m : Value} {l : List ByteArray} (h : Nm w T b o tx tm v m l) (hx : tx ≠ 0) (hm : tm ≠ 0) (hT : ∀ i, T i ≠ 0 → T' i = T i) : Nm w T' b o tx tm v m l :=
  ⟨h.c0, h.c1, h.f0, h.f1, h.row.retag hx hT, h.map, fun i hi => by rw [hT i (by rw [h.tag i hi]; exact hm)]; exact h.tag i hi⟩
theorem RightAt.retag {w : World} {T T' : Nat → Nat} {v : Value} {l : List Int} (h : RightAt w T v l) (hT : ∀ i, T i ≠ 0 → T' i = T i) : RightAt w T' v l :=
  ⟨h.rd, fun hl i hi => by have := h.tg hl i hi; rw [hT i (by omega)]; exact this⟩
theorem Bld.retag {w : World} {T T' : Nat → Nat} {b : Nat} {V : BV} {S : BS} (h : Bld w T b V S) (hT : ∀ i, T i ≠ 0 → T' i = T i) (hlt : ∀ i, T' i ≠ 0 → i < w.heap.size) : Bld w T' b V S :=
  ⟨by rw [hT b (by rw [h.tag]; omega)]; exact h.tag, hlt, h.terms.retag (by omega) (by omega) hT, h.nons.retag (by omega) (by omega) hT, h.cg, h.cl, h.cr, h.cs, h.fz, h.graded.retag (by omega) hT, h.levels.retag (by omega) hT, h.rules.retag (by omega) hT, h.rlen,
    fun i r v hr hv => (h.rights i r v hr hv).retag hT, h.ok⟩
end Go.Proofs.Ytkacbjhiobnbfaa

/-
  A builder's rules.
-/
namespace Go.Proofs.Ytkacbjhiobnbfaa
open Go.Px Go.Px.Scan Go.RowKit
set_option maxHeartbeats 1000000
set_option linter.unusedSimpArgs false
set_option linter.unusedVariables false
attribute [-go_sem] Builtin.append_

/-- A symbol that a rule can't have. -/
def badH (S : BS) (h : Int) : Bool := !isT S h && !isN S h
/-- A terminal's level. -/
def gradeOf (S : BS) (h : Int) : Int := ((S.terms[(h - 1).toNat]?).map (·.2)).getD 0
def ruleL (S : BS) (right : List Int) : Int := right.foldl (fun a h => if 0 < h then gradeOf S h else a) 0

/-- What Rule answers, and leaves. -/
def ruleA (S : BS) (left : Int) (right : List Int) : Int × Int × BS :=
  if isN S left = false ∨ right.any (badH S) = true then (0, 1, S)
  else if 96 ≤ S.rules.length then (0, 11, S)
  else (S.rules.length, 0, { S with rules := S.rules ++ [(left, right, ruleL S right)] })

theorem Rule1_ct {w : World} {T : Nat → Nat} {b p : Nat} {V : BV} {S : BS} (h : Bld w T b V S) (hp : w.cell? ⟨p, 0, none⟩ = some (.pointer (some ⟨b, 0, none⟩))) {x : Int} (hx : inI64 x) :
    Ct Try.prog gram_Builder_Rule_1.id #[.int .i64 x, .pointer (some ⟨p, 0, none⟩)] w fun v w' => v = .bool (badH S x) ∧ w = w' := by
  refine gram_Builder_Rule_1.ct fun R hR => ?_
  unfold gram_Builder_Rule_1.run gram_Builder_Rule_1.b1
  simp [go_sem, hp]
  refine CALL_of (isTermHandle_ct h hx) ?_
  rintro _ _ ⟨rfl, rfl⟩
  simp [go_sem]
  cases ht : isT S x with
  | true =>
    simp [go_sem]
    exact hR _ _ ⟨by unfold badH; rw [ht]; rfl, rfl⟩
  | false =>
    simp [go_sem, hp]
    refine CALL_of (isNonHandle_ct h hx) ?_
    rintro _ _ ⟨rfl, rfl⟩
    simp [go_sem]
    exact hR _ _ ⟨by unfold badH; rw [ht]; rfl, rfl⟩

theorem info_rule : (Try.prog.info? 178).map (fun i => (i.zero, i.size, i.bytes)) = some (some (.agg #[.int .i64 0, .slice none 0 0, .int .i64 0]), 3, 40) := by kernel_rfl

set_option maxRecDepth 100000 in
theorem rule5_ok {R : Ending → World → Prop} {w w0 : World} {T : Nat → Nat} {b p q : Nat} {V : BV} {S : BS} (h : Bld w T b V S) (hp : w.cell? ⟨p, 0, none⟩ = some (.pointer (some ⟨b, 0, none⟩))) (hTp : T p = 0)
    {left lev : Int} {right : List Int} {vr : Value} (hl : S.rules.length < 96) (hc0 : Chg (fun _ => False) w0 w) (hw0 : ∀ i, T i ≠ 0 → i < w0.heap.size)
    (k0 : w.cell? ⟨q, 0, none⟩ = some (.int .i64 left)) (k1 : w.cell? ⟨q, 1, none⟩ = some vr) (k2 : w.cell? ⟨q, 2, none⟩ = some (.int .i64 lev)) (hTq : T q = 0)
    (hr : w.ownsRow w0.heap.size 3 1 vr right.length (right.map (.int .i64 ·))) (hri : ∀ x ∈ right, inI64 x)
    (hR : ∀ w', After w0 T b { S with rules := S.rules ++ [(left, right, lev)] } w' → R (.returned (.tuple #[.int .i64 S.rules.length, .int .i64 0])) w') : gram_Builder_Rule.b5 R (.pointer (some ⟨p, 0, none⟩)) (.pointer (some ⟨q, 0, none⟩)) w := by
  have hcr := h.cr
  obtain ⟨a, c, hv⟩ := row_len h.rules
  rw [hv] at hcr
  obtain ⟨i0, hi, hz0, hz1, hz2⟩ := info_parts info_rule
  have hbw : b < w.heap.size := h.lt b (by rw [h.tag]; omega)
  have hpw : p < w.heap.size := World.block_lt_of_cell? _ _ hp
  have hpb : p ≠ b := fun e => by rw [e, h.tag] at hTp; omega
  have hc2 : Chg (fun _ => False) w (w.alloc (.cells #[.int .i64 left, vr, .int .i64 lev] 178)) := (Chg.refl _ _).alloc _
  have hcr1 := hc2.at hcr id
  have hp1 := hc2.at hp id
  unfold gram_Builder_Rule.b5
  simp [go_sem, hp, hcr, k0, k1, k2, hp1, hcr1]
  have hc2' : Chg (fun _ => False) w (w.alloc (.cells #[.int .i64 left, vr, .int .i64 lev] 178)).drew := hc2.drew
  have hn : ∀ j u, ([.int .i64 left, vr, .int .i64 lev] : List Value)[j]? = some u → (w.alloc (.cells #[.int .i64 left, vr, .int .i64 lev] 178)).drew.cell? ((⟨w.heap.size, 0, none⟩ : Addr).add j) = some u := by
    intro j u hj
    have := alloc_cells w [.int .i64 left, vr, .int .i64 lev] 178 rfl j u hj
    simpa using this
  have hs2 : (w.alloc (.cells #[.int .i64 left, vr, .int .i64 lev] 178)).drew.heap.size = w.heap.size + 1 := by simp
  generalize (w.alloc (.cells #[.int .i64 left, vr, .int .i64 lev] 178)).drew = w2 at hc2' hn hs2 ⊢
  have h2 := h.keep hc2' (fun _ _ => id)
  have hp2 := hc2'.at hp id
  have hr2 := ownsRow_keep hr hc2' (fun _ _ => id)
  have hrow := h2.rules.1
  rw [hv] at hrow
  have hv1 : vr.oneCell' = true := by
    obtain ⟨a', c', e⟩ := own_shape hr
    rw [e]; rfl
  refine append_own 172 172 178 Try.underlying172 hi hz0 hz1 hz2 rfl (by omega) hrow rfl hn ?_ (by unfold maxLen; omega) (by unfold maxBytes; omega) (Nat.zero_le _) ?_
  · intro u hu
    simp at hu
    rcases hu with rfl | rfl | rfl
    · rfl
    · exact hv1
    · rfl
  intro g c3 w3 ho3 hg3 hgb
  have hgt : (Value.slice a S.rules.length c).ownBlock = some g → T g = 8 := fun e => h2.rules.2 g (by rw [hv]; exact e)
  have hc3 : Chg (fun i => T i = 8) w2 w3 := grown_chg hg3 fun k hk => h2.rules.2 k (by rw [hv]; exact hk)
  have hs3 := hc3.size
  have htb : T b ≠ 8 := by rw [h.tag]; omega
  have htp : T p ≠ 8 := by rw [hTp]; omega
  have hgb' : g ≠ b := by
    rcases hgb with hgb | hgb
    · intro e; exact htb (by rw [← e]; exact hgt hgb)
    · omega
  have hb2 : b < w2.heap.size := by omega
  have k6 := hc3.at h2.cr htb
  have kf6 := (hc3.frozen (p := ⟨b, 6, none⟩) hb2 htb).trans (h2.fz 6 (by omega))
  have hp3 := hc3.at hp2 htp
  have hp4 : (w3.setCell ⟨b, 6, none⟩ (.slice (some ⟨g, 0, none⟩) (S.rules.length + 1) c3)).cell? ⟨p, 0, none⟩ = some (.pointer (some ⟨b, 0, none⟩)) := (World.cell?_setCell_other _ _ _ _ (by simp [hpb])).trans hp3
  have kc6 : (w3.setCell ⟨b, 6, none⟩ (.slice (some ⟨g, 0, none⟩) (S.rules.length + 1) c3)).cell? ⟨b, 6, none⟩ = some (.slice (some ⟨g, 0, none⟩) (S.rules.length + 1) c3) := World.cell?_setCell_same _ _ _ k6
  have hF6 : Fr b (fun j => j = 6) (fun i => T i = 8) w2 (w3.setCell ⟨b, 6, none⟩ (.slice (some ⟨g, 0, none⟩) (S.rules.length + 1) c3)) :=
    (Fr.of hc3 hb2 htb (fun i _ h => h)).trans (Fr.one _ _ _ _ _)
  have hc4 : Chg (· = b) w3 (w3.setCell ⟨b, 6, none⟩ (.slice (some ⟨g, 0, none⟩) (S.rules.length + 1) c3)) := (Chg.refl (· = b) w3).setCell (p := ⟨b, 6, none⟩) (Or.inl rfl) _
  have ho4 := ownsRow_keep ho3 hc4 (fun i hi he => by injection hi with hi; exact hgb' (hi.trans he))
  have wsub : IntKind.i64.wrap (S.rules.length : Int) = S.rules.length := IntWalk.i64_in _ (by omega)
  simp [go_sem, k6, kf6, hp3, hp4, kc6, wsub]
  have hs4 : (w3.setCell ⟨b, 6, none⟩ (.slice (some ⟨g, 0, none⟩) (S.rules.length + 1) c3)).heap.size = w3.heap.size := by simp
  have hg4 := (ownsRow_block ho4 (k := g) rfl).2
  have hb4 : (w3.setCell ⟨b, 6, none⟩ (.slice (some ⟨g, 0, none⟩) (S.rules.length + 1) c3)).frozen? = w3.frozen? := by funext x; exact World.frozen?_setCell _ _ _ _
  generalize w3.setCell ⟨b, 6, none⟩ (.slice (some ⟨g, 0, none⟩) (S.rules.length + 1) c3) = w4 at hF6 kc6 hs4 ho4 hg4 ⊢
  have hw0w := hc0.size
  have hvr : ∀ i, vr.ownBlock = some i → w0.heap.size ≤ i ∧ i < w.heap.size := fun i e => ownsRow_block hr e
  have hT0 : ∀ i, T i ≠ 0 → (if vr.ownBlock = some i then 9 else T i) = T i := fun i hi => by
    have := hw0 i hi
    have hnv : vr.ownBlock ≠ some i := fun e => by have := (hvr i e).1; omega
    rw [if_neg hnv]
  have h2' : Bld w2 (fun i => if vr.ownBlock = some i then 9 else T i) b V S := h2.retag hT0 fun i hi => by
    by_cases e : vr.ownBlock = some i
    · have := (hvr i e).2; omega
    · rw [if_neg e] at hi; exact h2.lt i hi
  generalize hTa : (fun i => if vr.ownBlock = some i then 9 else T i) = Ta at h2'
  have hTai : ∀ i, Ta i = if vr.ownBlock = some i then 9 else T i := fun i => by rw [← hTa]
  have hT8 : ∀ i, Ta i = 8 ↔ T i = 8 := fun i => by
    rw [hTai]
    by_cases e : vr.ownBlock = some i
    · rw [if_pos e]
      have : T i = 0 := Classical.byContradiction fun h0 => by have := hw0 i h0; have := (hvr i e).1; omega
      omega
    · rw [if_neg e]
  have hF6' : Fr b (fun j => j = 6) (fun i => Ta i = 8) w2 w4 := hF6.mono (fun _ h => h) fun i h => (hT8 i).2 h
  have hg8 : g < w2.heap.size → Ta g = 8 := fun hg => by
    rcases hgb with hgb | hgb
    · exact (hT8 g).2 (hgt hgb)
    · omega
  have hT1 : ∀ i, i < w2.heap.size → (fun i => if i = g then 8 else Ta i) i = Ta i := by
    intro i hi
    by_cases e : i = g
    · subst e; simp [hg8 hi]
    · simp [e]
  generalize hT1d : (fun i => if i = g then 8 else Ta i) = T1 at hT1
  have hT1g : ∀ i, T1 i = if i = g then 8 else Ta i := fun i => by rw [← hT1d]
  have hab : Ta b = 1 := h2'.tag
  have ne : ∀ k, k ≠ 1 → k ≠ 8 → ∀ i, Ta i = k → ¬ (i = b ∨ Ta i = 8) := fun k h1' h6 i hi he => by
    rcases he with he | he
    · rw [he, hab] at hi; omega
    · omega
  have hvg : vr.ownBlock ≠ some g := fun e => by
    have h9 : Ta g = 9 := by rw [hTai, if_pos e]
    rcases hgb with hgb | hgb
    · have := (hT8 g).2 (hgt hgb); omega
    · have := (hvr g e).2; omega
  refine hR _ ⟨⟨T1, { V with vr := .slice (some ⟨g, 0, none⟩) (S.rules.length + 1) c3, rs := V.rs ++ [vr] }, ⟨?_, ?_, ?_, ?_, ?_, ?_, kc6, ?_, ?_, ?_, ?_, ?_, ?_, ?_, ?_⟩, ?_⟩, ?_⟩
  · rw [hT1 b hb2]; exact hab
  · intro i hi
    by_cases e : i = g
    · rw [e]; exact hg4
    · rw [hT1g, if_neg e] at hi
      have := h2'.lt i hi
      omega
  · exact h2'.terms.fr hF6' (by omega) (by omega) (ne 2 (by omega) (by omega)) (ne 3 (by omega) (by omega)) hT1
  · exact h2'.nons.fr hF6' (by omega) (by omega) (ne 4 (by omega) (by omega)) (ne 5 (by omega) (by omega)) hT1
  · exact (hF6'.cell 4 (by omega)).trans h2'.cg
  · exact (hF6'.cell 5 (by omega)).trans h2'.cl
  · exact (hF6'.cell 7 (by omega)).trans h2'.cs
  · exact fun j hj => (hF6'.frz j).trans (h2'.fz j hj)
  · exact h2'.graded.keep hF6'.chg (ne 6 (by omega) (by omega)) hT1
  · exact h2'.levels.keep hF6'.chg (ne 7 (by omega) (by omega)) hT1
  · refine ⟨?_, fun i hi => by injection hi with hi; rw [hT1g, if_pos hi.symm]⟩
    rw [List.length_append]
    have e : ((S.rules ++ [(left, right, lev)]).zip (V.rs ++ [vr])).flatMap (fun x => ruleC x.1 x.2) = ((S.rules.zip V.rs).flatMap fun x => ruleC x.1 x.2) ++ [.int .i64 left, vr, .int .i64 lev] := by
      rw [List.zip_append h.rlen.symm, List.flatMap_append]
      simp [ruleC]
    rw [e]
    exact ho4
  · simp [h.rlen]
  · intro i r v hr' hv'
    by_cases hi : i < S.rules.length
    · rw [List.getElem?_append_left hi] at hr'
      rw [List.getElem?_append_left (by rw [h.rlen]; exact hi)] at hv'
      exact (h2'.rights i r v hr' hv').keep hF6'.chg (ne 9 (by omega) (by omega)) hT1
    · have hi' : i = S.rules.length := by
        have := (List.getElem?_eq_some_iff.1 hr').1
        simp at this
        omega
      subst hi'
      simp at hr'
      rw [← h.rlen] at hv'
      simp at hv'
      subst hr'
      subst hv'
      have hro : w2.ownsRow w0.heap.size 3 rInt.size vr right.length (right.flatMap fun x => [Value.int .i64 x]) := by rw [ints_flat]; exact hr2
      refine RightAt.keep (T := Ta) ⟨slice_of_own hro (fun _ _ => rfl) ?_ (Nat.le_refl _), fun _ i hi => by rw [hTai, if_pos hi]⟩ hF6'.chg (ne 9 (by omega) (by omega)) hT1
      intro x hx
      exact ⟨rfl, hri x hx⟩
  · refine ⟨h.ok.syms, h.ok.tnam, h.ok.nnam, h.ok.tnd, h.ok.nnd, h.ok.lev, h.ok.grd, ?_⟩
    simp; omega
  · intro i hi
    rw [hT1 i (by omega), hTai]
    refine if_neg fun e => ?_
    have := (hvr i e).1; omega
  · refine (((hc0.trans hc2').mono fun _ _ h => h.elim).trans' hF6.chg fun i hi he => ?_)
    rcases he with he | he
    · rw [he, h.tag]; omega
    · omega
end Go.Proofs.Ytkacbjhiobnbfaa

/-
  Rule.
-/
namespace Go.Proofs.Ytkacbjhiobnbfaa
open Go.Px Go.Px.Scan Go.RowKit
set_option maxHeartbeats 1000000
set_option linter.unusedSimpArgs false
set_option linter.unusedVariables false
attribute [-go_sem] Builtin.append_

/-- What is owned, at a place. -/
theorem own_at {w : World} {base e size : Nat} {v : Value} {n : Nat} {xs : List Value} (h : w.ownsRow base e size v n xs) {j : Nat} (hj : j < xs.length) :
    ∃ g cap, v = .slice (some ⟨g, 0, none⟩) n cap ∧ w.cell? ⟨g, j, none⟩ = some xs[j] ∧ w.frozen? ⟨g, j, none⟩ = false ∧ base ≤ g := by
  rcases h.2 with ⟨h1, h2⟩ | ⟨g, cap, cur, hv, hb, hg, hn, hm, hs, ht⟩
  · have := h.1; rw [h2] at this; omega
  · refine ⟨g, cap, hv, ?_, ?_, hb⟩
    · have h3 : cur.toList[j]? = some xs[j] := by
        have h4 : (cur.toList.take (n * size))[j]? = some xs[j] := by rw [ht]; exact List.getElem?_eq_getElem hj
        rw [List.getElem?_take] at h4
        split at h4
        · exact h4
        · cases h4
      simp [World.cell?, hg, ← h3]
    · simp [World.frozen?, hg]

theorem ruleL_snoc (S : BS) (l : List Int) (h : Int) : ruleL S (l ++ [h]) = if 0 < h then gradeOf S h else ruleL S l := by
  unfold ruleL; rw [List.foldl_append]; rfl
theorem gradeOf_in {S : BS} (ok : BSok S) (h : Int) : 0 ≤ gradeOf S h ∧ gradeOf S h ≤ S.levels.length := by
  unfold gradeOf
  cases e : S.terms[(h - 1).toNat]? with
  | none => simp
  | some t => exact ok.grd t (List.mem_of_getElem? e)
theorem ruleL_in {S : BS} (ok : BSok S) (l : List Int) : 0 ≤ ruleL S l ∧ ruleL S l ≤ S.levels.length := by
  suffices ∀ (l : List Int) (a : Int), 0 ≤ a ∧ a ≤ S.levels.length → 0 ≤ l.foldl (fun a h => if 0 < h then gradeOf S h else a) a ∧ l.foldl (fun a h => if 0 < h then gradeOf S h else a) a ≤ S.levels.length from this l 0 (by omega)
  intro l
  induction l with
  | nil => exact fun a ha => ha
  | cons x r ih =>
    intro a ha
    refine ih _ ?_
    show 0 ≤ (if 0 < x then gradeOf S x else a) ∧ (if 0 < x then gradeOf S x else a) ≤ S.levels.length
    by_cases hx : 0 < x
    · rw [if_pos hx]; exact gradeOf_in ok x
    · rw [if_neg hx]; exact ha

/-- A terminal's level, in memory. -/
theorem grade_at {w : World} {T : Nat → Nat} {b : Nat} {V : BV} {S : BS} (h : Bld w T b V S) {x : Int} (hx : isT S x = true) :
    ∃ g cap k, V.vg = .slice (some ⟨g, 0, none⟩) S.terms.length cap ∧ k < S.terms.length ∧ x = (k : Int) + 1 ∧ w.cell? ⟨g, k, none⟩ = some (.int .i64 (gradeOf S x)) ∧ w.frozen? ⟨g, k, none⟩ = false ∧ T g = 6 := by
  have hx' : 1 ≤ x ∧ x ≤ S.terms.length := by simpa [isT] using hx
  have hk : (x - 1).toNat < S.terms.length := by omega
  obtain ⟨g, cap, hv, hc, hf, _⟩ := own_at h.graded.1 (j := (x - 1).toNat) (by simpa using hk)
  refine ⟨g, cap, (x - 1).toNat, hv, hk, by omega, ?_, hf, h.graded.2 g (by rw [hv]; rfl)⟩
  rw [hc]
  unfold gradeOf
  rw [List.getElem?_eq_getElem hk]
  simp

set_option maxRecDepth 100000 in
theorem rule8_ok {R : Ending → World → Prop} {w w0 : World} {T : Nat → Nat} {b p q B : Nat} {V : BV} {S : BS} (h : Bld w T b V S) (hp : w.cell? ⟨p, 0, none⟩ = some (.pointer (some ⟨b, 0, none⟩))) (hTp : T p = 0) (hpq : p ≠ q)
    {left : Int} {right : List Int} {u vr : Value} (hu : (rSlice rInt).at1 w B u right) (hB : B ≤ w0.heap.size) (hsy : ∀ x ∈ right, badH S x = false) (hl : S.rules.length < 96) (hc0 : Chg (fun _ => False) w0 w) (hw0 : ∀ i, T i ≠ 0 → i < w0.heap.size)
    (hq0 : w0.heap.size ≤ q) (k0 : w.cell? ⟨q, 0, none⟩ = some (.int .i64 left)) (k1 : w.cell? ⟨q, 1, none⟩ = some vr) (k2 : w.cell? ⟨q, 2, none⟩ = some (.int .i64 0)) (kf : w.frozen? ⟨q, 2, none⟩ = false) (hTq : T q = 0)
    (hr : w.ownsRow w0.heap.size 3 1 vr right.length (right.map (.int .i64 ·))) (hrq : vr.ownBlock ≠ some q)
    (hR : ∀ w', After w0 T b { S with rules := S.rules ++ [(left, right, ruleL S right)] } w' → R (.returned (.tuple #[.int .i64 S.rules.length, .int .i64 0])) w') :
    gram_Builder_Rule.b6 R u (.pointer (some ⟨p, 0, none⟩)) (.pointer (some ⟨q, 0, none⟩)) w := by
  obtain ⟨A, c, rfl, hlc, hm, _⟩ := slice_form hu
  unfold gram_Builder_Rule.b6
  simp [go_sem]
  refine gram_Builder_Rule.l8_intro _ _ _ _ _ _ _ (fun x w1 => ∃ k : Nat, x = .int .i64 k ∧ k ≤ right.length ∧ Fr q (· = 2) (fun _ => False) w w1 ∧ w1.cell? ⟨q, 2, none⟩ = some (.int .i64 (ruleL S (right.take k)))) (fun x _ => right.length - iv x) ⟨0, rfl, by omega, Fr.refl _, by simpa [ruleL] using k2⟩ ?_
  rintro _ w1 ⟨k, rfl, hk, hF, k2'⟩ C hC
  have hqc : ∀ i, T i ≠ 0 → ¬ (i = q ∨ False) := fun i hi he => by
    rcases he with he | he
    · rw [he] at hi; exact hi hTq
    · exact he
  have h1 := h.keep hF.chg hqc
  have hp1 := hF.chg.at hp (fun he => by rcases he with he | he; exact hpq he; exact he)
  have hu1 : (rSlice rInt).at1 w1 B _ right := Rep.below hu (hF.chg.below (by have := hc0.size; omega) fun i hi he => by rcases he with he | he; omega; exact he)
  have hq2 : w1.frozen? ⟨q, 2, none⟩ = false := (hF.frz 2).trans kf
  unfold gram_Builder_Rule.b9
  simp [go_sem]
  refine SPL_intro (fun h2 => ?_) (fun h2 => ?_) <;> simp at h2
  · obtain ⟨b1, o1, rfl, hb1, hc1, hr1⟩ := Go.Px.ints_at hu1 h2
    have wk := wrap_succ h2 (Nat.le_trans hlc hm)
    have htk : ruleL S (right.take (k + 1)) = if 0 < right[k] then gradeOf S right[k] else ruleL S (right.take k) := by
      rw [List.take_succ_eq_append_getElem h2, ruleL_snoc]
    simp [go_sem, h2, hc1]
    refine SPL_intro (fun h3 => ?_) (fun h3 => ?_) <;> simp at h3
    · rw [if_pos h3] at htk
      have hT : isT S right[k] = true := by
        have h4 := hsy _ (List.getElem_mem h2)
        unfold badH at h4
        cases hT : isT S right[k] with
        | true => rfl
        | false =>
          have hN : isN S right[k] = false := by unfold isN; simp; intro; omega
          rw [hT, hN] at h4
          cases h4
      obtain ⟨g, cap, j, hvg, hj, hx, hcg, hfg, htg⟩ := grade_at h1 hT
      have hcv := h1.cg
      rw [hvg] at hcv
      have wx : IntKind.i64.wrap (right[k] - 1) = (j : Int) := by
        rw [show right[k] - 1 = (j : Int) by omega]
        exact IntWalk.i64_in _ (by have := h.ok.syms; omega)
      simp [go_sem, hp1, hcv, wx, hj, hcg, k2', hq2]
      unfold gram_Builder_Rule.b10
      simp [go_sem, wk]
      refine hC _ _ ⟨k + 1, by simp, by omega, hF.trans (Fr.one _ _ _ _ _), ?_⟩ (by simp [iv]; omega)
      rw [htk]
      exact World.cell?_setCell_same _ _ _ k2'
    · rw [if_neg (by omega)] at htk
      unfold gram_Builder_Rule.b10
      simp [go_sem, wk]
      refine hC _ _ ⟨k + 1, by simp, by omega, hF, ?_⟩ (by simp [iv]; omega)
      rw [htk]; exact k2'
  · have hka : k = right.length := by omega
    rw [hka, List.take_length] at k2'
    have hcq : Chg (fun _ => False) w0 w1 := hc0.trans' hF.chg fun i hi he => by rcases he with he | he; omega; exact he
    exact rule5_ok h1 hp1 hTp hl hcq hw0 ((hF.cell 0 (by omega)).trans k0) ((hF.cell 1 (by omega)).trans k1) k2' hTq (ownsRow_keep hr hF.chg (fun i hi he => by
      rcases he with he | he
      · rw [he] at hi; exact hrq hi
      · exact he)) (fun x hx => by
        obtain ⟨i, hi, rfl⟩ := List.getElem_of_mem hx
        obtain ⟨_, _, _, _, _, hr1⟩ := Go.Px.ints_at hu1 hi
        exact hr1) hR
end Go.Proofs.Ytkacbjhiobnbfaa

/-
  Rule, whole; Grade.
-/
namespace Go.Proofs.Ytkacbjhiobnbfaa
open Go.Px Go.Px.Scan Go.RowKit
set_option maxHeartbeats 1000000
set_option linter.unusedSimpArgs false
set_option linter.unusedVariables false
attribute [-go_sem] Builtin.append_

theorem any_false {l : List Int} {p : Int → Bool} (h : l.any p = false) : ∀ x ∈ l, p x = false := by
  intro x hx
  cases e : p x with
  | false => rfl
  | true => rw [List.any_eq_true.2 ⟨x, hx, e⟩] at h; cases h

set_option maxRecDepth 100000 in
theorem Rule_ct {w : World} {T : Nat → Nat} {b B : Nat} {V : BV} {S : BS} (h : Bld w T b V S) {left : Int} (hx : inI64 left) {u : Value} {right : List Int} (hu : (rSlice rInt).at1 w B u right) (hB : B ≤ w.heap.size) (hn : right.length * 8 ≤ maxBytes) :
    Ct Try.prog gram_Builder_Rule.id #[.pointer (some ⟨b, 0, none⟩), .int .i64 left, u] w fun v w' => v = .tuple #[.int .i64 (ruleA S left right).1, .int .i64 (ruleA S left right).2.1] ∧ After w T b (ruleA S left right).2.2 w' := by
  refine gram_Builder_Rule.ct fun R hR => ?_
  unfold gram_Builder_Rule.run gram_Builder_Rule.b1
  simp [go_sem]
  have hc : Chg (fun _ => False) w (w.alloc (.cells #[.pointer (some ⟨b, 0, none⟩)] 141)) := (Chg.refl _ _).alloc _
  have hp := new_cell w #[.pointer (some ⟨b, 0, none⟩)] 141 rfl 0
  have hs : (w.alloc (.cells #[.pointer (some ⟨b, 0, none⟩)] 141)).heap.size = w.heap.size + 1 := by simp
  generalize w.alloc (.cells #[.pointer (some ⟨b, 0, none⟩)] 141) = w1 at hc hp hs ⊢
  have h1 := h.keep hc (fun _ _ => id)
  simp at hp
  have hTp : T w.heap.size = 0 := Classical.byContradiction fun h0 => by have := h.lt _ h0; omega
  have hu1 : (rSlice rInt).at1 w1 B u right := Rep.below hu (hc.below hB fun _ _ => id)
  unfold gram_Builder_Rule.b11
  simp [go_sem, hp]
  refine CALL_of (isNonHandle_ct h1 hx) ?_
  rintro _ _ ⟨rfl, rfl⟩
  cases hN : isN S left with
  | false =>
    have ha : ruleA S left right = (0, 1, S) := by unfold ruleA; rw [if_pos (Or.inl hN)]
    rw [ha] at hR
    simp [go_sem]
    unfold gram_Builder_Rule.b12
    simp [go_sem]
    exact hR _ _ ⟨rfl, After.same h hc⟩
  | true =>
    simp [go_sem]
    refine CALL_of (ContainsFuncI_ct (p := badH S) hu1 fun x _ hx => Rule1_ct h1 hp hx) ?_
    rintro _ _ ⟨rfl, rfl⟩
    unfold gram_Builder_Rule.b12
    cases hany : right.any (badH S) with
    | true =>
      have ha : ruleA S left right = (0, 1, S) := by unfold ruleA; rw [if_pos (Or.inr hany)]
      rw [ha] at hR
      simp [go_sem]
      exact hR _ _ ⟨rfl, After.same h hc⟩
    | false =>
      simp [go_sem]
      unfold gram_Builder_Rule.b3
      obtain ⟨a, c, hv⟩ := row_len h1.rules
      have hcr := h1.cr
      rw [hv] at hcr
      simp [go_sem, hp, hcr]
      refine SPL_intro (fun h2 => ?_) (fun h2 => ?_) <;> simp at h2
      · have ha : ruleA S left right = (0, 11, S) := by unfold ruleA; rw [if_neg (by simp [hN, hany]), if_pos (by omega)]
        rw [ha] at hR
        exact hR _ _ ⟨rfl, After.same h hc⟩
      · have ha : ruleA S left right = ((S.rules.length : Int), 0, { S with rules := S.rules ++ [(left, right, ruleL S right)] }) := by unfold ruleA; rw [if_neg (by simp [hN, hany]), if_neg (by omega)]
        rw [ha] at hR
        refine CALL_of (CloneI_ct hu1 (by omega) hn) ?_
        rintro vr w2 ⟨hown, hc2⟩
        simp [go_sem]
        have hs2 := hc2.size
        have h2' := h1.keep hc2 (fun _ _ => id)
        have hp2 := hc2.at hp id
        have hu2 : (rSlice rInt).at1 w2 B u right := Rep.below hu1 (hc2.below (by omega) fun _ _ => id)
        obtain ⟨a', c', hvr⟩ := own_shape hown
        simp [hvr, go_sem]
        rw [← hvr]
        have hc3 : Chg (fun _ => False) w2 (w2.alloc (.cells #[.int .i64 left, vr, .int .i64 0] 178)) := (Chg.refl _ _).alloc _
        have hq := new_cell w2 #[.int .i64 left, vr, .int .i64 0] 178 rfl
        have hqf := new_frozen w2 #[.int .i64 left, vr, .int .i64 0] 178 rfl 2
        have hTq : T w2.heap.size = 0 := Classical.byContradiction fun h0 => by have := h.lt _ h0; omega
        have hs3 := hc3.size
        have hqw : vr.ownBlock ≠ some w2.heap.size := fun e => by have := (ownsRow_block hown e).2; omega
        have hu3 : (rSlice rInt).at1 (w2.alloc (.cells #[.int .i64 left, vr, .int .i64 0] 178)) B u right := Rep.below hu2 (hc3.below (by omega) fun _ _ => id)
        refine rule8_ok (w0 := w) (B := B) (h2'.keep hc3 (fun _ _ => id)) (hc3.at hp2 id) hTp (by omega) hu3 hB (any_false hany) (by omega) ((hc.trans hc2).trans hc3) h.lt (by omega) (hq 0) (hq 1) (hq 2) hqf hTq
          (ownsRow_base (ownsRow_keep hown hc3 fun _ _ => id) (by omega)) hqw fun w' hA => hR _ _ ⟨rfl, hA⟩
end Go.Proofs.Ytkacbjhiobnbfaa

