/-
  Texts of this claim: Tr0, TrC, Gm8, Lt1, Tr1, Tr2, Tr3, Tr4, Tr5, Rt1, Ee1.
-/
import Derived.Test.YtkacbjhiobnbfaaY13
import Derived.Test.YtkacbjhiobnbfaaY03
import Derived.Test.YtkacbjhiobnbfaaY05
import Derived.Laws.CopyRow
import Derived.Laws.IdiomCopy
import Derived.Laws.MakeOwn
import Derived.Test.YtkacbjhiobnbfaaY08
import Derived.Test.YtkacbjhiobnbfaaY07
import Derived.Test.YtkacbjhiobnbfaaY14
import Derived.Test.YtkacbjhiobnbfaaY09
import Derived.Test.YtkacbjhiobnbfaaY10
/-
  Flags and numbers in rows; a walk's own pieces.
-/
namespace Go.Px.Scan
open Go.Px
def metV (N : Nat) (met : List Nat) : List Value := (List.range N).map fun i => .bool (decide (i ∈ met))
theorem metV_len (N : Nat) (met : List Nat) : (metV N met).length = N := by simp [metV]
theorem metV_get {N : Nat} {met : List Nat} {i : Nat} (h : i < N) : (metV N met)[i]? = some (.bool (decide (i ∈ met))) := by
  simp [metV, h]
theorem metV_congr {N : Nat} {met met' : List Nat} (h : ∀ i, i ∈ met ↔ i ∈ met') : metV N met = metV N met' := by
  unfold metV
  apply List.map_congr_left
  intro i _
  simp [h i]
theorem metV_set {N : Nat} {met : List Nat} {k : Nat} : (metV N met).set k (.bool true) = metV N (k :: met) := by
  apply List.ext_getElem
  · simp [metV]
  · intro i h1 h2
    simp only [metV, List.getElem_set, List.getElem_map, List.getElem_range]
    by_cases e : k = i
    · subst e; simp
    · rw [if_neg e]; congr 1; simp [Ne.symm e]
theorem metV_nil (N : Nat) : metV N [] = List.replicate N (.bool false) := by
  apply List.ext_getElem
  · simp [metV]
  · intro i h1 h2; simp [metV]
def natV (l : List Nat) : List Value := l.map fun k : Nat => .int .i64 (k : Int)
theorem natV_len (l : List Nat) : (natV l).length = l.length := by simp [natV]
theorem natV_append (a b : List Nat) : natV (a ++ b) = natV a ++ natV b := by simp [natV]
theorem natV_get {l : List Nat} {i : Nat} (h : i < l.length) : (natV l)[i]'(by rw [natV_len]; exact h) = .int .i64 (l[i] : Int) := by simp [natV]
theorem fresh_congr {a b ks : List Nat} (h : ∀ i, i ∈ a ↔ i ∈ b) : freshN a ks ↔ freshN b ks := by
  unfold freshN
  constructor <;> (rintro ⟨h1, h2⟩; exact ⟨h1, fun k hk e => h2 k hk (by simpa [h k] using e)⟩)
theorem fresh_take {met ks : List Nat} {i : Nat} (h : freshN met (ks.take i)) (hi : i < ks.length) (hn : ks[i] ∉ ks.take i ++ met) : freshN met (ks.take (i + 1)) := by
  rw [List.take_succ_eq_append_getElem hi]
  refine ⟨?_, fun k hk => ?_⟩
  · rw [List.nodup_append]
    refine ⟨h.1, by simp, fun a ha b hb => ?_⟩
    rw [List.mem_singleton] at hb; subst hb
    rintro rfl; exact hn (List.mem_append_left _ ha)
  · rcases List.mem_append.1 hk with hk | hk
    · exact h.2 k hk
    · rw [List.mem_singleton] at hk; subst hk; exact fun e => hn (List.mem_append_right _ e)
theorem fresh_not {met ks : List Nat} {i : Nat} (hi : i < ks.length) (hn : ks[i] ∈ ks.take i ++ met) : ¬ freshN met ks := by
  rintro ⟨h1, h2⟩
  rcases List.mem_append.1 hn with hn | hn
  · obtain ⟨j, hj, e⟩ := List.getElem_of_mem hn
    rw [List.getElem_take] at e
    have hjl : j < i := by have := hj; rw [List.length_take] at this; omega
    have hp := List.pairwise_iff_getElem.1 h1 j i (by omega) hi hjl
    exact absurd e hp
  · exact h2 _ (List.getElem_mem hi) hn
theorem fresh_rev {met ks : List Nat} : freshN met ks.reverse ↔ freshN met ks := by
  unfold freshN; simp [List.Nodup, List.pairwise_reverse, ne_comm]

/-- A walk's own. -/
def WK (b : Nat) (nv : Value) (m N : Nat) (met : List Nat) (a : Option Addr) (cw : Nat) (ws : List Nat) : List Ch :=
  [boxC b 160 [nv, .slice (some ⟨m, 0, none⟩) N N, .slice a ws.length cw], rowC 4 1 (some ⟨m, 0, none⟩) N N (metV N met), rowC 3 1 a ws.length cw (natV ws.reverse)]
end Go.Px.Scan

/-
  A piece of several, opened.
-/
namespace Go.Px
open Go.RowKit
section
variable {G : Nat → Prop} {W w : World} {L : List Ch}
theorem St.inEx {α : Type} {f : α → List Ch} (h : St G W w L) {k : Nat} (hk : L[k]? = some (Ch.ex fun x => Ch.all (f x))) :
    ∃ F x, St F w w (f x) ∧ (∀ w' M, St F w w' M → Chg G W w') ∧ ∀ (w' : World) (g : α → List Ch) (x' : α), St F w w' (g x') → St G W w' (L.set k (Ch.ex fun x => Ch.all (g x))) := by
  obtain ⟨F, ⟨x, ho⟩, hF, hs⟩ := h.opn hk
  refine ⟨F, x, St.enter ho, fun w' M hM => h.chg.trans' hM.chg fun i hi e => (hF i e).2 hi, fun w' g x' hM => ?_⟩
  exact hs w' _ hM.chg ⟨x', hM.leave⟩
theorem St.pack {α : Type} {f : α → List Ch} (x : α) (h : St G W w (f x)) : St G W w [Ch.ex fun x => Ch.all (f x)] := by
  obtain ⟨hc, T, ht, hk⟩ := h
  refine ⟨hc, fun i => if T i = 0 then 0 else 1, fun i hi => ht i fun e => hi (by dsimp only; rw [if_pos e]), fun k d hd => ?_⟩
  match k, hd with
  | 0, hd =>
    injection hd with hd; subst hd
    exact ⟨x, T, fun i hi => ⟨by dsimp only; rw [if_neg hi], (ht i hi).2⟩, hk⟩
  | k + 1, hd => simp at hd
theorem St.unpack {α : Type} {f : α → List Ch} (h : St G W w [Ch.ex fun x => Ch.all (f x)]) : ∃ x, St G W w (f x) := by
  obtain ⟨hc, T, ht, hk⟩ := h
  obtain ⟨x, T', ht', hk'⟩ := hk 0 _ rfl
  exact ⟨x, hc, T', fun i hi => by have := (ht' i hi).1; exact ⟨(ht i (by omega)).1, (ht' i hi).2⟩, hk'⟩
end
end Go.Px

/-
  Lists of numbers: does one of them fit, a copy.
-/
namespace Go.Proofs.Ytkacbjhiobnbfaa
open Go.Px Go.Px.Scan Go.RowKit
set_option maxHeartbeats 1000000
set_option linter.unusedSimpArgs false
set_option linter.unusedVariables false
attribute [-go_sem] Builtin.append_

theorem IndexFuncI_ct {w : World} {B : Nat} {v : Value} {l : List Int} (h : (rSlice rInt).at1 w B v l) {g : FuncId} {first cap : Array Value} {p : Int → Bool}
    (hp : ∀ x ∈ l, inI64 x → Ct Try.prog g (first.toList ++ [Value.int .i64 x] ++ cap.toList).toArray w fun v w' => v = .bool (p x) ∧ w = w') :
    Ct Try.prog slices_IndexFunc_int_int.id #[v, .func (.func g) first cap] w fun r w' => (∃ i, r = .int .i64 i ∧ (0 ≤ i ↔ l.any p = true) ∧ i ≤ l.length) ∧ w = w' := by
  refine slices_IndexFunc_int_int.ct fun R hR => ?_
  obtain ⟨A, c, rfl, hl, hm, _⟩ := slice_form h
  unfold slices_IndexFunc_int_int.run slices_IndexFunc_int_int.b1 slices_IndexFunc_int_int.b4
  simp [go_sem]
  refine slices_IndexFunc_int_int.l6_intro _ _ _ _ _ _ (fun x w1 => ∃ k : Nat, x = .int .i64 k ∧ k ≤ l.length ∧ (l.take k).any p = false ∧ w = w1) (fun x _ => l.length - iv x) ⟨0, rfl, by omega, by simp, rfl⟩ ?_
  rintro _ _ ⟨k, rfl, hk, hall, rfl⟩ C hC
  unfold slices_IndexFunc_int_int.b7
  simp [go_sem]
  refine SPL_intro (fun h2 => ?_) (fun h2 => ?_) <;> simp at h2
  · obtain ⟨b1, o1, rfl, hb1, hc1, hr1⟩ := Go.Px.ints_at h h2
    have wk := wrap_succ h2 (Nat.le_trans hl hm)
    simp [go_sem, h2, hc1]
    refine CALLY_of (hp l[k] (List.getElem_mem h2) hr1) ?_
    rintro _ _ ⟨rfl, rfl⟩
    refine SPL_intro (fun h3 => ?_) (fun h3 => ?_)
    · refine hR _ _ ⟨⟨k, rfl, ?_, by omega⟩, rfl⟩
      refine ⟨fun _ => List.any_eq_true.2 ⟨_, List.getElem_mem h2, h3⟩, fun _ => by omega⟩
    · simp [go_sem, wk]
      refine hC _ _ ⟨k + 1, by simp, by omega, ?_, rfl⟩ (by simp [iv]; omega)
      rw [List.take_succ_eq_append_getElem h2, List.any_append, hall]
      simp [h3]
  · have hka : k = l.length := by omega
    rw [hka, List.take_length] at hall
    unfold slices_IndexFunc_int_int.b3
    exact hR _ _ ⟨⟨-1, rfl, by rw [hall]; simp, by omega⟩, rfl⟩

theorem ContainsFuncI_ct {w : World} {B : Nat} {v : Value} {l : List Int} (h : (rSlice rInt).at1 w B v l) {g : FuncId} {first cap : Array Value} {p : Int → Bool}
    (hp : ∀ x ∈ l, inI64 x → Ct Try.prog g (first.toList ++ [Value.int .i64 x] ++ cap.toList).toArray w fun v w' => v = .bool (p x) ∧ w = w') :
    Ct Try.prog slices_ContainsFunc_int_int.id #[v, .func (.func g) first cap] w fun r w' => r = .bool (l.any p) ∧ w = w' := by
  refine slices_ContainsFunc_int_int.ct fun R hR => ?_
  unfold slices_ContainsFunc_int_int.run slices_ContainsFunc_int_int.b1
  refine CALL_of (IndexFuncI_ct h hp) ?_
  rintro _ _ ⟨⟨i, rfl, hi, _⟩, rfl⟩
  simp [go_sem]
  refine hR _ _ ⟨?_, rfl⟩
  congr 1
  cases ha : l.any p
  · rw [ha] at hi; simpa using hi
  · rw [ha] at hi; simpa using hi

theorem info_int' : (Try.prog.info? 3).map (fun i => (i.zero, i.size, i.bytes)) = some (some (.int .i64 0), 1, 8) := by kernel_rfl

theorem slice_nil_eq (t : TypeId) {e : TypeId} (ht : Try.prog.underlying t = some (.slice e)) (A : Option Addr) (n c : Nat) (w : World) : (binOp BinOp.eql t (.slice A n c) (.slice none 0 0)).run Try.prog w = .ok (.bool A.isNone) w := by
  simp only [binOp, Op.equal]
  rw [show Op.maxDepth = 9999 + 1 from rfl]
  unfold Op.equalIn
  cases A <;> simp [run_underlying ht, go_sem]

set_option maxRecDepth 100000 in
theorem CloneI_ct {w : World} {B : Nat} {v : Value} {l : List Int} (h : (rSlice rInt).at1 w B v l) (hB : B ≤ w.heap.size) (hn : l.length * 8 ≤ maxBytes) :
    Ct Try.prog slices_Clone_int_int.id #[v] w fun v' w' => w'.ownsRow w.heap.size 3 1 v' l.length (l.map (.int .i64 ·)) ∧ Chg (fun _ => False) w w' := by
  refine slices_Clone_int_int.ct fun R hR => ?_
  obtain ⟨A, c, rfl, hl, hm, _⟩ := slice_form h
  unfold slices_Clone_int_int.run slices_Clone_int_int.b1
  simp [go_sem]
  rw [slice_nil_eq 24 Try.underlying24]
  cases A with
  | none =>
    have hz : l.length = 0 := by
      rcases Nat.eq_zero_or_pos l.length with h0 | h0
      · exact h0
      · obtain ⟨b, o, e, _⟩ := Go.Px.ints_at h h0
        cases e
    have hl0 : l = [] := List.eq_nil_of_length_eq_zero hz
    subst hl0
    simp [go_sem]
    exact hR _ _ ⟨⟨by simp, Or.inl ⟨rfl, rfl⟩⟩, Chg.refl _ _⟩
  | some a =>
    simp [go_sem]
    have hc1 : Chg (fun _ => False) w (w.alloc (.cells #[] 3)) := (Chg.refl _ _).alloc _
    have hx : (w.alloc (.cells #[] 3)).heap[w.heap.size]? = some (.cells #[] 3 (0, 0)) := heap_alloc_new w _
    have hs1 : (w.alloc (.cells #[] 3)).heap.size = w.heap.size + 1 := by simp
    obtain ⟨i0, hi, hz0, hz1, hz2⟩ := info_parts info_int'
    generalize w.alloc (.cells #[] 3) = w1 at hc1 hx hs1 ⊢
    have hown : w1.ownsRow w.heap.size 3 1 (.slice (some ⟨w.heap.size, 0, none⟩) 0 0) 0 [] := ⟨by simp, Or.inr ⟨_, 0, #[], rfl, Nat.le_refl _, hx, by omega, by simp [maxLen], by simp, by simp⟩⟩
    have hnews : ∀ j u, (l.map (Value.int .i64 ·))[j]? = some u → w1.cell? (a.add j) = some u := by
      intro j u hu
      have hj : j < l.length := by have := (List.getElem?_eq_some_iff.1 hu).1; simpa using this
      obtain ⟨b1, o1, e, hb1, hc, hr1⟩ := Go.Px.ints_at h hj
      injection e with e
      subst e
      have : u = .int .i64 l[j] := by have := (List.getElem?_eq_some_iff.1 hu).2; simpa using this.symm
      subst this
      rw [Addr.add_lit]
      exact (hc1.cell (p := ⟨b1, o1 + j, none⟩) (by show b1 < _; omega) id).trans hc
    obtain ⟨v', w', hrun, hown', hgr, _, hb⟩ := run_append_own_at (P := Try.prog) w1 w.heap.size 24 24 3 i0 _ 1 8 Try.underlying24 hi hz0 hz1 hz2 rfl (by omega) _ 0 [] hown a l.length c (l.map (.int .i64 ·)) (by simp) hnews (by
        intro u hu
        obtain ⟨x, _, rfl⟩ := List.mem_map.1 hu
        rfl) (by omega) (by unfold maxBytes at hn; omega) (by omega)
    rw [hrun, RES_ok]
    simp only [Nat.zero_add, List.nil_append] at hown'
    have hg : Chg (fun i => i = w.heap.size) w1 w' := grown_chg hgr fun k hk => by
      simp [Value.ownBlock] at hk
      exact hk.symm
    exact hR _ _ ⟨hown', hc1.trans' hg fun i hi e => by omega⟩
end Go.Proofs.Ytkacbjhiobnbfaa

/-
  The document's Lent and Whole.
-/
namespace Go.Px
open Go.RowKit
section
variable {G : Nat → Prop} {W w : World} {L : List Ch}
end
end Go.Px
namespace Go.Proofs.Ytkacbjhiobnbfaa
open Go.Px Go.Px.Scan Go.RowKit
set_option maxHeartbeats 1000000
set_option linter.unusedSimpArgs false
set_option linter.unusedVariables false
set_option maxRecDepth 100000
attribute [-go_sem] Builtin.append_

theorem iInt' : (Try.prog.info? 3).map (fun i => (i.zero, i.size, i.bytes)) = some (some (.int .i64 0), 1, 8) := by kernel_rfl

end Go.Proofs.Ytkacbjhiobnbfaa

/-
  tree: push.
-/
namespace Go.Px.Scan
open Go.Px
theorem nodup_len : ∀ (N : Nat) (l : List Nat), l.Nodup → (∀ x ∈ l, x < N) → l.length ≤ N
  | 0, l, _, h => by
    cases l with
    | nil => simp
    | cons x r => exact absurd (h x (by simp)) (by omega)
  | N + 1, l, hn, h => by
    by_cases hm : N ∈ l
    · have h1 := nodup_len N (l.erase N) (hn.erase N) fun x hx => by
        have := (hn.mem_erase_iff).1 hx
        have := h x this.2
        omega
      rw [List.length_erase_of_mem hm] at h1
      omega
    · have := nodup_len N l hn fun x hx => by
        have h2 := h x hx
        have : x ≠ N := fun e => hm (e ▸ hx)
        omega
      omega
end Go.Px.Scan
namespace Go.Proofs.Ytkacbjhiobnbfaa
open Go.Px Go.Px.Scan Go.RowKit
set_option maxHeartbeats 1000000
set_option linter.unusedSimpArgs false
set_option linter.unusedVariables false
set_option maxRecDepth 100000
attribute [-go_sem] Builtin.append_

theorem push_ct {G : Nat → Prop} {W w : World} {L : List Ch} {b m N cw ck j : Nat} {nv : Value} {a ak : Option Addr} {met ws ks : List Nat} (s : St G W w (WK b nv m N met a cw ws ++ L)) (hj : L[j]? = some (rowC 3 1 ak ks.length ck (natV ks)))
    (hks : ∀ k ∈ ks, k < N) (hN : N ≤ 3000000000000) (hws : ws.length ≤ N) :
    Ct Try.prog tree_walk_push.id #[.pointer (some ⟨b, 0, none⟩), .slice ak ks.length ck] w fun v w' => Chg G W w' ∧ v = .bool (decide (freshN met ks)) ∧ (freshN met ks → ∃ a' cw', St G W w' (WK b nv m N (ks ++ met) a' cw' (ks.reverse ++ ws) ++ L)) := by
  refine tree_walk_push.ct fun R hR => ?_
  have hkm : ks.length ≤ maxLen := by
    have := s.rowSize (3 + j) (by rw [show (WK b nv m N met a cw ws ++ L)[3 + j]? = L[j]? by simp [WK, Nat.add_comm]]; exact hj)
    omega
  unfold tree_walk_push.run
  simp -dsimp [go_sem]
  refine tree_walk_push.l6_intro _ _ _ _ _ _ (fun y w' => ∃ (i : Nat) (a' : Option Addr) (cw' : Nat), y = .int .i64 i ∧ i ≤ ks.length ∧ freshN met (ks.take i) ∧ St G W w' (WK b nv m N (ks.take i ++ met) a' cw' ((ks.take i).reverse ++ ws) ++ L)) (fun y _ => ks.length - iv y) ⟨0, a, cw, rfl, by omega, by simp [freshN], by simpa using s⟩ ?_
  rintro _ w1 ⟨i, a1, cw1, rfl, hi, hf, s1⟩ C hC
  simp -dsimp [go_sem]
  refine SPL_intro (fun p1 => ?_) (fun p1 => ?_) <;> simp at p1
  · have wi : IntKind.i64.wrap ((i : Int) + 1) = (i : Int) + 1 := wrap_succ (n := ks.length) (by omega) hkm
    have hlt : i < ks.length := by omega
    have hjk : ∀ {w'} {met' a' cw' ws'}, St G W w' (WK b nv m N met' a' cw' ws' ++ L) → ∃ g, ak = some ⟨g, 0, none⟩ ∧ w'.cell? ⟨g, i, none⟩ = some (.int .i64 (ks[i]'(by omega) : Int)) := by
      intro w' met' a' cw' ws' s'
      obtain ⟨g, e, c, _⟩ := s'.rowAt (3 + j) (by rw [show (WK b nv m N met' a' cw' ws' ++ L)[3 + j]? = L[j]? by simp [WK, Nat.add_comm]]; exact hj) (j := i) (by rw [natV_len]; omega)
      rw [natV_get (by omega)] at c
      exact ⟨g, e, c⟩
    obtain ⟨g, rfl, ck1⟩ := hjk s1
    obtain ⟨k, hk⟩ : ∃ k, ks[i] = k := ⟨_, rfl⟩
    rw [hk] at ck1
    have hkN : k < N := by rw [← hk]; exact hks _ (List.getElem_mem hlt)
    have et : ks.take (i + 1) = ks.take i ++ [k] := by rw [List.take_succ_eq_append_getElem hlt, hk]
    have hwl : ((ks.take i).reverse ++ ws).length = i + ws.length := by simp; omega
    obtain ⟨ws1, hws1⟩ : ∃ ws1, (ks.take i).reverse ++ ws = ws1 := ⟨_, rfl⟩
    obtain ⟨met1, hmet1⟩ : ∃ met1, ks.take i ++ met = met1 := ⟨_, rfl⟩
    rw [hws1, hmet1] at s1
    rw [hws1] at hwl
    have y1 := s1.box 0 rfl
    simp [boxAt] at y1
    obtain ⟨gm, em, cm, fm⟩ := s1.rowAt 1 rfl (j := k) (by rw [metV_len]; exact hkN)
    injection em with em; injection em with em; subst em
    have cmv : (metV N met1)[k]'(by rw [metV_len]; exact hkN) = .bool (decide (k ∈ met1)) := by
      have := metV_get (met := met1) hkN
      rw [List.getElem?_eq_getElem (by rw [metV_len]; exact hkN)] at this
      injection this
    rw [cmv] at cm
    simp -dsimp [go_sem, ck1, y1, hlt, hkN, cm]
    refine SPL_intro (fun p2 => ?_) (fun p2 => ?_)
    · have hin : ks[i] ∈ ks.take i ++ met := by rw [hk, hmet1]; simpa using p2
      have hnf := fresh_not hlt hin
      exact hR _ _ ⟨s1.chg, by rw [decide_eq_false hnf], fun h => absurd h hnf⟩
    · have hnin : ks[i] ∉ ks.take i ++ met := by rw [hk, hmet1]; simpa using p2
      have hf2 := fresh_take hf hlt hnin
      have s2 := s1.setRow 1 rfl k (.bool true)
      rw [metV_set] at s2
      have hlen : (ks.take (i + 1)).length ≤ N := nodup_len N _ hf2.1 fun x hx => hks x (List.mem_of_mem_take hx)
      have hti : (ks.take (i + 1)).length = i + 1 := by simp; omega
      simp -dsimp [go_sem, y1, hkN, fm, cm]
      generalize w1.setCell ⟨m, k, none⟩ (.bool true) = w2 at s2 ⊢
      have y2 := s2.box 0 rfl
      simp [boxAt] at y2
      simp -dsimp [go_sem, y2]
      refine s2.append1 2 rfl Try.underlying24 iInt' rfl (by omega) (news := [Value.int .i64 k]) rfl (by simp [Value.oneCell']) (by unfold maxLen; omega) (by unfold maxBytes; omega) fun g2 cap w3 s3 => ?_
      have s4 := s3.set 0 rfl 2 (.slice (some ⟨g2, 0, none⟩) (ws1.length + 1) cap)
      have y3 := s3.box 0 rfl
      simp [boxAt] at y3
      simp -dsimp [go_sem, y3]
      generalize w3.setCell ⟨b, 2, none⟩ (.slice (some ⟨g2, 0, none⟩) (ws1.length + 1) cap) = w4 at s4 ⊢
      simp -dsimp [go_sem, wi]
      refine hC _ _ ⟨i + 1, some ⟨g2, 0, none⟩, cap, by simp, by omega, hf2, ?_⟩ (by simp [iv]; omega)
      have e1 : (ks.take (i + 1)).reverse ++ ws = k :: ws1 := by rw [et, ← hws1]; simp
      have e2 : metV N (ks.take (i + 1) ++ met) = metV N (k :: met1) := metV_congr fun x => by rw [et, ← hmet1]; simp; exact or_left_comm
      rw [e1]
      unfold WK
      rw [e2]
      have e3 : natV (k :: ws1).reverse = natV ws1.reverse ++ [Value.int .i64 k] := by simp [natV]
      rw [e3]
      exact s4
  · have hik : i = ks.length := by omega
    subst hik
    rw [List.take_length] at hf s1
    simp -dsimp [go_sem]
    exact hR _ _ ⟨s1.chg, by rw [decide_eq_true hf], fun _ => ⟨a1, cw1, s1⟩⟩
end Go.Proofs.Ytkacbjhiobnbfaa

/-
  tree: sound.
-/
namespace Go.Proofs.Ytkacbjhiobnbfaa
open Go.Px Go.Px.Scan Go.RowKit
set_option maxHeartbeats 1000000
set_option linter.unusedSimpArgs false
set_option linter.unusedVariables false
set_option maxRecDepth 100000

theorem sound1_ct {w : World} {p : Nat} {k : Int} {n : Nat} (h : w.cell? ⟨p, 0, none⟩ = some (.int .i64 n)) : Ct Try.prog tree_walk_sound_1.id #[.int .i64 k, .pointer (some ⟨p, 0, none⟩)] w fun v w' => v = .bool (decide (k < 0 ∨ (n : Int) ≤ k)) ∧ w = w' := by
  refine tree_walk_sound_1.ct fun R hR => ?_
  unfold tree_walk_sound_1.run
  simp -dsimp [go_sem]
  refine SPL_intro (fun p => ?_) (fun p => ?_) <;> simp at p
  · exact hR _ _ ⟨by simp [p], rfl⟩
  · have p' : ¬ k < 0 := by omega
    simp -dsimp [go_sem, h]
    exact hR _ _ ⟨by simp [p'], rfl⟩

theorem len0_dec {α : Type} [DecidableEq α] (ks : List α) : (((ks.length : Nat) : Int) == 0) = decide (ks = []) := by
  cases ks with
  | nil => rfl
  | cons x r =>
    rw [Bool.eq_iff_iff]; simp; omega
theorem any_kids (ks : List Int) (n : Nat) : (ks.any fun k => decide (k < 0) || decide ((n : Int) ≤ k)) = !decide (∀ k ∈ ks, 0 ≤ k ∧ k < (n : Int)) := by
  rw [Bool.eq_iff_iff]
  simp
  constructor
  · rintro ⟨x, h1, h2⟩; exact ⟨x, h1, fun h => by omega⟩
  · rintro ⟨x, h1, h2⟩; exact ⟨x, h1, by omega⟩
theorem sound_ct {w : World} {B b n : Nat} {nv : Value} {l : List Nd} (hc : w.cell? ⟨b, 0, none⟩ = some nv) (hbl : b < w.heap.size) (h : (rSlice rNd).at1 w B nv l) (hB : B ≤ w.heap.size) (hn : n < l.length) :
    Ct Try.prog tree_walk_sound.id #[.pointer (some ⟨b, 0, none⟩), .int .i64 n] w fun v w' => v = .bool (decide (okN n l[n])) ∧ Chg noB w w' := by
  refine tree_walk_sound.ct fun R hR => ?_
  obtain ⟨A, c, rfl, hl1, hl2, _⟩ := slice_form h
  obtain ⟨bp, op, vr, ep, hbp, x1, x2, x3, x4, hr, z1, z2, z3⟩ := nodes_at h hn
  subst ep
  obtain ⟨Ar, cr, rfl, hr1, hr2, _⟩ := slice_form hr
  have s1 := (St.refl noB w).alloc #[.int .i64 n] 3
  have s2 := (s1.alloc #[.int .i64 l[n].1, .int .i64 l[n].2.1, .int .i64 l[n].2.2.1, .slice Ar l[n].2.2.2.length cr] 61).old (Chg.refl noB _).drew
  have k1 : (w.alloc (.cells #[.int .i64 n] 3)).cell? ⟨w.heap.size, 0, none⟩ = some (.int .i64 n) := by
    have k := s1.box 0 rfl
    simp only [boxAt] at k
    exact k.1.1
  have rd : ∀ {p : Addr} {u}, w.cell? p = some u → p.block < w.heap.size → (w.alloc (.cells #[.int .i64 n] 3)).cell? p = some u := fun {p u} hp hlt => (((Chg.refl noB w).alloc _).cell hlt id).trans hp
  have y1 := rd x1 (by show bp < _; omega)
  have y2 := rd x2 (by show bp < _; omega)
  have y3 := rd x3 (by show bp < _; omega)
  have y4 := rd x4 (by show bp < _; omega)
  have yc := rd hc hbl
  have hs1 : (w.alloc (.cells #[.int .i64 n] 3)).heap.size = w.heap.size + 1 := by simp
  have rd2 : ∀ {p : Addr} {u}, (w.alloc (.cells #[.int .i64 n] 3)).cell? p = some u → p.block < w.heap.size + 1 → ((w.alloc (.cells #[.int .i64 n] 3)).alloc (.cells #[.int .i64 0, .int .i64 0, .int .i64 0, .slice none 0 0] 61)).cell? p = some u := fun {p u} hp hlt => (((Chg.refl noB _).alloc _).cell (by rw [hs1]; exact hlt) id).trans hp
  have v1 := rd2 y1 (by show bp < _; omega)
  have v2 := rd2 y2 (by show bp < _; omega)
  have v3 := rd2 y3 (by show bp < _; omega)
  have v4 := rd2 y4 (by show bp < _; omega)
  have vc := rd2 yc (by show b < _; omega)
  have vk := rd2 k1 (by show w.heap.size < _; omega)
  unfold tree_walk_sound.run
  simp -dsimp [go_sem, k1, y1, y2, y3, y4, yc, hn, v1, v2, v3, v4, vc, vk]
  rw [hs1] at s2
  have hr2' : (rSlice rInt).at1 ((w.alloc (.cells #[.int .i64 n] 3)).alloc (.cells #[.int .i64 l[n].1, .int .i64 l[n].2.1, .int .i64 l[n].2.2.1, .slice Ar l[n].2.2.2.length cr] 61)).drew B (.slice Ar l[n].2.2.2.length cr) l[n].2.2.2 := Rep.below hr (s2.chg.below hB fun _ _ => id)
  generalize w.heap.size = q at s2 ⊢
  generalize ((w.alloc (.cells #[.int .i64 n] 3)).alloc (.cells #[.int .i64 l[n].1, .int .i64 l[n].2.1, .int .i64 l[n].2.2.1, .slice Ar l[n].2.2.2.length cr] 61)).drew = w2 at s2 hr2' ⊢
  generalize l[n] = x at *
  obtain ⟨sy, pr, tk, ks⟩ := x
  simp only at *
  have u2 := s2.box 1 rfl
  have u1 := s2.box 0 rfl
  simp [boxAt] at u1 u2
  refine SPL_intro (fun p1 => ?_) (fun p1 => ?_) <;> simp at p1
  · have p1' : ¬ 0 ≤ pr := by omega
    simp -dsimp [go_sem, u2]
    refine SPL_intro (fun p2 => ?_) (fun p2 => ?_) <;> simp at p2
    · subst p2
      simp -dsimp [go_sem, u2]
      refine SPL_intro (fun p3 => ?_) (fun p3 => ?_) <;> simp at p3
      · simp -dsimp [go_sem, u2]
        refine SPL_intro (fun p4 => ?_) (fun p4 => ?_) <;> simp at p4
        · simp -dsimp [go_sem, u2]
          exact hR _ _ ⟨by simp [okN, p3, p4, len0_dec], s2.chg⟩
        · exact hR _ _ ⟨by have : ¬ 0 ≤ tk := by omega
                           simp [okN, this], s2.chg⟩
      · exact hR _ _ ⟨by have : ¬ 0 ≤ sy := by omega
                         simp [okN, this], s2.chg⟩
    · exact hR _ _ ⟨by simp [okN, p1', p2], s2.chg⟩
  · have p1' : ¬ pr = -1 := by omega
    simp -dsimp [go_sem, u2]
    refine SPL_intro (fun p2 => ?_) (fun p2 => ?_) <;> simp at p2
    · simp -dsimp [go_sem, u2]
      refine SPL_intro (fun p3 => ?_) (fun p3 => ?_) <;> simp at p3
      · subst p3
        simp -dsimp [go_sem, u2]
        refine CALL_of (ContainsFuncI_ct (p := fun k => decide (k < 0 ∨ (n : Int) ≤ k)) hr2' fun k _ _ => sound1_ct u1.1) ?_
        rintro _ _ ⟨rfl, rfl⟩
        simp -dsimp [go_sem]
        refine hR _ _ ⟨?_, s2.chg⟩
        congr 1
        simp [okN, p1, p1', p2, any_kids]
      · exact hR _ _ ⟨by simp [okN, p1', p3], s2.chg⟩
    · exact hR _ _ ⟨by have : ¬ 0 ≤ sy := by omega
                       simp [okN, this], s2.chg⟩
end Go.Proofs.Ytkacbjhiobnbfaa

/-
  A row turned round; the two orders.
-/
namespace Go.Px.Scan
open Go.Px
def revI (ks : List Nat) (i : Nat) : List Nat := (List.range ks.length).map fun j => if j < i ∨ ks.length - i ≤ j then ks.getD (ks.length - 1 - j) 0 else ks.getD j 0
theorem revI_len (ks : List Nat) (i : Nat) : (revI ks i).length = ks.length := by simp [revI]
theorem revI_zero (ks : List Nat) : revI ks 0 = ks := by
  apply List.ext_getElem
  · simp [revI]
  · intro j h1 h2
    have : ¬ ks.length ≤ j := by omega
    simp [revI, h2, this]
theorem revI_end (ks : List Nat) {i : Nat} (h : ks.length ≤ 2 * i + 1) : revI ks i = ks.reverse := by
  apply List.ext_getElem
  · simp [revI]
  · intro j h1 h2
    simp at h2
    simp only [revI, List.getElem_map, List.getElem_range, List.getElem_reverse]
    by_cases e : j < i ∨ ks.length - i ≤ j
    · rw [if_pos e]; simp [show ks.length - 1 - j < ks.length by omega]
    · rw [if_neg e]
      have : ks.length - 1 - j = j := by omega
      simp [h2, this]
theorem revI_at (ks : List Nat) {i j : Nat} (h : i ≤ j) (h2 : j < ks.length - i) : (revI ks i)[j]'(by rw [revI_len]; omega) = ks[j]'(by omega) := by
  have h3 : ¬ (j < i ∨ ks.length - i ≤ j) := by omega
  simp only [revI, List.getElem_map, List.getElem_range]
  rw [if_neg h3]
  simp [show j < ks.length by omega]
theorem revI_step (ks : List Nat) {i : Nat} (h : i < ks.length - 1 - i) : ((revI ks i).set i (ks[ks.length - 1 - i]'(by omega))).set (ks.length - 1 - i) (ks[i]'(by omega)) = revI ks (i + 1) := by
  apply List.ext_getElem
  · simp [revI]
  · intro j h1 h2
    rw [revI_len] at h2
    simp only [List.getElem_set]
    by_cases e1 : ks.length - 1 - i = j
    · rw [if_pos e1]
      have h3 : j < i + 1 ∨ ks.length - (i + 1) ≤ j := by omega
      simp only [revI, List.getElem_map, List.getElem_range]
      rw [if_pos h3]
      have : ks.length - 1 - j = i := by omega
      simp [this, show i < ks.length by omega]
    · rw [if_neg e1]
      by_cases e2 : i = j
      · rw [if_pos e2]
        have h3 : j < i + 1 ∨ ks.length - (i + 1) ≤ j := by omega
        simp only [revI, List.getElem_map, List.getElem_range]
        rw [if_pos h3]
        subst e2
        simp [show ks.length - 1 - i < ks.length by omega]
      · rw [if_neg e2]
        simp only [revI, List.getElem_map, List.getElem_range]
        by_cases e3 : j < i ∨ ks.length - i ≤ j
        · rw [if_pos e3, if_pos (by omega)]
        · rw [if_neg e3, if_neg (by omega)]
theorem set_same {α : Type} {L : List α} {k : Nat} {c : α} (h : L[k]? = some c) : L.set k c = L := by
  apply List.ext_getElem
  · simp
  · intro j h1 h2
    rw [List.getElem_set]
    split
    · rename_i e; subst e
      rw [List.getElem?_eq_getElem h2] at h; injection h with h; exact h.symm
    · rfl
theorem natV_set (l : List Nat) (i x : Nat) : (natV l).set i (.int .i64 (x : Int)) = natV (l.set i x) := by simp [natV, List.map_set]
end Go.Px.Scan
namespace Go.Proofs.Ytkacbjhiobnbfaa
open Go.Px Go.Px.Scan Go.RowKit
set_option maxHeartbeats 1000000
set_option linter.unusedSimpArgs false
set_option linter.unusedVariables false
set_option maxRecDepth 100000

theorem reverse_ct {G : Nat → Prop} {W w : World} {L : List Ch} {k c : Nat} {a : Option Addr} {ks : List Nat} (s : St G W w L) (hk : L[k]? = some (rowC 3 1 a ks.length c (natV ks))) :
    Ct Try.prog slices_Reverse_int_int.id #[.slice a ks.length c] w fun v w' => St G W w' (L.set k (rowC 3 1 a ks.length c (natV ks.reverse))) := by
  refine slices_Reverse_int_int.ct fun R hR => ?_
  have hm : ks.length ≤ maxLen := by have := s.rowSize k hk; omega
  have hm' : ks.length ≤ 9223372036854775807 := by unfold maxLen at hm; omega
  have w0 : IntKind.i64.wrap ((ks.length : Int) - 1) = (ks.length : Int) - 1 := IntWalk.i64_in _ (by omega)
  have hkl : k < L.length := (List.getElem?_eq_some_iff.1 hk).1
  unfold slices_Reverse_int_int.run
  simp -dsimp [go_sem, w0]
  refine slices_Reverse_int_int.l3_intro _ _ _ _ _ (fun y z w' => ∃ i : Nat, y = .int .i64 i ∧ z = .int .i64 ((ks.length : Int) - 1 - i) ∧ i ≤ ks.length ∧ St G W w' (L.set k (rowC 3 1 a ks.length c (natV (revI ks i))))) (fun y _ _ => ks.length - iv y) ⟨0, rfl, by simp, by omega, by rw [revI_zero, set_same hk]; exact s⟩ ?_
  rintro _ _ w1 ⟨i, rfl, rfl, hi, s1⟩ C hC
  simp -dsimp [go_sem]
  refine SPL_intro (fun p1 => ?_) (fun p1 => ?_) <;> simp at p1
  · have hij : i < ks.length - 1 - i := by omega
    have hL : ∀ {c : Ch}, (L.set k c)[k]? = some c := by intro c; simp [hkl]
    obtain ⟨g, e, c1, f1⟩ := s1.rowAt k hL (j := i) (by rw [natV_len, revI_len]; omega)
    obtain ⟨g', e', c2, f2⟩ := s1.rowAt k hL (j := ks.length - 1 - i) (by rw [natV_len, revI_len]; omega)
    subst e
    injection e' with e'; injection e' with e'; subst e'
    rw [natV_get (by rw [revI_len]; omega), revI_at ks (by omega) (by omega)] at c1 c2
    have ej : ((ks.length : Int) - 1 - i).toNat = ks.length - 1 - i := by omega
    have j0 : 0 ≤ (ks.length : Int) - 1 - i := by omega
    have j1 : (ks.length : Int) - 1 - i < ks.length := by omega
    have i1 : i < ks.length := by omega
    have i2 : (i : Int) ≤ (ks.length : Int) - 1 := by omega
    have wi : IntKind.i64.wrap ((i : Int) + 1) = (i : Int) + 1 := IntWalk.i64_in _ (by omega)
    have wj : IntKind.i64.wrap ((ks.length : Int) - 1 - i - 1) = (ks.length : Int) - 1 - i - 1 := IntWalk.i64_in _ (by omega)
    obtain ⟨x, hx⟩ : ∃ x, ks[ks.length - 1 - i]'(by omega) = x := ⟨_, rfl⟩
    obtain ⟨y, hy⟩ : ∃ y, ks[i]'(by omega) = y := ⟨_, rfl⟩
    rw [hx] at c2; rw [hy] at c1
    have s2 := s1.setRow k hL i (.int .i64 x)
    rw [natV_set, List.set_set] at s2
    have s3 := s2.setRow k hL (ks.length - 1 - i) (.int .i64 y)
    rw [natV_set, List.set_set] at s3
    have e3 : ((revI ks i).set i x).set (ks.length - 1 - i) y = revI ks (i + 1) := by rw [← hx, ← hy]; exact revI_step ks hij
    rw [e3] at s3
    obtain ⟨g2, e2, c3, f3⟩ := s2.rowAt k hL (j := ks.length - 1 - i) (by rw [natV_len, List.length_set, revI_len]; omega)
    injection e2 with e2; injection e2 with e2; subst e2
    simp -dsimp [go_sem, c1, c2, f1, f2, ej, j0, j1, i1, i2, wi, wj, c3, f3]
    exact hC _ _ _ ⟨i + 1, by simp, by rw [show (ks.length : Int) - 1 - ((i + 1 : Nat) : Int) = (ks.length : Int) - 1 - i - 1 by omega], by omega, s3.old (Chg.refl noB _).drew⟩ (by simp [iv]; omega)
  · have := revI_end ks (i := i) (by omega)
    rw [this] at s1
    exact hR _ _ s1
/-- The order of what comes next. -/
def OrdOk (W : World) (rt : Bool) (f : FuncId) : Prop := ∀ (w : World) (L : List Ch) (k c : Nat) (a : Option Addr) (ks : List Nat), St noB W w L → L[k]? = some (rowC 3 1 a ks.length c (natV ks)) →
  Ct Try.prog f #[Value.slice a ks.length c] w fun _ w' => St noB W w' (L.set k (rowC 3 1 a ks.length c (natV (if rt then ks else ks.reverse))))
theorem left_ok (W : World) : OrdOk W false tree_left.id := by
  intro w L k c a ks s hk
  refine tree_left.ct fun R hR => ?_
  unfold tree_left.run tree_left.b1
  refine CALL_of (reverse_ct s hk) fun v w' s' => ?_
  exact hR _ _ s'
theorem right_ok (W : World) : OrdOk W true tree_right.id := by
  intro w L k c a ks s hk
  refine tree_right.ct fun R hR => ?_
  unfold tree_right.run tree_right.b1
  refine hR _ _ ?_
  rw [if_pos rfl, set_same hk]
  exact s
end Go.Proofs.Ytkacbjhiobnbfaa

/-
  tree: below.
-/
namespace Go.Px
open Classical in
theorem least_ex {p : Nat → Prop} : ∀ (n : Nat), p n → ∃ m, p m ∧ ∀ k, p k → m ≤ k := by
  intro n
  induction n using Nat.strongRecOn with
  | _ n ih =>
    intro h
    by_cases e : ∃ k, k < n ∧ p k
    · obtain ⟨k, h1, h2⟩ := e; exact ih k h1 h2
    · exact ⟨n, h, fun k hk => Nat.le_of_not_lt fun hlt => e ⟨k, hlt, hk⟩⟩
open Classical in
/-- The least number that goes with a world. -/
noncomputable def muOf (K : World → Nat → Prop) (w : World) : Nat := if h : ∃ m, K w m ∧ ∀ k, K w k → m ≤ k then h.choose else 0
theorem muOf_le {K : World → Nat → Prop} {w : World} {f : Nat} (h : K w f) : muOf K w ≤ f := by
  have h1 := least_ex (p := K w) f h
  unfold muOf
  rw [dif_pos h1]
  exact h1.choose_spec.2 f h
theorem muOf_at {K : World → Nat → Prop} {w : World} (h : ∃ f, K w f) : K w (muOf K w) := by
  obtain ⟨f, h⟩ := h
  have h1 := least_ex (p := K w) f h
  unfold muOf
  rw [dif_pos h1]
  exact h1.choose_spec.1
end Go.Px
namespace Go.Proofs.Ytkacbjhiobnbfaa
open Go.Px Go.Px.Scan Go.RowKit
set_option maxHeartbeats 1000000
set_option linter.unusedSimpArgs false
set_option linter.unusedVariables false
set_option maxRecDepth 100000
attribute [-go_sem] tree_below.b3 tree_below.b12 tree_below.b14 tree_below.b13_1

theorem iBool' : (Try.prog.info? 4).map (fun i => (i.zero, i.size, i.bytes)) = some (some (.bool false), 1, 1) := by kernel_rfl
/-- A row of so many flags is made. -/
theorem mkFlags (w : World) (n : Nat) (h : n ≤ 2 * maxBytes) : (Instr.makeSlice 68 (.int .i64 n) (.int .i64 n)).run Try.prog w = .ok (.slice (some ⟨w.heap.size, 0, none⟩) n n) (w.alloc (.cells (Array.replicate n (Value.bool false)) 4)) := by
  obtain ⟨i0, hi, hz0, hz1, hz2⟩ := info_parts iBool'
  unfold maxBytes at h
  have := run_make (P := Try.prog) w 68 4 i0 _ Try.underlying68 hi hz0 .i64 .i64 n n (by omega) (by omega) (by rw [hz2]; omega) (by omega)
  rw [this]
  have e : madeCells (Value.bool false).cells ((n : Int).toNat * i0.size) = Array.replicate n (Value.bool false) := by
    rw [hz1, Nat.mul_one, Int.toNat_natCast]
    have := toList_madeCells_one (Value.bool false) n
    apply Array.toList_inj.1
    rw [Array.toList_replicate]
    exact this
  rw [e]
  simp
theorem aWalk (A : Option Addr) (n c : Nat) (B : Option Addr) (m d : Nat) (w : World) : (Instr.build 160 #[(0, .slice A n c), (1, .slice B m d)]).run Try.prog w = .ok (.agg #[.slice A n c, .slice B m d, .slice none 0 0]) w := by
  simp [go_sem, cells_slice]
attribute [go_sem ↓] aWalk

/-- One who looks at each node. -/
def VisOk (W : World) (B : Nat) (l : List Nd) {σ : Type} (c : σ → Ch) (V : σ → Nat → Option σ) (s0 : σ) (f : FuncId) (ca : List Value) : Prop :=
  ∀ (w : World) (L : List Ch) (k : Nat) (s : σ) (n : Nat) (r : List Nat) (vx : Value), St noB W w L → L[k]? = some (c s) → looks V s0 r = some s → (r ++ [n]).Nodup → (∀ x ∈ r ++ [n], x < l.length) → okN n (l.getD n zN) → rNd.atN w B vx (l.getD n zN) →
    Ct Try.prog f (Value.int .i64 n :: vx :: ca).toArray w fun v w' => match V s n with
      | some s' => v = .bool true ∧ St noB W w' (L.set k (c s'))
      | none => v = .bool false ∧ Chg noB W w'

theorem kids_nat {n : Nat} {x : Nd} (h : okN n x) : x.2.2.2.map (Value.int .i64 ·) = natV (kidsN x) := by
  have h0 : ∀ k ∈ x.2.2.2, 0 ≤ k := by
    rcases h.2 with h1 | h1
    · rw [h1.2.2]; simp
    · exact fun k hk => (h1.2.2 k hk).1
  unfold natV kidsN
  rw [List.map_map]
  apply List.map_congr_left
  intro k hk
  simp [Int.toNat_of_nonneg (h0 k hk)]
theorem kids_lt {n : Nat} {x : Nd} (h : okN n x) : ∀ k ∈ kidsN x, k < n := by
  intro k hk
  obtain ⟨y, hy, rfl⟩ := List.mem_map.1 hk
  rcases h.2 with h1 | h1
  · rw [h1.2.2] at hy; cases hy
  · have := h1.2.2 y hy; omega
theorem next_nodup {out ws kk : List Nat} {n : Nat} (h : (out ++ n :: ws).Nodup) (hf : freshN (out ++ n :: ws) kk) : (out ++ [n] ++ (kk.reverse ++ ws)).Nodup := by
  have h' : (out ++ [n] ++ ws).Nodup := by simpa using h
  rw [List.nodup_append] at h'
  obtain ⟨h1, h2, h3⟩ := h'
  refine List.nodup_append.2 ⟨h1, List.nodup_append.2 ⟨by simpa [List.Nodup, List.pairwise_reverse, ne_comm] using hf.1, h2, ?_⟩, ?_⟩
  · rintro a ha b hb rfl
    exact hf.2 a (by simpa using ha) (by simp [hb])
  · rintro a ha b hb rfl
    rcases List.mem_append.1 hb with hb | hb
    · refine hf.2 a (by simpa using hb) ?_
      simp at ha ⊢
      rcases ha with ha | ha
      · exact Or.inl ha
      · exact Or.inr (Or.inl ha)
    · exact h3 a ha a hb rfl

/-- How it stands: f rounds at most are left. -/
def belowJ {σ : Type} (W : World) (b : Nat) (A : Option Addr) (cn m N : Nat) (l : List Nd) (rt : Bool) (root : Nat) (c : σ → Ch) (V : σ → Nat → Option σ) (s0 : σ) (w : World) (f : Nat) : Prop :=
  ∃ (out ws : List Nat) (a : Option Addr) (cw : Nat) (s : σ), out.length + f = N ∧ lookF l rt V f s out ws = lookP l rt V s0 root ∧ (out ++ ws).Nodup ∧ (∀ x ∈ out ++ ws, x < N) ∧ looks V s0 out = some s ∧ St noB W w (WK b (.slice A N cn) m N (out ++ ws) a cw ws ++ [c s])
theorem below_ct {σ : Type} {c : σ → Ch} {V : σ → Nat → Option σ} {s0 : σ} {W w : World} {B : Nat} {nv : Value} {l : List Nd} {rt : Bool} {root : Int} {f ord : FuncId} {ca : Array Value}
    (h : (rSlice rNd).at1 W B nv l) (hB : B ≤ W.heap.size) (hN : l.length ≤ 3000000000000) (hkd : ∀ x ∈ l, x.2.2.2.length * 8 ≤ maxBytes) (s : St noB W w [c s0]) (ho : OrdOk W rt ord) (hv : VisOk W B l c V s0 f ca.toList) (hr : inI64 root) :
    Ct Try.prog tree_below.id #[nv, .int .i64 root, .func (.func ord) #[] #[], .func (.func f) #[] ca] w fun v w' => match lookP l rt V s0 root with
      | some s' => v = .bool true ∧ St noB W w' [c s']
      | none => v = .bool false ∧ Chg noB W w' := by
  refine tree_below.ct fun R hR => ?_
  obtain ⟨A, cn, rfl, hl1, hl2, _⟩ := slice_form h
  have hno : ∀ w' s', (lookP l rt V s0 root = none → Chg noB W w' → R (.returned (.bool false)) w') ∧ (lookP l rt V s0 root = some s' → St noB W w' [c s'] → R (.returned (.bool true)) w') := by
    intro w' s'
    refine ⟨fun h1 h2 => hR _ _ ?_, fun h1 h2 => hR _ _ ?_⟩
    · rw [h1]; exact ⟨rfl, h2⟩
    · rw [h1]; exact ⟨rfl, h2⟩
  clear hR
  unfold tree_below.run
  simp -dsimp [go_sem]
  refine SPL_intro (fun p1 => ?_) (fun p1 => ?_) <;> simp at p1
  · simp -dsimp [go_sem]
    refine (hno w s0).1 ?_ s.chg
    unfold lookP; rw [if_neg (by omega)]
  · simp -dsimp [go_sem]
    refine SPL_intro (fun p2 => ?_) (fun p2 => ?_) <;> simp at p2
    · refine (hno w s0).1 ?_ s.chg
      unfold lookP; rw [if_neg (by omega)]
    · unfold tree_below.b3
      have hmk := mkFlags w l.length (by unfold maxBytes; omega)
      have s1 := s.lit 4 1 l.length (Array.replicate l.length (Value.bool false)) (by unfold maxLen; omega) (by simp)
      have s2 := s1.alloc #[.slice A l.length cn, .slice (some ⟨w.heap.size, 0, none⟩) l.length l.length, .slice none 0 0] 160
      have s3 := s2.lit 3 1 1 #[.int .i64 root] (by simp [maxLen]) rfl
      have s4 := s3.nilRow 3 1
      simp -dsimp [go_sem, hmk]
      have hs1 : (w.alloc (.cells (Array.replicate l.length (Value.bool false)) 4)).heap.size = w.heap.size + 1 := by simp
      rw [hs1] at s4
      have hs2 : ((w.alloc (.cells (Array.replicate l.length (Value.bool false)) 4)).alloc (.cells #[.slice A l.length cn, .slice (some ⟨w.heap.size, 0, none⟩) l.length l.length, .slice none 0 0] 160)).heap.size = w.heap.size + 1 + 1 := by simp
      rw [hs2] at s4
      generalize w.heap.size = m at s4 ⊢
      generalize (((w.alloc (.cells (Array.replicate l.length (Value.bool false)) 4)).alloc (.cells #[.slice A l.length cn, .slice (some ⟨m, 0, none⟩) l.length l.length, .slice none 0 0] 160)).alloc (.cells #[.int .i64 root] 3)) = w4 at s4 ⊢
      obtain ⟨q, rfl⟩ : ∃ q : Nat, root = q := ⟨root.toNat, by omega⟩
      have hq : q < l.length := by omega
      have s5 : St noB W w4 (WK (m + 1) (.slice A l.length cn) m l.length [] none 0 [] ++ [c s0, rowC 3 1 (some ⟨m + 1 + 1, 0, none⟩) 1 1 (natV [q])]) := by
        refine s4.pick [2, 1, 4, 0, 3] (by decide) ?_
        unfold WK
        rw [metV_nil]
        simp [natV]
      refine CALL_of (push_ct s5 (j := 1) (ks := [q]) rfl (by simpa using hq) hN (by simp)) ?_
      rintro _ w5 ⟨_, _, h5⟩
      obtain ⟨a5, c5, s5⟩ := h5 (by simp [freshN])
      have s6 := s5.take 4
      obtain ⟨b, hb⟩ : ∃ b, m + 1 = b := ⟨_, rfl⟩
      rw [hb] at s6 ⊢
      obtain ⟨N, hNe⟩ : ∃ N, l.length = N := ⟨_, rfl⟩
      refine tree_below.l7_intro _ _ _ _ _ _ (fun w => ∃ f, belowJ W b A cn m N l rt q c V s0 w f) (muOf (belowJ W b A cn m N l rt q c V s0)) ⟨N, ?_⟩ ?_
      · refine ⟨[], [q], a5, c5, s0, by simp, ?_, by simp, by simp; omega, rfl, ?_⟩
        · unfold lookP; rw [if_pos ⟨by omega, by omega⟩, hNe]; rfl
        · rw [hNe] at s6; exact s6
      · intro w7 hJ C hC
        obtain ⟨out, ws, a, cw, s, hf, hl, hnd, hlt, hlk, st⟩ := muOf_at hJ
        have hC' : ∀ w1 f', belowJ W b A cn m N l rt q c V s0 w1 f' → f' < muOf (belowJ W b A cn m N l rt q c V s0) w7 → C w1 := fun w1 f' h1 h2 => hC w1 ⟨f', h1⟩ (Nat.lt_of_le_of_lt (muOf_le h1) h2)
        clear hC
        generalize muOf (belowJ W b A cn m N l rt q c V s0) w7 = u at hf hl hC'
        clear hJ
        have y := st.box 0 rfl
        simp [boxAt] at y
        cases ws with
        | nil =>
          simp -dsimp [go_sem, y]
          refine (hno w7 s).2 ?_ ?_
          · rw [← hl]; cases u <;> rfl
          · exact st.pick [3] (by decide) rfl
        | cons n ws =>
          have hnN : n < N := hlt n (by simp)
          have hne : 0 < ws.length + 1 := by omega
          have hwN : ws.length + 1 ≤ N := by
            have := nodup_len N _ hnd hlt
            simp at this; omega
          have wl : IntKind.i64.wrap (ws.length : Int) = ws.length := IntWalk.i64_in _ (by omega)
          have xl : (ws.length : Int) < (ws.length : Int) + 1 := by omega
          obtain ⟨g, eg, cg, fg⟩ := st.rowAt 2 rfl (j := ws.length) (by simp [natV])
          have cg' : (natV (n :: ws).reverse)[ws.length]'(by simp [natV]) = .int .i64 n := by simp [natV]
          rw [cg'] at cg
          subst eg
          have hcw : ws.length + 1 ≤ cw := (st.rowSize 2 rfl).2.1
          have hcw' : ws.length ≤ cw := by omega
          have hgb := (st.box 0 rfl).2.2
          have s8 := st.set 0 rfl 2 (.slice (some ⟨g, 0, none⟩) ws.length cw)
          have e8 : natV (n :: ws).reverse = natV ws.reverse ++ [Value.int .i64 n] := by simp [natV]
          have s9 := ((s8.popRow 2 (n := ws.length) (xs := natV ws.reverse) (last := [Value.int .i64 n]) (by rw [← e8]; rfl) (by simp [natV])).old (Chg.refl noB _).drew).old (Chg.refl noB _).drew
          have s9 : St noB W (w7.setCell ⟨b, 2, none⟩ (.slice (some ⟨g, 0, none⟩) ws.length cw)).drew.drew (WK b (.slice A N cn) m N (out ++ n :: ws) (some ⟨g, 0, none⟩) cw ws ++ [c s]) := s9
          simp -dsimp [go_sem, y, wl, xl, cg, hcw']
          generalize (w7.setCell ⟨b, 2, none⟩ (.slice (some ⟨g, 0, none⟩) ws.length cw)).drew.drew = w9 at s9 ⊢
          obtain ⟨u', rfl⟩ : ∃ u', u = u' + 1 := ⟨u - 1, by have := nodup_len N _ hnd hlt; simp at this; omega⟩
          have hnl : n < l.length := by omega
          have hgd : l.getD n zN = l[n] := by simp [hnl]
          have hout : (out ++ [n]).Nodup ∧ ∀ x ∈ out ++ [n], x < l.length := by
            refine ⟨?_, fun x hx => ?_⟩
            · have := hnd
              rw [show out ++ n :: ws = (out ++ [n]) ++ ws by simp, List.nodup_append] at this
              exact this.1
            · rw [hNe]
              refine hlt x ?_
              simp at hx ⊢; rcases hx with hx | hx
              · exact Or.inl hx
              · exact Or.inr (Or.inl hx)
          have rd : ∀ w', Chg noB W w' → (rSlice rNd).at1 w' B (.slice A l.length cn) l ∧ B ≤ w'.heap.size := fun w' hc => ⟨Rep.below h (hc.below hB fun _ _ => id), by have := hc.size; omega⟩
          have y9 := s9.box 0 rfl
          refine CALL_of (sound_ct (nv := .slice A l.length cn) (by rw [hNe]; exact y9.1.1) y9.2.2 (rd _ s9.chg).1 (rd _ s9.chg).2 hnl) ?_
          rintro _ w10 ⟨rfl, hc10⟩
          have s10 := s9.old hc10
          by_cases hok : okN n l[n]
          · rw [decide_eq_true hok]
            simp -dsimp [go_sem]
            unfold tree_below.b13_1
            obtain ⟨bp, op, vr, ep, hbp, x1, x2, x3, x4, hkr, z1, z2, z3⟩ := nodes_at (rd _ s10.chg).1 hnl
            subst ep
            obtain ⟨Ar, cr, rfl, hr1, hr2, _⟩ := slice_form hkr
            have hvx : rNd.atN w10 B (.agg #[.int .i64 l[n].1, .int .i64 l[n].2.1, .int .i64 l[n].2.2.1, .slice Ar l[n].2.2.2.length cr]) (l.getD n zN) := by
              rw [hgd]
              exact ⟨[.int .i64 l[n].1, .int .i64 l[n].2.1, .int .i64 l[n].2.2.1, .slice Ar l[n].2.2.2.length cr], rfl, [.int .i64 l[n].1], _, rfl, ⟨rfl, z1⟩, [.int .i64 l[n].2.1], _, rfl, ⟨rfl, z2⟩, [.int .i64 l[n].2.2.1], _, rfl, ⟨rfl, z3⟩, hkr⟩
            simp -dsimp [go_sem, hnl, x1, x2, x3, x4]
            refine CALLY_of (hv _ _ 3 s n out _ s10 rfl hlk hout.1 hout.2 (by rw [hgd]; exact hok) hvx) ?_
            have hstep : ∀ s', V s n = some s' → lookP l rt V s0 q = if freshN (n :: (out ++ ws)) (kidsN l[n]) then lookF l rt V u' s' (out ++ [n]) (nextW rt l[n] ws) else none := by
              intro s' hV
              rw [← hl, lookF, hgd, if_pos hok, hV]; rfl
            cases hV : V s n with
            | none =>
              rintro _ w11 ⟨rfl, hc11⟩
              simp -dsimp [go_sem]
              unfold tree_below.b14
              simp -dsimp [go_sem]
              refine (hno w11 s).1 ?_ hc11
              rw [← hl, lookF, hgd, if_pos hok, hV]; rfl
            | some s' =>
              rintro _ w11 ⟨rfl, s11⟩
              have hst := hstep s' hV
              have s11 : St noB W w11 (WK b (.slice (some ⟨bp, op, none⟩) N cn) m N (out ++ n :: ws) (some ⟨g, 0, none⟩) cw ws ++ [c s']) := s11
              simp -dsimp [go_sem]
              unfold tree_below.b14
              simp -dsimp [go_sem]
              unfold tree_below.b12
              obtain ⟨bp', op', vr', ep', hbp', x1', x2', x3', x4', hkr', _⟩ := nodes_at (rd _ s11.chg).1 hnl
              injection ep' with ep'; injection ep' with eb eo; subst eb eo
              obtain ⟨Ar', cr', rfl, hr1', hr2', _⟩ := slice_form hkr'
              have hkl : l[n].2.2.2.length = (kidsN l[n]).length := by simp [kidsN]
              have hkn := kids_nat hok
              simp -dsimp [go_sem, hnl, x4']
              refine CALL_of (CloneI_ct hkr' (rd _ s11.chg).2 (hkd _ (List.getElem_mem hnl))) ?_
              rintro vl w12 ⟨hown, hc12⟩
              obtain ⟨al, cl, rfl⟩ : ∃ a c, vl = .slice a l[n].2.2.2.length c := by
                rcases hown.2 with ⟨e1, e2⟩ | ⟨g, cap, cur, hv, _⟩
                · exact ⟨none, 0, by rw [e1, e2]⟩
                · exact ⟨_, _, hv⟩
              have s12 := s11.seq (St.ofRow hown hc12)
              rw [hkn, hkl] at s12
              rw [hkl]
              have hkN : ∀ k ∈ kidsN l[n], k < N := fun k hk => by have := kids_lt hok k hk; omega
              generalize hks : kidsN l[n] = ks at *
              refine CALLY_of (ho w12 _ 4 cl al ks s12 rfl) ?_
              rintro _ w13 s13
              have hkkl : ks.length = (if rt then ks else ks.reverse).length := by cases rt <;> simp
              have s13 : St noB W w13 (WK b (.slice (some ⟨bp, op, none⟩) N cn) m N (out ++ n :: ws) (some ⟨g, 0, none⟩) cw ws ++ [c s', rowC 3 1 al (if rt then ks else ks.reverse).length cl (natV (if rt then ks else ks.reverse))]) := by
                rw [← hkkl]; exact s13
              rw [hkkl]
              have hmem : ∀ k, k ∈ (if rt then ks else ks.reverse) ↔ k ∈ ks := fun k => by cases rt <;> simp
              have hfr : freshN (out ++ n :: ws) (if rt then ks else ks.reverse) ↔ freshN (n :: (out ++ ws)) ks := by
                rw [fresh_congr (b := n :: (out ++ ws)) (fun i => by simp [or_left_comm])]
                cases rt
                · exact fresh_rev
                · rfl
              have hnx : nextW rt l[n] ws = (if rt then ks else ks.reverse).reverse ++ ws := by
                unfold nextW; rw [hks]; cases rt <;> simp
              rw [hnx] at hst
              generalize (if rt then ks else ks.reverse) = kk at *
              unfold tree_below.b12_1
              refine CALL_of (push_ct s13 (j := 1) (ks := kk) rfl (fun k hk => hkN k ((hmem k).1 hk)) (by omega) (by omega)) ?_
              rintro _ w14 ⟨hc14, rfl, h14⟩
              by_cases hfk : freshN (out ++ n :: ws) kk
              · rw [decide_eq_true hfk]
                obtain ⟨a', cw', s14⟩ := h14 hfk
                simp -dsimp [go_sem]
                rw [if_pos (hfr.1 hfk)] at hst
                have s15 := s14.take 4
                refine hC' _ u' ⟨out ++ [n], kk.reverse ++ ws, a', cw', s', by simp; omega, hst.symm, ?_, ?_, ?_, ?_⟩ (by omega)
                · exact next_nodup hnd hfk
                · intro x hx
                  simp at hx
                  rcases hx with hx | hx | hx | hx
                  · exact hlt x (by simp [hx])
                  · exact hlt x (by simp [hx])
                  · exact hkN x ((hmem x).1 hx)
                  · exact hlt x (by simp [hx])
                · have : looks V s0 (out ++ [n]) = (looks V s0 out).bind fun s => V s n := by simp [looks]
                  rw [this, hlk]; exact hV
                · have e : metV N (out ++ [n] ++ (kk.reverse ++ ws)) = metV N (kk ++ (out ++ n :: ws)) := metV_congr fun x => by
                    simp only [List.mem_append, List.mem_cons, List.mem_reverse, List.not_mem_nil, or_false]
                    constructor
                    · rintro ((h | h) | (h | h)) <;> simp [h]
                    · rintro (h | h | h | h) <;> simp [h]
                  unfold WK
                  rw [e]
                  exact s15
              · rw [decide_eq_false hfk]
                simp -dsimp [go_sem]
                refine (hno w14 s).1 ?_ hc14
                rw [hst, if_neg fun h => hfk (hfr.2 h)]
          · rw [decide_eq_false hok]
            simp -dsimp [go_sem]
            unfold tree_below.b14
            simp -dsimp [go_sem]
            refine (hno w10 s).1 ?_ s10.chg
            rw [← hl, lookF, hgd, if_neg hok]
end Go.Proofs.Ytkacbjhiobnbfaa

/-
  tree: Frontier and Rightmost.
-/
namespace Go.Px.Scan
open Go.Px Go.RowKit
theorem nd_form {w : World} {B : Nat} {vx : Value} {x : Nd} (h : rNd.atN w B vx x) : ∃ A c, vx = .agg #[.int .i64 x.1, .int .i64 x.2.1, .int .i64 x.2.2.1, .slice A x.2.2.2.length c] ∧ (rSlice rInt).at1 w B (.slice A x.2.2.2.length c) x.2.2.2 ∧ inI64 x.1 ∧ inI64 x.2.1 ∧ inI64 x.2.2.1 := by
  obtain ⟨ys, rfl, c1, c2, rfl, ⟨rfl, h1⟩, c3, c4, rfl, ⟨rfl, h2⟩, c5, c6, rfl, ⟨rfl, h3⟩, h4⟩ := h
  obtain ⟨A', k, rfl, h5⟩ := h4
  exact ⟨A', k, rfl, ⟨A', k, rfl, h5⟩, h1, h2, h3⟩
theorem looks_bound {σ : Type} {V : σ → Nat → Option σ} (μ : σ → Nat) {d : Nat} (hs : ∀ s n s', V s n = some s' → μ s' ≤ μ s + d) : ∀ (r : List Nat) (s0 s : σ), looks V s0 r = some s → μ s ≤ μ s0 + d * r.length
  | [], s0, s, h => by
    have : s0 = s := by simpa [looks] using h
    subst this; simp
  | n :: r, s0, s, h => by
    have e : looks V s0 (n :: r) = (V s0 n).bind fun s' => looks V s' r := by
      cases hv : V s0 n with
      | none => simp [looks, hv, looks_none]
      | some s' => simp [looks, hv]
    rw [e] at h
    cases hv : V s0 n with
    | none => rw [hv] at h; cases h
    | some s' =>
      rw [hv] at h
      have h1 := looks_bound μ hs r s' s h
      have h2 := hs _ _ _ hv
      rw [List.length_cons, Nat.mul_succ]; omega
theorem visit_lt {r : List Nat} {n N : Nat} (h : (r ++ [n]).Nodup) (hl : ∀ x ∈ r ++ [n], x < N) : r.length + 1 ≤ N := by
  have := nodup_len N _ h hl
  simpa using this
def intV (l : List Int) : List Value := l.map fun k => .int .i64 k
theorem intV_append (a b : List Int) : intV (a ++ b) = intV a ++ intV b := by simp [intV]
/-- A list that grows in a variable. -/
def growC (b : Nat) (s : List Int) : Ch := Ch.ex fun x : Option Addr × Nat => Ch.all [boxC b 24 [.slice x.1 s.length x.2], rowC 3 1 x.1 s.length x.2 (intV s)]
def frV (l : List Nd) (s : List Int) (n : Nat) : Option (List Int) := some (if (l.getD n zN).2.1 < 0 then s ++ [(l.getD n zN).1] else s)
def rmV (l : List Nd) (s : List Int) (n : Nat) : Option (List Int) := some (if 0 ≤ (l.getD n zN).2.1 then s ++ [(l.getD n zN).2.1] else s)
theorem frV_len {l : List Nd} (s : List Int) (n : Nat) (s' : List Int) (h : frV l s n = some s') : s'.length ≤ s.length + 1 := by
  unfold frV at h; injection h with h; subst h; split <;> simp
theorem rmV_len {l : List Nd} (s : List Int) (n : Nat) (s' : List Int) (h : rmV l s n = some s') : s'.length ≤ s.length + 1 := by
  unfold rmV at h; injection h with h; subst h; split <;> simp
end Go.Px.Scan
namespace Go.Proofs.Ytkacbjhiobnbfaa
open Go.Px Go.Px.Scan Go.RowKit
set_option maxHeartbeats 1000000
set_option linter.unusedSimpArgs false
set_option linter.unusedVariables false
set_option maxRecDepth 100000
attribute [-go_sem] Builtin.append_

theorem Frontier1_ok {W : World} {B ob : Nat} {l : List Nd} (hN : l.length ≤ 3000000000000) : VisOk W B l (growC ob) (frV l) [] tree_Frontier_1.id [.pointer (some ⟨ob, 0, none⟩)] := by
  intro w L k s n r vx st hk hlk hnd hlt hok hvx
  obtain ⟨A, c, rfl, hkr, z1, z2, z3⟩ := nd_form hvx
  have hsl : s.length ≤ 0 + 1 * r.length := looks_bound (fun s => s.length) frV_len r _ _ hlk
  have hrl := visit_lt hnd hlt
  obtain ⟨F, ⟨a, cw⟩, si, hch, hback⟩ := st.inEx hk
  refine tree_Frontier_1.ct fun R hR => ?_
  unfold frV at hR
  simp only at hR
  generalize hx : l.getD n zN = x at *
  obtain ⟨sy, pr, tk, ks⟩ := x
  have s1 := si.alloc #[.int .i64 sy, .int .i64 pr, .int .i64 tk, .slice A ks.length c] 61
  unfold tree_Frontier_1.run
  simp -dsimp [go_sem]
  refine SPL_intro (fun p1 => ?_) (fun p1 => ?_) <;> simp at p1
  · generalize w.heap.size = q at s1 ⊢
    generalize w.alloc (.cells #[.int .i64 sy, .int .i64 pr, .int .i64 tk, .slice A ks.length c] 61) = w1 at s1 ⊢
    have y1 := s1.box 0 rfl
    have u1 := s1.box 2 rfl
    simp [boxAt] at y1 u1
    simp -dsimp [go_sem, y1, u1]
    refine s1.append1 1 rfl Try.underlying24 iInt' rfl (by omega) (news := [Value.int .i64 sy]) rfl (by simp [Value.oneCell']) (by unfold maxLen; omega) (by unfold maxBytes; omega) fun g2 cap w3 s3 => ?_
    have s4 := s3.set 0 rfl 0 (.slice (some ⟨g2, 0, none⟩) (s.length + 1) cap)
    have y3 := s3.box 0 rfl
    simp [boxAt] at y3
    simp -dsimp [go_sem, y3]
    refine hR _ _ ⟨rfl, ?_⟩
    rw [if_pos p1]
    have s5 := s4.take 2
    refine hback _ (fun x => [boxC ob 24 [.slice x.1 (s ++ [sy]).length x.2], rowC 3 1 x.1 (s ++ [sy]).length x.2 (intV (s ++ [sy]))]) (some ⟨g2, 0, none⟩, cap) ?_
    rw [intV_append, List.length_append]
    exact s5
  · refine hR _ _ ⟨rfl, ?_⟩
    rw [if_neg (show ¬ pr < 0 by omega)]
    exact hback _ _ (a, cw) (s1.take 2)
theorem Rightmost1_ok {W : World} {B ob : Nat} {l : List Nd} (hN : l.length ≤ 3000000000000) : VisOk W B l (growC ob) (rmV l) [] tree_Rightmost_1.id [.pointer (some ⟨ob, 0, none⟩)] := by
  intro w L k s n r vx st hk hlk hnd hlt hok hvx
  obtain ⟨A, c, rfl, hkr, z1, z2, z3⟩ := nd_form hvx
  have hsl : s.length ≤ 0 + 1 * r.length := looks_bound (fun s => s.length) rmV_len r _ _ hlk
  have hrl := visit_lt hnd hlt
  obtain ⟨F, ⟨a, cw⟩, si, hch, hback⟩ := st.inEx hk
  refine tree_Rightmost_1.ct fun R hR => ?_
  unfold rmV at hR
  simp only at hR
  generalize hx : l.getD n zN = x at *
  obtain ⟨sy, pr, tk, ks⟩ := x
  have s1 := si.alloc #[.int .i64 sy, .int .i64 pr, .int .i64 tk, .slice A ks.length c] 61
  unfold tree_Rightmost_1.run
  simp -dsimp [go_sem]
  refine SPL_intro (fun p1 => ?_) (fun p1 => ?_) <;> simp at p1
  · generalize w.heap.size = q at s1 ⊢
    generalize w.alloc (.cells #[.int .i64 sy, .int .i64 pr, .int .i64 tk, .slice A ks.length c] 61) = w1 at s1 ⊢
    have y1 := s1.box 0 rfl
    have u1 := s1.box 2 rfl
    simp [boxAt] at y1 u1
    simp -dsimp [go_sem, y1, u1]
    refine s1.append1 1 rfl Try.underlying24 iInt' rfl (by omega) (news := [Value.int .i64 pr]) rfl (by simp [Value.oneCell']) (by unfold maxLen; omega) (by unfold maxBytes; omega) fun g2 cap w3 s3 => ?_
    have s4 := s3.set 0 rfl 0 (.slice (some ⟨g2, 0, none⟩) (s.length + 1) cap)
    have y3 := s3.box 0 rfl
    simp [boxAt] at y3
    simp -dsimp [go_sem, y3]
    refine hR _ _ ⟨rfl, ?_⟩
    rw [if_pos p1]
    have s5 := s4.take 2
    refine hback _ (fun x => [boxC ob 24 [.slice x.1 (s ++ [pr]).length x.2], rowC 3 1 x.1 (s ++ [pr]).length x.2 (intV (s ++ [pr]))]) (some ⟨g2, 0, none⟩, cap) ?_
    rw [intV_append, List.length_append]
    exact s5
  · refine hR _ _ ⟨rfl, ?_⟩
    rw [if_neg (show ¬ 0 ≤ pr by omega)]
    exact hback _ _ (a, cw) (s1.take 2)

theorem Frontier_ct {w : World} {B : Nat} {nv : Value} {l : List Nd} {root : Int} (h : (rSlice rNd).at1 w B nv l) (hB : B ≤ w.heap.size) (hN : l.length ≤ 3000000000000) (hkd : ∀ x ∈ l, x.2.2.2.length * 8 ≤ maxBytes) (hr : inI64 root) :
    Ct Try.prog tree_Frontier.id #[nv, .int .i64 root] w fun v w' => match lookP l false (frV l) [] root with
      | some r => ∃ a c, v = .tuple #[.slice a r.length c, .int .i64 0] ∧ St noB w w' [rowC 3 1 a r.length c (intV r)]
      | none => v = .tuple #[.slice none 0 0, .int .i64 1] ∧ Chg noB w w' := by
  refine tree_Frontier.ct fun R hR => ?_
  have s1 := ((St.refl noB w).alloc #[.slice none 0 0] 24).nilRow 3 1
  unfold tree_Frontier.run
  simp -dsimp [go_sem]
  generalize w.heap.size = q at s1 ⊢
  generalize hw1 : w.alloc (.cells #[.slice none 0 0] 24) = w1 at s1 ⊢
  have s2 : St noB w w1 [growC q []] := St.pack (f := fun x : Option Addr × Nat => [boxC q 24 [.slice x.1 ([] : List Int).length x.2], rowC 3 1 x.1 ([] : List Int).length x.2 (intV [])]) (none, 0) s1
  refine CALL_of (below_ct (ca := #[.pointer (some ⟨q, 0, none⟩)]) h hB hN hkd s2 (left_ok w) (Frontier1_ok hN) hr) ?_
  intro v w3 hp
  cases hl : lookP l false (frV l) [] root with
  | none =>
    rw [hl] at hp hR
    obtain ⟨rfl, hc3⟩ := hp
    simp -dsimp [go_sem]
    exact hR _ _ ⟨rfl, hc3⟩
  | some r =>
    rw [hl] at hp hR
    obtain ⟨rfl, s3⟩ := hp
    obtain ⟨⟨a, c⟩, s4⟩ := s3.unpack
    have y4 := s4.box 0 rfl
    simp [boxAt] at y4
    simp -dsimp [go_sem, y4]
    exact hR _ _ ⟨a, c, rfl, s4.pick [1] (by decide) rfl⟩

theorem Rightmost_ct {w : World} {B : Nat} {nv : Value} {l : List Nd} {root : Int} (h : (rSlice rNd).at1 w B nv l) (hB : B ≤ w.heap.size) (hN : l.length ≤ 3000000000000) (hkd : ∀ x ∈ l, x.2.2.2.length * 8 ≤ maxBytes) (hr : inI64 root) :
    Ct Try.prog tree_Rightmost.id #[nv, .int .i64 root] w fun v w' => match lookP l true (rmV l) [] root with
      | some r => ∃ a c, v = .tuple #[.slice a r.length c, .int .i64 0] ∧ St noB w w' [rowC 3 1 a r.length c (intV r)]
      | none => v = .tuple #[.slice none 0 0, .int .i64 1] ∧ Chg noB w w' := by
  refine tree_Rightmost.ct fun R hR => ?_
  have s1 := ((St.refl noB w).alloc #[.slice none 0 0] 24).nilRow 3 1
  unfold tree_Rightmost.run
  simp -dsimp [go_sem]
  generalize w.heap.size = q at s1 ⊢
  generalize hw1 : w.alloc (.cells #[.slice none 0 0] 24) = w1 at s1 ⊢
  have s2 : St noB w w1 [growC q []] := St.pack (f := fun x : Option Addr × Nat => [boxC q 24 [.slice x.1 ([] : List Int).length x.2], rowC 3 1 x.1 ([] : List Int).length x.2 (intV [])]) (none, 0) s1
  refine CALL_of (below_ct (ca := #[.pointer (some ⟨q, 0, none⟩)]) h hB hN hkd s2 (right_ok w) (Rightmost1_ok hN) hr) ?_
  intro v w3 hp
  cases hl : lookP l true (rmV l) [] root with
  | none =>
    rw [hl] at hp hR
    obtain ⟨rfl, hc3⟩ := hp
    simp -dsimp [go_sem]
    exact hR _ _ ⟨rfl, hc3⟩
  | some r =>
    rw [hl] at hp hR
    obtain ⟨rfl, s3⟩ := hp
    obtain ⟨⟨a, c⟩, s4⟩ := s3.unpack
    have y4 := s4.box 0 rfl
    simp [boxAt] at y4
    simp -dsimp [go_sem, y4]
    exact hR _ _ ⟨a, c, rfl, s4.pick [1] (by decide) rfl⟩
end Go.Proofs.Ytkacbjhiobnbfaa

/-
  The document's trees: lists alike, nodes alike, a copy.
-/
namespace Go.Px.Scan
open Go.Px Go.RowKit
def cNdI (x : Int) : List Value := [.int .i64 x]
def cNd (p : Nd × Value) : List Value := [.int .i64 p.1.1, .int .i64 p.1.2.1, .int .i64 p.1.2.2.1, p.2]
/-- Numbers that a machine's int has. -/
def ndIn (l : List Nd) : Prop := ∀ x ∈ l, inI64 x.1 ∧ inI64 x.2.1 ∧ inI64 x.2.2.1 ∧ ∀ k ∈ x.2.2.2, inI64 k
theorem ndIn_of {w : World} {B : Nat} {v : Value} {l : List Nd} (h : (rSlice rNd).at1 w B v l) : ndIn l := by
  intro x hx
  obtain ⟨i, hi, rfl⟩ := List.getElem_of_mem hx
  obtain ⟨A, c, rfl, _⟩ := slice_form h
  obtain ⟨b, o, v, _, _, _, _, _, _, hr, h1, h2, h3⟩ := nodes_at h hi
  refine ⟨h1, h2, h3, fun k hk => ?_⟩
  obtain ⟨j, hj, rfl⟩ := List.getElem_of_mem hk
  obtain ⟨A', c', rfl, _⟩ := slice_form hr
  obtain ⟨_, _, _, _, _, q⟩ := Go.Px.ints_at hr hj
  exact q
/-- Nodes in memory of their own. -/
def ndC (a : Option Addr) (c : Nat) (vs : List Value) (l : List Nd) : List Ch := [rowC 61 4 a l.length c ((l.zip vs).flatMap cNd), rowsC 3 1 vs (l.map fun x => x.2.2.2.flatMap cNdI)]
theorem cNdI_flat (l : List Int) : l.flatMap cNdI = l.map (.int .i64 ·) := by induction l with
  | nil => rfl
  | cons x r ih => rw [List.flatMap_cons, ih]; rfl
theorem ndC_rd {w : World} {B : Nat} {a : Option Addr} {c : Nat} {vs : List Value} {l : List Nd} {F F' : Nat → Prop} (h1 : (rowC 61 4 a l.length c ((l.zip vs).flatMap cNd)).ok w F) (h2 : (rowsC 3 1 vs (l.map fun x => x.2.2.2.flatMap cNdI)).ok w F') (hl : ndIn l) (hB : w.heap.size ≤ B) :
    (rSlice rNd).at1 w B (.slice a l.length c) l := by
  have hvs : vs.length = l.length := by have := h2.1; simpa using this
  refine row_reads (r := rNd) (enc := cNd) (m := l.zip vs) h1 (fun _ _ => rfl) (by decide) (by simp [hvs]) rfl (fun i x y hx hy => ?_) hB
  obtain ⟨hi, rfl⟩ := List.getElem?_eq_some_iff.1 hy
  obtain ⟨hx1, hx2⟩ := List.getElem?_zip_eq_some.1 hx
  rw [hy] at hx1
  injection hx1 with hx1
  obtain ⟨q1, q2, q3, q4⟩ := hl _ (List.getElem_mem hi)
  obtain ⟨a', n', c', hv', hrow⟩ := h2.2 i x.2 _ hx2 (by rw [List.getElem?_map, List.getElem?_eq_getElem hi]; rfl)
  have hn' : n' = l[i].2.2.2.length := by
    have := (row_size hrow).1
    dsimp only at this
    rw [cNdI_flat, List.length_map] at this; omega
  subst hn'
  have hrd := row_reads (r := rInt) (B := B) hrow (fun _ _ => rfl) (by decide) rfl rfl (fun j x y hx hy => by
    rw [hx] at hy; injection hy with hy; subst hy
    exact ⟨rfl, q4 _ (List.mem_of_getElem? hx)⟩) hB
  rw [← hv'] at hrd
  refine ⟨[.int .i64 l[i].1], [.int .i64 l[i].2.1, .int .i64 l[i].2.2.1, x.2], by simp only [cNd, ← hx1]; rfl, ⟨rfl, q1⟩, [.int .i64 l[i].2.1], [.int .i64 l[i].2.2.1, x.2], rfl, ⟨rfl, q2⟩, [.int .i64 l[i].2.2.1], [x.2], rfl, ⟨rfl, q3⟩, hrd⟩
end Go.Px.Scan
namespace Go.Proofs.Ytkacbjhiobnbfaa
open Go.Px Go.Px.Scan Go.RowKit
set_option maxHeartbeats 1000000
set_option linter.unusedSimpArgs false
set_option linter.unusedVariables false
set_option maxRecDepth 100000
attribute [-go_sem] Builtin.append_

theorem Ints_ct {w : World} {B : Nat} {va vb : Value} {a b : List Int} (ha : (rSlice rInt).at1 w B va a) (hb : (rSlice rInt).at1 w B vb b) (hB : B ≤ w.heap.size) :
    Ct Try.prog ref01_Ints.id #[va, vb] w fun v w' => v = .bool (decide (a = b)) ∧ Chg noB w w' := by
  obtain ⟨A1, c1, rfl, hl1, hm1, _⟩ := slice_form ha
  obtain ⟨A2, c2, rfl, hl2, hm2, _⟩ := slice_form hb
  refine ref01_Ints.ct fun R hR => ?_
  unfold ref01_Ints.run
  simp -dsimp [go_sem]
  refine SPL_intro (fun h => ?_) (fun h => ?_) <;> simp at h
  · exact hR _ _ ⟨by rw [decide_eq_false]; rintro rfl; exact h rfl, Chg.refl _ _⟩
  have hlen : a.length = b.length := by omega
  simp -dsimp [go_sem]
  refine ref01_Ints.l6_intro _ _ _ _ _ (fun x w1 => ∃ k : Nat, x = .int .i64 k ∧ k ≤ a.length ∧ a.take k = b.take k ∧ Chg noB w w1) (fun x _ => a.length - iv x) ⟨0, rfl, by omega, rfl, Chg.refl _ _⟩ ?_
  rintro _ w1 ⟨k, rfl, hk, hall, hbw⟩ C hC
  simp -dsimp [go_sem]
  refine SPL_intro (fun h => ?_) (fun h => ?_) <;> simp at h
  · have hka : k < a.length := h
    have hkb : k < b.length := by omega
    have bl : Below B w w1 := hbw.below hB fun _ _ => id
    obtain ⟨b1, o1, rfl, hb1, hc1, hr1⟩ := Go.Px.ints_at (Rep.below ha bl) hka
    obtain ⟨b2, o2, rfl, hb2, hc2, hr2⟩ := Go.Px.ints_at (Rep.below hb bl) hkb
    have wk := wrap_succ hka (Nat.le_trans hl1 hm1)
    simp -dsimp [go_sem, hka, hkb, hc1, hc2]
    refine SPL_intro (fun h => ?_) (fun h => ?_) <;> simp at h
    · exact hR _ _ ⟨by rw [decide_eq_false]; rintro rfl; exact h rfl, hbw.drew⟩
    · simp -dsimp [go_sem, wk]
      refine hC _ _ ⟨k + 1, by simp, by omega, ?_, hbw.drew⟩ (by simp [iv]; omega)
      rw [List.take_succ_eq_append_getElem hka, List.take_succ_eq_append_getElem hkb, hall, h]
  · have hka : k = a.length := by omega
    simp -dsimp [go_sem]
    refine hR _ _ ⟨?_, hbw⟩
    rw [hka, List.take_length, hlen, List.take_length] at hall
    rw [decide_eq_true hall]

theorem uNds : Try.prog.underlying 49 = some (.slice 61) := Try.underlying49
theorem iNd : (Try.prog.info? 61).map (fun i => (i.zero, i.size, i.bytes)) = some (some (.agg #[.int .i64 0, .int .i64 0, .int .i64 0, .slice none 0 0]), 4, 48) := by kernel_rfl
attribute [-go_sem] ref20_Copy.b7_1
theorem refNdCopy_ct {w : World} {B : Nat} {nv : Value} {l : List Nd} (h : (rSlice rNd).at1 w B nv l) (hB : B ≤ w.heap.size) (hN : l.length * 48 ≤ maxBytes) (hkd : ∀ x ∈ l, x.2.2.2.length * 8 ≤ maxBytes) :
    Ct Try.prog ref20_Copy.id #[nv] w fun v w' => ∃ a c vs, v = .slice a l.length c ∧ St noB w w' (ndC a c vs l) := by
  refine ref20_Copy.ct fun R hR => ?_
  obtain ⟨A, c, rfl, hl1, hl2, _⟩ := slice_form h
  have hln : l.length ≤ 3000000000000 := by unfold maxBytes at hN; omega
  unfold ref20_Copy.run
  simp -dsimp [go_sem]
  have s0 : St noB w w [rowC 61 4 none 0 0 ([] : List Value), rowsC 3 1 [] []] := ((St.refl noB w).nilRow 61 4).push (c := rowsC 3 1 [] []) ⟨rfl, fun i v xs h => by simp at h⟩
  refine ref20_Copy.l6_intro _ _ _ _ _ (fun y z w' => ∃ (k : Nat) (a : Option Addr) (ca : Nat) (vs : List Value), y = .slice a k ca ∧ z = .int .i64 k ∧ k ≤ l.length ∧ St noB w w' [rowC 61 4 a k ca (((l.take k).zip vs).flatMap cNd), rowsC 3 1 vs ((l.take k).map fun x => x.2.2.2.flatMap cNdI)]) (fun _ z _ => l.length - iv z) ⟨0, none, 0, [], rfl, rfl, by omega, s0⟩ ?_
  rintro _ _ w1 ⟨k, a, ca, vs, rfl, rfl, hk, s1⟩ C hC
  simp -dsimp [go_sem]
  refine SPL_intro (fun p1 => ?_) (fun p1 => ?_) <;> simp at p1
  · have wk := wrap_succ p1 (by omega)
    have hvs : vs.length = k := by
      obtain ⟨F, ho, _⟩ := s1.get (k := 1) rfl
      have := ho.1; simp at this; omega
    obtain ⟨bp, op, vr, ep, hbp, x1, x2, x3, x4, hr, z1, z2, z3⟩ := nodes_at (Rep.below h (s1.chg.below hB fun _ _ => id)) p1
    subst ep
    obtain ⟨Ar, cr, rfl, hr1, hr2, _⟩ := slice_form hr
    have hk8 := hkd _ (List.getElem_mem p1)
    have htk : l.take (k + 1) = l.take k ++ [l[k]] := List.take_succ_eq_append_getElem p1
    obtain ⟨x, hx⟩ : ∃ x, l[k] = x := ⟨_, rfl⟩
    rw [hx] at x1 x2 x3 x4 hr hr1 hk8 htk
    have hbp1 : bp < w1.heap.size := by have := s1.chg.size; omega
    unfold ref20_Copy.b7_1
    obtain ⟨q, hq⟩ : ∃ q, w1.heap.size = q := ⟨_, rfl⟩
    have s2 := s1.alloc #[.int .i64 x.1, .int .i64 x.2.1, .int .i64 x.2.2.1, .slice Ar x.2.2.2.length cr] 61
    rw [hq] at s2
    have hq2 : (w1.alloc (.cells #[.int .i64 x.1, .int .i64 x.2.1, .int .i64 x.2.2.1, .slice Ar x.2.2.2.length cr] 61)).heap.size = q + 1 := by simp [hq]
    have s3 := s2.lit 3 1 0 #[] (by simp) (by simp)
    rw [hq2] at s3
    have c3 : Chg noB w1 ((w1.alloc (.cells #[.int .i64 x.1, .int .i64 x.2.1, .int .i64 x.2.2.1, .slice Ar x.2.2.2.length cr] 61)).alloc (.cells #[] 3)) := ((Chg.refl noB w1).alloc _).alloc _
    have x4' := (c3.cell (p := ⟨bp, op + k * 4 + 3, none⟩) hbp1 id).trans x4
    have hqh : (w1.alloc (.cells #[.int .i64 x.1, .int .i64 x.2.1, .int .i64 x.2.2.1, .slice Ar x.2.2.2.length cr] 61)).heap[q]? = some (.cells #[.int .i64 x.1, .int .i64 x.2.1, .int .i64 x.2.2.1, .slice Ar x.2.2.2.length cr] 61 (0, 0)) := by rw [← hq]; exact World.alloc_heap_new w1 _
    simp -dsimp [go_sem, p1, x1, x2, x3, x4, hq, hq2, x4']
    generalize (w1.alloc (.cells #[.int .i64 x.1, .int .i64 x.2.1, .int .i64 x.2.2.1, .slice Ar x.2.2.2.length cr] 61)).alloc (.cells #[] 3) = w3 at s3 c3 ⊢
    refine s3.appendRd (r := rInt) (enc := cNdI) 3 rfl uInts iInt rfl (by decide) (Rep.below hr (c3.below (by have := s1.chg.size; omega) fun _ _ => id)) (fun h _ => h.1) (fun x _ u hu => by simp [cNdI] at hu; subst hu; rfl) (fun _ _ => rfl) (by unfold maxLen; unfold maxBytes at hk8; omega) (by omega) ?_
    intro a5 c5 w5 s5
    rw [Nat.zero_add] at s5 ⊢
    have y5 := s5.box 2 rfl
    simp [boxAt] at y5
    have s6 := s5.set 2 rfl 3 (.slice a5 x.2.2.2.length c5)
    have y6 := s6.box 2 rfl
    simp [boxAt] at y6
    simp -dsimp [go_sem, y5, y6]
    have hsz6 : (w5.setCell ⟨q, 3, none⟩ (.slice a5 x.2.2.2.length c5)).heap.size = w5.heap.size := by simp
    rw [← hsz6]
    generalize w5.setCell ⟨q, 3, none⟩ (.slice a5 x.2.2.2.length c5) = w6 at s6 ⊢
    refine s6.append1 0 rfl uNds iNd rfl (by omega) (news := [.int .i64 x.1, .int .i64 x.2.1, .int .i64 x.2.2.1, .slice a5 x.2.2.2.length c5]) rfl (by simp [Value.oneCell']) (by unfold maxLen; omega) (by omega) ?_
    intro g' cap w7 s7
    simp -dsimp [go_sem, wk]
    have s8 := s7.merge (j := 3) (k := 1) rfl rfl (by omega) (e := rowsC 3 1 (vs ++ [.slice a5 x.2.2.2.length c5]) (((l.take k).map fun x => x.2.2.2.flatMap cNdI) ++ [x.2.2.2.flatMap cNdI])) fun F F' h1 h2 => rowsC_snoc (size := 1) h1 h2
    have e2 : (((l.take (k + 1)).zip (vs ++ [.slice a5 x.2.2.2.length c5])).flatMap cNd) = (((l.take k).zip vs).flatMap cNd) ++ [.int .i64 x.1, .int .i64 x.2.1, .int .i64 x.2.2.1, .slice a5 x.2.2.2.length c5] := by
      rw [htk, List.zip_append (by simp [hvs]; omega), List.flatMap_append]
      simp [cNd]
    have e3 : ((l.take (k + 1)).map fun x => x.2.2.2.flatMap cNdI) = ((l.take k).map fun x => x.2.2.2.flatMap cNdI) ++ [x.2.2.2.flatMap cNdI] := by rw [htk, List.map_append]; rfl
    refine hC _ _ _ ⟨k + 1, some ⟨g', 0, none⟩, cap, vs ++ [.slice a5 x.2.2.2.length c5], rfl, by simp, by omega, ?_⟩ (by simp [iv]; omega)
    have := s8.take 2
    rw [← e2, ← e3] at this
    exact this
  · have hkl : k = l.length := by omega
    subst hkl
    simp -dsimp [go_sem]
    rw [List.take_length] at s1
    exact hR _ _ ⟨a, ca, vs, rfl, s1⟩
/-- A copy reads as the nodes do. -/
theorem ndC_at {G : Nat → Prop} {W w : World} {L : List Ch} {a : Option Addr} {c : Nat} {vs : List Value} {l : List Nd} (h : St G W w L) (k j : Nat) (hk : L[k]? = some (rowC 61 4 a l.length c ((l.zip vs).flatMap cNd))) (hj : L[j]? = some (rowsC 3 1 vs (l.map fun x => x.2.2.2.flatMap cNdI))) (hl : ndIn l) :
    (rSlice rNd).at1 w w.heap.size (.slice a l.length c) l := by
  obtain ⟨F, h1, _⟩ := h.get hk
  obtain ⟨F', h2, _⟩ := h.get hj
  exact ndC_rd h1 h2 hl (Nat.le_refl _)
end Go.Proofs.Ytkacbjhiobnbfaa

/-
  The document's answer for reach: Fits, Marks.
-/
namespace Go.Px.Scan
open Go.Px
/-- Is a symbol marked? -/
def okS (nT : Int) (ms : List Bool) (s : Int) : Bool := decide (s < nT) || ms.getD (s - nT).toNat false
def boolV (ms : List Bool) : List Value := ms.map Value.bool
theorem boolV_len (ms : List Bool) : (boolV ms).length = ms.length := by simp [boolV]
end Go.Px.Scan
namespace Go.Proofs.Ytkacbjhiobnbfaa
open Go.Px Go.Px.Scan Go.RowKit
set_option maxHeartbeats 1000000
set_option linter.unusedSimpArgs false
set_option linter.unusedVariables false
set_option maxRecDepth 100000
attribute [-go_sem] Builtin.append_ ref06_Fits.b12 ref06_Fits.b3

theorem Fits_ct {G : Nat → Prop} {W w : World} {L : List Ch} (s : St G W w L) {k m N : Nat} {ms : List Bool} (hN : ms.length = N) (hk : L[k]? = some (rowC 4 1 (some ⟨m, 0, none⟩) N N (boolV ms)))
    {B : Nat} {vg vr : Value} {g : Gr} {row : List Int} (hg : rGram.atN w B vg g) (hrow : (rSlice rInt).at1 w B vr row) (hB : B ≤ w.heap.size) (hT : g.terms.length ≤ 65) (hms : ∀ x ∈ row, x < g.terms.length + ms.length) :
    Ct Try.prog ref06_Fits.id #[vg, .slice (some ⟨m, 0, none⟩) N N, vr] w fun v w' => v = .bool (row.all (okS g.terms.length ms)) ∧ Chg noB w w' := by
  subst hN
  refine ref06_Fits.ct fun R hR => ?_
  obtain ⟨A1, c1, A2, c2, A3, c3, A4, c4, rfl, ⟨m1, m2, m3, m4⟩, hst, hc0, hgr⟩ := box_all hg hB
  obtain ⟨A, c, rfl, hl, hm, _⟩ := slice_form hrow
  have hmm := (s.rowSize k hk).2.2
  unfold ref06_Fits.run
  simp -dsimp [go_sem]
  have s1 := s.alloc #[.slice A1 g.terms.length c1, .slice A2 g.nons.length c2, .slice A3 g.levels.length c3, .int .i64 g.start, .slice A4 g.prods.length c4] 27
  have hkl := (List.getElem?_eq_some_iff.1 hk).1
  generalize w.alloc (.cells #[.slice A1 g.terms.length c1, .slice A2 g.nons.length c2, .slice A3 g.levels.length c3, .int .i64 g.start, .slice A4 g.prods.length c4] 27) = w1 at s1 hc0 hgr ⊢
  generalize w.heap.size = q at s1 hgr ⊢
  refine ref06_Fits.l6_intro _ _ _ _ _ _ (fun y w' => ∃ i : Nat, y = .int .i64 i ∧ i ≤ row.length ∧ (row.take i).all (okS g.terms.length ms) = true ∧ Chg noB w1 w') (fun y _ => row.length - iv y) ⟨0, rfl, by omega, by simp, Chg.refl _ _⟩ ?_
  rintro _ w2 ⟨i, rfl, hi, hall, hc2⟩ C hC
  have hg2 := hgr w2 hc2
  have y2 := hg2.k
  simp -dsimp [go_sem]
  refine SPL_intro (fun p1 => ?_) (fun p1 => ?_) <;> simp at p1
  · have wi : IntKind.i64.wrap ((i : Int) + 1) = (i : Int) + 1 := wrap_succ p1 (by omega)
    obtain ⟨b, o, rfl, hb, ck, hin⟩ := Go.Px.ints_at (Rep.below hrow ((hc0.trans hc2).below hB fun _ _ => id)) p1
    have et : row.take (i + 1) = row.take i ++ [row[i]] := List.take_succ_eq_append_getElem p1
    have hx := hms row[i] (List.getElem_mem p1)
    have hd : Chg noB w2 w2.drew := (Chg.refl _ _).drew
    simp -dsimp [go_sem, p1, ck, y2]
    refine SPL_intro (fun p2 => ?_) (fun p2 => ?_) <;> simp at p2
    · obtain ⟨j, hj⟩ : ∃ j : Nat, row[i] - (g.terms.length : Int) = j := ⟨(row[i] - (g.terms.length : Int)).toNat, by omega⟩
      have hjl : j < ms.length := by omega
      have wj : IntKind.i64.wrap (row[i] - (g.terms.length : Int)) = (j : Int) := by rw [hj]; exact IntWalk.i64_in _ (by unfold maxLen at hmm; omega)
      have s2 := (s1.old hc2)
      obtain ⟨gm, em, cm, fm⟩ := s2.rowAt k (by rw [List.getElem?_append_left hkl]; exact hk) (j := j) (by rw [boolV_len]; exact hjl)
      injection em with em; injection em with em; subst em
      have cmv : (boolV ms)[j]'(by rw [boolV_len]; exact hjl) = .bool ms[j] := by simp [boolV]
      rw [cmv] at cm
      have hok : okS g.terms.length ms row[i] = ms[j] := by
        unfold okS
        rw [decide_eq_false (by omega), hj, Bool.false_or, Int.toNat_natCast, List.getD_eq_getElem?_getD, List.getElem?_eq_getElem hjl]; rfl
      simp -dsimp [go_sem, p1, ck, y2, wj, hjl, cm]
      unfold ref06_Fits.b12
      cases hb : ms[j] with
      | true =>
        simp -dsimp [go_sem, wi]
        exact hC _ _ ⟨i + 1, by simp, by omega, by rw [et, List.all_append, hall]; simp [hok, hb], hc2.trans hd⟩ (by simp [iv]; omega)
      | false =>
        simp -dsimp [go_sem, wi]
        refine hR _ _ ⟨?_, (hc0.trans hc2).trans hd⟩
        congr 1
        symm
        rw [List.all_eq_false]
        exact ⟨_, List.getElem_mem p1, by rw [hok, hb]; simp⟩
    · have hok : okS g.terms.length ms row[i] = true := by unfold okS; rw [decide_eq_true (by omega)]; rfl
      unfold ref06_Fits.b12
      simp -dsimp [go_sem, wi]
      exact hC _ _ ⟨i + 1, by simp, by omega, by rw [et, List.all_append, hall]; simp [hok], hc2.trans hd⟩ (by simp [iv]; omega)
  · have : i = row.length := by omega
    subst this
    rw [List.take_length] at hall
    unfold ref06_Fits.b3
    exact hR _ _ ⟨by rw [hall], hc0.trans hc2⟩
end Go.Proofs.Ytkacbjhiobnbfaa
