/-
  scan.first, scan.IsName.
-/
import Derived.Test.YtgjifldciinehaaDoorSc10
import Derived.RangeFuncNested
import Derived.RangeFuncBound
import Derived.RangeFuncCalls
import Derived.RangeFuncLeaves
import Derived.Shelf.Abstract
import Derived.Shelf.RegionOpen
import Derived.WalkKit
import Derived.OwnWalkIn
import Derived.TacticsInMore
import Derived.LoopNIn
import Derived.LoopIn
namespace Go.Proofs.YtgjifldciinehaaDoor
open Go.Px Go.Px.Scan Go.RowKit Go.Shelf
set_option maxHeartbeats 1000000
set_option linter.unusedSimpArgs false
attribute [local go_sem] Oper.semAt_some

/-- What 'Each' goes over. -/
def short (s : ByteArray) : ByteArray := if 8192 < s.size then ⟨#[]⟩ else s
theorem short_le {s : ByteArray} : (short s).size ≤ maxLen := by
  unfold short; split
  · decide
  · unfold maxLen; omega

theorem Each_ct (s : ByteArray) (w : World) : Ct Tryd.prog scan_Each.id #[.string s] w fun v w' => v = .func (.func scan_Each_1.id) #[] #[.pointer (some ⟨w.heap.size, 0, none⟩)] ∧ w.alloc (.cells #[.string (short s)] 9) = w' := by
  refine scan_Each.ct fun R hR => ?_
  unfold scan_Each.run scan_Each.b1
  simp [go_sem]
  refine SPL_intro (fun h => ?_) (fun h => ?_) <;> simp at h
  · have h' : 8192 < s.size := by omega
    simp [go_sem]
    unfold scan_Each.b2
    simp [go_sem]
    refine hR _ _ ⟨rfl, ?_⟩
    unfold short; rw [if_pos h']
  · have h' : ¬ 8192 < s.size := by omega
    unfold scan_Each.b2
    simp [go_sem]
    refine hR _ _ ⟨rfl, ?_⟩
    unfold short; rw [if_neg h']

/-- The first word, or none. -/
def firstS (s : ByteArray) : Wd := ((allS (short s) 0).1[0]?).getD (0, ⟨#[]⟩, 0)

theorem Each_calls (s : ByteArray) (w : World) : CallsIn Fence.wide 2 Tryd.prog 13 #[.string s] w fun e w' => e = .returned (.func (.func 24) #[] #[.pointer (some ⟨w.heap.size, 0, none⟩)]) ∧ w' = w.alloc (.cells #[.string (short s)] 9) :=
  callsIn_wide.2 ((Each_ct s w).2.mono fun e w' he => by
    cases e with
    | returned v => exact ⟨by rw [he.1], he.2.symm⟩
    | _ => exact he.elim)

theorem first_end {s : ByteArray} {w W : World} {q D : Nat} {t5 t6 : Value} {x : Wd} (hx : x = firstS s) (ht : Tri W q x.1 x.2.1 x.2.2) (hc : Chg (fun _ => False) w W) (hq : w.heap.size ≤ q) (hD : q < D) (hK : W.heap[D]? = some (.deferred (some []))) :
    bodyPostM Fence.wide 3 Tryd.prog Tryd.f26 (RT fun v w' => v = wdV (firstS s) ∧ Chg (fun _ => False) w w') Exit.ret
      { tmps := #[.string s, undef, .pointer (some ⟨q, 0, none⟩), .string s, t5, undef, t6], defers := [{ target := Target.collected D, args := #[] }] }
      (((W.setCell ⟨q, 0, none⟩ (.int .i64 x.1)).setCell ⟨q, 1, none⟩ (.string x.2.1)).setCell ⟨q, 2, none⟩ (.int .i64 x.2.2)) := by
  obtain ⟨W3, hW3⟩ : ∃ W3, (((W.setCell ⟨q, 0, none⟩ (.int .i64 x.1)).setCell ⟨q, 1, none⟩ (.string x.2.1)).setCell ⟨q, 2, none⟩ (.int .i64 x.2.2)) = W3 := ⟨_, rfl⟩
  have ht3 : Tri W3 q x.1 x.2.1 x.2.2 := by rw [← hW3]; constructor <;> simp [go_sem, ht.c0, ht.c1, ht.c2, ht.f0, ht.f1, ht.f2, World.cell?_setCell_other]
  have hc3 : Chg (· = q) W W3 := by
    rw [← hW3]; exact (((Chg.refl (· = q) W).setCell (p := ⟨q, 0, none⟩) (Or.inl rfl) _).setCell (p := ⟨q, 1, none⟩) (Or.inl rfl) _).setCell (p := ⟨q, 2, none⟩) (Or.inl rfl) _
  have hK3 : W3.heap[D]? = some (.deferred (some [])) := (hc3.block D (Array.getElem?_eq_some_iff.1 hK).1 (by omega)).trans hK
  rw [hW3]
  refine ⟨by simp, .inl ⟨_, _, rfl, run_takeDeferred hK3, ?_⟩⟩
  have hc4 : Chg (· = D) W3 (W3.putObj D (.deferred none)) := chg_putObj _ rfl
  have ht4 := ht3.chg hc4 (by omega)
  have hwq := hc.size
  refine ⟨wdV x, ?_, by rw [hx], (hc.trans' hc3 (fun i hi h => by omega)).trans' hc4 (fun i hi h => by omega)⟩
  have hr : Tryd.f26.results = #[.cell 2 36] := rfl
  simp [results, hr, go_sem, asAddr, ht4.c0, ht4.c1, ht4.c2, wdV]

theorem first_in {s : ByteArray} {w : World} {B : Nat} (hO : Ord w B) (hB : B ≤ w.heap.size) :
    CallsIn Fence.wide 3 Tryd.prog 26 #[.string s] w (RT fun v w' => v = wdV (firstS s) ∧ Chg (fun _ => False) w w') := by
  refine callsIn_of_wp_marks Tryd.func26 rfl trivial ?_ rfl
  simp only [Tryd.ntmps26, List.size_toArray, List.length_cons, List.length_nil, Nat.reduceAdd, Nat.reduceSub, Array.replicate_succ, Array.replicate_zero, List.push_toArray, List.append_toArray, List.nil_append, List.cons_append]
  gi_wp2_with (refine ⟨trivial, ?_⟩; gi_at_call 13; refine (Each_calls s _).mono ?_; rintro e w' ⟨rfl, rfl⟩)
  generalize hw1 : (w.alloc (Obj.cells #[Value.int IntKind.i64 0, Value.string { data := #[] }, Value.int IntKind.i64 0] 36)).alloc (Obj.cells #[Value.string (short s)] 9) = w1
  have hc1 : Chg (fun _ => False) w w1 := by rw [← hw1]; exact ((Chg.refl _ _).alloc _).alloc _
  have ht1 : Tri w1 w.heap.size 0 ⟨#[]⟩ 0 := by
    rw [← hw1]; constructor <;> first | (rw [World.cell?_alloc_lt _ _ _ (by simp)]; simp; done) | (rw [World.frozen?_alloc_old _ _ _ (by simp)]; simp; done)
  have hp1 : w1.cell? ⟨w.heap.size + 1, 0, none⟩ = some (.string (short s)) := by rw [← hw1]; exact new_cell _ _ _ (by simp) 0
  have hs1 : w1.heap.size = w.heap.size + 2 := by rw [← hw1]; simp
  have hO1 := hO.chg hc1 hB (fun _ _ => id)
  clear hw1
  rename_i hgo
  refine wpIn_wide.2 (rangeC (gf := 24) (lb := #[.pointer (some ⟨w.heap.size + 1, 0, none⟩)]) rfl scan_Each_1.enters
    (Each1_seq hp1 short_le hO1 (by omega)) (by omega) (fun _ => rfl)
    (fun pre W => pre = [] ∧ Tri W w.heap.size 0 ⟨#[]⟩ 0 ∧ Chg (fun _ => False) w W)
    (fun c pre W => c = .exit 0 ∧ ∃ x, pre = [x] ∧ Tri W w.heap.size x.1 x.2.1 x.2.2 ∧ Chg (fun _ => False) w W)
    ?hI ?hIx ⟨rfl, ht1, hc1⟩
    (fun pre x _ W => pre = [] ∧ Tri W w.heap.size x.1 x.2.1 x.2.2 ∧ Chg (fun _ => False) w W) ?hA ?assign ?body ?done ?stop)
  case hI =>
    rintro s A A' hA ⟨h1, h2, h3⟩ hc
    exact ⟨h1, h2.chg hc (by omega), h3.trans' hc (fun i hi h => by omega)⟩
  case hIx =>
    rintro c s A A' hA ⟨h1, x, h2, h3, h4⟩ hc
    exact ⟨h1, x, h2, h3.chg hc (by omega), h4.trans' hc (fun i hi h => by omega)⟩
  case hA =>
    rintro pre x a A A' hA ⟨h1, h3, h4⟩ hc
    exact ⟨h1, h3.chg hc (by omega), h4.trans' hc (fun i hi h => by omega)⟩
  case assign =>
    rintro l pre ⟨kd, t, k⟩ W K hsW ⟨hpre, ht, hc⟩ _ hK
    simp only [wdV]
    have g0 := ht.c0
    have g1 := ht.c1
    have g2 := ht.c2
    have f0 := ht.f0
    have f1 := ht.f1
    have f2 := ht.f2
    gi_wp2
    refine hK _ _ ?_ ⟨hpre, ?_, ?_⟩
    · exact (((Chg.refl _ W).setCell (p := ⟨w.heap.size, 0, none⟩) (Or.inl ⟨hB, by simp; omega⟩) _).setCell (p := ⟨w.heap.size, 1, none⟩) (Or.inl ⟨hB, by simp; omega⟩) _).setCell (p := ⟨w.heap.size, 2, none⟩) (Or.inl ⟨hB, by simp; omega⟩) _
    · constructor <;> simp [go_sem, ht.c0, ht.c1, ht.c2, ht.f0, ht.f1, ht.f2, World.cell?_setCell_other]
    · refine ((hc.setCell (p := ⟨w.heap.size, 0, none⟩) (Or.inr (Nat.le_refl _)) _).setCell (p := ⟨w.heap.size, 1, none⟩) (Or.inr (Nat.le_refl _)) _).setCell (p := ⟨w.heap.size, 2, none⟩) (Or.inr (Nat.le_refl _)) _
  case body =>
    rintro l pre x a W hsW ⟨hpre, ht, hc⟩ _
    gi_wp2
    exact ⟨Chg.refl _ _, rfl, x, by rw [hpre]; rfl, ht, hc⟩
  case done =>
    rintro D xs W hD hsW hxs ⟨h1, h2, h3⟩ hK
    refine hgo _ _ ?_
    have g0 := h2.c0
    have g1 := h2.c1
    have g2 := h2.c2
    have f0 := h2.f0
    have f1 := h2.f1
    have f2 := h2.f2
    gi_wp2
    exact first_end (x := (0, ⟨#[]⟩, 0)) (by unfold firstS; rw [← hxs, h1]; rfl) h2 h3 (Nat.le_refl _) (by omega) hK
  case stop =>
    rintro D c pre W hD hsW hxs ⟨rfl, x, h1, h2, h3⟩ hK
    refine wp_exit ?_
    refine hgo _ _ ?_
    have g0 := h2.c0
    have g1 := h2.c1
    have g2 := h2.c2
    have f0 := h2.f0
    have f1 := h2.f1
    have f2 := h2.f2
    gi_wp2
    refine first_end (x := x) ?_ h2 h3 (Nat.le_refl _) (by omega) hK
    obtain ⟨t, ht⟩ := hxs.2
    unfold firstS; rw [← ht, h1]; rfl
end Go.Proofs.YtgjifldciinehaaDoor
