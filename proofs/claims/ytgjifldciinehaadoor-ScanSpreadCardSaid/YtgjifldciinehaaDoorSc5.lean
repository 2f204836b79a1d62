/-
  The scanner's order.
-/
import Derived.Test.YtgjifldciinehaaDoorSc4
namespace Go.Proofs.YtgjifldciinehaaDoor
open Go.Px Go.Px.Scan Go.RowKit
set_option maxHeartbeats 1000000
set_option linter.unusedSimpArgs false

/-- The table of orders lies below B. -/
structure Ord (w : World) (B : Nat) : Prop where
  pos : 0 < B
  glob : ∃ A c, w.cell? ⟨0, 0, none⟩ = some (.slice A 7 c) ∧ (rSlice rStr).at1 w B (.slice A 7 c) ordersL

theorem Ord.chg {F : Nat → Prop} {w w' : World} {B : Nat} (h : Ord w B) (hc : Chg F w w') (hB : B ≤ w.heap.size) (hF : ∀ k, k < B → ¬ F k) : Ord w' B := by
  obtain ⟨A, c, h1, h2⟩ := h.glob
  have hb := hc.below hB hF
  exact ⟨h.pos, A, c, (hc.at h1 (hF 0 h.pos)), Rep.below h2 hb⟩

theorem orders_len : ordersL.length = 7 := rfl

theorem order1_ct {w : World} {b k j p f : Nat} {s o : ByteArray} (h : Sc w b s j) (hp : w.cell? ⟨p, 0, none⟩ = some (.pointer (some ⟨b, 0, none⟩))) (hf : w.cell? ⟨f, 0, none⟩ = some (.int .i64 k)) (hk : k ≤ j) (hj : j < s.size) :
    Ct Tryd.prog scan_scanner_order_1.id #[.string o, .pointer (some ⟨p, 0, none⟩), .pointer (some ⟨f, 0, none⟩)] w fun v w' => v = .bool (prefB o (s.extract k (j + 1))) ∧ w.drew = w' := by
  refine scan_scanner_order_1.ct fun R hR => ?_
  unfold scan_scanner_order_1.run scan_scanner_order_1.b1
  have hw := wrap_succ hj h.sz
  have e1 : (0 : Int) ≤ j + 1 ∧ (j : Int) + 1 ≤ s.size := by omega
  have e2 : (k : Int) ≤ j + 1 := by omega
  simp [go_sem, h.c0, h.c1, hp, hf, hw, e1, e2]
  refine CALL_of (HasPrefix_ct _ _ _) ?_
  rintro _ _ ⟨rfl, rfl⟩
  exact hR _ _ ⟨rfl, rfl⟩

theorem order_ct {w : World} {b k B : Nat} {s : ByteArray} (h : Sc w b s k) (hk : k < s.size) (hO : Ord w B) (hB : B ≤ b) :
    Ct Tryd.prog scan_scanner_order.id #[.pointer (some ⟨b, 0, none⟩)] w fun v w' =>
      v = .string (if (ordS s k (k + 1)).2 then s.extract k (ordS s k (k + 1)).1 else ⟨#[]⟩) ∧ Sc w' b s (ordS s k (k + 1)).1 ∧ Chg (· = b) w w' := by
  refine scan_scanner_order.ct fun R hR => ?_
  have hsz := h.sz
  have hb := h.lt
  unfold scan_scanner_order.run scan_scanner_order.b1
  simp [go_sem, h.c0, h.c1, World.cell?_alloc_lt, hb]
  obtain ⟨w1, hw1⟩ : ∃ w1, w1 = (w.alloc (Obj.cells #[Value.pointer (some { block := b, off := 0 })] 54)).alloc (Obj.cells #[Value.int IntKind.i64 ↑k] 3) := ⟨_, rfl⟩
  rw [← hw1]
  have c1 : Chg (· = b) w w1 := by rw [hw1]; exact ((Chg.refl _ _).alloc _).alloc _
  have c0 : Chg (fun _ => False) w w1 := by rw [hw1]; exact ((Chg.refl _ _).alloc _).alloc _
  have hp : w1.cell? ⟨w.heap.size, 0, none⟩ = some (.pointer (some ⟨b, 0, none⟩)) := by rw [hw1, World.cell?_alloc_lt _ _ _ (by simp)]; simp
  have hf : w1.cell? ⟨w.heap.size + 1, 0, none⟩ = some (.int .i64 k) := by
    rw [hw1]
    have := World.cell?_alloc_new (w.alloc (Obj.cells #[Value.pointer (some { block := b, off := 0 })] 54)) #[Value.int IntKind.i64 ↑k] 3 0
    simp
  have h1 : Sc w1 b s k := h.chg c0 id
  have hO1 : Ord w1 B := hO.chg c0 (by omega) (fun _ _ => id)
  have hB1 : B ≤ w1.heap.size := by have := h1.lt; omega
  generalize hpe : w.heap.size = p at *
  have hpb : p ≠ b := by omega
  have hfb : p + 1 ≠ b := by omega
  clear hw1
  unfold scan_scanner_order.b4
  simp [go_sem, hp, h1.c0, h1.c1, h1.fr, wrap_succ hk hsz]
  have keep : ∀ {w2}, Chg (· = b) w1 w2 → w2.cell? ⟨p, 0, none⟩ = some (.pointer (some ⟨b, 0, none⟩)) ∧ w2.cell? ⟨p + 1, 0, none⟩ = some (.int .i64 k) ∧ Ord w2 B := fun hc =>
    ⟨hc.at hp hpb, hc.at hf hfb, hO1.chg hc hB1 (fun i hi e => by omega)⟩
  refine scan_scanner_order.l6_intro _ _ _ _ (fun w2 => ∃ j, Sc w2 b s j ∧ Chg (· = b) w1 w2 ∧ k + 1 ≤ j ∧ ordS s k j = ordS s k (k + 1)) (left s b) ⟨k + 1, h1.inc hk, Chg.setCell (F := (· = b)) (p := ⟨b, 1, none⟩) (Chg.refl _ _) (Or.inl rfl) _, Nat.le_refl _, rfl⟩ ?_
  rintro w2 ⟨j, h2, hc2, hkj, hs2⟩ C hC
  obtain ⟨hp2, hf2, hO2⟩ := keep hc2
  unfold scan_scanner_order.b7
  simp [go_sem, hp2]
  refine CALL_of (sees_ct h2 (p := letterN) (fun c hc w => letter_ct c w hc)) ?_
  rintro _ w3 ⟨rfl, hw3⟩
  have h3 : Sc w3 b s j := by rw [← hw3]; exact h2.drew
  have hc3 : Chg (· = b) w1 w3 := by rw [← hw3]; exact hc2.drew
  clear hw3
  obtain ⟨hp3, hf3, hO3⟩ := keep hc3
  refine SPL_intro (fun h4 => ?_) (fun h4 => ?_)
  · simp at h4
    obtain ⟨A, c, hg, hsl⟩ := hO3.glob
    simp [go_sem, hg]
    refine CALL_of (ContainsFunc_ct (l := ordersL) (B := B) (q := fun o => prefB o (s.extract k (j + 1))) (I := fun w4 => Sc w4 b s j ∧ Chg (· = b) w1 w4 ∧ (rSlice rStr).at1 w4 B (.slice A 7 c) ordersL) (by decide) (fun w4 h => h.2.2) ?_ ⟨h3, hc3, hsl⟩) ?_
    · rintro w4 ⟨h5, hc5, hsl5⟩ o ho
      obtain ⟨hp5, hf5, hO5⟩ := keep hc5
      refine (order1_ct h5 hp5 hf5 (by omega) h4.1).mono ?_
      rintro v w6 ⟨rfl, rfl⟩
      exact ⟨rfl, h5.drew, hc5.drew, hsl5⟩
    · rintro _ w4 ⟨rfl, h5, hc5, hsl5⟩
      obtain ⟨hp5, hf5, hO5⟩ := keep hc5
      have hbe : (ordersL.any fun o => prefB o (s.extract k (j + 1))) = Scan.begun (s.extract k (j + 1)) := rfl
      rw [hbe]
      simp [go_sem]
      refine SPL_intro (fun h6 => ?_) (fun h6 => ?_) <;> simp at h6
      · have e : ordS s k (k + 1) = (j, false) := by rw [← hs2]; unfold ordS; rw [if_pos h4, if_neg (by simp [h6])]
        exact hR _ _ ⟨by rw [e]; rfl, by rw [e]; exact h5, c1.trans hc5⟩
      · simp [go_sem, hp5, h5.c0, h5.c1, h5.fr, wrap_succ h4.1 hsz]
        refine hC _ ⟨j + 1, h5.inc h4.1, hc5.setCell (Or.inl rfl) _, by omega, ?_⟩ ?_
        · rw [← hs2]; conv => rhs; unfold ordS
          rw [if_pos h4, if_pos h6]
        · rw [(h5.inc h4.1).left, h2.left]; omega
  · have e : ordS s k (k + 1) = (j, true) := by rw [← hs2]; unfold ordS; rw [if_neg (by simpa using h4)]
    unfold scan_scanner_order.b3
    simp [go_sem, hp3, hf3, h3.c0, h3.c1, h3.le, show k ≤ j by omega]
    exact hR _ _ ⟨by rw [e]; rfl, by rw [e]; exact h3.drew, c1.trans hc3.drew⟩
end Go.Proofs.YtgjifldciinehaaDoor
