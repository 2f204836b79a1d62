/-
  scan.Words.
-/
import Derived.Test.YtgjifldciinehaaDoorSc8
namespace Go.Proofs.YtgjifldciinehaaDoor
open Go.Px Go.Px.Scan Go.RowKit
set_option maxHeartbeats 1000000
set_option linter.unusedSimpArgs false

def mishV (code at' : Int) : Value := .agg #[.int .i64 code, .int .i64 at', .slice none 0 0]

/-- A mishap's cells. -/
structure Mish (w : World) (m : Nat) : Prop where
  c0 : w.cell? ⟨m, 0, none⟩ = some (.int .i64 0)
  c1 : w.cell? ⟨m, 1, none⟩ = some (.int .i64 0)
  c2 : w.cell? ⟨m, 2, none⟩ = some (.slice none 0 0)
  f0 : w.frozen? ⟨m, 0, none⟩ = false
  f1 : w.frozen? ⟨m, 1, none⟩ = false
  f2 : w.frozen? ⟨m, 2, none⟩ = false

theorem Mish.lt {w m} (h : Mish w m) : m < w.heap.size := World.block_lt_of_cell? w _ h.c0
theorem Mish.chg {F : Nat → Prop} {w w' q} (h : Mish w q) (hc : Chg F w w') (hF : ¬ F q) : Mish w' q :=
  ⟨hc.at h.c0 hF, hc.at h.c1 hF, hc.at h.c2 hF, (hc.frozen (p := ⟨q, 0, none⟩) h.lt hF).trans h.f0, (hc.frozen (p := ⟨q, 1, none⟩) h.lt hF).trans h.f1, (hc.frozen (p := ⟨q, 2, none⟩) h.lt hF).trans h.f2⟩

/-- What 'Words' hands back. -/
def WordsR (s : ByteArray) (w : World) (v : Value) (w' : World) : Prop :=
  match (wordsS s).2 with
  | some k => v = .tuple #[.slice none 0 0, mishV 10 k]
  | none => ∃ sl, v = .tuple #[sl, mishV 0 0] ∧ w'.ownsRow w.heap.size 36 3 sl (wordsS s).1.length ((wordsS s).1.flatMap encW)

theorem Words_ct {w : World} {B : Nat} {s : ByteArray} (hs : s.size ≤ maxLen) (hO : Ord w B) (hB : B ≤ w.heap.size) :
    Ct Tryd.prog scan_Words.id #[.string s] w fun v w' => WordsR s w v w' ∧ Chg (fun _ => False) w w' := by
  refine scan_Words.ct fun R hR => ?_
  unfold scan_Words.run scan_Words.b1
  simp [go_sem]
  refine SPL_intro (fun h => ?_) (fun h => ?_) <;> simp at h
  · have h' : 8192 < s.size := by omega
    simp [go_sem, World.cell?_setCell_other]
    refine hR _ _ ⟨?_, (Chg.refl _ _).alloc _⟩
    unfold WordsR wordsS
    rw [if_pos h']; rfl
  · have h' : ¬ 8192 < s.size := by omega
    have hws : wordsS s = allS s 0 := by unfold wordsS; rw [if_neg h']
    simp [go_sem]
    generalize hw1 : ((w.alloc (Obj.cells #[Value.int IntKind.i64 0, Value.int IntKind.i64 0, Value.slice none 0 0] 30)).alloc (Obj.cells #[Value.slice none 0 0] 26)).alloc (Obj.cells #[Value.string s, Value.int IntKind.i64 0] 56) = w1
    have c0 : Chg (fun _ => False) w w1 := by rw [← hw1]; exact (((Chg.refl _ _).alloc _).alloc _).alloc _
    have hsz1 : w1.heap.size = w.heap.size + 3 := by rw [← hw1]; simp
    have hm : Mish w1 w.heap.size := by
      rw [← hw1]
      constructor <;> first | (rw [World.cell?_alloc_lt _ _ _ (by simp; omega), World.cell?_alloc_lt _ _ _ (by simp)]; simp; done) | (rw [World.cell?_alloc_lt _ _ _ (by simp; omega), World.cell?_alloc_lt _ _ _ (by simp)]; exact ⟨_, by simp; rfl⟩) | (rw [World.frozen?_alloc_old _ _ _ (by simp; omega), World.frozen?_alloc_old _ _ _ (by simp)]; simp)
    have ho : Out (w.heap.size + 1) (w.heap.size + 2) [] w1 := by
      rw [← hw1]
      refine ⟨.slice none 0 0, ?_, ?_, World.ownsRow_nil _ _ _ _⟩
      · rw [World.cell?_alloc_lt _ _ _ (by simp)]
        exact new_cell _ _ _ (by simp) 0
      · rw [World.frozen?_alloc_old _ _ _ (by simp)]
        exact new_frozen _ _ _ (by simp) 0
    have hsc : Sc w1 (w.heap.size + 2) s 0 := by
      rw [← hw1]
      exact ⟨new_cell _ _ _ (by simp) 0, new_cell _ _ _ (by simp) 1, new_frozen _ _ _ (by simp) 1, Nat.zero_le _, hs⟩
    clear hw1
    have hO1 := hO.chg c0 hB (fun _ _ => id)
    have key := each_ct (k := 0) (B := B) (g := scan_Words_1.id) (cap := #[.pointer (some ⟨w.heap.size + 1, 0, none⟩)]) (G := fun i => i = w.heap.size + 1 ∨ w.heap.size + 2 < i) (I := fun pre w' => Out (w.heap.size + 1) (w.heap.size + 2) pre w' ∧ w.heap.size + 2 < w'.heap.size)
      (fun pre wa wb ⟨⟨v, h1, h2, h3⟩, h4⟩ hc => ⟨⟨v, hc.at h1 (by simp), (hc.frozen (p := ⟨w.heap.size + 1, 0, none⟩) (by simp; omega) (by simp)).trans h2, ownsRow_chg h3 hc (fun i hi e => by omega)⟩, by have := hc.size; omega⟩)
      (by omega) (fun i hi e => by omega)
      (fun pre x wa ⟨h1, h2⟩ hpre => (Words1_ct (by omega) h1 (by
        have := hpre.length_le
        have := all_len s 0 (Nat.zero_le _)
        simp at *
        omega) h2).mono fun v w' ⟨hv, ho, hc⟩ => ⟨hv, ⟨ho, by have := hc.size; omega⟩, hc⟩)
      hsc hO1 (by omega) ⟨ho, by omega⟩
    refine CALL_of key ?_
    rintro _ w3 ⟨rfl, ⟨⟨sl, ho1, ho2, ho3⟩, _⟩, hc3⟩
    rw [← hws] at ho3 ⊢
    have hm3 := hm.chg hc3 (by omega)
    have hfin : ∀ {w4}, Chg (· = w.heap.size) w3 w4 → Chg (fun _ => False) w w4 := fun h4 =>
      (c0.trans' hc3 (fun i hi e => by omega)).trans' h4 (fun i hi e => by omega)
    cases hb : (wordsS s).2 with
    | none =>
      unfold badV
      simp [go_sem, ho1, hm3.c0, hm3.c1, hm3.c2, hm3.f0, hm3.f1, hm3.f2, World.cell?_setCell_other]
      have hc5 := ((((Chg.refl (· = w.heap.size) w3).setCell (p := ⟨w.heap.size, 0, none⟩) (Or.inl rfl) (.int .i64 0)).setCell (p := ⟨w.heap.size, 1, none⟩) (Or.inl rfl) (.int .i64 0)).setCell (p := ⟨w.heap.size, 2, none⟩) (Or.inl rfl) (.slice none 0 0))
      refine hR _ _ ⟨?_, hfin hc5⟩
      unfold WordsR
      rw [hb]
      exact ⟨sl, rfl, ownsRow_base (ownsRow_chg ho3 hc5 (fun i hi e => by omega)) (by omega)⟩
    | some k =>
      unfold badV
      simp [go_sem, hm3.c0, hm3.c1, hm3.c2, hm3.f0, hm3.f1, hm3.f2, World.cell?_setCell_other]
      have hc5 := ((((Chg.refl (· = w.heap.size) w3).setCell (p := ⟨w.heap.size, 0, none⟩) (Or.inl rfl) (.int .i64 10)).setCell (p := ⟨w.heap.size, 1, none⟩) (Or.inl rfl) (.int .i64 k)).setCell (p := ⟨w.heap.size, 2, none⟩) (Or.inl rfl) (.slice none 0 0))
      refine hR _ _ ⟨?_, hfin hc5⟩
      unfold WordsR
      rw [hb]
      rfl
end Go.Proofs.YtgjifldciinehaaDoor
