/-
  The scanner's functions: sees, run, skip.
-/
import Derived.Test.YtgjifldciinehaaDoorSc1
namespace Go.Proofs.YtgjifldciinehaaDoor
open Go.Px Go.Px.Scan Go.RowKit
set_option maxHeartbeats 1000000
set_option linter.unusedSimpArgs false

/-- A scanner at block b: its text, and how far it was read. -/
structure Sc (w : World) (b : Nat) (s : ByteArray) (k : Nat) : Prop where
  c0 : w.cell? ⟨b, 0, none⟩ = some (.string s)
  c1 : w.cell? ⟨b, 1, none⟩ = some (.int .i64 k)
  fr : w.frozen? ⟨b, 1, none⟩ = false
  le : k ≤ s.size
  sz : s.size ≤ maxLen

theorem Sc.drew {w b s k} (h : Sc w b s k) : Sc w.drew b s k := ⟨h.c0, h.c1, h.fr, h.le, h.sz⟩
theorem Sc.set {w b s k} (h : Sc w b s k) (j : Nat) (hj : j ≤ s.size) : Sc (w.setCell ⟨b, 1, none⟩ (.int .i64 j)) b s j :=
  ⟨by rw [World.cell?_setCell_other _ _ _ _ (by simp)]; exact h.c0, World.cell?_setCell_same _ _ _ h.c1, by rw [World.frozen?_setCell]; exact h.fr, hj, h.sz⟩
theorem Sc.inc {w b s k} (h : Sc w b s k) (hk : k < s.size) : Sc (w.setCell ⟨b, 1, none⟩ (.int .i64 ((k : Int) + 1))) b s (k + 1) := h.set (k + 1) hk
theorem Sc.lt {w b s k} (h : Sc w b s k) : b < w.heap.size := World.block_lt_of_cell? w _ h.c0
theorem Sc.chg {F : Nat → Prop} {w w' b s k} (h : Sc w b s k) (hc : Chg F w w') (hF : ¬ F b) : Sc w' b s k :=
  ⟨hc.at h.c0 hF, hc.at h.c1 hF, (hc.frozen (p := ⟨b, 1, none⟩) h.lt hF).trans h.fr, h.le, h.sz⟩

/-- A function of a byte. -/
def OfByte (g : FuncId) (p : Nat → Bool) : Prop := ∀ c : Nat, c < 256 → ∀ w, Ct Tryd.prog g #[.int .u8 c] w fun v w' => v = .bool (p c) ∧ w = w'

theorem sees_ct {w : World} {b : Nat} {s : ByteArray} {k : Nat} {g : FuncId} {p : Nat → Bool} (h : Sc w b s k) (hg : OfByte g p) :
    Ct Tryd.prog scan_scanner_sees.id #[.pointer (some ⟨b, 0, none⟩), .func (.func g) #[] #[]] w fun v w' => v = .bool (decide (k < s.size) && p (bt s k)) ∧ w.drew = w' := by
  refine scan_scanner_sees.ct fun R hR => ?_
  unfold scan_scanner_sees.run scan_scanner_sees.b1
  simp [go_sem, h.c0, h.c1]
  refine SPL_intro (fun h1 => ?_) (fun h1 => ?_) <;> simp at h1
  · simp [go_sem, h.c0, h.c1, index_bt, h1]
    refine CALLV_of (hg _ (bt_lt s k) _) ?_
    rintro _ _ ⟨rfl, rfl⟩
    exact hR _ _ ⟨by simp [h1], rfl⟩
  · exact hR _ _ ⟨by simp [show ¬ k < s.size by omega], rfl⟩

def left (s : ByteArray) (b : Nat) (w : World) : Nat := s.size - iv ((w.cell? ⟨b, 1, none⟩).getD undef)
theorem Sc.left {w b s k} (h : Sc w b s k) : left s b w = s.size - k := by unfold Proofs.YtgjifldciinehaaDoor.left; rw [h.c1]; rfl

theorem run_ct {w : World} {b : Nat} {s : ByteArray} {k : Nat} {g : FuncId} {p : Nat → Bool} (n : Nat) (hn : n ≤ 1000) (h : Sc w b s k) (hg : OfByte g p) :
    Ct Tryd.prog scan_scanner_run.id #[.pointer (some ⟨b, 0, none⟩), .func (.func g) #[] #[], .int .i64 n] w fun v w' => v = .string (s.extract k (runS p s k n)) ∧ Sc w' b s (runS p s k n) ∧ Chg (· = b) w w' := by
  refine scan_scanner_run.ct fun R hR => ?_
  unfold scan_scanner_run.run scan_scanner_run.b1
  simp [go_sem, h.c0, h.c1]
  have hsz := h.sz
  refine scan_scanner_run.l5_intro _ _ _ _ _ _ (fun w1 => ∃ j m, Sc w1 b s j ∧ Chg (· = b) w w1 ∧ k ≤ j ∧ runS p s j m = runS p s k n ∧ j + m = k + n) (left s b) ⟨k, n, h, Chg.refl _ _, Nat.le_refl _, rfl, rfl⟩ ?_
  rintro w1 ⟨j, m, h1, hc, hj, hr, hm⟩ C hC
  have hjm : j ≤ maxLen := Nat.le_trans h1.le hsz
  have hkm : k ≤ maxLen := Nat.le_trans h.le hsz
  have done : ∀ w2, Sc w2 b s j → Chg (· = b) w w2 → runS p s k n = j → scan_scanner_run.b3 R (.pointer (some ⟨b, 0, none⟩)) (.int .i64 k) w2 := by
    intro w2 h2 hc2 he
    unfold scan_scanner_run.b3
    simp [go_sem, h2.c0, h2.c1, hj, h2.le]
    exact hR _ _ ⟨by rw [he], by rw [he]; exact h2.drew, hc2.drew⟩
  unfold scan_scanner_run.b8
  simp [go_sem, h1.c0, h1.c1]
  refine SPL_intro (fun h2 => ?_) (fun h2 => ?_) <;> simp at h2
  · have hsub : IntKind.i64.wrap ((j : Int) - k) = ((j - k : Nat) : Int) := by unfold maxLen at *; rw [IntWalk.i64_in _ (by omega)]; omega
    simp [go_sem, h1.c0, h1.c1, hsub]
    refine SPL_intro (fun h3 => ?_) (fun h3 => ?_) <;> simp at h3
    · obtain ⟨m, rfl⟩ : ∃ m', m = m' + 1 := ⟨m - 1, by omega⟩
      simp [go_sem, h1.c0, h1.c1, index_bt, h2]
      refine CALLV_of (hg _ (bt_lt s j) _) ?_
      rintro _ _ ⟨rfl, rfl⟩
      unfold scan_scanner_run.b9
      refine SPL_intro (fun h4 => ?_) (fun h4 => ?_)
      · unfold scan_scanner_run.b7
        simp [go_sem, h1.c0, h1.c1, h1.fr, wrap_succ h2 hsz]
        have h5 := (h1.inc h2).drew
        refine hC _ ⟨j + 1, m, h5, (hc.setCell (Or.inl rfl) _).drew, by omega, ?_, by omega⟩ ?_
        · rw [← hr]; conv => rhs; unfold runS
          rw [if_pos (by simp [h2, h4])]
        · rw [h5.left, h1.left]; omega
      · refine done _ h1.drew hc.drew ?_
        rw [← hr]; unfold runS; rw [if_neg (by simp [h4])]
    · unfold scan_scanner_run.b9
      simp only [SPL_false]
      refine done _ h1.drew hc.drew ?_
      rw [← hr]
      obtain rfl : m = 0 := by omega
      rfl
  · unfold scan_scanner_run.b9
    simp only [SPL_false]
    refine done _ h1.drew hc.drew ?_
    rw [← hr]
    cases m with
    | zero => rfl
    | succ m => unfold runS; rw [if_neg (by simp; omega)]

end Go.Proofs.YtgjifldciinehaaDoor
