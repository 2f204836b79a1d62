/-
  The law's own helpers: bad, are, pick.
-/
import Derived.Test.YtgjifldciinehaaDoorSc12
import Derived.Test.YtgjifldciinehaaDoorSc9
import Derived.Test.YtgjifldciinehaaDoorRf3
namespace Go.Proofs.YtgjifldciinehaaDoor
open Go.Px Go.Px.Scan Go.RowKit
set_option maxHeartbeats 1000000
set_option linter.unusedSimpArgs false

/-- Words in memory. -/
def rWd : Rep Wd where
  size := 3
  bytes := 32
  ok _ _ cs x := cs = encW x
  len h := by rw [h]; rfl
  keep h _ _ := h
  one h u hu := by rw [h] at hu; simp [encW] at hu; rcases hu with rfl | rfl | rfl <;> rfl

theorem wds_at {w : World} {B : Nat} {A : Option Addr} {n c : Nat} {l : List Wd} (h : (rSlice rWd).at1 w B (.slice A n c) l) {i : Nat} (hi : i < l.length) :
    ∃ b o, A = some ⟨b, o, none⟩ ∧ b < B ∧ w.cell? ⟨b, o + i * 3, none⟩ = some (.int .i64 l[i].1) ∧ w.cell? ⟨b, o + i * 3 + 1, none⟩ = some (.string l[i].2.1) ∧ w.cell? ⟨b, o + i * 3 + 2, none⟩ = some (.int .i64 l[i].2.2) := by
  obtain ⟨b, o, ys, hA, hb, rfl, hc⟩ := slice_at h hi
  exact ⟨b, o, hA, hb, hc 0 _ rfl, hc 1 _ rfl, hc 2 _ rfl⟩

theorem are_ct {w : World} {B : Nat} {va vb : Value} {l : List Wd} (ha : (rSlice rWd).at1 w B va l) (hb : (rSlice rWd).at1 w B vb l) (hB : B ≤ w.heap.size) :
    Ct Tryd.prog law03_are.id #[va, vb] w fun v w' => v = .bool true ∧ Chg (fun _ => False) w w' := by
  obtain ⟨A1, c1, rfl, hl1, hm1, _⟩ := slice_form ha
  obtain ⟨A2, c2, rfl, hl2, hm2, _⟩ := slice_form hb
  refine law03_are.ct fun R hR => ?_
  unfold law03_are.run law03_are.b1
  simp [go_sem]
  unfold law03_are.b4
  refine law03_are.l6_intro _ _ _ _ _ (fun x w1 => ∃ k : Nat, x = .int .i64 k ∧ k ≤ l.length ∧ Chg (fun _ => False) w w1) (fun x _ => l.length - iv x) ⟨0, rfl, by omega, Chg.refl _ _⟩ ?_
  rintro _ w1 ⟨k, rfl, hk, hcw⟩ C hC
  unfold law03_are.b7
  simp [go_sem]
  refine SPL_intro (fun h => ?_) (fun h => ?_)
  · have hka : k < l.length := by simpa using h
    obtain ⟨b1, o1, rfl, hb1, hc10, hc11, hc12⟩ := wds_at (Rep.below ha (hcw.below hB fun _ _ => id)) hka
    obtain ⟨b2, o2, rfl, hb2, hc20, hc21, hc22⟩ := wds_at (Rep.below hb (hcw.below hB fun _ _ => id)) hka
    have wk := wrap_succ hka (Nat.le_trans hl1 hm1)
    unfold law03_are.b11
    simp [go_sem, hka, hc10, hc20, hc11, hc21, hc12, hc22]
    unfold law03_are.b12
    refine SPL_intro (fun h => ?_) (fun h => ?_)
    · simp at h
    · unfold law03_are.b9
      simp [go_sem, wk]
      exact hC _ _ ⟨k + 1, by simp, by omega, hcw.drew⟩ (by simp [iv]; omega)
  · unfold law03_are.b3
    exact hR _ _ ⟨rfl, hcw⟩

/-- Is a mishap just this place's? -/
theorem bad_ct (w : World) (o : Option Nat) : Ct Tryd.prog law03_bad.id #[(match o with | some k => mishV 10 k | none => mishV 0 0), badV o] w fun v w' => v = .bool true ∧ Chg (fun _ => False) w w' := by
  refine law03_bad.ct fun R hR => ?_
  unfold law03_bad.run law03_bad.b1
  cases o with
  | none =>
    simp [go_sem, mishV, badV]
    exact hR _ _ ⟨rfl, (Chg.refl _ _).alloc _⟩
  | some k =>
    simp [go_sem, mishV, badV]
    refine SPL_intro (fun h => ?_) (fun h => ?_)
    · simp at h; omega
    simp [go_sem]
    exact hR _ _ ⟨rfl, (Chg.refl _ _).alloc _⟩
end Go.Proofs.YtgjifldciinehaaDoor
