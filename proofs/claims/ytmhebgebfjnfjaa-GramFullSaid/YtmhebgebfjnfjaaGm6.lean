/-
  No builder, a zero one. (The law GramNil's own part lies with its claim.)
-/
import Derived.Test.YtmhebgebfjnfjaaGm5
namespace Go.Proofs.Ytmhebgebfjnfjaa
open Go.Px Go.Px.Scan Go.RowKit
set_option maxHeartbeats 1000000
set_option linter.unusedSimpArgs false
attribute [-go_sem] Builtin.append_

theorem Term_nil (w : World) (v : Value) : Ct Try.prog gram_Builder_Term.id #[.pointer none, v] w fun r w' => r = .tuple #[.int .i64 0, .int .i64 1] ∧ w = w' := by
  refine gram_Builder_Term.ct fun R hR => ?_
  unfold gram_Builder_Term.run gram_Builder_Term.b1 gram_Builder_Term.b4
  simp [go_sem]
  unfold gram_Builder_Term.b5
  simp [go_sem]
  exact hR _ _ ⟨rfl, rfl⟩

theorem Sizes_nil (w : World) : Ct Try.prog gram_Builder_Sizes.id #[.pointer none] w fun r w' => r = .tuple #[.int .i64 0, .int .i64 0, .int .i64 0, .int .i64 0] ∧ w = w' := by
  refine gram_Builder_Sizes.ct fun R hR => ?_
  unfold gram_Builder_Sizes.run gram_Builder_Sizes.b1
  simp [go_sem]
  exact hR _ _ ⟨rfl, rfl⟩

theorem Rule_nil (w : World) (u v : Value) : Ct Try.prog gram_Builder_Rule.id #[.pointer none, u, v] w fun r w' => r = .tuple #[.int .i64 0, .int .i64 1] ∧ Chg (fun _ => False) w w' := by
  refine gram_Builder_Rule.ct fun R hR => ?_
  unfold gram_Builder_Rule.run gram_Builder_Rule.b1
  simp [go_sem]
  have hc : Chg (fun _ => False) w (w.alloc (.cells #[.pointer none] 24)) := (Chg.refl _ _).alloc _
  have hx := new_cell w #[.pointer none] 24 rfl 0
  generalize w.alloc (.cells #[.pointer none] 24) = w1 at hc hx ⊢
  unfold gram_Builder_Rule.b11
  simp at hx
  simp [go_sem, hx]
  unfold gram_Builder_Rule.b12
  simp [go_sem]
  exact hR _ _ ⟨rfl, hc⟩

def zeroB : Array Value := #[.slice none 0 0, .map none, .slice none 0 0, .map none, .slice none 0 0, .slice none 0 0, .slice none 0 0, .int .i64 0]
def S0 : BS := ⟨[], [], [], [], 0⟩
def V0 : BV := ⟨.slice none 0 0, .map none, .slice none 0 0, .map none, .slice none 0 0, .slice none 0 0, .slice none 0 0, []⟩

theorem Row.nil (w : World) (T : Nat → Nat) (tag e size : Nat) : Row w T tag e size (.slice none 0 0) 0 [] := ⟨⟨by simp, Or.inl ⟨rfl, rfl⟩⟩, fun i hi => by cases hi⟩

theorem Nm.zero {w : World} {T : Nat → Nat} {b o tx tm : Nat} (c0 : w.cell? ⟨b, o, none⟩ = some (.slice none 0 0)) (c1 : w.cell? ⟨b, o + 1, none⟩ = some (.map none)) (f0 : w.frozen? ⟨b, o, none⟩ = false) (f1 : w.frozen? ⟨b, o + 1, none⟩ = false) : Nm w T b o tx tm (.slice none 0 0) (.map none) [] :=
  ⟨c0, c1, f0, f1, Row.nil _ _ _ _ _, by
    have : posH [] = fun _ => 0 := funext fun c => by simp [posH, posN]
    rw [this]; exact MapOf.nil, fun i hi => by cases hi⟩

def T0 (n : Nat) : Nat → Nat := fun i => if i = n then 1 else 0
theorem T0_ne {n i : Nat} (h : T0 n i ≠ 0) : i = n := by
  unfold T0 at h
  split at h
  · assumption
  · exact absurd rfl h

theorem Bld.zero (w : World) {n : Nat} (hn : n = w.heap.size) : Bld (w.alloc (.cells zeroB 48)) (T0 n) n V0 S0 where
  tag := by simp [T0]
  lt i hi := by
    have := T0_ne hi
    simp; omega
  terms := Nm.zero (new_cell w _ _ hn 0) (new_cell w _ _ hn 1) (new_frozen w _ _ hn 0) (new_frozen w _ _ hn 1)
  nons := Nm.zero (new_cell w _ _ hn 2) (new_cell w _ _ hn 3) (new_frozen w _ _ hn 2) (new_frozen w _ _ hn 3)
  cg := new_cell w _ _ hn 4
  cl := new_cell w _ _ hn 5
  cr := new_cell w _ _ hn 6
  cs := new_cell w _ _ hn 7
  fz j _ := new_frozen w _ _ hn j
  graded := Row.nil _ _ _ _ _
  levels := Row.nil _ _ _ _ _
  rules := Row.nil _ _ _ _ _
  rlen := rfl
  rights i r v h := by cases h
  ok := ⟨by simp [S0], by simp [S0], by simp [S0], by simp [S0], by simp [S0], by simp [S0], by simp [S0], by simp [S0]⟩

theorem New_ct (w : World) : Ct Try.prog gram_New.id #[] w fun r w' => r = .pointer (some ⟨w.heap.size, 0, none⟩) ∧ w.alloc (.cells zeroB 48) = w' := by
  refine gram_New.ct fun R hR => ?_
  unfold gram_New.run gram_New.b1
  simp [go_sem]
  exact hR _ _ ⟨rfl, rfl⟩

theorem tmB_x : tmB ⟨#[120]⟩ = true := tmB_iff.2 (by
  refine ⟨by decide, by decide, fun i hi => ?_⟩
  have : i = 0 := by simp [ByteArray.size] at hi; omega
  subst this
  decide)

end Go.Proofs.Ytmhebgebfjnfjaa
