/- Shallow programs, written by a program of ours (gen.py) off the translation; each is tied to the code by the kernel. -/
import Derived.Test.YtkacbjhiobnbfaaGa
set_option linter.unusedVariables false
set_option maxRecDepth 100000
namespace Go.Proofs.Ytkacbjhiobnbfaa
open Go.Px

/-! ### presage/presagelaw05.ShowTexts -/
namespace law05_ShowTexts
noncomputable def code : Code := bodyOf Try.f3
def b1_1 (R : Ending → World → Prop) (v1 v7 : Value) (w29 : World) (_r : Tok R := tok R) : Prop :=
  RUN Try.prog (pan R) (Instr.loadAt 27 v7) w29 fun v30 w31 =>
  RUN Try.prog (pan R) (Instr.loadAt 27 v1) w31 fun v32 w33 =>
  CALL Try.prog (pan R) ref02_Same.id #[v30, v32] w33 fun v34 w35 =>
  SPL v34
  (CALL Try.prog (pan R) law05_awake.id #[] w35 fun v36 w37 =>
  R (.returned v36) w37)
  (R (.returned (Go.Value.bool Bool.false)) w35)
def b1_2 (R : Ending → World → Prop) (v1 v7 v14 v16 v20 : Value) (w21 : World) (_r : Tok R := tok R) : Prop :=
  RUN Try.prog (pan R) (Instr.extract v20 0) w21 fun v22 w23 =>
  RUN Try.prog (pan R) (Instr.extract v20 1) w23 fun v24 w25 =>
  RUN Try.prog (pan R) (bins .eql 9 (.tmp 20) (.tmp 21) v14 v22) w25 fun v26 w27 =>
  SPL v26
  (RUN Try.prog (pan R) (bins .eql 29 (.tmp 24) (.tmp 25) v16 v24) w27 fun v28 w29 =>
  SPL v28
  (b1_1 R v1 v7 w29)
  (R (.returned (Go.Value.bool Bool.false)) w29))
  (R (.returned (Go.Value.bool Bool.false)) w27)
def b1_3 (R : Ending → World → Prop) (v1 v7 v12 : Value) (w13 : World) (_r : Tok R := tok R) : Prop :=
  RUN Try.prog (pan R) (Instr.extract v12 0) w13 fun v14 w15 =>
  RUN Try.prog (pan R) (Instr.extract v12 1) w15 fun v16 w17 =>
  RUN Try.prog (pan R) (Instr.loadAt 27 v1) w17 fun v18 w19 =>
  CALL Try.prog (pan R) ref05_Text.id #[v18] w19 fun v20 w21 =>
  b1_2 R v1 v7 v14 v16 v20 w21
def b1_4 (R : Ending → World → Prop) (v1 v5 : Value) (w6 : World) (_r : Tok R := tok R) : Prop :=
  RUN Try.prog (pan R) (Instr.alloc 27 true (.tuple #[])) w6 fun v7 w8 =>
  RUNU Try.prog (pan R) (Instr.storeAt 27 v7 v5) w8 fun w9 =>
  RUN Try.prog (pan R) (Instr.loadAt 27 v7) w9 fun v10 w11 =>
  CALL Try.prog (pan R) show_Text.id #[v10] w11 fun v12 w13 =>
  b1_3 R v1 v7 v12 w13
/- x0 g -/
def b1 (R : Ending → World → Prop) (x0 : Value) (w : World) (_r : Tok R := tok R) : Prop :=
  RUN Try.prog (pan R) (Instr.box 27 x0) w fun v1 w2 =>
  RUN Try.prog (pan R) (Instr.loadAt 27 v1) w2 fun v3 w4 =>
  CALL Try.prog (pan R) ref02_Copy.id #[v3] w4 fun v5 w6 =>
  b1_4 R v1 v5 w6
abbrev q1 (R : Ending → World → Prop) : Exit → Env → World → Prop := QX (fun ρ w => R (.returned (ρ 2)) w) (fun ρ w => R (.returned (ρ 2)) w) []
theorem b1_eq (R : Ending → World → Prop) (ρ : Env) (w : World) : (b1 R (ρ 0) w) = codeP Try.prog (pan R) code (q1 R) ρ w := by kernel_rfl
theorem b1_ok (R : Ending → World → Prop) (ρ : Env) (w : World) (h : b1 R (ρ 0) w) : codeP Try.prog (pan R) code (q1 R) ρ w := (b1_eq R ρ w).mp h
/-- What is owed for a call. -/
def run (R : Ending → World → Prop) (a0 : Value) (w : World) : Prop := b1 R a0 w
theorem calls (R : Ending → World → Prop) (a0 : Value) (w : World) (h : run R a0 w) : Calls Try.prog id #[a0] w R :=
  calls_of_t (f := id) (fn := Try.f3) (c := code) (by kernel_rfl) Try.func3 (by kernel_rfl) (by kernel_rfl) (args := [a0]) (Nat.le_of_ble_eq_true rfl) rfl (b1_ok R (envOf [a0]) w h)
theorem enters : Enters Try.prog id := fun args w => Try.call3 args w
theorem ct {a0 : Value} {w : World} {S : Value → World → Prop} (h : ∀ R : Ending → World → Prop, (∀ v w, S v w → R (.returned v) w) → run R a0 w) : Ct Try.prog id #[a0] w S :=
  Ct.intro enters fun R hR => calls R a0 w (h R hR)
attribute [irreducible] b1_1 b1_2 b1_3 b1_4 b1 run
attribute [go_sem] b1_1 b1_2 b1_3 b1_4 b1 run
end law05_ShowTexts




/-! ### presage/presagelaw05.awake -/
namespace law05_awake
noncomputable def code : Code := bodyOf Try.f19
def b1_1 (R : Ending → World → Prop) (v26 v36 : Value) (w43 : World) (_r : Tok R := tok R) : Prop :=
  RUN Try.prog (pan R) (bins .eql 9 (.tmp 33) (.const (Go.Value.string { data := #[37, 116, 111, 107, 101, 110, 32, 39, 97, 39, 32, 59, 10, 37, 115, 116, 97, 114, 116, 32, 83, 32, 59, 10, 83, 32, 58, 32, 83, 32, 39, 97, 39, 32, 59, 10, 83, 32, 58, 32, 59, 10] })) v26 (Go.Value.string { data := #[37, 116, 111, 107, 101, 110, 32, 39, 97, 39, 32, 59, 10, 37, 115, 116, 97, 114, 116, 32, 83, 32, 59, 10, 83, 32, 58, 32, 83, 32, 39, 97, 39, 32, 59, 10, 83, 32, 58, 32, 59, 10] })) w43 fun v44 w45 =>
  SPL v44
  (RUN Try.prog (pan R) (bins .eql 9 (.tmp 37) (.const (Go.Value.string { data := #[83, 32, 45, 62, 32, 83, 32, 46, 32, 39, 97, 39] })) v36 (Go.Value.string { data := #[83, 32, 45, 62, 32, 83, 32, 46, 32, 39, 97, 39] })) w45 fun v46 w47 =>
  R (.returned v46) w47)
  (R (.returned (Go.Value.bool Bool.false)) w45)
def b1_2 (R : Ending → World → Prop) (v26 v28 v34 : Value) (w35 : World) (_r : Tok R := tok R) : Prop :=
  RUN Try.prog (pan R) (Instr.extract v34 0) w35 fun v36 w37 =>
  RUN Try.prog (pan R) (Instr.extract v34 1) w37 fun v38 w39 =>
  RUN Try.prog (pan R) (bins .eql 29 (.tmp 26) (.const (Go.Value.int Go.IntKind.i64 0)) v28 (Go.Value.int Go.IntKind.i64 0)) w39 fun v40 w41 =>
  SPL v40
  (RUN Try.prog (pan R) (bins .eql 29 (.tmp 29) (.const (Go.Value.int Go.IntKind.i64 0)) v38 (Go.Value.int Go.IntKind.i64 0)) w41 fun v42 w43 =>
  SPL v42
  (b1_1 R v26 v36 w43)
  (R (.returned (Go.Value.bool Bool.false)) w43))
  (R (.returned (Go.Value.bool Bool.false)) w41)
def b1_3 (R : Ending → World → Prop) (v19 v24 : Value) (w25 : World) (_r : Tok R := tok R) : Prop :=
  RUN Try.prog (pan R) (Instr.extract v24 0) w25 fun v26 w27 =>
  RUN Try.prog (pan R) (Instr.extract v24 1) w27 fun v28 w29 =>
  RUN Try.prog (pan R) (Instr.loadAt 27 v19) w29 fun v30 w31 =>
  RUN Try.prog (pan R) (Instr.build 36 #[(1, (Go.Value.int Go.IntKind.i64 1))]) w31 fun v32 w33 =>
  CALL Try.prog (pan R) show_Item.id #[v30, v32] w33 fun v34 w35 =>
  b1_2 R v26 v28 v34 w35

def b1 (R : Ending → World → Prop) (w : World) (_r : Tok R := tok R) : Prop :=
  RUN Try.prog (pan R) (Instr.build 106 #[]) w fun v1 w2 =>
  RUN Try.prog (pan R) (Instr.build 106 #[(0, (Go.Value.string { data := #[97] }))]) w2 fun v3 w4 =>
  RUN Try.prog (pan R) (Instr.buildSlice 22 2 #[(0, v1), (1, v3)]) w4 fun v5 w6 =>
  RUN Try.prog (pan R) (Instr.buildSlice 23 1 #[(0, (Go.Value.string { data := #[83] }))]) w6 fun v7 w8 =>
  RUN Try.prog (pan R) (Instr.buildSlice 24 2 #[(0, (Go.Value.int Go.IntKind.i64 2)), (1, (Go.Value.int Go.IntKind.i64 1))]) w8 fun v9 w10 =>
  RUN Try.prog (pan R) (Instr.build 47 #[(0, (Go.Value.int Go.IntKind.i64 2)), (1, v9)]) w10 fun v11 w12 =>
  RUN Try.prog (pan R) (Instr.build 47 #[(0, (Go.Value.int Go.IntKind.i64 2))]) w12 fun v13 w14 =>
  RUN Try.prog (pan R) (Instr.buildSlice 25 2 #[(0, v11), (1, v13)]) w14 fun v15 w16 =>
  RUN Try.prog (pan R) (Instr.build 27 #[(0, v5), (1, v7), (3, (Go.Value.int Go.IntKind.i64 2)), (4, v15)]) w16 fun v17 w18 =>
  RUN Try.prog (pan R) (Instr.alloc 27 true (.tuple #[])) w18 fun v19 w20 =>
  RUNU Try.prog (pan R) (Instr.storeAt 27 v19 v17) w20 fun w21 =>
  RUN Try.prog (pan R) (Instr.loadAt 27 v19) w21 fun v22 w23 =>
  CALL Try.prog (pan R) show_Text.id #[v22] w23 fun v24 w25 =>
  b1_3 R v19 v24 w25
abbrev q1 (R : Ending → World → Prop) : Exit → Env → World → Prop := QX (fun ρ w => R (.returned (ρ 0)) w) (fun ρ w => R (.returned (ρ 0)) w) []
theorem b1_eq (R : Ending → World → Prop) (ρ : Env) (w : World) : (b1 R w) = codeP Try.prog (pan R) code (q1 R) ρ w := by kernel_rfl
theorem b1_ok (R : Ending → World → Prop) (ρ : Env) (w : World) (h : b1 R w) : codeP Try.prog (pan R) code (q1 R) ρ w := (b1_eq R ρ w).mp h
/-- What is owed for a call. -/
def run (R : Ending → World → Prop) (w : World) : Prop := b1 R w
theorem calls (R : Ending → World → Prop) (w : World) (h : run R w) : Calls Try.prog id #[] w R :=
  calls_of_t (f := id) (fn := Try.f19) (c := code) (by kernel_rfl) Try.func19 (by kernel_rfl) (by kernel_rfl) (args := []) (Nat.le_of_ble_eq_true rfl) rfl (b1_ok R (envOf []) w h)
theorem enters : Enters Try.prog id := fun args w => Try.call19 args w
theorem ct {w : World} {S : Value → World → Prop} (h : ∀ R : Ending → World → Prop, (∀ v w, S v w → R (.returned v) w) → run R w) : Ct Try.prog id #[] w S :=
  Ct.intro enters fun R hR => calls R w (h R hR)
attribute [irreducible] b1_1 b1_2 b1_3 b1 run
attribute [go_sem] b1_1 b1_2 b1_3 b1 run
end law05_awake

end Go.Proofs.Ytkacbjhiobnbfaa

