/- Shallow programs, written by a program of ours (gen.py) off the translation; each is tied to the code by the kernel. -/
import Derived.Test.YtkacbjhiobnbfaaGa
set_option linter.unusedVariables false
set_option maxRecDepth 100000
namespace Go.Proofs.Ytkacbjhiobnbfaa
open Go.Px

/-! ### presage/presagelaw05.ShowTexts -/
namespace law05_ShowTexts
noncomputable def code : Code := bodyOf Try.f3
def b1_1 (R : Ending → World → Prop) (v1 v7 : Value) (w29 : World) (_r : Tok R := tok R) : Prop :=
  RUN Try.prog (pan R) (Instr.loadAt 27 v7) w29 fun v30 w31 =>
  RUN Try.prog (pan R) (Instr.loadAt 27 v1) w31 fun v32 w33 =>
  CALL Try.prog (pan R) ref02_Same.id #[v30, v32] w33 fun v34 w35 =>
  SPL v34
  (CALL Try.prog (pan R) law05_awake.id #[] w35 fun v36 w37 =>
  R (.returned v36) w37)
  (R (.returned (Go.Value.bool Bool.false)) w35)
def b1_2 (R : Ending → World → Prop) (v1 v7 v14 v16 v20 : Value) (w21 : World) (_r : Tok R := tok R) : Prop :=
  RUN Try.prog (pan R) (Instr.extract v20 0) w21 fun v22 w23 =>
  RUN Try.prog (pan R) (Instr.extract v20 1) w23 fun v24 w25 =>
  RUN Try.prog (pan R) (bins .eql 9 (.tmp 20) (.tmp 21) v14 v22) w25 fun v26 w27 =>
  SPL v26
  (RUN Try.prog (pan R) (bins .eql 29 (.tmp 24) (.tmp 25) v16 v24) w27 fun v28 w29 =>
  SPL v28
  (b1_1 R v1 v7 w29)
  (R (.returned (Go.Value.bool Bool.false)) w29))
  (R (.returned (Go.Value.bool Bool.false)) w27)
def b1_3 (R : Ending → World → Prop) (v1 v7 v12 : Value) (w13 : World) (_r : Tok R := tok R) : Prop :=
  RUN Try.prog (pan R) (Instr.extract v12 0) w13 fun v14 w15 =>
  RUN Try.prog (pan R) (Instr.extract v12 1) w15 fun v16 w17 =>
  RUN Try.prog (pan R) (Instr.loadAt 27 v1) w17 fun v18 w19 =>
  CALL Try.prog (pan R) ref05_Text.id #[v18] w19 fun v20 w21 =>
  b1_2 R v1 v7 v14 v16 v20 w21
def b1_4 (R : Ending → World → Prop) (v1 v5 : Value) (w6 : World) (_r : Tok R := tok R) : Prop :=
  RUN Try.prog (pan R) (Instr.alloc 27 true (.tuple #[])) w6 fun v7 w8 =>
  RUNU Try.prog (pan R) (Instr.storeAt 27 v7 v5) w8 fun w9 =>
  RUN Try.prog (pan R) (Instr.loadAt 27 v7) w9 fun v10 w11 =>
  CALL Try.prog (pan R) show_Text.id #[v10] w11 fun v12 w13 =>
  b1_3 R v1 v7 v12 w13
/- x0 g -/
def b1 (R : Ending → World → Prop) (x0 : Value) (w : World) (_r : Tok R := tok R) : Prop :=
  RUN Try.prog (pan R) (Instr.box 27 x0) w fun v1 w2 =>
  RUN Try.prog (pan R) (Instr.loadAt 27 v1) w2 fun v3 w4 =>
  CALL Try.prog (pan R) ref02_Copy.id #[v3] w4 fun v5 w6 =>
  b1_4 R v1 v5 w6
abbrev q1 (R : Ending → World → Prop) : Exit → Env → World → Prop := QX (fun ρ w => R (.returned (ρ 2)) w) (fun ρ w => R (.returned (ρ 2)) w) []
theorem b1_eq (R : Ending → World → Prop) (ρ : Env) (w : World) : (b1 R (ρ 0) w) = codeP Try.prog (pan R) code (q1 R) ρ w := by kernel_rfl
theorem b1_ok (R : Ending → World → Prop) (ρ : Env) (w : World) (h : b1 R (ρ 0) w) : codeP Try.prog (pan R) code (q1 R) ρ w := (b1_eq R ρ w).mp h
/-- What is owed for a call. -/
def run (R : Ending → World → Prop) (a0 : Value) (w : World) : Prop := b1 R a0 w
theorem calls (R : Ending → World → Prop) (a0 : Value) (w : World) (h : run R a0 w) : Calls Try.prog id #[a0] w R :=
  calls_of_t (f := id) (fn := Try.f3) (c := code) (by kernel_rfl) Try.func3 (by kernel_rfl) (by kernel_rfl) (args := [a0]) (Nat.le_of_ble_eq_true rfl) rfl (b1_ok R (envOf [a0]) w h)
theorem enters : Enters Try.prog id := fun args w => Try.call3 args w
theorem ct {a0 : Value} {w : World} {S : Value → World → Prop} (h : ∀ R : Ending → World → Prop, (∀ v w, S v w → R (.returned v) w) → run R a0 w) : Ct Try.prog id #[a0] w S :=
  Ct.intro enters fun R hR => calls R a0 w (h R hR)
attribute [irreducible] b1_1 b1_2 b1_3 b1_4 b1 run
attribute [go_sem] b1_1 b1_2 b1_3 b1_4 b1 run
end law05_ShowTexts



/-! ### presage/presagelaw05.ShowAll -/
namespace law05_ShowAll
noncomputable def code : Code := bodyOf Try.f6
noncomputable abbrev p1 : Code := dropC 11 code
noncomputable abbrev p2 : Code := dropC 2 (sndC p1)
noncomputable abbrev p3 : Code := dropC 2 p2
noncomputable abbrev p4 : Code := dropC 2 p3
def b6_1 (R : Ending → World → Prop) (x22 x25 : Value) (w2 : World) (_r : Tok R := tok R) : Prop :=
  RUN Try.prog (pan R) (bins .eql 9 (.tmp 156) (.tmp 157) x22 x25) w2 fun v3 w4 =>
  SPL v3
  (CALL Try.prog (pan R) law05_awake.id #[] w4 fun v5 w6 =>
  R (.returned v5) w6)
  (R (.returned (Go.Value.bool Bool.false)) w4)

def b6 (R : Ending → World → Prop) (x20 x22 x24 x25 : Value) (w : World) (_r : Tok R := tok R) : Prop :=
  RUN Try.prog (pan R) (bins .eql 9 (.tmp 152) (.tmp 153) x20 x24) w fun v1 w2 =>
  SPL v1
  (b6_1 R x22 x25 w2)
  (R (.returned (Go.Value.bool Bool.false)) w2)
abbrev q1 (R : Ending → World → Prop) : Exit → Env → World → Prop := QX (fun ρ w => R (.returned (ρ 6)) w) (fun ρ w => R (.returned (ρ 6)) w) []
theorem b6_eq (R : Ending → World → Prop) (ρ : Env) (w : World) : (b6 R (ρ 20) (ρ 22) (ρ 24) (ρ 25) w) = codeP Try.prog (pan R) p4 (q1 R) ρ w := by kernel_rfl
theorem b6_ok (R : Ending → World → Prop) (ρ : Env) (w : World) (h : b6 R (ρ 20) (ρ 22) (ρ 24) (ρ 25) w) : codeP Try.prog (pan R) p4 (q1 R) ρ w := (b6_eq R ρ w).mp h
def b5_1 (R : Ending → World → Prop) (x18 x20 x22 x24 v1 : Value) (w10 : World) (_r : Tok R := tok R) : Prop :=
  RUN Try.prog (pan R) (bins .add 9 (.tmp 148) (.const (Go.Value.string { data := #[32] })) v1 (Go.Value.string { data := #[32] })) w10 fun v11 w12 =>
  RUN Try.prog (pan R) (bins .add 9 (.tmp 149) (.tmp 150) v11 x18) w12 fun v13 w14 =>
  b6 R x20 x22 x24 v13 w14

def b5 (R : Ending → World → Prop) (x10 x11 x18 x20 x22 x24 x25 : Value) (w : World) (_r : Tok R := tok R) : Prop :=
  RUN Try.prog (pan R) (bins .add 9 (.tmp 141) (.const (Go.Value.string { data := #[32, 46] })) x25 (Go.Value.string { data := #[32, 46] })) w fun v1 w2 =>
  RUN Try.prog (pan R) (Instr.fieldAt 47 x10 1) w2 fun v3 w4 =>
  RUN Try.prog (pan R) (Instr.loadAt 24 v3) w4 fun v5 w6 =>
  RUN Try.prog (pan R) (Builtin.len_ #[24] 3 #[v5]) w6 fun v7 w8 =>
  RUN Try.prog (pan R) (bins .lss 3 (.tmp 143) (.tmp 146) x11 v7) w8 fun v9 w10 =>
  SPL v9
  (b5_1 R x18 x20 x22 x24 v1 w10)
  (b6 R x20 x22 x24 v1 w10)
abbrev q2 (R : Ending → World → Prop) : Exit → Env → World → Prop := QX (fun ρ w => b6 R (ρ 20) (ρ 22) (ρ 24) (ρ 25) w) (fun ρ w => R (.returned (ρ 6)) w) []
theorem b5_eq (R : Ending → World → Prop) (ρ : Env) (w : World) : (b5 R (ρ 10) (ρ 11) (ρ 18) (ρ 20) (ρ 22) (ρ 24) (ρ 25) w) = codeP Try.prog (pan R) (preC 1 p3) (q2 R) ρ w := by kernel_rfl
theorem b5_ok (R : Ending → World → Prop) (ρ : Env) (w : World) (h : b5 R (ρ 10) (ρ 11) (ρ 18) (ρ 20) (ρ 22) (ρ 24) (ρ 25) w) : codeP Try.prog (pan R) p3 (q1 R) ρ w := by
  have e : appC 1 (preC 1 p3) (dropC 2 p3) = p3 := by kernel_rfl
  rw [← e]
  exact appQ (fun ρ w => b6 R (ρ 20) (ρ 22) (ρ 24) (ρ 25) w) 1 ((b5_eq R ρ w).mp h) (fun ρ w h => b6_ok R ρ w h)
def b4_1 (R : Ending → World → Prop) (x10 x11 x16 x18 x20 x22 x24 v1 : Value) (w4 : World) (_r : Tok R := tok R) : Prop :=
  RUN Try.prog (pan R) (bins .add 9 (.tmp 137) (.const (Go.Value.string { data := #[32] })) v1 (Go.Value.string { data := #[32] })) w4 fun v5 w6 =>
  RUN Try.prog (pan R) (bins .add 9 (.tmp 138) (.tmp 139) v5 x16) w6 fun v7 w8 =>
  b5 R x10 x11 x18 x20 x22 x24 v7 w8

def b4 (R : Ending → World → Prop) (x10 x11 x12 x16 x18 x20 x22 x24 : Value) (w : World) (_r : Tok R := tok R) : Prop :=
  RUN Try.prog (pan R) (bins .add 9 (.tmp 133) (.const (Go.Value.string { data := #[32, 45, 62] })) x12 (Go.Value.string { data := #[32, 45, 62] })) w fun v1 w2 =>
  RUN Try.prog (pan R) (bins .gtr 3 (.tmp 135) (.const (Go.Value.int Go.IntKind.i64 0)) x11 (Go.Value.int Go.IntKind.i64 0)) w2 fun v3 w4 =>
  SPL v3
  (b4_1 R x10 x11 x16 x18 x20 x22 x24 v1 w4)
  (b5 R x10 x11 x18 x20 x22 x24 v1 w4)
abbrev q3 (R : Ending → World → Prop) : Exit → Env → World → Prop := QX (fun ρ w => b5 R (ρ 10) (ρ 11) (ρ 18) (ρ 20) (ρ 22) (ρ 24) (ρ 25) w) (fun ρ w => R (.returned (ρ 6)) w) []
theorem b4_eq (R : Ending → World → Prop) (ρ : Env) (w : World) : (b4 R (ρ 10) (ρ 11) (ρ 12) (ρ 16) (ρ 18) (ρ 20) (ρ 22) (ρ 24) w) = codeP Try.prog (pan R) (preC 1 p2) (q3 R) ρ w := by kernel_rfl
theorem b4_ok (R : Ending → World → Prop) (ρ : Env) (w : World) (h : b4 R (ρ 10) (ρ 11) (ρ 12) (ρ 16) (ρ 18) (ρ 20) (ρ 22) (ρ 24) w) : codeP Try.prog (pan R) p2 (q1 R) ρ w := by
  have e : appC 1 (preC 1 p2) (dropC 2 p2) = p2 := by kernel_rfl
  rw [← e]
  exact appQ (fun ρ w => b5 R (ρ 10) (ρ 11) (ρ 18) (ρ 20) (ρ 22) (ρ 24) (ρ 25) w) 1 ((b4_eq R ρ w).mp h) (fun ρ w h => b5_ok R ρ w h)
def b3_1 (R : Ending → World → Prop) (x10 x11 x12 x14 x16 x18 x20 x22 v1 : Value) (w10 : World) (_r : Tok R := tok R) : Prop :=
  RUN Try.prog (pan R) (bins .add 9 (.tmp 129) (.const (Go.Value.string { data := #[32] })) v1 (Go.Value.string { data := #[32] })) w10 fun v11 w12 =>
  RUN Try.prog (pan R) (bins .add 9 (.tmp 130) (.tmp 131) v11 x14) w12 fun v13 w14 =>
  b4 R x10 x11 x12 x16 x18 x20 x22 v13 w14

def b3 (R : Ending → World → Prop) (x10 x11 x12 x14 x16 x18 x20 x22 : Value) (w : World) (_r : Tok R := tok R) : Prop :=
  RUN Try.prog (pan R) (bins .add 9 (.tmp 123) (.const (Go.Value.string { data := #[32, 45, 62] })) x12 (Go.Value.string { data := #[32, 45, 62] })) w fun v1 w2 =>
  RUN Try.prog (pan R) (Instr.fieldAt 47 x10 1) w2 fun v3 w4 =>
  RUN Try.prog (pan R) (Instr.loadAt 24 v3) w4 fun v5 w6 =>
  RUN Try.prog (pan R) (Builtin.len_ #[24] 3 #[v5]) w6 fun v7 w8 =>
  RUN Try.prog (pan R) (bins .gtr 3 (.tmp 127) (.const (Go.Value.int Go.IntKind.i64 0)) v7 (Go.Value.int Go.IntKind.i64 0)) w8 fun v9 w10 =>
  SPL v9
  (b3_1 R x10 x11 x12 x14 x16 x18 x20 x22 v1 w10)
  (b4 R x10 x11 x12 x16 x18 x20 x22 v1 w10)
abbrev q4 (R : Ending → World → Prop) : Exit → Env → World → Prop := QX (fun ρ w => b4 R (ρ 10) (ρ 11) (ρ 12) (ρ 16) (ρ 18) (ρ 20) (ρ 22) (ρ 24) w) (fun ρ w => R (.returned (ρ 6)) w) []
theorem b3_eq (R : Ending → World → Prop) (ρ : Env) (w : World) : (b3 R (ρ 10) (ρ 11) (ρ 12) (ρ 14) (ρ 16) (ρ 18) (ρ 20) (ρ 22) w) = codeP Try.prog (pan R) (preC 1 (sndC p1)) (q4 R) ρ w := by kernel_rfl
theorem b3_ok (R : Ending → World → Prop) (ρ : Env) (w : World) (h : b3 R (ρ 10) (ρ 11) (ρ 12) (ρ 14) (ρ 16) (ρ 18) (ρ 20) (ρ 22) w) : codeP Try.prog (pan R) (sndC p1) (q1 R) ρ w := by
  have e : appC 1 (preC 1 (sndC p1)) (dropC 2 (sndC p1)) = (sndC p1) := by kernel_rfl
  rw [← e]
  exact appQ (fun ρ w => b4 R (ρ 10) (ρ 11) (ρ 12) (ρ 16) (ρ 18) (ρ 20) (ρ 22) (ρ 24) w) 1 ((b3_eq R ρ w).mp h) (fun ρ w h => b4_ok R ρ w h)
noncomputable abbrev p5 : Code := dropC 1 (fstC p1)

def b8 (R : Ending → World → Prop) (x10 x11 x12 x14 x16 x18 x20 x22 x122 : Value) (w : World) (_r : Tok R := tok R) : Prop :=
  SPL x122
  (R (.returned (Go.Value.bool Bool.false)) w)
  (b3 R x10 x11 x12 x14 x16 x18 x20 x22 w)
abbrev q5 (R : Ending → World → Prop) : Exit → Env → World → Prop := QX (fun ρ w => b3 R (ρ 10) (ρ 11) (ρ 12) (ρ 14) (ρ 16) (ρ 18) (ρ 20) (ρ 22) w) (fun ρ w => R (.returned (ρ 6)) w) []
theorem b8_eq (R : Ending → World → Prop) (ρ : Env) (w : World) : (b8 R (ρ 10) (ρ 11) (ρ 12) (ρ 14) (ρ 16) (ρ 18) (ρ 20) (ρ 22) (ρ 122) w) = codeP Try.prog (pan R) p5 (q5 R) ρ w := by kernel_rfl
theorem b8_ok (R : Ending → World → Prop) (ρ : Env) (w : World) (h : b8 R (ρ 10) (ρ 11) (ρ 12) (ρ 14) (ρ 16) (ρ 18) (ρ 20) (ρ 22) (ρ 122) w) : codeP Try.prog (pan R) p5 (q5 R) ρ w := (b8_eq R ρ w).mp h
def b7_1 (R : Ending → World → Prop) (x10 x11 x12 x14 x16 x18 x20 x21 x22 x23 : Value) (w8 : World) (_r : Tok R := tok R) : Prop :=
  RUN Try.prog (pan R) (bins .neq 29 (.tmp 116) (.const (Go.Value.int Go.IntKind.i64 0)) x21 (Go.Value.int Go.IntKind.i64 0)) w8 fun v9 w10 =>
  SPL v9
  (b8 R x10 x11 x12 x14 x16 x18 x20 x22 (Go.Value.bool Bool.true) w10)
  (RUN Try.prog (pan R) (bins .neq 29 (.tmp 120) (.const (Go.Value.int Go.IntKind.i64 0)) x23 (Go.Value.int Go.IntKind.i64 0)) w10 fun v11 w12 =>
  b8 R x10 x11 x12 x14 x16 x18 x20 x22 v11 w12)
def b7_2 (R : Ending → World → Prop) (x10 x11 x12 x14 x16 x17 x18 x19 x20 x21 x22 x23 : Value) (w4 : World) (_r : Tok R := tok R) : Prop :=
  RUN Try.prog (pan R) (bins .neq 29 (.tmp 108) (.const (Go.Value.int Go.IntKind.i64 0)) x17 (Go.Value.int Go.IntKind.i64 0)) w4 fun v5 w6 =>
  SPL v5
  (b8 R x10 x11 x12 x14 x16 x18 x20 x22 (Go.Value.bool Bool.true) w6)
  (RUN Try.prog (pan R) (bins .neq 29 (.tmp 112) (.const (Go.Value.int Go.IntKind.i64 0)) x19 (Go.Value.int Go.IntKind.i64 0)) w6 fun v7 w8 =>
  SPL v7
  (b8 R x10 x11 x12 x14 x16 x18 x20 x22 (Go.Value.bool Bool.true) w8)
  (b7_1 R x10 x11 x12 x14 x16 x18 x20 x21 x22 x23 w8))

def b7 (R : Ending → World → Prop) (x10 x11 x12 x13 x14 x15 x16 x17 x18 x19 x20 x21 x22 x23 : Value) (w : World) (_r : Tok R := tok R) : Prop :=
  RUN Try.prog (pan R) (bins .neq 29 (.tmp 101) (.const (Go.Value.int Go.IntKind.i64 0)) x13 (Go.Value.int Go.IntKind.i64 0)) w fun v1 w2 =>
  SPL v1
  (b8 R x10 x11 x12 x14 x16 x18 x20 x22 (Go.Value.bool Bool.true) w2)
  (RUN Try.prog (pan R) (bins .neq 29 (.tmp 104) (.const (Go.Value.int Go.IntKind.i64 0)) x15 (Go.Value.int Go.IntKind.i64 0)) w2 fun v3 w4 =>
  SPL v3
  (b8 R x10 x11 x12 x14 x16 x18 x20 x22 (Go.Value.bool Bool.true) w4)
  (b7_2 R x10 x11 x12 x14 x16 x17 x18 x19 x20 x21 x22 x23 w4))
abbrev q6 (R : Ending → World → Prop) : Exit → Env → World → Prop := QX (fun ρ w => b8 R (ρ 10) (ρ 11) (ρ 12) (ρ 14) (ρ 16) (ρ 18) (ρ 20) (ρ 22) (ρ 122) w) (fun ρ w => R (.returned (ρ 6)) w) []
theorem b7_eq (R : Ending → World → Prop) (ρ : Env) (w : World) : (b7 R (ρ 10) (ρ 11) (ρ 12) (ρ 13) (ρ 14) (ρ 15) (ρ 16) (ρ 17) (ρ 18) (ρ 19) (ρ 20) (ρ 21) (ρ 22) (ρ 23) w) = codeP Try.prog (pan R) (preC 0 (fstC p1)) (q6 R) ρ w := by kernel_rfl
theorem b7_ok (R : Ending → World → Prop) (ρ : Env) (w : World) (h : b7 R (ρ 10) (ρ 11) (ρ 12) (ρ 13) (ρ 14) (ρ 15) (ρ 16) (ρ 17) (ρ 18) (ρ 19) (ρ 20) (ρ 21) (ρ 22) (ρ 23) w) : codeP Try.prog (pan R) (fstC p1) (q5 R) ρ w := by
  have e : appC 0 (preC 0 (fstC p1)) (dropC 1 (fstC p1)) = (fstC p1) := by kernel_rfl
  rw [← e]
  exact appQ (fun ρ w => b8 R (ρ 10) (ρ 11) (ρ 12) (ρ 14) (ρ 16) (ρ 18) (ρ 20) (ρ 22) (ρ 122) w) 0 ((b7_eq R ρ w).mp h) (fun ρ w h => b8_ok R ρ w h)
theorem k2_ok (R : Ending → World → Prop) (ρ : Env) (w : World) (h : b7 R (ρ 10) (ρ 11) (ρ 12) (ρ 13) (ρ 14) (ρ 15) (ρ 16) (ρ 17) (ρ 18) (ρ 19) (ρ 20) (ρ 21) (ρ 22) (ρ 23) w) : codeP Try.prog (pan R) p1 (q1 R) ρ w := by
  have e : Code.seq (fstC p1) (sndC p1) = p1 := by kernel_rfl
  rw [← e]
  exact seqQ (fun ρ w => b3 R (ρ 10) (ρ 11) (ρ 12) (ρ 14) (ρ 16) (ρ 18) (ρ 20) (ρ 22) w) (b7_ok R ρ w h) (fun ρ w h => b3_ok R ρ w h)
def b1_1 (R : Ending → World → Prop) (v11 : Value) (w12 : World) (_r : Tok R := tok R) : Prop :=
  RUN Try.prog (pan R) (Instr.extract v11 0) w12 fun v13 w14 =>
  RUN Try.prog (pan R) (Instr.extract v11 1) w14 fun v15 w16 =>
  RUN Try.prog (pan R) (bins .eql 29 (.tmp 34) (.const (Go.Value.int Go.IntKind.i64 1)) v15 (Go.Value.int Go.IntKind.i64 1)) w16 fun v17 w18 =>
  SPL v17
  (CALL Try.prog (pan R) law05_awake.id #[] w18 fun v19 w20 =>
  R (.returned v19) w20)
  (R (.returned (Go.Value.bool Bool.false)) w18)
def b1_2 (R : Ending → World → Prop) (v1 : Value) (w8 : World) (_r : Tok R := tok R) : Prop :=
  RUN Try.prog (pan R) (Instr.loadAt 27 v1) w8 fun v9 w10 =>
  CALL Try.prog (pan R) show_Text.id #[v9] w10 fun v11 w12 =>
  b1_1 R v11 w12
def b1_3 (R : Ending → World → Prop) (v37 v48 v58 v60 v70 v72 v80 v81 v88 v89 v94 v96 v102 : Value) (w103 : World) (_r : Tok R := tok R) : Prop :=
  RUN Try.prog (pan R) (Instr.extract v102 0) w103 fun v104 w105 =>
  RUN Try.prog (pan R) (Instr.extract v102 1) w105 fun v106 w107 =>
  b7 R v37 v48 v58 v60 v70 v72 v80 v81 v88 v89 v94 v96 v104 v106 w107
def b1_4 (R : Ending → World → Prop) (v1 v27 v37 v48 v58 v60 v70 v72 v80 v81 v88 v89 v92 : Value) (w93 : World) (_r : Tok R := tok R) : Prop :=
  RUN Try.prog (pan R) (Instr.extract v92 0) w93 fun v94 w95 =>
  RUN Try.prog (pan R) (Instr.extract v92 1) w95 fun v96 w97 =>
  RUN Try.prog (pan R) (Instr.loadAt 27 v1) w97 fun v98 w99 =>
  RUN Try.prog (pan R) (Instr.build 36 #[(0, v27), (1, v48)]) w99 fun v100 w101 =>
  CALL Try.prog (pan R) show_Item.id #[v98, v100] w101 fun v102 w103 =>
  b1_3 R v37 v48 v58 v60 v70 v72 v80 v81 v88 v89 v94 v96 v102 w103
def b1_5 (R : Ending → World → Prop) (v1 v27 v37 v48 v58 v60 v70 v72 v80 v81 v86 : Value) (w87 : World) (_r : Tok R := tok R) : Prop :=
  PUR Try.prog (Instr.extract v86 0) fun v88 =>
  PUR Try.prog (Instr.extract v86 1) fun v89 =>
  RUN Try.prog (pan R) (Instr.loadAt 27 v1) w87 fun v90 w91 =>
  CALL Try.prog (pan R) show_Prod.id #[v90, v27] w91 fun v92 w93 =>
  b1_4 R v1 v27 v37 v48 v58 v60 v70 v72 v80 v81 v88 v89 v92 w93
def b1_6 (R : Ending → World → Prop) (v1 v27 v37 v48 v58 v60 v70 v72 v78 : Value) (w79 : World) (_r : Tok R := tok R) : Prop :=
  PUR Try.prog (Instr.extract v78 0) fun v80 =>
  PUR Try.prog (Instr.extract v78 1) fun v81 =>
  LD Try.prog (Instr.loadAt 27 v1) (World.drew w79) fun v82 =>
  PUR Try.prog (Instr.fieldAt 47 v37 1) fun v83 =>
  LD Try.prog (Instr.loadAt 24 v83) (World.drew w79) fun v84 =>
  PUR Try.prog (Instr.sliceAt 24 v84 (some v48) none none) fun v85 =>
  CALL Try.prog (pan R) show_Row.id #[v82, v85] (World.drew w79) fun v86 w87 =>
  b1_5 R v1 v27 v37 v48 v58 v60 v70 v72 v80 v81 v86 w87
def b1_7 (R : Ending → World → Prop) (v1 v27 v37 v48 v58 v60 v68 : Value) (w69 : World) (_r : Tok R := tok R) : Prop :=
  RUN Try.prog (pan R) (Instr.extract v68 0) w69 fun v70 w71 =>
  RUN Try.prog (pan R) (Instr.extract v68 1) w71 fun v72 w73 =>
  LD Try.prog (Instr.loadAt 27 v1) (World.drew w73) fun v74 =>
  PUR Try.prog (Instr.fieldAt 47 v37 1) fun v75 =>
  LD Try.prog (Instr.loadAt 24 v75) (World.drew w73) fun v76 =>
  PUR Try.prog (Instr.sliceAt 24 v76 none (some v48) none) fun v77 =>
  CALL Try.prog (pan R) show_Row.id #[v74, v77] (World.drew w73) fun v78 w79 =>
  b1_6 R v1 v27 v37 v48 v58 v60 v70 v72 v78 w79
def b1_8 (R : Ending → World → Prop) (v1 v27 v37 v48 v56 : Value) (w57 : World) (_r : Tok R := tok R) : Prop :=
  RUN Try.prog (pan R) (Instr.extract v56 0) w57 fun v58 w59 =>
  RUN Try.prog (pan R) (Instr.extract v56 1) w59 fun v60 w61 =>
  RUN Try.prog (pan R) (Instr.loadAt 27 v1) w61 fun v62 w63 =>
  RUN Try.prog (pan R) (Instr.fieldAt 47 v37 1) w63 fun v64 w65 =>
  RUN Try.prog (pan R) (Instr.loadAt 24 v64) w65 fun v66 w67 =>
  CALL Try.prog (pan R) show_Row.id #[v62, v66] w67 fun v68 w69 =>
  b1_7 R v1 v27 v37 v48 v58 v60 v68 w69
def b1_9 (R : Ending → World → Prop) (v1 v27 v37 v48 : Value) (w49 : World) (_r : Tok R := tok R) : Prop :=
  RUN Try.prog (pan R) (Instr.loadAt 27 v1) w49 fun v50 w51 =>
  RUN Try.prog (pan R) (Instr.fieldAt 47 v37 0) w51 fun v52 w53 =>
  RUN Try.prog (pan R) (Instr.loadAt 3 v52) w53 fun v54 w55 =>
  CALL Try.prog (pan R) show_Symbol.id #[v50, v54] w55 fun v56 w57 =>
  b1_8 R v1 v27 v37 v48 v56 w57
def b1_10 (R : Ending → World → Prop) (x2 v1 v27 : Value) (w28 : World) (_r : Tok R := tok R) : Prop :=
  RUN Try.prog (pan R) (Instr.fieldAt 27 v1 4) w28 fun v29 w30 =>
  RUN Try.prog (pan R) (Instr.loadAt 25 v29) w30 fun v31 w32 =>
  RUN Try.prog (pan R) (Instr.indexAt 25 v31 v27) w32 fun v33 w34 =>
  RUN Try.prog (pan R) (Instr.loadAt 47 v33) w34 fun v35 w36 =>
  RUN Try.prog (pan R) (Instr.alloc 47 true (.tuple #[])) w36 fun v37 w38 =>
  RUNU Try.prog (pan R) (Instr.storeAt 47 v37 v35) w38 fun w39 =>
  RUN Try.prog (pan R) (Instr.fieldAt 47 v37 1) w39 fun v40 w41 =>
  RUN Try.prog (pan R) (Instr.loadAt 24 v40) w41 fun v42 w43 =>
  RUN Try.prog (pan R) (Builtin.len_ #[24] 3 #[v42]) w43 fun v44 w45 =>
  RUN Try.prog (pan R) (bins .add 3 (.tmp 52) (.const (Go.Value.int Go.IntKind.i64 1)) v44 (Go.Value.int Go.IntKind.i64 1)) w45 fun v46 w47 =>
  CALL Try.prog (pan R) law05_pick.id #[x2, v46] w47 fun v48 w49 =>
  b1_9 R v1 v27 v37 v48 w49
def b1_11 (R : Ending → World → Prop) (x1 x2 v1 : Value) (w8 : World) (_r : Tok R := tok R) : Prop :=
  RUN Try.prog (pan R) (Instr.fieldAt 27 v1 4) w8 fun v21 w22 =>
  RUN Try.prog (pan R) (Instr.loadAt 25 v21) w22 fun v23 w24 =>
  RUN Try.prog (pan R) (Builtin.len_ #[25] 3 #[v23]) w24 fun v25 w26 =>
  CALL Try.prog (pan R) law05_pick.id #[x1, v25] w26 fun v27 w28 =>
  b1_10 R x2 v1 v27 w28

def b1 (R : Ending → World → Prop) (x0 x1 x2 : Value) (w : World) (_r : Tok R := tok R) : Prop :=
  RUN Try.prog (pan R) (Instr.box 27 x0) w fun v1 w2 =>
  RUN Try.prog (pan R) (Instr.loadAt 27 v1) w2 fun v3 w4 =>
  CALL Try.prog (pan R) ref05_Either.id #[v3] w4 fun v5 w6 =>
  RUN Try.prog (pan R) (Op.unary .not v5) w6 fun v7 w8 =>
  SPL v7
  (b1_2 R v1 w8)
  (b1_11 R x1 x2 v1 w8)
abbrev q7 (R : Ending → World → Prop) : Exit → Env → World → Prop := QX (fun ρ w => b7 R (ρ 10) (ρ 11) (ρ 12) (ρ 13) (ρ 14) (ρ 15) (ρ 16) (ρ 17) (ρ 18) (ρ 19) (ρ 20) (ρ 21) (ρ 22) (ρ 23) w) (fun ρ w => R (.returned (ρ 6)) w) []
theorem b1_eq (R : Ending → World → Prop) (ρ : Env) (w : World) : (b1 R (ρ 0) (ρ 1) (ρ 2) w) = codeP Try.prog (pan R) (preC 10 code) (q7 R) ρ w := by kernel_rfl
theorem b1_ok (R : Ending → World → Prop) (ρ : Env) (w : World) (h : b1 R (ρ 0) (ρ 1) (ρ 2) w) : codeP Try.prog (pan R) code (q1 R) ρ w := by
  have e : appC 10 (preC 10 code) (dropC 11 code) = code := by kernel_rfl
  rw [← e]
  exact appQ (fun ρ w => b7 R (ρ 10) (ρ 11) (ρ 12) (ρ 13) (ρ 14) (ρ 15) (ρ 16) (ρ 17) (ρ 18) (ρ 19) (ρ 20) (ρ 21) (ρ 22) (ρ 23) w) 10 ((b1_eq R ρ w).mp h) (fun ρ w h => k2_ok R ρ w h)
/-- What is owed for a call. -/
def run (R : Ending → World → Prop) (a0 a1 a2 : Value) (w : World) : Prop := b1 R a0 a1 a2 w
theorem calls (R : Ending → World → Prop) (a0 a1 a2 : Value) (w : World) (h : run R a0 a1 a2 w) : Calls Try.prog id #[a0, a1, a2] w R :=
  calls_of_t (f := id) (fn := Try.f6) (c := code) (by kernel_rfl) Try.func6 (by kernel_rfl) (by kernel_rfl) (args := [a0, a1, a2]) (Nat.le_of_ble_eq_true rfl) rfl (b1_ok R (envOf [a0, a1, a2]) w h)
theorem enters : Enters Try.prog id := fun args w => Try.call6 args w
theorem ct {a0 a1 a2 : Value} {w : World} {S : Value → World → Prop} (h : ∀ R : Ending → World → Prop, (∀ v w, S v w → R (.returned v) w) → run R a0 a1 a2 w) : Ct Try.prog id #[a0, a1, a2] w S :=
  Ct.intro enters fun R hR => calls R a0 a1 a2 w (h R hR)
attribute [irreducible] b6_1 b6 b5_1 b5 b4_1 b4 b3_1 b3 b8 b7_1 b7_2 b7 b1_1 b1_2 b1_3 b1_4 b1_5 b1_6 b1_7 b1_8 b1_9 b1_10 b1_11 b1 run
attribute [go_sem] b6_1 b6 b5_1 b5 b4_1 b4 b3_1 b3 b8 b7_1 b7_2 b7 b1_1 b1_2 b1_3 b1_4 b1_5 b1_6 b1_7 b1_8 b1_9 b1_10 b1_11 b1 run
end law05_ShowAll

/-! ### presage/presagelaw05.awake -/
namespace law05_awake
noncomputable def code : Code := bodyOf Try.f19
def b1_1 (R : Ending → World → Prop) (v26 v36 : Value) (w43 : World) (_r : Tok R := tok R) : Prop :=
  RUN Try.prog (pan R) (bins .eql 9 (.tmp 33) (.const (Go.Value.string { data := #[37, 116, 111, 107, 101, 110, 32, 39, 97, 39, 32, 59, 10, 37, 115, 116, 97, 114, 116, 32, 83, 32, 59, 10, 83, 32, 58, 32, 83, 32, 39, 97, 39, 32, 59, 10, 83, 32, 58, 32, 59, 10] })) v26 (Go.Value.string { data := #[37, 116, 111, 107, 101, 110, 32, 39, 97, 39, 32, 59, 10, 37, 115, 116, 97, 114, 116, 32, 83, 32, 59, 10, 83, 32, 58, 32, 83, 32, 39, 97, 39, 32, 59, 10, 83, 32, 58, 32, 59, 10] })) w43 fun v44 w45 =>
  SPL v44
  (RUN Try.prog (pan R) (bins .eql 9 (.tmp 37) (.const (Go.Value.string { data := #[83, 32, 45, 62, 32, 83, 32, 46, 32, 39, 97, 39] })) v36 (Go.Value.string { data := #[83, 32, 45, 62, 32, 83, 32, 46, 32, 39, 97, 39] })) w45 fun v46 w47 =>
  R (.returned v46) w47)
  (R (.returned (Go.Value.bool Bool.false)) w45)
def b1_2 (R : Ending → World → Prop) (v26 v28 v34 : Value) (w35 : World) (_r : Tok R := tok R) : Prop :=
  RUN Try.prog (pan R) (Instr.extract v34 0) w35 fun v36 w37 =>
  RUN Try.prog (pan R) (Instr.extract v34 1) w37 fun v38 w39 =>
  RUN Try.prog (pan R) (bins .eql 29 (.tmp 26) (.const (Go.Value.int Go.IntKind.i64 0)) v28 (Go.Value.int Go.IntKind.i64 0)) w39 fun v40 w41 =>
  SPL v40
  (RUN Try.prog (pan R) (bins .eql 29 (.tmp 29) (.const (Go.Value.int Go.IntKind.i64 0)) v38 (Go.Value.int Go.IntKind.i64 0)) w41 fun v42 w43 =>
  SPL v42
  (b1_1 R v26 v36 w43)
  (R (.returned (Go.Value.bool Bool.false)) w43))
  (R (.returned (Go.Value.bool Bool.false)) w41)
def b1_3 (R : Ending → World → Prop) (v19 v24 : Value) (w25 : World) (_r : Tok R := tok R) : Prop :=
  RUN Try.prog (pan R) (Instr.extract v24 0) w25 fun v26 w27 =>
  RUN Try.prog (pan R) (Instr.extract v24 1) w27 fun v28 w29 =>
  RUN Try.prog (pan R) (Instr.loadAt 27 v19) w29 fun v30 w31 =>
  RUN Try.prog (pan R) (Instr.build 36 #[(1, (Go.Value.int Go.IntKind.i64 1))]) w31 fun v32 w33 =>
  CALL Try.prog (pan R) show_Item.id #[v30, v32] w33 fun v34 w35 =>
  b1_2 R v26 v28 v34 w35

def b1 (R : Ending → World → Prop) (w : World) (_r : Tok R := tok R) : Prop :=
  RUN Try.prog (pan R) (Instr.build 106 #[]) w fun v1 w2 =>
  RUN Try.prog (pan R) (Instr.build 106 #[(0, (Go.Value.string { data := #[97] }))]) w2 fun v3 w4 =>
  RUN Try.prog (pan R) (Instr.buildSlice 22 2 #[(0, v1), (1, v3)]) w4 fun v5 w6 =>
  RUN Try.prog (pan R) (Instr.buildSlice 23 1 #[(0, (Go.Value.string { data := #[83] }))]) w6 fun v7 w8 =>
  RUN Try.prog (pan R) (Instr.buildSlice 24 2 #[(0, (Go.Value.int Go.IntKind.i64 2)), (1, (Go.Value.int Go.IntKind.i64 1))]) w8 fun v9 w10 =>
  RUN Try.prog (pan R) (Instr.build 47 #[(0, (Go.Value.int Go.IntKind.i64 2)), (1, v9)]) w10 fun v11 w12 =>
  RUN Try.prog (pan R) (Instr.build 47 #[(0, (Go.Value.int Go.IntKind.i64 2))]) w12 fun v13 w14 =>
  RUN Try.prog (pan R) (Instr.buildSlice 25 2 #[(0, v11), (1, v13)]) w14 fun v15 w16 =>
  RUN Try.prog (pan R) (Instr.build 27 #[(0, v5), (1, v7), (3, (Go.Value.int Go.IntKind.i64 2)), (4, v15)]) w16 fun v17 w18 =>
  RUN Try.prog (pan R) (Instr.alloc 27 true (.tuple #[])) w18 fun v19 w20 =>
  RUNU Try.prog (pan R) (Instr.storeAt 27 v19 v17) w20 fun w21 =>
  RUN Try.prog (pan R) (Instr.loadAt 27 v19) w21 fun v22 w23 =>
  CALL Try.prog (pan R) show_Text.id #[v22] w23 fun v24 w25 =>
  b1_3 R v19 v24 w25
abbrev q1 (R : Ending → World → Prop) : Exit → Env → World → Prop := QX (fun ρ w => R (.returned (ρ 0)) w) (fun ρ w => R (.returned (ρ 0)) w) []
theorem b1_eq (R : Ending → World → Prop) (ρ : Env) (w : World) : (b1 R w) = codeP Try.prog (pan R) code (q1 R) ρ w := by kernel_rfl
theorem b1_ok (R : Ending → World → Prop) (ρ : Env) (w : World) (h : b1 R w) : codeP Try.prog (pan R) code (q1 R) ρ w := (b1_eq R ρ w).mp h
/-- What is owed for a call. -/
def run (R : Ending → World → Prop) (w : World) : Prop := b1 R w
theorem calls (R : Ending → World → Prop) (w : World) (h : run R w) : Calls Try.prog id #[] w R :=
  calls_of_t (f := id) (fn := Try.f19) (c := code) (by kernel_rfl) Try.func19 (by kernel_rfl) (by kernel_rfl) (args := []) (Nat.le_of_ble_eq_true rfl) rfl (b1_ok R (envOf []) w h)
theorem enters : Enters Try.prog id := fun args w => Try.call19 args w
theorem ct {w : World} {S : Value → World → Prop} (h : ∀ R : Ending → World → Prop, (∀ v w, S v w → R (.returned v) w) → run R w) : Ct Try.prog id #[] w S :=
  Ct.intro enters fun R hR => calls R w (h R hR)
attribute [irreducible] b1_1 b1_2 b1_3 b1 run
attribute [go_sem] b1_1 b1_2 b1_3 b1 run
end law05_awake

/-! ### presage/presagelaw05.pick -/
namespace law05_pick
noncomputable def code : Code := bodyOf Try.f32
noncomputable abbrev p1 : Code := dropC 2 code
/- x0 c, x1 n -/
def b2 (R : Ending → World → Prop) (x0 x1 : Value) (w : World) (_r : Tok R := tok R) : Prop :=
  RUN Try.prog (pan R) (bins .rem 3 (.tmp 10) (.tmp 11) x0 x1) w fun v1 w2 =>
  R (.returned v1) w2
abbrev q1 (R : Ending → World → Prop) : Exit → Env → World → Prop := QX (fun ρ w => R (.returned (ρ 4)) w) (fun ρ w => R (.returned (ρ 4)) w) []
theorem b2_eq (R : Ending → World → Prop) (ρ : Env) (w : World) : (b2 R (ρ 0) (ρ 1) w) = codeP Try.prog (pan R) p1 (q1 R) ρ w := by kernel_rfl
theorem b2_ok (R : Ending → World → Prop) (ρ : Env) (w : World) (h : b2 R (ρ 0) (ρ 1) w) : codeP Try.prog (pan R) p1 (q1 R) ρ w := (b2_eq R ρ w).mp h
def b1_1 (R : Ending → World → Prop) (x0 x1 : Value) (w2 : World) (_r : Tok R := tok R) : Prop :=
  RUN Try.prog (pan R) (bins .add 3 (.tmp 7) (.const (Go.Value.int Go.IntKind.i64 1)) x0 (Go.Value.int Go.IntKind.i64 1)) w2 fun v3 w4 =>
  RUN Try.prog (pan R) (Op.unary .neg v3) w4 fun v5 w6 =>
  b2 R v5 x1 w6
/- x0 c, x1 n -/
def b1 (R : Ending → World → Prop) (x0 x1 : Value) (w : World) (_r : Tok R := tok R) : Prop :=
  RUN Try.prog (pan R) (bins .lss 3 (.tmp 5) (.const (Go.Value.int Go.IntKind.i64 0)) x0 (Go.Value.int Go.IntKind.i64 0)) w fun v1 w2 =>
  SPL v1
  (b1_1 R x0 x1 w2)
  (b2 R x0 x1 w2)
abbrev q2 (R : Ending → World → Prop) : Exit → Env → World → Prop := QX (fun ρ w => b2 R (ρ 0) (ρ 1) w) (fun ρ w => R (.returned (ρ 4)) w) []
theorem b1_eq (R : Ending → World → Prop) (ρ : Env) (w : World) : (b1 R (ρ 0) (ρ 1) w) = codeP Try.prog (pan R) (preC 1 code) (q2 R) ρ w := by kernel_rfl
theorem b1_ok (R : Ending → World → Prop) (ρ : Env) (w : World) (h : b1 R (ρ 0) (ρ 1) w) : codeP Try.prog (pan R) code (q1 R) ρ w := by
  have e : appC 1 (preC 1 code) (dropC 2 code) = code := by kernel_rfl
  rw [← e]
  exact appQ (fun ρ w => b2 R (ρ 0) (ρ 1) w) 1 ((b1_eq R ρ w).mp h) (fun ρ w h => b2_ok R ρ w h)
/-- What is owed for a call. -/
def run (R : Ending → World → Prop) (a0 a1 : Value) (w : World) : Prop := b1 R a0 a1 w
theorem calls (R : Ending → World → Prop) (a0 a1 : Value) (w : World) (h : run R a0 a1 w) : Calls Try.prog id #[a0, a1] w R :=
  calls_of_t (f := id) (fn := Try.f32) (c := code) (by kernel_rfl) Try.func32 (by kernel_rfl) (by kernel_rfl) (args := [a0, a1]) (Nat.le_of_ble_eq_true rfl) rfl (b1_ok R (envOf [a0, a1]) w h)
theorem enters : Enters Try.prog id := fun args w => Try.call32 args w
theorem ct {a0 a1 : Value} {w : World} {S : Value → World → Prop} (h : ∀ R : Ending → World → Prop, (∀ v w, S v w → R (.returned v) w) → run R a0 a1 w) : Ct Try.prog id #[a0, a1] w S :=
  Ct.intro enters fun R hR => calls R a0 a1 w (h R hR)
attribute [irreducible] b2 b1_1 b1 run
attribute [go_sem] b2 b1_1 b1 run
end law05_pick
end Go.Proofs.Ytkacbjhiobnbfaa

