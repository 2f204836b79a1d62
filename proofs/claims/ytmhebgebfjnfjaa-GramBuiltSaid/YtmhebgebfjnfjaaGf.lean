/- Shallow programs, written by a program of ours (gen.py) off the translation; each is tied to the code by the kernel. -/
import Derived.Test.YtmhebgebfjnfjaaGa
set_option linter.unusedVariables false
set_option maxRecDepth 100000
namespace Go.Proofs.Ytmhebgebfjnfjaa
open Go.Px

/-! ### (*presage/presageref02.Builder).Start -/
namespace ref02_Builder_Start
noncomputable def code : Code := bodyOf Try.f59
def b1_1 (R : Ending → World → Prop) (x0 x1 : Value) (w4 : World) (_r : Tok R := tok R) : Prop :=
  NILC x0 fun v5 =>
  RUN Try.prog (pan R) (Instr.fieldAt 66 v5 4) w4 fun v6 w7 =>
  RUNU Try.prog (pan R) (Instr.storeAt 3 v6 x1) w7 fun w8 =>
  R (.returned (Go.Value.int Go.IntKind.i64 0)) w8
/- x0 b, x1 non -/
def b1 (R : Ending → World → Prop) (x0 x1 : Value) (w : World) (_r : Tok R := tok R) : Prop :=
  CALL Try.prog (pan R) ref02_Builder_non.id #[x0, x1] w fun v1 w2 =>
  RUN Try.prog (pan R) (Op.unary .not v1) w2 fun v3 w4 =>
  SPL v3
  (R (.returned (Go.Value.int Go.IntKind.i64 1)) w4)
  (b1_1 R x0 x1 w4)
abbrev q1 (R : Ending → World → Prop) : Exit → Env → World → Prop := QX (fun ρ w => R (.returned (ρ 4)) w) (fun ρ w => R (.returned (ρ 4)) w) []
theorem b1_eq (R : Ending → World → Prop) (ρ : Env) (w : World) : (b1 R (ρ 0) (ρ 1) w) = codeP Try.prog (pan R) code (q1 R) ρ w := by kernel_rfl
theorem b1_ok (R : Ending → World → Prop) (ρ : Env) (w : World) (h : b1 R (ρ 0) (ρ 1) w) : codeP Try.prog (pan R) code (q1 R) ρ w := (b1_eq R ρ w).mp h
/-- What is owed for a call. -/
def run (R : Ending → World → Prop) (a0 a1 : Value) (w : World) : Prop := b1 R a0 a1 w
theorem calls (R : Ending → World → Prop) (a0 a1 : Value) (w : World) (h : run R a0 a1 w) : Calls Try.prog id #[a0, a1] w R :=
  calls_of_t (f := id) (fn := Try.f59) (c := code) (by kernel_rfl) Try.func59 (by kernel_rfl) (by kernel_rfl) (args := [a0, a1]) (Nat.le_of_ble_eq_true rfl) rfl (b1_ok R (envOf [a0, a1]) w h)
theorem enters : Enters Try.prog id := fun args w => Try.call59 args w
theorem ct {a0 a1 : Value} {w : World} {S : Value → World → Prop} (h : ∀ R : Ending → World → Prop, (∀ v w, S v w → R (.returned v) w) → run R a0 a1 w) : Ct Try.prog id #[a0, a1] w S :=
  Ct.intro enters fun R hR => calls R a0 a1 w (h R hR)
attribute [irreducible] b1_1 b1 run
attribute [go_sem] b1_1 b1 run
end ref02_Builder_Start

/-! ### (*presage/presageref02.Builder).Grammar -/
namespace ref02_Builder_Grammar
noncomputable def code : Code := bodyOf Try.f60
noncomputable abbrev p1 : Code := dropC 6 code
noncomputable abbrev p2 : Code := dropC 3 (sndC p1)
noncomputable abbrev p3 : Code := dropC 1 p2

def b6 (R : Ending → World → Prop) (x2 x5 : Value) (w : World) (_r : Tok R := tok R) : Prop :=
  RUN Try.prog (pan R) (Instr.loadAt 36 x5) w fun v1 w2 =>
  RUNU Try.prog (pan R) (Instr.storeAt 36 x2 v1) w2 fun w3 =>
  LD Try.prog (Instr.loadAt 36 x2) w3 fun r0 => R (.returned (.tuple #[r0, (Go.Value.int Go.IntKind.i64 0)])) w3
abbrev q1 (R : Ending → World → Prop) : Exit → Env → World → Prop := QX (fun ρ w => LD Try.prog (Instr.loadAt 36 (ρ 2)) w fun r0 => R (.returned (.tuple #[r0, (ρ 3)])) w) (fun ρ w => LD Try.prog (Instr.loadAt 36 (ρ 2)) w fun r0 => R (.returned (.tuple #[r0, (ρ 3)])) w) []
theorem b6_eq (R : Ending → World → Prop) (ρ : Env) (w : World) : (b6 R (ρ 2) (ρ 5) w) = codeP Try.prog (pan R) (sndC p3) (q1 R) ρ w := by kernel_rfl
theorem b6_ok (R : Ending → World → Prop) (ρ : Env) (w : World) (h : b6 R (ρ 2) (ρ 5) w) : codeP Try.prog (pan R) (sndC p3) (q1 R) ρ w := (b6_eq R ρ w).mp h
noncomputable abbrev p4 : Code := dropC 1 (fstC p3)
noncomputable abbrev p5 : Code := loopC (blkC p4)
noncomputable abbrev p6 : Code := dropC 1 p5

def b12 (R : Ending → World → Prop) (C9 : Value → World → Prop) (x9 : Value) (w : World) (_r : Tok R := tok R) (_C9 : Tok C9 := tok C9) : Prop :=
  RUN Try.prog (pan R) (bins .add 3 (.tmp 129) (.const (Go.Value.int Go.IntKind.i64 1)) x9 (Go.Value.int Go.IntKind.i64 1)) w fun v1 w2 =>
  C9 v1 w2
abbrev q2 (R : Ending → World → Prop) (C9 : Value → World → Prop) : Exit → Env → World → Prop := QX (fun ρ w => C9 (ρ 9) w) (fun ρ w => LD Try.prog (Instr.loadAt 36 (ρ 2)) w fun r0 => R (.returned (.tuple #[r0, (ρ 3)])) w) [(4, (fun ρ w => b6 R (ρ 2) (ρ 5) w))]
theorem b12_eq (R : Ending → World → Prop) (C9 : Value → World → Prop) (ρ : Env) (w : World) : (b12 R C9 (ρ 9) w) = codeP Try.prog (pan R) (sndC p6) (q2 R C9) ρ w := by kernel_rfl
theorem b12_ok (R : Ending → World → Prop) (C9 : Value → World → Prop) (ρ : Env) (w : World) (h : b12 R C9 (ρ 9) w) : codeP Try.prog (pan R) (sndC p6) (q2 R C9) ρ w := (b12_eq R C9 ρ w).mp h
noncomputable abbrev p7 : Code := blkC (fstC p6)
noncomputable abbrev p8 : Code := dropC 2 p7

def b16 (R : Ending → World → Prop) (C9 : Value → World → Prop) (x5 x9 x11 : Value) (w : World) (_r : Tok R := tok R) (_C9 : Tok C9 := tok C9) : Prop :=
  RUN Try.prog (pan R) (Instr.fieldAt 36 x5 4) w fun v1 w2 =>
  RUN Try.prog (pan R) (Instr.loadAt 34 v1) w2 fun v3 w4 =>
  RUN Try.prog (pan R) (Instr.loadAt 59 x11) w4 fun v5 w6 =>
  RUN Try.prog (pan R) (Instr.buildSlice 34 1 #[(0, v5)]) w6 fun v7 w8 =>
  RUN Try.prog (pan R) (Builtin.append_ #[34, 34] 34 #[v3, v7]) w8 fun v9 w10 =>
  RUN Try.prog (pan R) (Instr.fieldAt 36 x5 4) w10 fun v11 w12 =>
  RUNU Try.prog (pan R) (Instr.storeAt 34 v11 v9) w12 fun w13 =>
  b12 R C9 x9 w13
abbrev q3 (R : Ending → World → Prop) (C9 : Value → World → Prop) : Exit → Env → World → Prop := QX (fun ρ w => b12 R C9 (ρ 9) w) (fun ρ w => LD Try.prog (Instr.loadAt 36 (ρ 2)) w fun r0 => R (.returned (.tuple #[r0, (ρ 3)])) w) [(6, (fun ρ w => b12 R C9 (ρ 9) w)), (4, (fun ρ w => b6 R (ρ 2) (ρ 5) w))]
theorem b16_eq (R : Ending → World → Prop) (C9 : Value → World → Prop) (ρ : Env) (w : World) : (b16 R C9 (ρ 5) (ρ 9) (ρ 11) w) = codeP Try.prog (pan R) (sndC p8) (q3 R C9) ρ w := by kernel_rfl
theorem b16_ok (R : Ending → World → Prop) (C9 : Value → World → Prop) (ρ : Env) (w : World) (h : b16 R C9 (ρ 5) (ρ 9) (ρ 11) w) : codeP Try.prog (pan R) (sndC p8) (q3 R C9) ρ w := (b16_eq R C9 ρ w).mp h
noncomputable abbrev p9 : Code := dropC 1 (fstC p8)
noncomputable abbrev p10 : Code := loopC (blkC p9)
noncomputable abbrev p11 : Code := dropC 1 p10

def b22 (R : Ending → World → Prop) (C9 : Value → World → Prop) (C19 : Value → World → Prop) (x12 : Value) (w : World) (_r : Tok R := tok R) (_C9 : Tok C9 := tok C9) (_C19 : Tok C19 := tok C19) : Prop :=
  RUN Try.prog (pan R) (bins .add 3 (.tmp 158) (.const (Go.Value.int Go.IntKind.i64 1)) x12 (Go.Value.int Go.IntKind.i64 1)) w fun v1 w2 =>
  C19 v1 w2
abbrev q4 (R : Ending → World → Prop) (C9 : Value → World → Prop) (C19 : Value → World → Prop) : Exit → Env → World → Prop := QX (fun ρ w => C19 (ρ 12) w) (fun ρ w => LD Try.prog (Instr.loadAt 36 (ρ 2)) w fun r0 => R (.returned (.tuple #[r0, (ρ 3)])) w) [(8, (fun ρ w => b16 R C9 (ρ 5) (ρ 9) (ρ 11) w)), (6, (fun ρ w => b12 R C9 (ρ 9) w)), (4, (fun ρ w => b6 R (ρ 2) (ρ 5) w))]
theorem b22_eq (R : Ending → World → Prop) (C9 : Value → World → Prop) (C19 : Value → World → Prop) (ρ : Env) (w : World) : (b22 R C9 C19 (ρ 12) w) = codeP Try.prog (pan R) (sndC p11) (q4 R C9 C19) ρ w := by kernel_rfl
theorem b22_ok (R : Ending → World → Prop) (C9 : Value → World → Prop) (C19 : Value → World → Prop) (ρ : Env) (w : World) (h : b22 R C9 C19 (ρ 12) w) : codeP Try.prog (pan R) (sndC p11) (q4 R C9 C19) ρ w := (b22_eq R C9 C19 ρ w).mp h
noncomputable abbrev p12 : Code := blkC (fstC p11)
noncomputable abbrev p13 : Code := dropC 2 p12

def b25 (R : Ending → World → Prop) (C9 : Value → World → Prop) (C19 : Value → World → Prop) (x11 x12 x13 : Value) (w : World) (_r : Tok R := tok R) (_C9 : Tok C9 := tok C9) (_C19 : Tok C19 := tok C19) : Prop :=
  RUN Try.prog (pan R) (Instr.fieldAt 59 x11 1) w fun v1 w2 =>
  RUN Try.prog (pan R) (Instr.loadAt 30 v1) w2 fun v3 w4 =>
  RUN Try.prog (pan R) (Instr.buildSlice 30 1 #[(0, x13)]) w4 fun v5 w6 =>
  RUN Try.prog (pan R) (Builtin.append_ #[30, 30] 30 #[v3, v5]) w6 fun v7 w8 =>
  RUN Try.prog (pan R) (Instr.fieldAt 59 x11 1) w8 fun v9 w10 =>
  RUNU Try.prog (pan R) (Instr.storeAt 30 v9 v7) w10 fun w11 =>
  b22 R C9 C19 x12 w11
abbrev q5 (R : Ending → World → Prop) (C9 : Value → World → Prop) (C19 : Value → World → Prop) : Exit → Env → World → Prop := QX (fun ρ w => b22 R C9 C19 (ρ 12) w) (fun ρ w => LD Try.prog (Instr.loadAt 36 (ρ 2)) w fun r0 => R (.returned (.tuple #[r0, (ρ 3)])) w) [(10, (fun ρ w => b22 R C9 C19 (ρ 12) w)), (8, (fun ρ w => b16 R C9 (ρ 5) (ρ 9) (ρ 11) w)), (6, (fun ρ w => b12 R C9 (ρ 9) w)), (4, (fun ρ w => b6 R (ρ 2) (ρ 5) w))]
theorem b25_eq (R : Ending → World → Prop) (C9 : Value → World → Prop) (C19 : Value → World → Prop) (ρ : Env) (w : World) : (b25 R C9 C19 (ρ 11) (ρ 12) (ρ 13) w) = codeP Try.prog (pan R) p13 (q5 R C9 C19) ρ w := by kernel_rfl
theorem b25_ok (R : Ending → World → Prop) (C9 : Value → World → Prop) (C19 : Value → World → Prop) (ρ : Env) (w : World) (h : b25 R C9 C19 (ρ 11) (ρ 12) (ρ 13) w) : codeP Try.prog (pan R) p13 (q5 R C9 C19) ρ w := (b25_eq R C9 C19 ρ w).mp h
def b24_1 (R : Ending → World → Prop) (C9 : Value → World → Prop) (C19 : Value → World → Prop) (x0 x4 x11 x12 v7 : Value) (w10 : World) (_r : Tok R := tok R) (_C9 : Tok C9 := tok C9) (_C19 : Tok C19 := tok C19) : Prop :=
  NILC x0 fun v11 =>
  PUR Try.prog (Instr.fieldAt 66 v11 0) fun v12 =>
  LD Try.prog (Instr.loadAt 32 v12) (World.drew w10) fun v13 =>
  LD Try.prog (Builtin.len_ #[32] 3 #[v13]) (World.drew w10) fun v14 =>
  PUR Try.prog (bins .sub 3 (.const (Go.Value.int Go.IntKind.i64 (-1))) (.tmp 173) (Go.Value.int Go.IntKind.i64 (-1)) v7) fun v15 =>
  PUR Try.prog (Instr.indexAt 30 x4 v15) fun v16 =>
  LD Try.prog (Instr.loadAt 3 v16) (World.drew w10) fun v17 =>
  PUR Try.prog (bins .add 3 (.tmp 171) (.tmp 176) v14 v17) fun v18 =>
  b25 R C9 C19 x11 x12 v18 (World.drew w10)

def b24 (R : Ending → World → Prop) (C9 : Value → World → Prop) (C19 : Value → World → Prop) (x0 x4 x10 x11 x12 : Value) (w : World) (_r : Tok R := tok R) (_C9 : Tok C9 := tok C9) (_C19 : Tok C19 := tok C19) : Prop :=
  RUN Try.prog (pan R) (Instr.fieldAt 116 x10 1) w fun v1 w2 =>
  RUN Try.prog (pan R) (Instr.loadAt 30 v1) w2 fun v3 w4 =>
  RUN Try.prog (pan R) (Instr.indexAt 30 v3 x12) w4 fun v5 w6 =>
  RUN Try.prog (pan R) (Instr.loadAt 3 v5) w6 fun v7 w8 =>
  RUN Try.prog (pan R) (bins .lss 3 (.tmp 165) (.const (Go.Value.int Go.IntKind.i64 0)) v7 (Go.Value.int Go.IntKind.i64 0)) w8 fun v9 w10 =>
  SPL v9
  (b24_1 R C9 C19 x0 x4 x11 x12 v7 w10)
  (b25 R C9 C19 x11 x12 v7 w10)
abbrev q6 (R : Ending → World → Prop) (C9 : Value → World → Prop) (C19 : Value → World → Prop) : Exit → Env → World → Prop := QX (fun ρ w => b25 R C9 C19 (ρ 11) (ρ 12) (ρ 13) w) (fun ρ w => LD Try.prog (Instr.loadAt 36 (ρ 2)) w fun r0 => R (.returned (.tuple #[r0, (ρ 3)])) w) [(10, (fun ρ w => b22 R C9 C19 (ρ 12) w)), (8, (fun ρ w => b16 R C9 (ρ 5) (ρ 9) (ρ 11) w)), (6, (fun ρ w => b12 R C9 (ρ 9) w)), (4, (fun ρ w => b6 R (ρ 2) (ρ 5) w))]
theorem b24_eq (R : Ending → World → Prop) (C9 : Value → World → Prop) (C19 : Value → World → Prop) (ρ : Env) (w : World) : (b24 R C9 C19 (ρ 0) (ρ 4) (ρ 10) (ρ 11) (ρ 12) w) = codeP Try.prog (pan R) (preC 1 p12) (q6 R C9 C19) ρ w := by kernel_rfl
theorem b24_ok (R : Ending → World → Prop) (C9 : Value → World → Prop) (C19 : Value → World → Prop) (ρ : Env) (w : World) (h : b24 R C9 C19 (ρ 0) (ρ 4) (ρ 10) (ρ 11) (ρ 12) w) : codeP Try.prog (pan R) p12 (q5 R C9 C19) ρ w := by
  have e : appC 1 (preC 1 p12) (dropC 2 p12) = p12 := by kernel_rfl
  rw [← e]
  exact appQ (fun ρ w => b25 R C9 C19 (ρ 11) (ρ 12) (ρ 13) w) 1 ((b24_eq R C9 C19 ρ w).mp h) (fun ρ w h => b25_ok R C9 C19 ρ w h)
abbrev q7 (R : Ending → World → Prop) (C9 : Value → World → Prop) (C19 : Value → World → Prop) : Exit → Env → World → Prop := QX (fun ρ w => b22 R C9 C19 (ρ 12) w) (fun ρ w => LD Try.prog (Instr.loadAt 36 (ρ 2)) w fun r0 => R (.returned (.tuple #[r0, (ρ 3)])) w) [(8, (fun ρ w => b16 R C9 (ρ 5) (ρ 9) (ρ 11) w)), (6, (fun ρ w => b12 R C9 (ρ 9) w)), (4, (fun ρ w => b6 R (ρ 2) (ρ 5) w))]
theorem k23_ok (R : Ending → World → Prop) (C9 : Value → World → Prop) (C19 : Value → World → Prop) (ρ : Env) (w : World) (h : b24 R C9 C19 (ρ 0) (ρ 4) (ρ 10) (ρ 11) (ρ 12) w) : codeP Try.prog (pan R) (fstC p11) (q7 R C9 C19) ρ w := by
  have e : Code.block 5 (blkC (fstC p11)) = (fstC p11) := by kernel_rfl
  rw [← e]
  exact blockQ (b24_ok R C9 C19 ρ w h)
theorem k21_ok (R : Ending → World → Prop) (C9 : Value → World → Prop) (C19 : Value → World → Prop) (ρ : Env) (w : World) (h : b24 R C9 C19 (ρ 0) (ρ 4) (ρ 10) (ρ 11) (ρ 12) w) : codeP Try.prog (pan R) p11 (q4 R C9 C19) ρ w := by
  have e : Code.seq (fstC p11) (sndC p11) = p11 := by kernel_rfl
  rw [← e]
  exact seqQ (fun ρ w => b22 R C9 C19 (ρ 12) w) (k23_ok R C9 C19 ρ w h) (fun ρ w h => b22_ok R C9 C19 ρ w h)

def b20 (R : Ending → World → Prop) (C9 : Value → World → Prop) (C19 : Value → World → Prop) (x0 x4 x5 x9 x10 x11 x12 : Value) (w : World) (_r : Tok R := tok R) (_C9 : Tok C9 := tok C9) (_C19 : Tok C19 := tok C19) : Prop :=
  RUN Try.prog (pan R) (Instr.fieldAt 116 x10 1) w fun v1 w2 =>
  RUN Try.prog (pan R) (Instr.loadAt 30 v1) w2 fun v3 w4 =>
  RUN Try.prog (pan R) (Builtin.len_ #[30] 3 #[v3]) w4 fun v5 w6 =>
  RUN Try.prog (pan R) (bins .lss 3 (.tmp 153) (.tmp 156) x12 v5) w6 fun v7 w8 =>
  SPL v7
  (b24 R C9 C19 x0 x4 x10 x11 x12 w8)
  (b16 R C9 x5 x9 x11 w8)
abbrev q8 (R : Ending → World → Prop) (C9 : Value → World → Prop) (C19 : Value → World → Prop) : Exit → Env → World → Prop := QX (fun ρ w => b24 R C9 C19 (ρ 0) (ρ 4) (ρ 10) (ρ 11) (ρ 12) w) (fun ρ w => LD Try.prog (Instr.loadAt 36 (ρ 2)) w fun r0 => R (.returned (.tuple #[r0, (ρ 3)])) w) [(8, (fun ρ w => b16 R C9 (ρ 5) (ρ 9) (ρ 11) w)), (6, (fun ρ w => b12 R C9 (ρ 9) w)), (4, (fun ρ w => b6 R (ρ 2) (ρ 5) w))]
theorem b20_eq (R : Ending → World → Prop) (C9 : Value → World → Prop) (C19 : Value → World → Prop) (ρ : Env) (w : World) : (b20 R C9 C19 (ρ 0) (ρ 4) (ρ 5) (ρ 9) (ρ 10) (ρ 11) (ρ 12) w) = codeP Try.prog (pan R) (preC 0 p10) (q8 R C9 C19) ρ w := by kernel_rfl
theorem b20_ok (R : Ending → World → Prop) (C9 : Value → World → Prop) (C19 : Value → World → Prop) (ρ : Env) (w : World) (h : b20 R C9 C19 (ρ 0) (ρ 4) (ρ 5) (ρ 9) (ρ 10) (ρ 11) (ρ 12) w) : codeP Try.prog (pan R) p10 (q4 R C9 C19) ρ w := by
  have e : appC 0 (preC 0 p10) (dropC 1 p10) = p10 := by kernel_rfl
  rw [← e]
  exact appQ (fun ρ w => b24 R C9 C19 (ρ 0) (ρ 4) (ρ 10) (ρ 11) (ρ 12) w) 0 ((b20_eq R C9 C19 ρ w).mp h) (fun ρ w h => k21_ok R C9 C19 ρ w h)

def l19 (R : Ending → World → Prop) (C9 : Value → World → Prop) (x0 x4 x5 x9 x10 x11 x12 : Value) (w : World) (_r : Tok R := tok R) (_C9 : Tok C9 := tok C9) : Prop :=
  ∃ (J : Value → World → Prop) (μ : Value → World → Nat), J x12 w ∧ ∀ y12 w0, J y12 w0 → b20 R C9 (fun z12 w1 => J z12 w1 ∧ μ z12 w1 < μ y12 w0) x0 x4 x5 x9 x10 x11 y12 w0
abbrev q9 (R : Ending → World → Prop) (C9 : Value → World → Prop) : Exit → Env → World → Prop := QX (fun ρ w => b16 R C9 (ρ 5) (ρ 9) (ρ 11) w) (fun ρ w => LD Try.prog (Instr.loadAt 36 (ρ 2)) w fun r0 => R (.returned (.tuple #[r0, (ρ 3)])) w) [(8, (fun ρ w => b16 R C9 (ρ 5) (ρ 9) (ρ 11) w)), (6, (fun ρ w => b12 R C9 (ρ 9) w)), (4, (fun ρ w => b6 R (ρ 2) (ρ 5) w))]
theorem l19_ok (R : Ending → World → Prop) (C9 : Value → World → Prop) (ρ : Env) (w : World) (h : l19 R C9 (ρ 0) (ρ 4) (ρ 5) (ρ 9) (ρ 10) (ρ 11) (ρ 12) w) : codeP Try.prog (pan R) (blkC p9) (q9 R C9) ρ w := by
  unfold l19 at h
  obtain ⟨J, μ, h0, hr⟩ := h
  have e : Code.loop (loopC (blkC p9)) = (blkC p9) := by kernel_rfl
  rw [← e]
  refine loopQ (fun ρ' w' => J (ρ' 12) w') (fun ρ' w' => μ (ρ' 12) w') h0 fun ρ' w' hA hI => ?_
  have e0 : ρ' 0 = ρ 0 := Agree.at hA 0 (by kernel_rfl)
  have e4 : ρ' 4 = ρ 4 := Agree.at hA 4 (by kernel_rfl)
  have e5 : ρ' 5 = ρ 5 := Agree.at hA 5 (by kernel_rfl)
  have e9 : ρ' 9 = ρ 9 := Agree.at hA 9 (by kernel_rfl)
  have e10 : ρ' 10 = ρ 10 := Agree.at hA 10 (by kernel_rfl)
  have e11 : ρ' 11 = ρ 11 := Agree.at hA 11 (by kernel_rfl)
  have h1 := hr (ρ' 12) w' hI
  rw [← e0, ← e4, ← e5, ← e9, ← e10, ← e11] at h1
  exact b20_ok R C9 (fun z12 w1 => J z12 w1 ∧ μ z12 w1 < μ (ρ' 12) w') ρ' w' h1
theorem l19_intro (R : Ending → World → Prop) (C9 : Value → World → Prop) (x0 x4 x5 x9 x10 x11 x12 : Value) (w : World) (J : Value → World → Prop) (μ : Value → World → Nat) (h0 : J x12 w)
    (hr : ∀ y12 w0, J y12 w0 → ∀ C19 : Value → World → Prop, (∀ z12 w1, J z12 w1 → μ z12 w1 < μ y12 w0 → C19 z12 w1) → b20 R C9 C19 x0 x4 x5 x9 x10 x11 y12 w0) : l19 R C9 x0 x4 x5 x9 x10 x11 x12 w := by
  unfold l19
  exact ⟨J, μ, h0, fun y12 w0 hJ => hr y12 w0 hJ _ (fun z12 w1 h1 h2 => ⟨h1, h2⟩)⟩
abbrev q10 (R : Ending → World → Prop) (C9 : Value → World → Prop) : Exit → Env → World → Prop := QX (fun ρ w => b16 R C9 (ρ 5) (ρ 9) (ρ 11) w) (fun ρ w => LD Try.prog (Instr.loadAt 36 (ρ 2)) w fun r0 => R (.returned (.tuple #[r0, (ρ 3)])) w) [(6, (fun ρ w => b12 R C9 (ρ 9) w)), (4, (fun ρ w => b6 R (ρ 2) (ρ 5) w))]
theorem k18_ok (R : Ending → World → Prop) (C9 : Value → World → Prop) (ρ : Env) (w : World) (h : l19 R C9 (ρ 0) (ρ 4) (ρ 5) (ρ 9) (ρ 10) (ρ 11) (ρ 12) w) : codeP Try.prog (pan R) p9 (q10 R C9) ρ w := by
  have e : Code.block 4 (blkC p9) = p9 := by kernel_rfl
  rw [← e]
  exact blockQ (l19_ok R C9 ρ w h)

def b17 (R : Ending → World → Prop) (C9 : Value → World → Prop) (x0 x4 x5 x9 x10 x11 : Value) (w : World) (_r : Tok R := tok R) (_C9 : Tok C9 := tok C9) : Prop :=
  l19 R C9 x0 x4 x5 x9 x10 x11 (Go.Value.int Go.IntKind.i64 0) w
abbrev q11 (R : Ending → World → Prop) (C9 : Value → World → Prop) : Exit → Env → World → Prop := QX (fun ρ w => l19 R C9 (ρ 0) (ρ 4) (ρ 5) (ρ 9) (ρ 10) (ρ 11) (ρ 12) w) (fun ρ w => LD Try.prog (Instr.loadAt 36 (ρ 2)) w fun r0 => R (.returned (.tuple #[r0, (ρ 3)])) w) [(6, (fun ρ w => b12 R C9 (ρ 9) w)), (4, (fun ρ w => b6 R (ρ 2) (ρ 5) w))]
theorem b17_eq (R : Ending → World → Prop) (C9 : Value → World → Prop) (ρ : Env) (w : World) : (b17 R C9 (ρ 0) (ρ 4) (ρ 5) (ρ 9) (ρ 10) (ρ 11) w) = codeP Try.prog (pan R) (preC 0 (fstC p8)) (q11 R C9) ρ w := by kernel_rfl
theorem b17_ok (R : Ending → World → Prop) (C9 : Value → World → Prop) (ρ : Env) (w : World) (h : b17 R C9 (ρ 0) (ρ 4) (ρ 5) (ρ 9) (ρ 10) (ρ 11) w) : codeP Try.prog (pan R) (fstC p8) (q10 R C9) ρ w := by
  have e : appC 0 (preC 0 (fstC p8)) (dropC 1 (fstC p8)) = (fstC p8) := by kernel_rfl
  rw [← e]
  exact appQ (fun ρ w => l19 R C9 (ρ 0) (ρ 4) (ρ 5) (ρ 9) (ρ 10) (ρ 11) (ρ 12) w) 0 ((b17_eq R C9 ρ w).mp h) (fun ρ w h => k18_ok R C9 ρ w h)
theorem k15_ok (R : Ending → World → Prop) (C9 : Value → World → Prop) (ρ : Env) (w : World) (h : b17 R C9 (ρ 0) (ρ 4) (ρ 5) (ρ 9) (ρ 10) (ρ 11) w) : codeP Try.prog (pan R) p8 (q3 R C9) ρ w := by
  have e : Code.seq (fstC p8) (sndC p8) = p8 := by kernel_rfl
  rw [← e]
  exact seqQ (fun ρ w => b16 R C9 (ρ 5) (ρ 9) (ρ 11) w) (b17_ok R C9 ρ w h) (fun ρ w h => b16_ok R C9 ρ w h)

def b14 (R : Ending → World → Prop) (C9 : Value → World → Prop) (x0 x4 x5 x9 : Value) (w : World) (_r : Tok R := tok R) (_C9 : Tok C9 := tok C9) : Prop :=
  NILC x0 fun v1 =>
  RUN Try.prog (pan R) (Instr.fieldAt 66 v1 3) w fun v2 w3 =>
  RUN Try.prog (pan R) (Instr.loadAt 64 v2) w3 fun v4 w5 =>
  RUN Try.prog (pan R) (Instr.indexAt 64 v4 x9) w5 fun v6 w7 =>
  RUN Try.prog (pan R) (Instr.loadAt 116 v6) w7 fun v8 w9 =>
  RUN Try.prog (pan R) (Instr.alloc 116 true (.tuple #[])) w9 fun v10 w11 =>
  RUNU Try.prog (pan R) (Instr.storeAt 116 v10 v8) w11 fun w12 =>
  NILC x0 fun v13 =>
  PUR Try.prog (Instr.fieldAt 66 v13 0) fun v14 =>
  LD Try.prog (Instr.loadAt 32 v14) (World.drew w12) fun v15 =>
  LD Try.prog (Builtin.len_ #[32] 3 #[v15]) (World.drew w12) fun v16 =>
  PUR Try.prog (Instr.fieldAt 116 v10 0) fun v17 =>
  LD Try.prog (Instr.loadAt 3 v17) (World.drew w12) fun v18 =>
  PUR Try.prog (bins .sub 3 (.const (Go.Value.int Go.IntKind.i64 (-1))) (.tmp 145) (Go.Value.int Go.IntKind.i64 (-1)) v18) fun v19 =>
  PUR Try.prog (Instr.indexAt 30 x4 v19) fun v20 =>
  LD Try.prog (Instr.loadAt 3 v20) (World.drew w12) fun v21 =>
  PUR Try.prog (bins .add 3 (.tmp 142) (.tmp 148) v16 v21) fun v22 =>
  PUR Try.prog (Instr.fieldAt 116 v10 2) fun v23 =>
  LD Try.prog (Instr.loadAt 3 v23) (World.drew w12) fun v24 =>
  PUR Try.prog (Instr.build 59 #[(0, v22), (2, v24)]) fun v25 =>
  RUN Try.prog (pan R) (Instr.alloc 59 true (.tuple #[])) (World.drew w12) fun v26 w27 =>
  Sem.run Try.prog (Instr.loadAt 3 v23) w27 = .ok v24 w27 ∧ (Sem.run Try.prog (Instr.loadAt 3 v20) w27 = .ok v21 w27 ∧ (Sem.run Try.prog (Instr.loadAt 3 v17) w27 = .ok v18 w27 ∧ (Sem.run Try.prog (Builtin.len_ #[32] 3 #[v15]) w27 = .ok v16 w27 ∧ (Sem.run Try.prog (Instr.loadAt 32 v14) w27 = .ok v15 w27 ∧ (RUNU Try.prog (pan R) (Instr.storeAt 59 v26 v25) w27 fun w28 =>
  b17 R C9 x0 x4 x5 x9 v10 v26 w28)))))
abbrev q12 (R : Ending → World → Prop) (C9 : Value → World → Prop) : Exit → Env → World → Prop := QX (fun ρ w => b17 R C9 (ρ 0) (ρ 4) (ρ 5) (ρ 9) (ρ 10) (ρ 11) w) (fun ρ w => LD Try.prog (Instr.loadAt 36 (ρ 2)) w fun r0 => R (.returned (.tuple #[r0, (ρ 3)])) w) [(6, (fun ρ w => b12 R C9 (ρ 9) w)), (4, (fun ρ w => b6 R (ρ 2) (ρ 5) w))]
theorem b14_eq (R : Ending → World → Prop) (C9 : Value → World → Prop) (ρ : Env) (w : World) : (b14 R C9 (ρ 0) (ρ 4) (ρ 5) (ρ 9) w) = codeP Try.prog (pan R) (preC 1 p7) (q12 R C9) ρ w := by kernel_rfl
theorem b14_ok (R : Ending → World → Prop) (C9 : Value → World → Prop) (ρ : Env) (w : World) (h : b14 R C9 (ρ 0) (ρ 4) (ρ 5) (ρ 9) w) : codeP Try.prog (pan R) p7 (q3 R C9) ρ w := by
  have e : appC 1 (preC 1 p7) (dropC 2 p7) = p7 := by kernel_rfl
  rw [← e]
  exact appQ (fun ρ w => b17 R C9 (ρ 0) (ρ 4) (ρ 5) (ρ 9) (ρ 10) (ρ 11) w) 1 ((b14_eq R C9 ρ w).mp h) (fun ρ w h => k15_ok R C9 ρ w h)
abbrev q13 (R : Ending → World → Prop) (C9 : Value → World → Prop) : Exit → Env → World → Prop := QX (fun ρ w => b12 R C9 (ρ 9) w) (fun ρ w => LD Try.prog (Instr.loadAt 36 (ρ 2)) w fun r0 => R (.returned (.tuple #[r0, (ρ 3)])) w) [(4, (fun ρ w => b6 R (ρ 2) (ρ 5) w))]
theorem k13_ok (R : Ending → World → Prop) (C9 : Value → World → Prop) (ρ : Env) (w : World) (h : b14 R C9 (ρ 0) (ρ 4) (ρ 5) (ρ 9) w) : codeP Try.prog (pan R) (fstC p6) (q13 R C9) ρ w := by
  have e : Code.block 3 (blkC (fstC p6)) = (fstC p6) := by kernel_rfl
  rw [← e]
  exact blockQ (b14_ok R C9 ρ w h)
theorem k11_ok (R : Ending → World → Prop) (C9 : Value → World → Prop) (ρ : Env) (w : World) (h : b14 R C9 (ρ 0) (ρ 4) (ρ 5) (ρ 9) w) : codeP Try.prog (pan R) p6 (q2 R C9) ρ w := by
  have e : Code.seq (fstC p6) (sndC p6) = p6 := by kernel_rfl
  rw [← e]
  exact seqQ (fun ρ w => b12 R C9 (ρ 9) w) (k13_ok R C9 ρ w h) (fun ρ w h => b12_ok R C9 ρ w h)

def b10 (R : Ending → World → Prop) (C9 : Value → World → Prop) (x0 x2 x4 x5 x9 : Value) (w : World) (_r : Tok R := tok R) (_C9 : Tok C9 := tok C9) : Prop :=
  NILC x0 fun v1 =>
  RUN Try.prog (pan R) (Instr.fieldAt 66 v1 3) w fun v2 w3 =>
  RUN Try.prog (pan R) (Instr.loadAt 64 v2) w3 fun v4 w5 =>
  RUN Try.prog (pan R) (Builtin.len_ #[64] 3 #[v4]) w5 fun v6 w7 =>
  RUN Try.prog (pan R) (bins .lss 3 (.tmp 122) (.tmp 127) x9 v6) w7 fun v8 w9 =>
  SPL v8
  (b14 R C9 x0 x4 x5 x9 w9)
  (b6 R x2 x5 w9)
abbrev q14 (R : Ending → World → Prop) (C9 : Value → World → Prop) : Exit → Env → World → Prop := QX (fun ρ w => b14 R C9 (ρ 0) (ρ 4) (ρ 5) (ρ 9) w) (fun ρ w => LD Try.prog (Instr.loadAt 36 (ρ 2)) w fun r0 => R (.returned (.tuple #[r0, (ρ 3)])) w) [(4, (fun ρ w => b6 R (ρ 2) (ρ 5) w))]
theorem b10_eq (R : Ending → World → Prop) (C9 : Value → World → Prop) (ρ : Env) (w : World) : (b10 R C9 (ρ 0) (ρ 2) (ρ 4) (ρ 5) (ρ 9) w) = codeP Try.prog (pan R) (preC 0 p5) (q14 R C9) ρ w := by kernel_rfl
theorem b10_ok (R : Ending → World → Prop) (C9 : Value → World → Prop) (ρ : Env) (w : World) (h : b10 R C9 (ρ 0) (ρ 2) (ρ 4) (ρ 5) (ρ 9) w) : codeP Try.prog (pan R) p5 (q2 R C9) ρ w := by
  have e : appC 0 (preC 0 p5) (dropC 1 p5) = p5 := by kernel_rfl
  rw [← e]
  exact appQ (fun ρ w => b14 R C9 (ρ 0) (ρ 4) (ρ 5) (ρ 9) w) 0 ((b10_eq R C9 ρ w).mp h) (fun ρ w h => k11_ok R C9 ρ w h)

def l9 (R : Ending → World → Prop) (x0 x2 x4 x5 x9 : Value) (w : World) (_r : Tok R := tok R) : Prop :=
  ∃ (J : Value → World → Prop) (μ : Value → World → Nat), J x9 w ∧ ∀ y9 w0, J y9 w0 → b10 R (fun z9 w1 => J z9 w1 ∧ μ z9 w1 < μ y9 w0) x0 x2 x4 x5 y9 w0
abbrev q15 (R : Ending → World → Prop) : Exit → Env → World → Prop := QX (fun ρ w => b6 R (ρ 2) (ρ 5) w) (fun ρ w => LD Try.prog (Instr.loadAt 36 (ρ 2)) w fun r0 => R (.returned (.tuple #[r0, (ρ 3)])) w) [(4, (fun ρ w => b6 R (ρ 2) (ρ 5) w))]
theorem l9_ok (R : Ending → World → Prop) (ρ : Env) (w : World) (h : l9 R (ρ 0) (ρ 2) (ρ 4) (ρ 5) (ρ 9) w) : codeP Try.prog (pan R) (blkC p4) (q15 R) ρ w := by
  unfold l9 at h
  obtain ⟨J, μ, h0, hr⟩ := h
  have e : Code.loop (loopC (blkC p4)) = (blkC p4) := by kernel_rfl
  rw [← e]
  refine loopQ (fun ρ' w' => J (ρ' 9) w') (fun ρ' w' => μ (ρ' 9) w') h0 fun ρ' w' hA hI => ?_
  have e0 : ρ' 0 = ρ 0 := Agree.at hA 0 (by kernel_rfl)
  have e2 : ρ' 2 = ρ 2 := Agree.at hA 2 (by kernel_rfl)
  have e4 : ρ' 4 = ρ 4 := Agree.at hA 4 (by kernel_rfl)
  have e5 : ρ' 5 = ρ 5 := Agree.at hA 5 (by kernel_rfl)
  have h1 := hr (ρ' 9) w' hI
  rw [← e0, ← e2, ← e4, ← e5] at h1
  exact b10_ok R (fun z9 w1 => J z9 w1 ∧ μ z9 w1 < μ (ρ' 9) w') ρ' w' h1
theorem l9_intro (R : Ending → World → Prop) (x0 x2 x4 x5 x9 : Value) (w : World) (J : Value → World → Prop) (μ : Value → World → Nat) (h0 : J x9 w)
    (hr : ∀ y9 w0, J y9 w0 → ∀ C9 : Value → World → Prop, (∀ z9 w1, J z9 w1 → μ z9 w1 < μ y9 w0 → C9 z9 w1) → b10 R C9 x0 x2 x4 x5 y9 w0) : l9 R x0 x2 x4 x5 x9 w := by
  unfold l9
  exact ⟨J, μ, h0, fun y9 w0 hJ => hr y9 w0 hJ _ (fun z9 w1 h1 h2 => ⟨h1, h2⟩)⟩
abbrev q16 (R : Ending → World → Prop) : Exit → Env → World → Prop := QX (fun ρ w => b6 R (ρ 2) (ρ 5) w) (fun ρ w => LD Try.prog (Instr.loadAt 36 (ρ 2)) w fun r0 => R (.returned (.tuple #[r0, (ρ 3)])) w) []
theorem k8_ok (R : Ending → World → Prop) (ρ : Env) (w : World) (h : l9 R (ρ 0) (ρ 2) (ρ 4) (ρ 5) (ρ 9) w) : codeP Try.prog (pan R) p4 (q16 R) ρ w := by
  have e : Code.block 2 (blkC p4) = p4 := by kernel_rfl
  rw [← e]
  exact blockQ (l9_ok R ρ w h)

def b7 (R : Ending → World → Prop) (x0 x2 x4 x5 : Value) (w : World) (_r : Tok R := tok R) : Prop :=
  l9 R x0 x2 x4 x5 (Go.Value.int Go.IntKind.i64 0) w
abbrev q17 (R : Ending → World → Prop) : Exit → Env → World → Prop := QX (fun ρ w => l9 R (ρ 0) (ρ 2) (ρ 4) (ρ 5) (ρ 9) w) (fun ρ w => LD Try.prog (Instr.loadAt 36 (ρ 2)) w fun r0 => R (.returned (.tuple #[r0, (ρ 3)])) w) []
theorem b7_eq (R : Ending → World → Prop) (ρ : Env) (w : World) : (b7 R (ρ 0) (ρ 2) (ρ 4) (ρ 5) w) = codeP Try.prog (pan R) (preC 0 (fstC p3)) (q17 R) ρ w := by kernel_rfl
theorem b7_ok (R : Ending → World → Prop) (ρ : Env) (w : World) (h : b7 R (ρ 0) (ρ 2) (ρ 4) (ρ 5) w) : codeP Try.prog (pan R) (fstC p3) (q16 R) ρ w := by
  have e : appC 0 (preC 0 (fstC p3)) (dropC 1 (fstC p3)) = (fstC p3) := by kernel_rfl
  rw [← e]
  exact appQ (fun ρ w => l9 R (ρ 0) (ρ 2) (ρ 4) (ρ 5) (ρ 9) w) 0 ((b7_eq R ρ w).mp h) (fun ρ w h => k8_ok R ρ w h)
theorem k5_ok (R : Ending → World → Prop) (ρ : Env) (w : World) (h : b7 R (ρ 0) (ρ 2) (ρ 4) (ρ 5) w) : codeP Try.prog (pan R) p3 (q1 R) ρ w := by
  have e : Code.seq (fstC p3) (sndC p3) = p3 := by kernel_rfl
  rw [← e]
  exact seqQ (fun ρ w => b6 R (ρ 2) (ρ 5) w) (b7_ok R ρ w h) (fun ρ w h => b6_ok R ρ w h)

def b4 (R : Ending → World → Prop) (x0 x2 x4 x5 x8 : Value) (w : World) (_r : Tok R := tok R) : Prop :=
  NILC x0 fun v1 =>
  PUR Try.prog (Instr.fieldAt 66 v1 0) fun v2 =>
  LD Try.prog (Instr.loadAt 32 v2) (World.drew w) fun v3 =>
  LD Try.prog (Builtin.len_ #[32] 3 #[v3]) (World.drew w) fun v4 =>
  PUR Try.prog (bins .sub 3 (.const (Go.Value.int Go.IntKind.i64 (-1))) (.tmp 116) (Go.Value.int Go.IntKind.i64 (-1)) x8) fun v5 =>
  PUR Try.prog (Instr.indexAt 30 x4 v5) fun v6 =>
  LD Try.prog (Instr.loadAt 3 v6) (World.drew w) fun v7 =>
  PUR Try.prog (bins .add 3 (.tmp 114) (.tmp 119) v4 v7) fun v8 =>
  PUR Try.prog (Instr.fieldAt 36 x5 3) fun v9 =>
  RUNU Try.prog (pan R) (Instr.storeAt 3 v9 v8) (World.drew w) fun w10 =>
  b7 R x0 x2 x4 x5 w10
abbrev q18 (R : Ending → World → Prop) : Exit → Env → World → Prop := QX (fun ρ w => b7 R (ρ 0) (ρ 2) (ρ 4) (ρ 5) w) (fun ρ w => LD Try.prog (Instr.loadAt 36 (ρ 2)) w fun r0 => R (.returned (.tuple #[r0, (ρ 3)])) w) []
theorem b4_eq (R : Ending → World → Prop) (ρ : Env) (w : World) : (b4 R (ρ 0) (ρ 2) (ρ 4) (ρ 5) (ρ 8) w) = codeP Try.prog (pan R) (preC 0 p2) (q18 R) ρ w := by kernel_rfl
theorem b4_ok (R : Ending → World → Prop) (ρ : Env) (w : World) (h : b4 R (ρ 0) (ρ 2) (ρ 4) (ρ 5) (ρ 8) w) : codeP Try.prog (pan R) p2 (q1 R) ρ w := by
  have e : appC 0 (preC 0 p2) (dropC 1 p2) = p2 := by kernel_rfl
  rw [← e]
  exact appQ (fun ρ w => b7 R (ρ 0) (ρ 2) (ρ 4) (ρ 5) w) 0 ((b4_eq R ρ w).mp h) (fun ρ w h => k5_ok R ρ w h)
def b3_1 (R : Ending → World → Prop) (x2 : Value) (w : World) (_r : Tok R := tok R) : Prop :=
  RUN Try.prog (pan R) (Instr.build 36 #[]) (World.drew w) fun v9 w10 =>
  RUNU Try.prog (pan R) (Instr.storeAt 36 x2 v9) w10 fun w11 =>
  LD Try.prog (Instr.loadAt 36 x2) w11 fun r0 => R (.returned (.tuple #[r0, (Go.Value.int Go.IntKind.i64 1)])) w11
def b3_2 (R : Ending → World → Prop) (x0 x2 x4 x5 : Value) (w18 : World) (_r : Tok R := tok R) : Prop :=
  NILC x0 fun v19 =>
  RUN Try.prog (pan R) (Instr.fieldAt 66 v19 3) w18 fun v20 w21 =>
  RUN Try.prog (pan R) (Instr.loadAt 64 v20) w21 fun v22 w23 =>
  RUN Try.prog (pan R) (Instr.indexAt 64 v22 (Go.Value.int Go.IntKind.i64 0)) w23 fun v24 w25 =>
  RUN Try.prog (pan R) (Instr.fieldAt 116 v24 0) w25 fun v26 w27 =>
  RUN Try.prog (pan R) (Instr.loadAt 3 v26) w27 fun v28 w29 =>
  b4 R x0 x2 x4 x5 v28 w29
def b3_3 (R : Ending → World → Prop) (x0 x2 x4 x5 : Value) (w : World) (_r : Tok R := tok R) : Prop :=
  NILC x0 fun v12 =>
  RUN Try.prog (pan R) (Instr.fieldAt 66 v12 4) (World.drew w) fun v13 w14 =>
  RUN Try.prog (pan R) (Instr.loadAt 3 v13) w14 fun v15 w16 =>
  RUN Try.prog (pan R) (bins .eql 3 (.tmp 101) (.const (Go.Value.int Go.IntKind.i64 0)) v15 (Go.Value.int Go.IntKind.i64 0)) w16 fun v17 w18 =>
  SPL v17
  (b3_2 R x0 x2 x4 x5 w18)
  (b4 R x0 x2 x4 x5 v15 w18)

def b3 (R : Ending → World → Prop) (x0 x2 x4 x5 : Value) (w : World) (_r : Tok R := tok R) : Prop :=
  PUR Try.prog (Instr.fieldAt 36 x5 1) fun v1 =>
  LD Try.prog (Instr.loadAt 33 v1) (World.drew w) fun v2 =>
  LD Try.prog (Builtin.len_ #[33] 3 #[v2]) (World.drew w) fun v3 =>
  NILC x0 fun v4 =>
  PUR Try.prog (Instr.fieldAt 66 v4 1) fun v5 =>
  LD Try.prog (Instr.loadAt 33 v5) (World.drew w) fun v6 =>
  LD Try.prog (Builtin.len_ #[33] 3 #[v6]) (World.drew w) fun v7 =>
  PUR Try.prog (bins .lss 3 (.tmp 89) (.tmp 94) v3 v7) fun v8 =>
  SPL v8
  (b3_1 R x2 w)
  (b3_3 R x0 x2 x4 x5 w)
abbrev q19 (R : Ending → World → Prop) : Exit → Env → World → Prop := QX (fun ρ w => b4 R (ρ 0) (ρ 2) (ρ 4) (ρ 5) (ρ 8) w) (fun ρ w => LD Try.prog (Instr.loadAt 36 (ρ 2)) w fun r0 => R (.returned (.tuple #[r0, (ρ 3)])) w) []
theorem b3_eq (R : Ending → World → Prop) (ρ : Env) (w : World) : (b3 R (ρ 0) (ρ 2) (ρ 4) (ρ 5) w) = codeP Try.prog (pan R) (preC 2 (sndC p1)) (q19 R) ρ w := by kernel_rfl
theorem b3_ok (R : Ending → World → Prop) (ρ : Env) (w : World) (h : b3 R (ρ 0) (ρ 2) (ρ 4) (ρ 5) w) : codeP Try.prog (pan R) (sndC p1) (q1 R) ρ w := by
  have e : appC 2 (preC 2 (sndC p1)) (dropC 3 (sndC p1)) = (sndC p1) := by kernel_rfl
  rw [← e]
  exact appQ (fun ρ w => b4 R (ρ 0) (ρ 2) (ρ 4) (ρ 5) (ρ 8) w) 2 ((b3_eq R ρ w).mp h) (fun ρ w h => b4_ok R ρ w h)
noncomputable abbrev p14 : Code := dropC 1 (fstC p1)
noncomputable abbrev p15 : Code := loopC (blkC p14)
noncomputable abbrev p16 : Code := dropC 2 p15

def b30 (R : Ending → World → Prop) (C28 : Value → World → Prop) (x6 : Value) (w : World) (_r : Tok R := tok R) (_C28 : Tok C28 := tok C28) : Prop :=
  RUN Try.prog (pan R) (bins .add 3 (.tmp 53) (.const (Go.Value.int Go.IntKind.i64 1)) x6 (Go.Value.int Go.IntKind.i64 1)) w fun v1 w2 =>
  C28 v1 w2
abbrev q20 (R : Ending → World → Prop) (C28 : Value → World → Prop) : Exit → Env → World → Prop := QX (fun ρ w => C28 (ρ 6) w) (fun ρ w => LD Try.prog (Instr.loadAt 36 (ρ 2)) w fun r0 => R (.returned (.tuple #[r0, (ρ 3)])) w) [(0, (fun ρ w => b3 R (ρ 0) (ρ 2) (ρ 4) (ρ 5) w))]
theorem b30_eq (R : Ending → World → Prop) (C28 : Value → World → Prop) (ρ : Env) (w : World) : (b30 R C28 (ρ 6) w) = codeP Try.prog (pan R) p16 (q20 R C28) ρ w := by kernel_rfl
theorem b30_ok (R : Ending → World → Prop) (C28 : Value → World → Prop) (ρ : Env) (w : World) (h : b30 R C28 (ρ 6) w) : codeP Try.prog (pan R) p16 (q20 R C28) ρ w := (b30_eq R C28 ρ w).mp h
def b29_1 (R : Ending → World → Prop) (C28 : Value → World → Prop) (x0 x4 x5 x6 v21 : Value) (w28 : World) (_r : Tok R := tok R) (_C28 : Tok C28 := tok C28) : Prop :=
  PUR Try.prog (Instr.fieldAt 36 x5 1) fun v29 =>
  LD Try.prog (Instr.loadAt 33 v29) (World.drew w28) fun v30 =>
  NILC x0 fun v31 =>
  PUR Try.prog (Instr.fieldAt 66 v31 1) fun v32 =>
  LD Try.prog (Instr.loadAt 33 v32) (World.drew w28) fun v33 =>
  PUR Try.prog (Instr.indexAt 33 v33 v21) fun v34 =>
  LD Try.prog (Instr.loadAt 9 v34) (World.drew w28) fun v35 =>
  RUN Try.prog (pan R) (Instr.buildSlice 33 1 #[(0, v35)]) (World.drew w28) fun v36 w37 =>
  Sem.run Try.prog (Instr.loadAt 33 v29) w37 = .ok v30 w37 ∧ (RUN Try.prog (pan R) (Builtin.append_ #[33, 33] 33 #[v30, v36]) w37 fun v38 w39 =>
  PUR Try.prog (Instr.fieldAt 36 x5 1) fun v40 =>
  RUNU Try.prog (pan R) (Instr.storeAt 33 v40 v38) w39 fun w41 =>
  RUN Try.prog (pan R) (Instr.fieldAt 36 x5 1) w41 fun v42 w43 =>
  RUN Try.prog (pan R) (Instr.loadAt 33 v42) w43 fun v44 w45 =>
  RUN Try.prog (pan R) (Builtin.len_ #[33] 3 #[v44]) w45 fun v46 w47 =>
  RUN Try.prog (pan R) (Instr.indexAt 30 x4 v21) w47 fun v48 w49 =>
  RUNU Try.prog (pan R) (Instr.storeAt 3 v48 v46) w49 fun w50 =>
  b30 R C28 x6 w50)
def b29_2 (R : Ending → World → Prop) (C28 : Value → World → Prop) (x0 x4 x5 x6 : Value) (w9 : World) (_r : Tok R := tok R) (_C28 : Tok C28 := tok C28) : Prop :=
  NILC x0 fun v10 =>
  RUN Try.prog (pan R) (Instr.fieldAt 66 v10 3) w9 fun v11 w12 =>
  RUN Try.prog (pan R) (Instr.loadAt 64 v11) w12 fun v13 w14 =>
  RUN Try.prog (pan R) (Instr.indexAt 64 v13 x6) w14 fun v15 w16 =>
  RUN Try.prog (pan R) (Instr.fieldAt 116 v15 0) w16 fun v17 w18 =>
  RUN Try.prog (pan R) (Instr.loadAt 3 v17) w18 fun v19 w20 =>
  RUN Try.prog (pan R) (bins .sub 3 (.const (Go.Value.int Go.IntKind.i64 (-1))) (.tmp 62) (Go.Value.int Go.IntKind.i64 (-1)) v19) w20 fun v21 w22 =>
  RUN Try.prog (pan R) (Instr.indexAt 30 x4 v21) w22 fun v23 w24 =>
  RUN Try.prog (pan R) (Instr.loadAt 3 v23) w24 fun v25 w26 =>
  RUN Try.prog (pan R) (bins .eql 3 (.tmp 67) (.const (Go.Value.int Go.IntKind.i64 0)) v25 (Go.Value.int Go.IntKind.i64 0)) w26 fun v27 w28 =>
  SPL v27
  (b29_1 R C28 x0 x4 x5 x6 v21 w28)
  (b30 R C28 x6 w28)

def b29 (R : Ending → World → Prop) (C28 : Value → World → Prop) (x0 x2 x4 x5 x6 : Value) (w : World) (_r : Tok R := tok R) (_C28 : Tok C28 := tok C28) : Prop :=
  NILC x0 fun v1 =>
  RUN Try.prog (pan R) (Instr.fieldAt 66 v1 3) w fun v2 w3 =>
  RUN Try.prog (pan R) (Instr.loadAt 64 v2) w3 fun v4 w5 =>
  RUN Try.prog (pan R) (Builtin.len_ #[64] 3 #[v4]) w5 fun v6 w7 =>
  RUN Try.prog (pan R) (bins .lss 3 (.tmp 46) (.tmp 51) x6 v6) w7 fun v8 w9 =>
  SPL v8
  (b29_2 R C28 x0 x4 x5 x6 w9)
  (b3 R x0 x2 x4 x5 w9)
abbrev q21 (R : Ending → World → Prop) (C28 : Value → World → Prop) : Exit → Env → World → Prop := QX (fun ρ w => b30 R C28 (ρ 6) w) (fun ρ w => LD Try.prog (Instr.loadAt 36 (ρ 2)) w fun r0 => R (.returned (.tuple #[r0, (ρ 3)])) w) [(0, (fun ρ w => b3 R (ρ 0) (ρ 2) (ρ 4) (ρ 5) w))]
theorem b29_eq (R : Ending → World → Prop) (C28 : Value → World → Prop) (ρ : Env) (w : World) : (b29 R C28 (ρ 0) (ρ 2) (ρ 4) (ρ 5) (ρ 6) w) = codeP Try.prog (pan R) (preC 1 p15) (q21 R C28) ρ w := by kernel_rfl
theorem b29_ok (R : Ending → World → Prop) (C28 : Value → World → Prop) (ρ : Env) (w : World) (h : b29 R C28 (ρ 0) (ρ 2) (ρ 4) (ρ 5) (ρ 6) w) : codeP Try.prog (pan R) p15 (q20 R C28) ρ w := by
  have e : appC 1 (preC 1 p15) (dropC 2 p15) = p15 := by kernel_rfl
  rw [← e]
  exact appQ (fun ρ w => b30 R C28 (ρ 6) w) 1 ((b29_eq R C28 ρ w).mp h) (fun ρ w h => b30_ok R C28 ρ w h)

def l28 (R : Ending → World → Prop) (x0 x2 x4 x5 x6 : Value) (w : World) (_r : Tok R := tok R) : Prop :=
  ∃ (J : Value → World → Prop) (μ : Value → World → Nat), J x6 w ∧ ∀ y6 w0, J y6 w0 → b29 R (fun z6 w1 => J z6 w1 ∧ μ z6 w1 < μ y6 w0) x0 x2 x4 x5 y6 w0
abbrev q22 (R : Ending → World → Prop) : Exit → Env → World → Prop := QX (fun ρ w => b3 R (ρ 0) (ρ 2) (ρ 4) (ρ 5) w) (fun ρ w => LD Try.prog (Instr.loadAt 36 (ρ 2)) w fun r0 => R (.returned (.tuple #[r0, (ρ 3)])) w) [(0, (fun ρ w => b3 R (ρ 0) (ρ 2) (ρ 4) (ρ 5) w))]
theorem l28_ok (R : Ending → World → Prop) (ρ : Env) (w : World) (h : l28 R (ρ 0) (ρ 2) (ρ 4) (ρ 5) (ρ 6) w) : codeP Try.prog (pan R) (blkC p14) (q22 R) ρ w := by
  unfold l28 at h
  obtain ⟨J, μ, h0, hr⟩ := h
  have e : Code.loop (loopC (blkC p14)) = (blkC p14) := by kernel_rfl
  rw [← e]
  refine loopQ (fun ρ' w' => J (ρ' 6) w') (fun ρ' w' => μ (ρ' 6) w') h0 fun ρ' w' hA hI => ?_
  have e0 : ρ' 0 = ρ 0 := Agree.at hA 0 (by kernel_rfl)
  have e2 : ρ' 2 = ρ 2 := Agree.at hA 2 (by kernel_rfl)
  have e4 : ρ' 4 = ρ 4 := Agree.at hA 4 (by kernel_rfl)
  have e5 : ρ' 5 = ρ 5 := Agree.at hA 5 (by kernel_rfl)
  have h1 := hr (ρ' 6) w' hI
  rw [← e0, ← e2, ← e4, ← e5] at h1
  exact b29_ok R (fun z6 w1 => J z6 w1 ∧ μ z6 w1 < μ (ρ' 6) w') ρ' w' h1
theorem l28_intro (R : Ending → World → Prop) (x0 x2 x4 x5 x6 : Value) (w : World) (J : Value → World → Prop) (μ : Value → World → Nat) (h0 : J x6 w)
    (hr : ∀ y6 w0, J y6 w0 → ∀ C28 : Value → World → Prop, (∀ z6 w1, J z6 w1 → μ z6 w1 < μ y6 w0 → C28 z6 w1) → b29 R C28 x0 x2 x4 x5 y6 w0) : l28 R x0 x2 x4 x5 x6 w := by
  unfold l28
  exact ⟨J, μ, h0, fun y6 w0 hJ => hr y6 w0 hJ _ (fun z6 w1 h1 h2 => ⟨h1, h2⟩)⟩
abbrev q23 (R : Ending → World → Prop) : Exit → Env → World → Prop := QX (fun ρ w => b3 R (ρ 0) (ρ 2) (ρ 4) (ρ 5) w) (fun ρ w => LD Try.prog (Instr.loadAt 36 (ρ 2)) w fun r0 => R (.returned (.tuple #[r0, (ρ 3)])) w) []
theorem k27_ok (R : Ending → World → Prop) (ρ : Env) (w : World) (h : l28 R (ρ 0) (ρ 2) (ρ 4) (ρ 5) (ρ 6) w) : codeP Try.prog (pan R) p14 (q23 R) ρ w := by
  have e : Code.block 0 (blkC p14) = p14 := by kernel_rfl
  rw [← e]
  exact blockQ (l28_ok R ρ w h)

def b26 (R : Ending → World → Prop) (x0 x2 x4 x5 : Value) (w : World) (_r : Tok R := tok R) : Prop :=
  l28 R x0 x2 x4 x5 (Go.Value.int Go.IntKind.i64 0) w
abbrev q24 (R : Ending → World → Prop) : Exit → Env → World → Prop := QX (fun ρ w => l28 R (ρ 0) (ρ 2) (ρ 4) (ρ 5) (ρ 6) w) (fun ρ w => LD Try.prog (Instr.loadAt 36 (ρ 2)) w fun r0 => R (.returned (.tuple #[r0, (ρ 3)])) w) []
theorem b26_eq (R : Ending → World → Prop) (ρ : Env) (w : World) : (b26 R (ρ 0) (ρ 2) (ρ 4) (ρ 5) w) = codeP Try.prog (pan R) (preC 0 (fstC p1)) (q24 R) ρ w := by kernel_rfl
theorem b26_ok (R : Ending → World → Prop) (ρ : Env) (w : World) (h : b26 R (ρ 0) (ρ 2) (ρ 4) (ρ 5) w) : codeP Try.prog (pan R) (fstC p1) (q23 R) ρ w := by
  have e : appC 0 (preC 0 (fstC p1)) (dropC 1 (fstC p1)) = (fstC p1) := by kernel_rfl
  rw [← e]
  exact appQ (fun ρ w => l28 R (ρ 0) (ρ 2) (ρ 4) (ρ 5) (ρ 6) w) 0 ((b26_eq R ρ w).mp h) (fun ρ w h => k27_ok R ρ w h)
theorem k2_ok (R : Ending → World → Prop) (ρ : Env) (w : World) (h : b26 R (ρ 0) (ρ 2) (ρ 4) (ρ 5) w) : codeP Try.prog (pan R) p1 (q1 R) ρ w := by
  have e : Code.seq (fstC p1) (sndC p1) = p1 := by kernel_rfl
  rw [← e]
  exact seqQ (fun ρ w => b3 R (ρ 0) (ρ 2) (ρ 4) (ρ 5) w) (b26_ok R ρ w h) (fun ρ w h => b3_ok R ρ w h)
def b1_1 (R : Ending → World → Prop) (v1 : Value) (w11 : World) (_r : Tok R := tok R) : Prop :=
  RUN Try.prog (pan R) (Instr.build 36 #[]) w11 fun v12 w13 =>
  RUNU Try.prog (pan R) (Instr.storeAt 36 v1 v12) w13 fun w14 =>
  LD Try.prog (Instr.loadAt 36 v1) w14 fun r0 => R (.returned (.tuple #[r0, (Go.Value.int Go.IntKind.i64 1)])) w14
def b1_2 (R : Ending → World → Prop) (x0 v1 : Value) (w11 : World) (_r : Tok R := tok R) : Prop :=
  NILC x0 fun v15 =>
  RUN Try.prog (pan R) (Instr.fieldAt 66 v15 1) w11 fun v16 w17 =>
  RUN Try.prog (pan R) (Instr.loadAt 33 v16) w17 fun v18 w19 =>
  RUN Try.prog (pan R) (Builtin.len_ #[33] 3 #[v18]) w19 fun v20 w21 =>
  RUN Try.prog (pan R) (Instr.makeSlice 30 v20 v20) w21 fun v22 w23 =>
  RUN Try.prog (pan R) (Instr.build 56 #[]) w23 fun v24 w25 =>
  RUN Try.prog (pan R) (Instr.buildSlice 32 1 #[(0, v24)]) w25 fun v26 w27 =>
  RUN Try.prog (pan R) (Instr.build 36 #[(0, v26)]) w27 fun v28 w29 =>
  RUN Try.prog (pan R) (Instr.alloc 36 true (.tuple #[])) w29 fun v30 w31 =>
  RUNU Try.prog (pan R) (Instr.storeAt 36 v30 v28) w31 fun w32 =>
  PUR Try.prog (Instr.fieldAt 36 v30 0) fun v33 =>
  LD Try.prog (Instr.loadAt 32 v33) (World.drew w32) fun v34 =>
  NILC x0 fun v35 =>
  PUR Try.prog (Instr.fieldAt 66 v35 0) fun v36 =>
  LD Try.prog (Instr.loadAt 32 v36) (World.drew w32) fun v37 =>
  RUN Try.prog (pan R) (Builtin.append_ #[32, 32] 32 #[v34, v37]) (World.drew w32) fun v38 w39 =>
  PUR Try.prog (Instr.fieldAt 36 v30 0) fun v40 =>
  RUNU Try.prog (pan R) (Instr.storeAt 32 v40 v38) w39 fun w41 =>
  PUR Try.prog (Instr.fieldAt 36 v30 2) fun v42 =>
  LD Try.prog (Instr.loadAt 30 v42) (World.drew w41) fun v43 =>
  NILC x0 fun v44 =>
  PUR Try.prog (Instr.fieldAt 66 v44 2) fun v45 =>
  LD Try.prog (Instr.loadAt 30 v45) (World.drew w41) fun v46 =>
  RUN Try.prog (pan R) (Builtin.append_ #[30, 30] 30 #[v43, v46]) (World.drew w41) fun v47 w48 =>
  PUR Try.prog (Instr.fieldAt 36 v30 2) fun v49 =>
  RUNU Try.prog (pan R) (Instr.storeAt 30 v49 v47) w48 fun w50 =>
  b26 R x0 v1 v22 v30 w50

def b1 (R : Ending → World → Prop) (x0 : Value) (w : World) (_r : Tok R := tok R) : Prop :=
  RUN Try.prog (pan R) (Instr.alloc 36 true (.tuple #[])) w fun v1 w2 =>
  NILC x0 fun v3 =>
  RUN Try.prog (pan R) (Instr.fieldAt 66 v3 3) w2 fun v4 w5 =>
  RUN Try.prog (pan R) (Instr.loadAt 64 v4) w5 fun v6 w7 =>
  RUN Try.prog (pan R) (Builtin.len_ #[64] 3 #[v6]) w7 fun v8 w9 =>
  RUN Try.prog (pan R) (bins .eql 3 (.tmp 18) (.const (Go.Value.int Go.IntKind.i64 0)) v8 (Go.Value.int Go.IntKind.i64 0)) w9 fun v10 w11 =>
  SPL v10
  (b1_1 R v1 w11)
  (b1_2 R x0 v1 w11)
abbrev q25 (R : Ending → World → Prop) : Exit → Env → World → Prop := QX (fun ρ w => b26 R (ρ 0) (ρ 2) (ρ 4) (ρ 5) w) (fun ρ w => LD Try.prog (Instr.loadAt 36 (ρ 2)) w fun r0 => R (.returned (.tuple #[r0, (ρ 3)])) w) []
theorem b1_eq (R : Ending → World → Prop) (ρ : Env) (w : World) : (b1 R (ρ 0) w) = codeP Try.prog (pan R) (preC 5 code) (q25 R) ρ w := by kernel_rfl
theorem b1_ok (R : Ending → World → Prop) (ρ : Env) (w : World) (h : b1 R (ρ 0) w) : codeP Try.prog (pan R) code (q1 R) ρ w := by
  have e : appC 5 (preC 5 code) (dropC 6 code) = code := by kernel_rfl
  rw [← e]
  exact appQ (fun ρ w => b26 R (ρ 0) (ρ 2) (ρ 4) (ρ 5) w) 5 ((b1_eq R ρ w).mp h) (fun ρ w h => k2_ok R ρ w h)
/-- What is owed for a call. -/
def run (R : Ending → World → Prop) (a0 : Value) (w : World) : Prop := b1 R a0 w
theorem calls (R : Ending → World → Prop) (a0 : Value) (w : World) (h : run R a0 w) : Calls Try.prog id #[a0] w R :=
  calls_of_ct (f := id) (fn := Try.f60) (c := code) (by kernel_rfl) Try.func60 (by kernel_rfl) (by kernel_rfl) (args := [a0]) (Nat.le_of_ble_eq_true rfl) rfl (b1_ok R (envOf [a0]) w h)
theorem enters : Enters Try.prog id := fun args w => Try.call60 args w
theorem ct {a0 : Value} {w : World} {S : Value → World → Prop} (h : ∀ R : Ending → World → Prop, (∀ v w, S v w → R (.returned v) w) → run R a0 w) : Ct Try.prog id #[a0] w S :=
  Ct.intro enters fun R hR => calls R a0 w (h R hR)
attribute [irreducible] b6 b12 b16 b22 b25 b24_1 b24 b20 l19 b17 b14 b10 l9 b7 b4 b3_1 b3_2 b3_3 b3 b30 b29_1 b29_2 b29 l28 b26 b1_1 b1_2 b1 run
attribute [go_sem] b6 b12 b16 b22 b25 b24_1 b24 b20 b17 b14 b10 b7 b4 b3_1 b3_2 b3_3 b3 b30 b29_1 b29_2 b29 b26 b1_1 b1_2 b1 run
end ref02_Builder_Grammar

/-! ### (*presage/presageref02.Builder).Term -/
namespace ref02_Builder_Term
noncomputable def code : Code := bodyOf Try.f80
noncomputable abbrev p1 : Code := dropC 3 code
def b3_1 (R : Ending → World → Prop) (x0 x1 : Value) (w : World) (_r : Tok R := tok R) : Prop :=
  NILC x0 fun v11 =>
  RUN Try.prog (pan R) (Instr.fieldAt 66 v11 0) (World.drew w) fun v12 w13 =>
  RUN Try.prog (pan R) (Instr.loadAt 32 v12) w13 fun v14 w15 =>
  RUN Try.prog (pan R) (Instr.build 56 #[(0, x1)]) w15 fun v16 w17 =>
  RUN Try.prog (pan R) (Instr.buildSlice 32 1 #[(0, v16)]) w17 fun v18 w19 =>
  RUN Try.prog (pan R) (Builtin.append_ #[32, 32] 32 #[v14, v18]) w19 fun v20 w21 =>
  NILC x0 fun v22 =>
  RUN Try.prog (pan R) (Instr.fieldAt 66 v22 0) w21 fun v23 w24 =>
  RUNU Try.prog (pan R) (Instr.storeAt 32 v23 v20) w24 fun w25 =>
  NILC x0 fun v26 =>
  RUN Try.prog (pan R) (Instr.fieldAt 66 v26 0) w25 fun v27 w28 =>
  RUN Try.prog (pan R) (Instr.loadAt 32 v27) w28 fun v29 w30 =>
  RUN Try.prog (pan R) (Builtin.len_ #[32] 3 #[v29]) w30 fun v31 w32 =>
  R (.returned (.tuple #[v31, (Go.Value.int Go.IntKind.i64 0)])) w32
/- x0 b, x1 text -/
def b3 (R : Ending → World → Prop) (x0 x1 : Value) (w : World) (_r : Tok R := tok R) : Prop :=
  NILC x0 fun v1 =>
  PUR Try.prog (Instr.fieldAt 66 v1 0) fun v2 =>
  LD Try.prog (Instr.loadAt 32 v2) (World.drew w) fun v3 =>
  LD Try.prog (Builtin.len_ #[32] 3 #[v3]) (World.drew w) fun v4 =>
  NILC x0 fun v5 =>
  PUR Try.prog (Instr.fieldAt 66 v5 1) fun v6 =>
  LD Try.prog (Instr.loadAt 33 v6) (World.drew w) fun v7 =>
  LD Try.prog (Builtin.len_ #[33] 3 #[v7]) (World.drew w) fun v8 =>
  PUR Try.prog (bins .add 3 (.tmp 37) (.tmp 42) v4 v8) fun v9 =>
  PUR Try.prog (bins .geq 3 (.tmp 43) (.const (Go.Value.int Go.IntKind.i64 64)) v9 (Go.Value.int Go.IntKind.i64 64)) fun v10 =>
  SPL v10
  (R (.returned (.tuple #[(Go.Value.int Go.IntKind.i64 0), (Go.Value.int Go.IntKind.i64 11)])) (World.drew w))
  (b3_1 R x0 x1 w)
abbrev q1 (R : Ending → World → Prop) : Exit → Env → World → Prop := QX (fun ρ w => R (.returned (.tuple #[(ρ 4), (ρ 5)])) w) (fun ρ w => R (.returned (.tuple #[(ρ 4), (ρ 5)])) w) []
theorem b3_eq (R : Ending → World → Prop) (ρ : Env) (w : World) : (b3 R (ρ 0) (ρ 1) w) = codeP Try.prog (pan R) (sndC p1) (q1 R) ρ w := by kernel_rfl
theorem b3_ok (R : Ending → World → Prop) (ρ : Env) (w : World) (h : b3 R (ρ 0) (ρ 1) w) : codeP Try.prog (pan R) (sndC p1) (q1 R) ρ w := (b3_eq R ρ w).mp h
noncomputable abbrev p2 : Code := dropC 1 (fstC p1)
noncomputable abbrev p3 : Code := loopC (blkC p2)
def b7_1 (R : Ending → World → Prop) (C6 : Value → World → Prop) (x0 x1 x7 : Value) (w9 : World) (_r : Tok R := tok R) (_C6 : Tok C6 := tok C6) : Prop :=
  NILC x0 fun v10 =>
  RUN Try.prog (pan R) (Instr.fieldAt 66 v10 0) w9 fun v11 w12 =>
  RUN Try.prog (pan R) (Instr.loadAt 32 v11) w12 fun v13 w14 =>
  RUN Try.prog (pan R) (Instr.indexAt 32 v13 x7) w14 fun v15 w16 =>
  RUN Try.prog (pan R) (Instr.fieldAt 56 v15 0) w16 fun v17 w18 =>
  RUN Try.prog (pan R) (Instr.loadAt 9 v17) w18 fun v19 w20 =>
  RUN Try.prog (pan R) (bins .eql 9 (.tmp 28) (.tmp 29) v19 x1) w20 fun v21 w22 =>
  SPL v21
  (RUN Try.prog (pan R) (bins .add 3 (.tmp 31) (.const (Go.Value.int Go.IntKind.i64 1)) x7 (Go.Value.int Go.IntKind.i64 1)) w22 fun v23 w24 =>
  R (.returned (.tuple #[v23, (Go.Value.int Go.IntKind.i64 0)])) w24)
  (RUN Try.prog (pan R) (bins .add 3 (.tmp 19) (.const (Go.Value.int Go.IntKind.i64 1)) x7 (Go.Value.int Go.IntKind.i64 1)) w22 fun v25 w26 =>
  C6 v25 w26)
/- x0 b, x1 text, x7 i -/
def b7 (R : Ending → World → Prop) (C6 : Value → World → Prop) (x0 x1 x7 : Value) (w : World) (_r : Tok R := tok R) (_C6 : Tok C6 := tok C6) : Prop :=
  NILC x0 fun v1 =>
  RUN Try.prog (pan R) (Instr.fieldAt 66 v1 0) w fun v2 w3 =>
  RUN Try.prog (pan R) (Instr.loadAt 32 v2) w3 fun v4 w5 =>
  RUN Try.prog (pan R) (Builtin.len_ #[32] 3 #[v4]) w5 fun v6 w7 =>
  RUN Try.prog (pan R) (bins .lss 3 (.tmp 12) (.tmp 17) x7 v6) w7 fun v8 w9 =>
  SPL v8
  (b7_1 R C6 x0 x1 x7 w9)
  (b3 R x0 x1 w9)
abbrev q2 (R : Ending → World → Prop) (C6 : Value → World → Prop) : Exit → Env → World → Prop := QX (fun ρ w => C6 (ρ 7) w) (fun ρ w => R (.returned (.tuple #[(ρ 4), (ρ 5)])) w) [(0, (fun ρ w => b3 R (ρ 0) (ρ 1) w))]
theorem b7_eq (R : Ending → World → Prop) (C6 : Value → World → Prop) (ρ : Env) (w : World) : (b7 R C6 (ρ 0) (ρ 1) (ρ 7) w) = codeP Try.prog (pan R) p3 (q2 R C6) ρ w := by kernel_rfl
theorem b7_ok (R : Ending → World → Prop) (C6 : Value → World → Prop) (ρ : Env) (w : World) (h : b7 R C6 (ρ 0) (ρ 1) (ρ 7) w) : codeP Try.prog (pan R) p3 (q2 R C6) ρ w := (b7_eq R C6 ρ w).mp h
/- x0 b, x1 text, x7 i -/
def l6 (R : Ending → World → Prop) (x0 x1 x7 : Value) (w : World) (_r : Tok R := tok R) : Prop :=
  ∃ (J : Value → World → Prop) (μ : Value → World → Nat), J x7 w ∧ ∀ y7 w0, J y7 w0 → b7 R (fun z7 w1 => J z7 w1 ∧ μ z7 w1 < μ y7 w0) x0 x1 y7 w0
abbrev q3 (R : Ending → World → Prop) : Exit → Env → World → Prop := QX (fun ρ w => b3 R (ρ 0) (ρ 1) w) (fun ρ w => R (.returned (.tuple #[(ρ 4), (ρ 5)])) w) [(0, (fun ρ w => b3 R (ρ 0) (ρ 1) w))]
theorem l6_ok (R : Ending → World → Prop) (ρ : Env) (w : World) (h : l6 R (ρ 0) (ρ 1) (ρ 7) w) : codeP Try.prog (pan R) (blkC p2) (q3 R) ρ w := by
  unfold l6 at h
  obtain ⟨J, μ, h0, hr⟩ := h
  have e : Code.loop (loopC (blkC p2)) = (blkC p2) := by kernel_rfl
  rw [← e]
  refine loopQ (fun ρ' w' => J (ρ' 7) w') (fun ρ' w' => μ (ρ' 7) w') h0 fun ρ' w' hA hI => ?_
  have e0 : ρ' 0 = ρ 0 := Agree.at hA 0 (by kernel_rfl)
  have e1 : ρ' 1 = ρ 1 := Agree.at hA 1 (by kernel_rfl)
  have h1 := hr (ρ' 7) w' hI
  rw [← e0, ← e1] at h1
  exact b7_ok R (fun z7 w1 => J z7 w1 ∧ μ z7 w1 < μ (ρ' 7) w') ρ' w' h1
theorem l6_intro (R : Ending → World → Prop) (x0 x1 x7 : Value) (w : World) (J : Value → World → Prop) (μ : Value → World → Nat) (h0 : J x7 w)
    (hr : ∀ y7 w0, J y7 w0 → ∀ C6 : Value → World → Prop, (∀ z7 w1, J z7 w1 → μ z7 w1 < μ y7 w0 → C6 z7 w1) → b7 R C6 x0 x1 y7 w0) : l6 R x0 x1 x7 w := by
  unfold l6
  exact ⟨J, μ, h0, fun y7 w0 hJ => hr y7 w0 hJ _ (fun z7 w1 h1 h2 => ⟨h1, h2⟩)⟩
abbrev q4 (R : Ending → World → Prop) : Exit → Env → World → Prop := QX (fun ρ w => b3 R (ρ 0) (ρ 1) w) (fun ρ w => R (.returned (.tuple #[(ρ 4), (ρ 5)])) w) []
theorem k5_ok (R : Ending → World → Prop) (ρ : Env) (w : World) (h : l6 R (ρ 0) (ρ 1) (ρ 7) w) : codeP Try.prog (pan R) p2 (q4 R) ρ w := by
  have e : Code.block 0 (blkC p2) = p2 := by kernel_rfl
  rw [← e]
  exact blockQ (l6_ok R ρ w h)
/- x0 b, x1 text -/
def b4 (R : Ending → World → Prop) (x0 x1 : Value) (w : World) (_r : Tok R := tok R) : Prop :=
  l6 R x0 x1 (Go.Value.int Go.IntKind.i64 0) w
abbrev q5 (R : Ending → World → Prop) : Exit → Env → World → Prop := QX (fun ρ w => l6 R (ρ 0) (ρ 1) (ρ 7) w) (fun ρ w => R (.returned (.tuple #[(ρ 4), (ρ 5)])) w) []
theorem b4_eq (R : Ending → World → Prop) (ρ : Env) (w : World) : (b4 R (ρ 0) (ρ 1) w) = codeP Try.prog (pan R) (preC 0 (fstC p1)) (q5 R) ρ w := by kernel_rfl
theorem b4_ok (R : Ending → World → Prop) (ρ : Env) (w : World) (h : b4 R (ρ 0) (ρ 1) w) : codeP Try.prog (pan R) (fstC p1) (q4 R) ρ w := by
  have e : appC 0 (preC 0 (fstC p1)) (dropC 1 (fstC p1)) = (fstC p1) := by kernel_rfl
  rw [← e]
  exact appQ (fun ρ w => l6 R (ρ 0) (ρ 1) (ρ 7) w) 0 ((b4_eq R ρ w).mp h) (fun ρ w h => k5_ok R ρ w h)
theorem k2_ok (R : Ending → World → Prop) (ρ : Env) (w : World) (h : b4 R (ρ 0) (ρ 1) w) : codeP Try.prog (pan R) p1 (q1 R) ρ w := by
  have e : Code.seq (fstC p1) (sndC p1) = p1 := by kernel_rfl
  rw [← e]
  exact seqQ (fun ρ w => b3 R (ρ 0) (ρ 1) w) (b4_ok R ρ w h) (fun ρ w h => b3_ok R ρ w h)
/- x0 b, x1 text -/
def b1 (R : Ending → World → Prop) (x0 x1 : Value) (w : World) (_r : Tok R := tok R) : Prop :=
  CALL Try.prog (pan R) ref02_IsTerm.id #[x1] w fun v1 w2 =>
  RUN Try.prog (pan R) (Op.unary .not v1) w2 fun v3 w4 =>
  SPL v3
  (R (.returned (.tuple #[(Go.Value.int Go.IntKind.i64 0), (Go.Value.int Go.IntKind.i64 1)])) w4)
  (b4 R x0 x1 w4)
abbrev q6 (R : Ending → World → Prop) : Exit → Env → World → Prop := QX (fun ρ w => b4 R (ρ 0) (ρ 1) w) (fun ρ w => R (.returned (.tuple #[(ρ 4), (ρ 5)])) w) []
theorem b1_eq (R : Ending → World → Prop) (ρ : Env) (w : World) : (b1 R (ρ 0) (ρ 1) w) = codeP Try.prog (pan R) (preC 2 code) (q6 R) ρ w := by kernel_rfl
theorem b1_ok (R : Ending → World → Prop) (ρ : Env) (w : World) (h : b1 R (ρ 0) (ρ 1) w) : codeP Try.prog (pan R) code (q1 R) ρ w := by
  have e : appC 2 (preC 2 code) (dropC 3 code) = code := by kernel_rfl
  rw [← e]
  exact appQ (fun ρ w => b4 R (ρ 0) (ρ 1) w) 2 ((b1_eq R ρ w).mp h) (fun ρ w h => k2_ok R ρ w h)
/-- What is owed for a call. -/
def run (R : Ending → World → Prop) (a0 a1 : Value) (w : World) : Prop := b1 R a0 a1 w
theorem calls (R : Ending → World → Prop) (a0 a1 : Value) (w : World) (h : run R a0 a1 w) : Calls Try.prog id #[a0, a1] w R :=
  calls_of_tt (f := id) (fn := Try.f80) (c := code) (by kernel_rfl) Try.func80 (by kernel_rfl) (by kernel_rfl) (args := [a0, a1]) (Nat.le_of_ble_eq_true rfl) rfl (b1_ok R (envOf [a0, a1]) w h)
theorem enters : Enters Try.prog id := fun args w => Try.call80 args w
theorem ct {a0 a1 : Value} {w : World} {S : Value → World → Prop} (h : ∀ R : Ending → World → Prop, (∀ v w, S v w → R (.returned v) w) → run R a0 a1 w) : Ct Try.prog id #[a0, a1] w S :=
  Ct.intro enters fun R hR => calls R a0 a1 w (h R hR)
attribute [irreducible] b3_1 b3 b7_1 b7 l6 b4 b1 run
attribute [go_sem] b3_1 b3 b7_1 b7 b4 b1 run
end ref02_Builder_Term

/-! ### (*presage/presageref02.Builder).Non -/
namespace ref02_Builder_Non
noncomputable def code : Code := bodyOf Try.f81
noncomputable abbrev p1 : Code := dropC 3 code
def b3_1 (R : Ending → World → Prop) (x0 x1 : Value) (w : World) (_r : Tok R := tok R) : Prop :=
  NILC x0 fun v11 =>
  RUN Try.prog (pan R) (Instr.fieldAt 66 v11 1) (World.drew w) fun v12 w13 =>
  RUN Try.prog (pan R) (Instr.loadAt 33 v12) w13 fun v14 w15 =>
  RUN Try.prog (pan R) (Instr.buildSlice 33 1 #[(0, x1)]) w15 fun v16 w17 =>
  RUN Try.prog (pan R) (Builtin.append_ #[33, 33] 33 #[v14, v16]) w17 fun v18 w19 =>
  NILC x0 fun v20 =>
  RUN Try.prog (pan R) (Instr.fieldAt 66 v20 1) w19 fun v21 w22 =>
  RUNU Try.prog (pan R) (Instr.storeAt 33 v21 v18) w22 fun w23 =>
  NILC x0 fun v24 =>
  RUN Try.prog (pan R) (Instr.fieldAt 66 v24 1) w23 fun v25 w26 =>
  RUN Try.prog (pan R) (Instr.loadAt 33 v25) w26 fun v27 w28 =>
  RUN Try.prog (pan R) (Builtin.len_ #[33] 3 #[v27]) w28 fun v29 w30 =>
  RUN Try.prog (pan R) (Op.unary .neg v29) w30 fun v31 w32 =>
  R (.returned (.tuple #[v31, (Go.Value.int Go.IntKind.i64 0)])) w32
/- x0 b, x1 name -/
def b3 (R : Ending → World → Prop) (x0 x1 : Value) (w : World) (_r : Tok R := tok R) : Prop :=
  NILC x0 fun v1 =>
  PUR Try.prog (Instr.fieldAt 66 v1 0) fun v2 =>
  LD Try.prog (Instr.loadAt 32 v2) (World.drew w) fun v3 =>
  LD Try.prog (Builtin.len_ #[32] 3 #[v3]) (World.drew w) fun v4 =>
  NILC x0 fun v5 =>
  PUR Try.prog (Instr.fieldAt 66 v5 1) fun v6 =>
  LD Try.prog (Instr.loadAt 33 v6) (World.drew w) fun v7 =>
  LD Try.prog (Builtin.len_ #[33] 3 #[v7]) (World.drew w) fun v8 =>
  PUR Try.prog (bins .add 3 (.tmp 36) (.tmp 41) v4 v8) fun v9 =>
  PUR Try.prog (bins .geq 3 (.tmp 42) (.const (Go.Value.int Go.IntKind.i64 64)) v9 (Go.Value.int Go.IntKind.i64 64)) fun v10 =>
  SPL v10
  (R (.returned (.tuple #[(Go.Value.int Go.IntKind.i64 0), (Go.Value.int Go.IntKind.i64 11)])) (World.drew w))
  (b3_1 R x0 x1 w)
abbrev q1 (R : Ending → World → Prop) : Exit → Env → World → Prop := QX (fun ρ w => R (.returned (.tuple #[(ρ 4), (ρ 5)])) w) (fun ρ w => R (.returned (.tuple #[(ρ 4), (ρ 5)])) w) []
theorem b3_eq (R : Ending → World → Prop) (ρ : Env) (w : World) : (b3 R (ρ 0) (ρ 1) w) = codeP Try.prog (pan R) (sndC p1) (q1 R) ρ w := by kernel_rfl
theorem b3_ok (R : Ending → World → Prop) (ρ : Env) (w : World) (h : b3 R (ρ 0) (ρ 1) w) : codeP Try.prog (pan R) (sndC p1) (q1 R) ρ w := (b3_eq R ρ w).mp h
noncomputable abbrev p2 : Code := dropC 1 (fstC p1)
noncomputable abbrev p3 : Code := loopC (blkC p2)
def b7_1 (R : Ending → World → Prop) (C6 : Value → World → Prop) (x0 x1 x7 : Value) (w9 : World) (_r : Tok R := tok R) (_C6 : Tok C6 := tok C6) : Prop :=
  NILC x0 fun v10 =>
  RUN Try.prog (pan R) (Instr.fieldAt 66 v10 1) w9 fun v11 w12 =>
  RUN Try.prog (pan R) (Instr.loadAt 33 v11) w12 fun v13 w14 =>
  RUN Try.prog (pan R) (Instr.indexAt 33 v13 x7) w14 fun v15 w16 =>
  RUN Try.prog (pan R) (Instr.loadAt 9 v15) w16 fun v17 w18 =>
  RUN Try.prog (pan R) (bins .eql 9 (.tmp 27) (.tmp 28) v17 x1) w18 fun v19 w20 =>
  SPL v19
  (RUN Try.prog (pan R) (bins .sub 3 (.const (Go.Value.int Go.IntKind.i64 (-1))) (.tmp 30) (Go.Value.int Go.IntKind.i64 (-1)) x7) w20 fun v21 w22 =>
  R (.returned (.tuple #[v21, (Go.Value.int Go.IntKind.i64 0)])) w22)
  (RUN Try.prog (pan R) (bins .add 3 (.tmp 19) (.const (Go.Value.int Go.IntKind.i64 1)) x7 (Go.Value.int Go.IntKind.i64 1)) w20 fun v23 w24 =>
  C6 v23 w24)
/- x0 b, x1 name, x7 i -/
def b7 (R : Ending → World → Prop) (C6 : Value → World → Prop) (x0 x1 x7 : Value) (w : World) (_r : Tok R := tok R) (_C6 : Tok C6 := tok C6) : Prop :=
  NILC x0 fun v1 =>
  RUN Try.prog (pan R) (Instr.fieldAt 66 v1 1) w fun v2 w3 =>
  RUN Try.prog (pan R) (Instr.loadAt 33 v2) w3 fun v4 w5 =>
  RUN Try.prog (pan R) (Builtin.len_ #[33] 3 #[v4]) w5 fun v6 w7 =>
  RUN Try.prog (pan R) (bins .lss 3 (.tmp 12) (.tmp 17) x7 v6) w7 fun v8 w9 =>
  SPL v8
  (b7_1 R C6 x0 x1 x7 w9)
  (b3 R x0 x1 w9)
abbrev q2 (R : Ending → World → Prop) (C6 : Value → World → Prop) : Exit → Env → World → Prop := QX (fun ρ w => C6 (ρ 7) w) (fun ρ w => R (.returned (.tuple #[(ρ 4), (ρ 5)])) w) [(0, (fun ρ w => b3 R (ρ 0) (ρ 1) w))]
theorem b7_eq (R : Ending → World → Prop) (C6 : Value → World → Prop) (ρ : Env) (w : World) : (b7 R C6 (ρ 0) (ρ 1) (ρ 7) w) = codeP Try.prog (pan R) p3 (q2 R C6) ρ w := by kernel_rfl
theorem b7_ok (R : Ending → World → Prop) (C6 : Value → World → Prop) (ρ : Env) (w : World) (h : b7 R C6 (ρ 0) (ρ 1) (ρ 7) w) : codeP Try.prog (pan R) p3 (q2 R C6) ρ w := (b7_eq R C6 ρ w).mp h
/- x0 b, x1 name, x7 i -/
def l6 (R : Ending → World → Prop) (x0 x1 x7 : Value) (w : World) (_r : Tok R := tok R) : Prop :=
  ∃ (J : Value → World → Prop) (μ : Value → World → Nat), J x7 w ∧ ∀ y7 w0, J y7 w0 → b7 R (fun z7 w1 => J z7 w1 ∧ μ z7 w1 < μ y7 w0) x0 x1 y7 w0
abbrev q3 (R : Ending → World → Prop) : Exit → Env → World → Prop := QX (fun ρ w => b3 R (ρ 0) (ρ 1) w) (fun ρ w => R (.returned (.tuple #[(ρ 4), (ρ 5)])) w) [(0, (fun ρ w => b3 R (ρ 0) (ρ 1) w))]
theorem l6_ok (R : Ending → World → Prop) (ρ : Env) (w : World) (h : l6 R (ρ 0) (ρ 1) (ρ 7) w) : codeP Try.prog (pan R) (blkC p2) (q3 R) ρ w := by
  unfold l6 at h
  obtain ⟨J, μ, h0, hr⟩ := h
  have e : Code.loop (loopC (blkC p2)) = (blkC p2) := by kernel_rfl
  rw [← e]
  refine loopQ (fun ρ' w' => J (ρ' 7) w') (fun ρ' w' => μ (ρ' 7) w') h0 fun ρ' w' hA hI => ?_
  have e0 : ρ' 0 = ρ 0 := Agree.at hA 0 (by kernel_rfl)
  have e1 : ρ' 1 = ρ 1 := Agree.at hA 1 (by kernel_rfl)
  have h1 := hr (ρ' 7) w' hI
  rw [← e0, ← e1] at h1
  exact b7_ok R (fun z7 w1 => J z7 w1 ∧ μ z7 w1 < μ (ρ' 7) w') ρ' w' h1
theorem l6_intro (R : Ending → World → Prop) (x0 x1 x7 : Value) (w : World) (J : Value → World → Prop) (μ : Value → World → Nat) (h0 : J x7 w)
    (hr : ∀ y7 w0, J y7 w0 → ∀ C6 : Value → World → Prop, (∀ z7 w1, J z7 w1 → μ z7 w1 < μ y7 w0 → C6 z7 w1) → b7 R C6 x0 x1 y7 w0) : l6 R x0 x1 x7 w := by
  unfold l6
  exact ⟨J, μ, h0, fun y7 w0 hJ => hr y7 w0 hJ _ (fun z7 w1 h1 h2 => ⟨h1, h2⟩)⟩
abbrev q4 (R : Ending → World → Prop) : Exit → Env → World → Prop := QX (fun ρ w => b3 R (ρ 0) (ρ 1) w) (fun ρ w => R (.returned (.tuple #[(ρ 4), (ρ 5)])) w) []
theorem k5_ok (R : Ending → World → Prop) (ρ : Env) (w : World) (h : l6 R (ρ 0) (ρ 1) (ρ 7) w) : codeP Try.prog (pan R) p2 (q4 R) ρ w := by
  have e : Code.block 0 (blkC p2) = p2 := by kernel_rfl
  rw [← e]
  exact blockQ (l6_ok R ρ w h)
/- x0 b, x1 name -/
def b4 (R : Ending → World → Prop) (x0 x1 : Value) (w : World) (_r : Tok R := tok R) : Prop :=
  l6 R x0 x1 (Go.Value.int Go.IntKind.i64 0) w
abbrev q5 (R : Ending → World → Prop) : Exit → Env → World → Prop := QX (fun ρ w => l6 R (ρ 0) (ρ 1) (ρ 7) w) (fun ρ w => R (.returned (.tuple #[(ρ 4), (ρ 5)])) w) []
theorem b4_eq (R : Ending → World → Prop) (ρ : Env) (w : World) : (b4 R (ρ 0) (ρ 1) w) = codeP Try.prog (pan R) (preC 0 (fstC p1)) (q5 R) ρ w := by kernel_rfl
theorem b4_ok (R : Ending → World → Prop) (ρ : Env) (w : World) (h : b4 R (ρ 0) (ρ 1) w) : codeP Try.prog (pan R) (fstC p1) (q4 R) ρ w := by
  have e : appC 0 (preC 0 (fstC p1)) (dropC 1 (fstC p1)) = (fstC p1) := by kernel_rfl
  rw [← e]
  exact appQ (fun ρ w => l6 R (ρ 0) (ρ 1) (ρ 7) w) 0 ((b4_eq R ρ w).mp h) (fun ρ w h => k5_ok R ρ w h)
theorem k2_ok (R : Ending → World → Prop) (ρ : Env) (w : World) (h : b4 R (ρ 0) (ρ 1) w) : codeP Try.prog (pan R) p1 (q1 R) ρ w := by
  have e : Code.seq (fstC p1) (sndC p1) = p1 := by kernel_rfl
  rw [← e]
  exact seqQ (fun ρ w => b3 R (ρ 0) (ρ 1) w) (b4_ok R ρ w h) (fun ρ w h => b3_ok R ρ w h)
/- x0 b, x1 name -/
def b1 (R : Ending → World → Prop) (x0 x1 : Value) (w : World) (_r : Tok R := tok R) : Prop :=
  CALL Try.prog (pan R) ref02_IsName.id #[x1] w fun v1 w2 =>
  RUN Try.prog (pan R) (Op.unary .not v1) w2 fun v3 w4 =>
  SPL v3
  (R (.returned (.tuple #[(Go.Value.int Go.IntKind.i64 0), (Go.Value.int Go.IntKind.i64 1)])) w4)
  (b4 R x0 x1 w4)
abbrev q6 (R : Ending → World → Prop) : Exit → Env → World → Prop := QX (fun ρ w => b4 R (ρ 0) (ρ 1) w) (fun ρ w => R (.returned (.tuple #[(ρ 4), (ρ 5)])) w) []
theorem b1_eq (R : Ending → World → Prop) (ρ : Env) (w : World) : (b1 R (ρ 0) (ρ 1) w) = codeP Try.prog (pan R) (preC 2 code) (q6 R) ρ w := by kernel_rfl
theorem b1_ok (R : Ending → World → Prop) (ρ : Env) (w : World) (h : b1 R (ρ 0) (ρ 1) w) : codeP Try.prog (pan R) code (q1 R) ρ w := by
  have e : appC 2 (preC 2 code) (dropC 3 code) = code := by kernel_rfl
  rw [← e]
  exact appQ (fun ρ w => b4 R (ρ 0) (ρ 1) w) 2 ((b1_eq R ρ w).mp h) (fun ρ w h => k2_ok R ρ w h)
/-- What is owed for a call. -/
def run (R : Ending → World → Prop) (a0 a1 : Value) (w : World) : Prop := b1 R a0 a1 w
theorem calls (R : Ending → World → Prop) (a0 a1 : Value) (w : World) (h : run R a0 a1 w) : Calls Try.prog id #[a0, a1] w R :=
  calls_of_tt (f := id) (fn := Try.f81) (c := code) (by kernel_rfl) Try.func81 (by kernel_rfl) (by kernel_rfl) (args := [a0, a1]) (Nat.le_of_ble_eq_true rfl) rfl (b1_ok R (envOf [a0, a1]) w h)
theorem enters : Enters Try.prog id := fun args w => Try.call81 args w
theorem ct {a0 a1 : Value} {w : World} {S : Value → World → Prop} (h : ∀ R : Ending → World → Prop, (∀ v w, S v w → R (.returned v) w) → run R a0 a1 w) : Ct Try.prog id #[a0, a1] w S :=
  Ct.intro enters fun R hR => calls R a0 a1 w (h R hR)
attribute [irreducible] b3_1 b3 b7_1 b7 l6 b4 b1 run
attribute [go_sem] b3_1 b3 b7_1 b7 b4 b1 run
end ref02_Builder_Non

/-! ### (*presage/presageref02.Builder).Level -/
namespace ref02_Builder_Level
noncomputable def code : Code := bodyOf Try.f83
noncomputable abbrev p1 : Code := dropC 1 code
noncomputable abbrev p2 : Code := sndC (sndC p1)
noncomputable abbrev p3 : Code := dropC 1 p2

def b6 (R : Ending → World → Prop) (x0 : Value) (w : World) (_r : Tok R := tok R) : Prop :=
  NILC x0 fun v1 =>
  RUN Try.prog (pan R) (Instr.fieldAt 66 v1 2) w fun v2 w3 =>
  RUN Try.prog (pan R) (Instr.loadAt 30 v2) w3 fun v4 w5 =>
  RUN Try.prog (pan R) (Builtin.len_ #[30] 3 #[v4]) w5 fun v6 w7 =>
  R (.returned (.tuple #[v6, (Go.Value.int Go.IntKind.i64 0)])) w7
abbrev q1 (R : Ending → World → Prop) : Exit → Env → World → Prop := QX (fun ρ w => R (.returned (.tuple #[(ρ 6), (ρ 7)])) w) (fun ρ w => R (.returned (.tuple #[(ρ 6), (ρ 7)])) w) []
theorem b6_eq (R : Ending → World → Prop) (ρ : Env) (w : World) : (b6 R (ρ 0) w) = codeP Try.prog (pan R) (sndC p3) (q1 R) ρ w := by kernel_rfl
theorem b6_ok (R : Ending → World → Prop) (ρ : Env) (w : World) (h : b6 R (ρ 0) w) : codeP Try.prog (pan R) (sndC p3) (q1 R) ρ w := (b6_eq R ρ w).mp h
noncomputable abbrev p4 : Code := dropC 1 (fstC p3)
noncomputable abbrev p5 : Code := loopC (blkC p4)
def b10_1 (R : Ending → World → Prop) (C9 : Value → World → Prop) (x0 x2 x11 : Value) (w4 : World) (_r : Tok R := tok R) (_C9 : Tok C9 := tok C9) : Prop :=
  NILC x0 fun v5 =>
  PUR Try.prog (Instr.fieldAt 66 v5 0) fun v6 =>
  LD Try.prog (Instr.loadAt 32 v6) (World.drew w4) fun v7 =>
  PUR Try.prog (Instr.indexAt 30 x2 x11) fun v8 =>
  LD Try.prog (Instr.loadAt 3 v8) (World.drew w4) fun v9 =>
  PUR Try.prog (bins .sub 3 (.tmp 87) (.const (Go.Value.int Go.IntKind.i64 1)) v9 (Go.Value.int Go.IntKind.i64 1)) fun v10 =>
  NILC x0 fun v11 =>
  PUR Try.prog (Instr.fieldAt 66 v11 2) fun v12 =>
  LD Try.prog (Instr.loadAt 30 v12) (World.drew w4) fun v13 =>
  LD Try.prog (Builtin.len_ #[30] 3 #[v13]) (World.drew w4) fun v14 =>
  PUR Try.prog (Instr.indexAt 32 v7 v10) fun v15 =>
  PUR Try.prog (Instr.fieldAt 56 v15 1) fun v16 =>
  RUNU Try.prog (pan R) (Instr.storeAt 3 v16 v14) (World.drew w4) fun w17 =>
  RUN Try.prog (pan R) (bins .add 3 (.tmp 78) (.const (Go.Value.int Go.IntKind.i64 1)) x11 (Go.Value.int Go.IntKind.i64 1)) w17 fun v18 w19 =>
  C9 v18 w19

def b10 (R : Ending → World → Prop) (C9 : Value → World → Prop) (x0 x2 x11 : Value) (w : World) (_r : Tok R := tok R) (_C9 : Tok C9 := tok C9) : Prop :=
  RUN Try.prog (pan R) (Builtin.len_ #[30] 3 #[x2]) w fun v1 w2 =>
  RUN Try.prog (pan R) (bins .lss 3 (.tmp 74) (.tmp 76) x11 v1) w2 fun v3 w4 =>
  SPL v3
  (b10_1 R C9 x0 x2 x11 w4)
  (b6 R x0 w4)
abbrev q2 (R : Ending → World → Prop) (C9 : Value → World → Prop) : Exit → Env → World → Prop := QX (fun ρ w => C9 (ρ 11) w) (fun ρ w => R (.returned (.tuple #[(ρ 6), (ρ 7)])) w) [(8, (fun ρ w => b6 R (ρ 0) w))]
theorem b10_eq (R : Ending → World → Prop) (C9 : Value → World → Prop) (ρ : Env) (w : World) : (b10 R C9 (ρ 0) (ρ 2) (ρ 11) w) = codeP Try.prog (pan R) p5 (q2 R C9) ρ w := by kernel_rfl
theorem b10_ok (R : Ending → World → Prop) (C9 : Value → World → Prop) (ρ : Env) (w : World) (h : b10 R C9 (ρ 0) (ρ 2) (ρ 11) w) : codeP Try.prog (pan R) p5 (q2 R C9) ρ w := (b10_eq R C9 ρ w).mp h

def l9 (R : Ending → World → Prop) (x0 x2 x11 : Value) (w : World) (_r : Tok R := tok R) : Prop :=
  ∃ (J : Value → World → Prop) (μ : Value → World → Nat), J x11 w ∧ ∀ y11 w0, J y11 w0 → b10 R (fun z11 w1 => J z11 w1 ∧ μ z11 w1 < μ y11 w0) x0 x2 y11 w0
abbrev q3 (R : Ending → World → Prop) : Exit → Env → World → Prop := QX (fun ρ w => b6 R (ρ 0) w) (fun ρ w => R (.returned (.tuple #[(ρ 6), (ρ 7)])) w) [(8, (fun ρ w => b6 R (ρ 0) w))]
theorem l9_ok (R : Ending → World → Prop) (ρ : Env) (w : World) (h : l9 R (ρ 0) (ρ 2) (ρ 11) w) : codeP Try.prog (pan R) (blkC p4) (q3 R) ρ w := by
  unfold l9 at h
  obtain ⟨J, μ, h0, hr⟩ := h
  have e : Code.loop (loopC (blkC p4)) = (blkC p4) := by kernel_rfl
  rw [← e]
  refine loopQ (fun ρ' w' => J (ρ' 11) w') (fun ρ' w' => μ (ρ' 11) w') h0 fun ρ' w' hA hI => ?_
  have e0 : ρ' 0 = ρ 0 := Agree.at hA 0 (by kernel_rfl)
  have e2 : ρ' 2 = ρ 2 := Agree.at hA 2 (by kernel_rfl)
  have h1 := hr (ρ' 11) w' hI
  rw [← e0, ← e2] at h1
  exact b10_ok R (fun z11 w1 => J z11 w1 ∧ μ z11 w1 < μ (ρ' 11) w') ρ' w' h1
theorem l9_intro (R : Ending → World → Prop) (x0 x2 x11 : Value) (w : World) (J : Value → World → Prop) (μ : Value → World → Nat) (h0 : J x11 w)
    (hr : ∀ y11 w0, J y11 w0 → ∀ C9 : Value → World → Prop, (∀ z11 w1, J z11 w1 → μ z11 w1 < μ y11 w0 → C9 z11 w1) → b10 R C9 x0 x2 y11 w0) : l9 R x0 x2 x11 w := by
  unfold l9
  exact ⟨J, μ, h0, fun y11 w0 hJ => hr y11 w0 hJ _ (fun z11 w1 h1 h2 => ⟨h1, h2⟩)⟩
abbrev q4 (R : Ending → World → Prop) : Exit → Env → World → Prop := QX (fun ρ w => b6 R (ρ 0) w) (fun ρ w => R (.returned (.tuple #[(ρ 6), (ρ 7)])) w) []
theorem k8_ok (R : Ending → World → Prop) (ρ : Env) (w : World) (h : l9 R (ρ 0) (ρ 2) (ρ 11) w) : codeP Try.prog (pan R) p4 (q4 R) ρ w := by
  have e : Code.block 4 (blkC p4) = p4 := by kernel_rfl
  rw [← e]
  exact blockQ (l9_ok R ρ w h)

def b7 (R : Ending → World → Prop) (x0 x2 : Value) (w : World) (_r : Tok R := tok R) : Prop :=
  l9 R x0 x2 (Go.Value.int Go.IntKind.i64 0) w
abbrev q5 (R : Ending → World → Prop) : Exit → Env → World → Prop := QX (fun ρ w => l9 R (ρ 0) (ρ 2) (ρ 11) w) (fun ρ w => R (.returned (.tuple #[(ρ 6), (ρ 7)])) w) []
theorem b7_eq (R : Ending → World → Prop) (ρ : Env) (w : World) : (b7 R (ρ 0) (ρ 2) w) = codeP Try.prog (pan R) (preC 0 (fstC p3)) (q5 R) ρ w := by kernel_rfl
theorem b7_ok (R : Ending → World → Prop) (ρ : Env) (w : World) (h : b7 R (ρ 0) (ρ 2) w) : codeP Try.prog (pan R) (fstC p3) (q4 R) ρ w := by
  have e : appC 0 (preC 0 (fstC p3)) (dropC 1 (fstC p3)) = (fstC p3) := by kernel_rfl
  rw [← e]
  exact appQ (fun ρ w => l9 R (ρ 0) (ρ 2) (ρ 11) w) 0 ((b7_eq R ρ w).mp h) (fun ρ w h => k8_ok R ρ w h)
theorem k5_ok (R : Ending → World → Prop) (ρ : Env) (w : World) (h : b7 R (ρ 0) (ρ 2) w) : codeP Try.prog (pan R) p3 (q1 R) ρ w := by
  have e : Code.seq (fstC p3) (sndC p3) = p3 := by kernel_rfl
  rw [← e]
  exact seqQ (fun ρ w => b6 R (ρ 0) w) (b7_ok R ρ w h) (fun ρ w h => b6_ok R ρ w h)

def b4 (R : Ending → World → Prop) (x0 x1 x2 : Value) (w : World) (_r : Tok R := tok R) : Prop :=
  NILC x0 fun v1 =>
  RUN Try.prog (pan R) (Instr.fieldAt 66 v1 2) w fun v2 w3 =>
  RUN Try.prog (pan R) (Instr.loadAt 30 v2) w3 fun v4 w5 =>
  RUN Try.prog (pan R) (Instr.buildSlice 30 1 #[(0, x1)]) w5 fun v6 w7 =>
  RUN Try.prog (pan R) (Builtin.append_ #[30, 30] 30 #[v4, v6]) w7 fun v8 w9 =>
  NILC x0 fun v10 =>
  RUN Try.prog (pan R) (Instr.fieldAt 66 v10 2) w9 fun v11 w12 =>
  RUNU Try.prog (pan R) (Instr.storeAt 30 v11 v8) w12 fun w13 =>
  b7 R x0 x2 w13
abbrev q6 (R : Ending → World → Prop) : Exit → Env → World → Prop := QX (fun ρ w => b7 R (ρ 0) (ρ 2) w) (fun ρ w => R (.returned (.tuple #[(ρ 6), (ρ 7)])) w) []
theorem b4_eq (R : Ending → World → Prop) (ρ : Env) (w : World) : (b4 R (ρ 0) (ρ 1) (ρ 2) w) = codeP Try.prog (pan R) (preC 0 p2) (q6 R) ρ w := by kernel_rfl
theorem b4_ok (R : Ending → World → Prop) (ρ : Env) (w : World) (h : b4 R (ρ 0) (ρ 1) (ρ 2) w) : codeP Try.prog (pan R) p2 (q1 R) ρ w := by
  have e : appC 0 (preC 0 p2) (dropC 1 p2) = p2 := by kernel_rfl
  rw [← e]
  exact appQ (fun ρ w => b7 R (ρ 0) (ρ 2) w) 0 ((b4_eq R ρ w).mp h) (fun ρ w h => k5_ok R ρ w h)
noncomputable abbrev p6 : Code := fstC (sndC p1)
noncomputable abbrev p7 : Code := dropC 1 p6
noncomputable abbrev p8 : Code := loopC (blkC p7)
noncomputable abbrev p9 : Code := dropC 1 p8

def b16 (R : Ending → World → Prop) (C13 : Value → World → Prop) (x8 : Value) (w : World) (_r : Tok R := tok R) (_C13 : Tok C13 := tok C13) : Prop :=
  RUN Try.prog (pan R) (bins .add 3 (.tmp 27) (.const (Go.Value.int Go.IntKind.i64 1)) x8 (Go.Value.int Go.IntKind.i64 1)) w fun v1 w2 =>
  C13 v1 w2
abbrev q7 (R : Ending → World → Prop) (C13 : Value → World → Prop) : Exit → Env → World → Prop := QX (fun ρ w => C13 (ρ 8) w) (fun ρ w => R (.returned (.tuple #[(ρ 6), (ρ 7)])) w) [(0, (fun ρ w => b4 R (ρ 0) (ρ 1) (ρ 2) w))]
theorem b16_eq (R : Ending → World → Prop) (C13 : Value → World → Prop) (ρ : Env) (w : World) : (b16 R C13 (ρ 8) w) = codeP Try.prog (pan R) (sndC p9) (q7 R C13) ρ w := by kernel_rfl
theorem b16_ok (R : Ending → World → Prop) (C13 : Value → World → Prop) (ρ : Env) (w : World) (h : b16 R C13 (ρ 8) w) : codeP Try.prog (pan R) (sndC p9) (q7 R C13) ρ w := (b16_eq R C13 ρ w).mp h
noncomputable abbrev p10 : Code := blkC (fstC p9)
noncomputable abbrev p11 : Code := dropC 4 p10
noncomputable abbrev p12 : Code := loopC (blkC p11)
def b21_1 (R : Ending → World → Prop) (C20 : Value → World → Prop) (x2 x8 x10 : Value) (w2 : World) (_r : Tok R := tok R) (_C20 : Tok C20 := tok C20) : Prop :=
  PUR Try.prog (Instr.indexAt 30 x2 x10) fun v3 =>
  LD Try.prog (Instr.loadAt 3 v3) (World.drew w2) fun v4 =>
  PUR Try.prog (Instr.indexAt 30 x2 x8) fun v5 =>
  LD Try.prog (Instr.loadAt 3 v5) (World.drew w2) fun v6 =>
  PUR Try.prog (bins .eql 3 (.tmp 58) (.tmp 62) v4 v6) fun v7 =>
  SPL v7
  (R (.returned (.tuple #[(Go.Value.int Go.IntKind.i64 0), (Go.Value.int Go.IntKind.i64 1)])) (World.drew w2))
  (RUN Try.prog (pan R) (bins .add 3 (.tmp 53) (.const (Go.Value.int Go.IntKind.i64 1)) x10 (Go.Value.int Go.IntKind.i64 1)) (World.drew w2) fun v8 w9 =>
  C20 v8 w9)

def b21 (R : Ending → World → Prop) (C13 : Value → World → Prop) (C20 : Value → World → Prop) (x2 x8 x10 : Value) (w : World) (_r : Tok R := tok R) (_C13 : Tok C13 := tok C13) (_C20 : Tok C20 := tok C20) : Prop :=
  RUN Try.prog (pan R) (bins .lss 3 (.tmp 50) (.tmp 51) x10 x8) w fun v1 w2 =>
  SPL v1
  (b21_1 R C20 x2 x8 x10 w2)
  (b16 R C13 x8 w2)
abbrev q8 (R : Ending → World → Prop) (C13 : Value → World → Prop) (C20 : Value → World → Prop) : Exit → Env → World → Prop := QX (fun ρ w => C20 (ρ 10) w) (fun ρ w => R (.returned (.tuple #[(ρ 6), (ρ 7)])) w) [(4, (fun ρ w => b16 R C13 (ρ 8) w)), (2, (fun ρ w => b16 R C13 (ρ 8) w)), (0, (fun ρ w => b4 R (ρ 0) (ρ 1) (ρ 2) w))]
theorem b21_eq (R : Ending → World → Prop) (C13 : Value → World → Prop) (C20 : Value → World → Prop) (ρ : Env) (w : World) : (b21 R C13 C20 (ρ 2) (ρ 8) (ρ 10) w) = codeP Try.prog (pan R) p12 (q8 R C13 C20) ρ w := by kernel_rfl
theorem b21_ok (R : Ending → World → Prop) (C13 : Value → World → Prop) (C20 : Value → World → Prop) (ρ : Env) (w : World) (h : b21 R C13 C20 (ρ 2) (ρ 8) (ρ 10) w) : codeP Try.prog (pan R) p12 (q8 R C13 C20) ρ w := (b21_eq R C13 C20 ρ w).mp h

def l20 (R : Ending → World → Prop) (C13 : Value → World → Prop) (x2 x8 x10 : Value) (w : World) (_r : Tok R := tok R) (_C13 : Tok C13 := tok C13) : Prop :=
  ∃ (J : Value → World → Prop) (μ : Value → World → Nat), J x10 w ∧ ∀ y10 w0, J y10 w0 → b21 R C13 (fun z10 w1 => J z10 w1 ∧ μ z10 w1 < μ y10 w0) x2 x8 y10 w0
abbrev q9 (R : Ending → World → Prop) (C13 : Value → World → Prop) : Exit → Env → World → Prop := QX (fun ρ w => b16 R C13 (ρ 8) w) (fun ρ w => R (.returned (.tuple #[(ρ 6), (ρ 7)])) w) [(4, (fun ρ w => b16 R C13 (ρ 8) w)), (2, (fun ρ w => b16 R C13 (ρ 8) w)), (0, (fun ρ w => b4 R (ρ 0) (ρ 1) (ρ 2) w))]
theorem l20_ok (R : Ending → World → Prop) (C13 : Value → World → Prop) (ρ : Env) (w : World) (h : l20 R C13 (ρ 2) (ρ 8) (ρ 10) w) : codeP Try.prog (pan R) (blkC p11) (q9 R C13) ρ w := by
  unfold l20 at h
  obtain ⟨J, μ, h0, hr⟩ := h
  have e : Code.loop (loopC (blkC p11)) = (blkC p11) := by kernel_rfl
  rw [← e]
  refine loopQ (fun ρ' w' => J (ρ' 10) w') (fun ρ' w' => μ (ρ' 10) w') h0 fun ρ' w' hA hI => ?_
  have e2 : ρ' 2 = ρ 2 := Agree.at hA 2 (by kernel_rfl)
  have e8 : ρ' 8 = ρ 8 := Agree.at hA 8 (by kernel_rfl)
  have h1 := hr (ρ' 10) w' hI
  rw [← e2, ← e8] at h1
  exact b21_ok R C13 (fun z10 w1 => J z10 w1 ∧ μ z10 w1 < μ (ρ' 10) w') ρ' w' h1
theorem l20_intro (R : Ending → World → Prop) (C13 : Value → World → Prop) (x2 x8 x10 : Value) (w : World) (J : Value → World → Prop) (μ : Value → World → Nat) (h0 : J x10 w)
    (hr : ∀ y10 w0, J y10 w0 → ∀ C20 : Value → World → Prop, (∀ z10 w1, J z10 w1 → μ z10 w1 < μ y10 w0 → C20 z10 w1) → b21 R C13 C20 x2 x8 y10 w0) : l20 R C13 x2 x8 x10 w := by
  unfold l20
  exact ⟨J, μ, h0, fun y10 w0 hJ => hr y10 w0 hJ _ (fun z10 w1 h1 h2 => ⟨h1, h2⟩)⟩
abbrev q10 (R : Ending → World → Prop) (C13 : Value → World → Prop) : Exit → Env → World → Prop := QX (fun ρ w => b16 R C13 (ρ 8) w) (fun ρ w => R (.returned (.tuple #[(ρ 6), (ρ 7)])) w) [(2, (fun ρ w => b16 R C13 (ρ 8) w)), (0, (fun ρ w => b4 R (ρ 0) (ρ 1) (ρ 2) w))]
theorem k19_ok (R : Ending → World → Prop) (C13 : Value → World → Prop) (ρ : Env) (w : World) (h : l20 R C13 (ρ 2) (ρ 8) (ρ 10) w) : codeP Try.prog (pan R) p11 (q10 R C13) ρ w := by
  have e : Code.block 2 (blkC p11) = p11 := by kernel_rfl
  rw [← e]
  exact blockQ (l20_ok R C13 ρ w h)
def b18_1 (R : Ending → World → Prop) (C13 : Value → World → Prop) (x0 x2 x8 : Value) (w8 : World) (_r : Tok R := tok R) (_C13 : Tok C13 := tok C13) : Prop :=
  NILC x0 fun v9 =>
  PUR Try.prog (Instr.fieldAt 66 v9 0) fun v10 =>
  LD Try.prog (Instr.loadAt 32 v10) (World.drew w8) fun v11 =>
  PUR Try.prog (Instr.indexAt 30 x2 x8) fun v12 =>
  LD Try.prog (Instr.loadAt 3 v12) (World.drew w8) fun v13 =>
  PUR Try.prog (bins .sub 3 (.tmp 44) (.const (Go.Value.int Go.IntKind.i64 1)) v13 (Go.Value.int Go.IntKind.i64 1)) fun v14 =>
  PUR Try.prog (Instr.indexAt 32 v11 v14) fun v15 =>
  PUR Try.prog (Instr.fieldAt 56 v15 1) fun v16 =>
  LD Try.prog (Instr.loadAt 3 v16) (World.drew w8) fun v17 =>
  PUR Try.prog (bins .neq 3 (.tmp 48) (.const (Go.Value.int Go.IntKind.i64 0)) v17 (Go.Value.int Go.IntKind.i64 0)) fun v18 =>
  SPL v18
  (R (.returned (.tuple #[(Go.Value.int Go.IntKind.i64 0), (Go.Value.int Go.IntKind.i64 1)])) (World.drew w8))
  (l20 R C13 x2 x8 (Go.Value.int Go.IntKind.i64 0) (World.drew w8))

def b18 (R : Ending → World → Prop) (C13 : Value → World → Prop) (x0 x2 x8 : Value) (w : World) (_r : Tok R := tok R) (_C13 : Tok C13 := tok C13) : Prop :=
  RUN Try.prog (pan R) (Instr.indexAt 30 x2 x8) w fun v1 w2 =>
  RUN Try.prog (pan R) (Instr.loadAt 3 v1) w2 fun v3 w4 =>
  CALL Try.prog (pan R) ref02_Builder_term.id #[x0, v3] w4 fun v5 w6 =>
  RUN Try.prog (pan R) (Op.unary .not v5) w6 fun v7 w8 =>
  SPL v7
  (R (.returned (.tuple #[(Go.Value.int Go.IntKind.i64 0), (Go.Value.int Go.IntKind.i64 1)])) w8)
  (b18_1 R C13 x0 x2 x8 w8)
abbrev q11 (R : Ending → World → Prop) (C13 : Value → World → Prop) : Exit → Env → World → Prop := QX (fun ρ w => l20 R C13 (ρ 2) (ρ 8) (ρ 10) w) (fun ρ w => R (.returned (.tuple #[(ρ 6), (ρ 7)])) w) [(2, (fun ρ w => b16 R C13 (ρ 8) w)), (0, (fun ρ w => b4 R (ρ 0) (ρ 1) (ρ 2) w))]
theorem b18_eq (R : Ending → World → Prop) (C13 : Value → World → Prop) (ρ : Env) (w : World) : (b18 R C13 (ρ 0) (ρ 2) (ρ 8) w) = codeP Try.prog (pan R) (preC 3 p10) (q11 R C13) ρ w := by kernel_rfl
theorem b18_ok (R : Ending → World → Prop) (C13 : Value → World → Prop) (ρ : Env) (w : World) (h : b18 R C13 (ρ 0) (ρ 2) (ρ 8) w) : codeP Try.prog (pan R) p10 (q10 R C13) ρ w := by
  have e : appC 3 (preC 3 p10) (dropC 4 p10) = p10 := by kernel_rfl
  rw [← e]
  exact appQ (fun ρ w => l20 R C13 (ρ 2) (ρ 8) (ρ 10) w) 3 ((b18_eq R C13 ρ w).mp h) (fun ρ w h => k19_ok R C13 ρ w h)
abbrev q12 (R : Ending → World → Prop) (C13 : Value → World → Prop) : Exit → Env → World → Prop := QX (fun ρ w => b16 R C13 (ρ 8) w) (fun ρ w => R (.returned (.tuple #[(ρ 6), (ρ 7)])) w) [(0, (fun ρ w => b4 R (ρ 0) (ρ 1) (ρ 2) w))]
theorem k17_ok (R : Ending → World → Prop) (C13 : Value → World → Prop) (ρ : Env) (w : World) (h : b18 R C13 (ρ 0) (ρ 2) (ρ 8) w) : codeP Try.prog (pan R) (fstC p9) (q12 R C13) ρ w := by
  have e : Code.block 1 (blkC (fstC p9)) = (fstC p9) := by kernel_rfl
  rw [← e]
  exact blockQ (b18_ok R C13 ρ w h)
theorem k15_ok (R : Ending → World → Prop) (C13 : Value → World → Prop) (ρ : Env) (w : World) (h : b18 R C13 (ρ 0) (ρ 2) (ρ 8) w) : codeP Try.prog (pan R) p9 (q7 R C13) ρ w := by
  have e : Code.seq (fstC p9) (sndC p9) = p9 := by kernel_rfl
  rw [← e]
  exact seqQ (fun ρ w => b16 R C13 (ρ 8) w) (k17_ok R C13 ρ w h) (fun ρ w h => b16_ok R C13 ρ w h)

def b14 (R : Ending → World → Prop) (C13 : Value → World → Prop) (x0 x1 x2 x8 : Value) (w : World) (_r : Tok R := tok R) (_C13 : Tok C13 := tok C13) : Prop :=
  RUN Try.prog (pan R) (Builtin.len_ #[30] 3 #[x2]) w fun v1 w2 =>
  RUN Try.prog (pan R) (bins .lss 3 (.tmp 23) (.tmp 25) x8 v1) w2 fun v3 w4 =>
  SPL v3
  (b18 R C13 x0 x2 x8 w4)
  (b4 R x0 x1 x2 w4)
abbrev q13 (R : Ending → World → Prop) (C13 : Value → World → Prop) : Exit → Env → World → Prop := QX (fun ρ w => b18 R C13 (ρ 0) (ρ 2) (ρ 8) w) (fun ρ w => R (.returned (.tuple #[(ρ 6), (ρ 7)])) w) [(0, (fun ρ w => b4 R (ρ 0) (ρ 1) (ρ 2) w))]
theorem b14_eq (R : Ending → World → Prop) (C13 : Value → World → Prop) (ρ : Env) (w : World) : (b14 R C13 (ρ 0) (ρ 1) (ρ 2) (ρ 8) w) = codeP Try.prog (pan R) (preC 0 p8) (q13 R C13) ρ w := by kernel_rfl
theorem b14_ok (R : Ending → World → Prop) (C13 : Value → World → Prop) (ρ : Env) (w : World) (h : b14 R C13 (ρ 0) (ρ 1) (ρ 2) (ρ 8) w) : codeP Try.prog (pan R) p8 (q7 R C13) ρ w := by
  have e : appC 0 (preC 0 p8) (dropC 1 p8) = p8 := by kernel_rfl
  rw [← e]
  exact appQ (fun ρ w => b18 R C13 (ρ 0) (ρ 2) (ρ 8) w) 0 ((b14_eq R C13 ρ w).mp h) (fun ρ w h => k15_ok R C13 ρ w h)

def l13 (R : Ending → World → Prop) (x0 x1 x2 x8 : Value) (w : World) (_r : Tok R := tok R) : Prop :=
  ∃ (J : Value → World → Prop) (μ : Value → World → Nat), J x8 w ∧ ∀ y8 w0, J y8 w0 → b14 R (fun z8 w1 => J z8 w1 ∧ μ z8 w1 < μ y8 w0) x0 x1 x2 y8 w0
abbrev q14 (R : Ending → World → Prop) : Exit → Env → World → Prop := QX (fun ρ w => b4 R (ρ 0) (ρ 1) (ρ 2) w) (fun ρ w => R (.returned (.tuple #[(ρ 6), (ρ 7)])) w) [(0, (fun ρ w => b4 R (ρ 0) (ρ 1) (ρ 2) w))]
theorem l13_ok (R : Ending → World → Prop) (ρ : Env) (w : World) (h : l13 R (ρ 0) (ρ 1) (ρ 2) (ρ 8) w) : codeP Try.prog (pan R) (blkC p7) (q14 R) ρ w := by
  unfold l13 at h
  obtain ⟨J, μ, h0, hr⟩ := h
  have e : Code.loop (loopC (blkC p7)) = (blkC p7) := by kernel_rfl
  rw [← e]
  refine loopQ (fun ρ' w' => J (ρ' 8) w') (fun ρ' w' => μ (ρ' 8) w') h0 fun ρ' w' hA hI => ?_
  have e0 : ρ' 0 = ρ 0 := Agree.at hA 0 (by kernel_rfl)
  have e1 : ρ' 1 = ρ 1 := Agree.at hA 1 (by kernel_rfl)
  have e2 : ρ' 2 = ρ 2 := Agree.at hA 2 (by kernel_rfl)
  have h1 := hr (ρ' 8) w' hI
  rw [← e0, ← e1, ← e2] at h1
  exact b14_ok R (fun z8 w1 => J z8 w1 ∧ μ z8 w1 < μ (ρ' 8) w') ρ' w' h1
theorem l13_intro (R : Ending → World → Prop) (x0 x1 x2 x8 : Value) (w : World) (J : Value → World → Prop) (μ : Value → World → Nat) (h0 : J x8 w)
    (hr : ∀ y8 w0, J y8 w0 → ∀ C13 : Value → World → Prop, (∀ z8 w1, J z8 w1 → μ z8 w1 < μ y8 w0 → C13 z8 w1) → b14 R C13 x0 x1 x2 y8 w0) : l13 R x0 x1 x2 x8 w := by
  unfold l13
  exact ⟨J, μ, h0, fun y8 w0 hJ => hr y8 w0 hJ _ (fun z8 w1 h1 h2 => ⟨h1, h2⟩)⟩
abbrev q15 (R : Ending → World → Prop) : Exit → Env → World → Prop := QX (fun ρ w => b4 R (ρ 0) (ρ 1) (ρ 2) w) (fun ρ w => R (.returned (.tuple #[(ρ 6), (ρ 7)])) w) []
theorem k12_ok (R : Ending → World → Prop) (ρ : Env) (w : World) (h : l13 R (ρ 0) (ρ 1) (ρ 2) (ρ 8) w) : codeP Try.prog (pan R) p7 (q15 R) ρ w := by
  have e : Code.block 0 (blkC p7) = p7 := by kernel_rfl
  rw [← e]
  exact blockQ (l13_ok R ρ w h)

def b11 (R : Ending → World → Prop) (x0 x1 x2 : Value) (w : World) (_r : Tok R := tok R) : Prop :=
  l13 R x0 x1 x2 (Go.Value.int Go.IntKind.i64 0) w
abbrev q16 (R : Ending → World → Prop) : Exit → Env → World → Prop := QX (fun ρ w => l13 R (ρ 0) (ρ 1) (ρ 2) (ρ 8) w) (fun ρ w => R (.returned (.tuple #[(ρ 6), (ρ 7)])) w) []
theorem b11_eq (R : Ending → World → Prop) (ρ : Env) (w : World) : (b11 R (ρ 0) (ρ 1) (ρ 2) w) = codeP Try.prog (pan R) (preC 0 p6) (q16 R) ρ w := by kernel_rfl
theorem b11_ok (R : Ending → World → Prop) (ρ : Env) (w : World) (h : b11 R (ρ 0) (ρ 1) (ρ 2) w) : codeP Try.prog (pan R) p6 (q15 R) ρ w := by
  have e : appC 0 (preC 0 p6) (dropC 1 p6) = p6 := by kernel_rfl
  rw [← e]
  exact appQ (fun ρ w => l13 R (ρ 0) (ρ 1) (ρ 2) (ρ 8) w) 0 ((b11_eq R ρ w).mp h) (fun ρ w h => k12_ok R ρ w h)
theorem k3_ok (R : Ending → World → Prop) (ρ : Env) (w : World) (h : b11 R (ρ 0) (ρ 1) (ρ 2) w) : codeP Try.prog (pan R) (sndC p1) (q1 R) ρ w := by
  have e : Code.seq (fstC (sndC p1)) (sndC (sndC p1)) = (sndC p1) := by kernel_rfl
  rw [← e]
  exact seqQ (fun ρ w => b4 R (ρ 0) (ρ 1) (ρ 2) w) (b11_ok R ρ w h) (fun ρ w h => b4_ok R ρ w h)
noncomputable abbrev p13 : Code := dropC 1 (fstC p1)

def b23 (R : Ending → World → Prop) (x0 x1 x2 x22 : Value) (w : World) (_r : Tok R := tok R) : Prop :=
  SPL x22
  (R (.returned (.tuple #[(Go.Value.int Go.IntKind.i64 0), (Go.Value.int Go.IntKind.i64 1)])) w)
  (b11 R x0 x1 x2 w)
abbrev q17 (R : Ending → World → Prop) : Exit → Env → World → Prop := QX (fun ρ w => b11 R (ρ 0) (ρ 1) (ρ 2) w) (fun ρ w => R (.returned (.tuple #[(ρ 6), (ρ 7)])) w) []
theorem b23_eq (R : Ending → World → Prop) (ρ : Env) (w : World) : (b23 R (ρ 0) (ρ 1) (ρ 2) (ρ 22) w) = codeP Try.prog (pan R) p13 (q17 R) ρ w := by kernel_rfl
theorem b23_ok (R : Ending → World → Prop) (ρ : Env) (w : World) (h : b23 R (ρ 0) (ρ 1) (ρ 2) (ρ 22) w) : codeP Try.prog (pan R) p13 (q17 R) ρ w := (b23_eq R ρ w).mp h
def b22_1 (R : Ending → World → Prop) (x0 x1 x2 : Value) (w4 : World) (_r : Tok R := tok R) : Prop :=
  RUN Try.prog (pan R) (Builtin.len_ #[30] 3 #[x2]) w4 fun v5 w6 =>
  RUN Try.prog (pan R) (bins .eql 3 (.tmp 20) (.const (Go.Value.int Go.IntKind.i64 0)) v5 (Go.Value.int Go.IntKind.i64 0)) w6 fun v7 w8 =>
  b23 R x0 x1 x2 v7 w8

def b22 (R : Ending → World → Prop) (x0 x1 x2 : Value) (w : World) (_r : Tok R := tok R) : Prop :=
  RUN Try.prog (pan R) (bins .lss 3 (.tmp 12) (.const (Go.Value.int Go.IntKind.i64 1)) x1 (Go.Value.int Go.IntKind.i64 1)) w fun v1 w2 =>
  SPL v1
  (b23 R x0 x1 x2 (Go.Value.bool Bool.true) w2)
  (RUN Try.prog (pan R) (bins .gtr 3 (.tmp 15) (.const (Go.Value.int Go.IntKind.i64 3)) x1 (Go.Value.int Go.IntKind.i64 3)) w2 fun v3 w4 =>
  SPL v3
  (b23 R x0 x1 x2 (Go.Value.bool Bool.true) w4)
  (b22_1 R x0 x1 x2 w4))
abbrev q18 (R : Ending → World → Prop) : Exit → Env → World → Prop := QX (fun ρ w => b23 R (ρ 0) (ρ 1) (ρ 2) (ρ 22) w) (fun ρ w => R (.returned (.tuple #[(ρ 6), (ρ 7)])) w) []
theorem b22_eq (R : Ending → World → Prop) (ρ : Env) (w : World) : (b22 R (ρ 0) (ρ 1) (ρ 2) w) = codeP Try.prog (pan R) (preC 0 (fstC p1)) (q18 R) ρ w := by kernel_rfl
theorem b22_ok (R : Ending → World → Prop) (ρ : Env) (w : World) (h : b22 R (ρ 0) (ρ 1) (ρ 2) w) : codeP Try.prog (pan R) (fstC p1) (q17 R) ρ w := by
  have e : appC 0 (preC 0 (fstC p1)) (dropC 1 (fstC p1)) = (fstC p1) := by kernel_rfl
  rw [← e]
  exact appQ (fun ρ w => b23 R (ρ 0) (ρ 1) (ρ 2) (ρ 22) w) 0 ((b22_eq R ρ w).mp h) (fun ρ w h => b23_ok R ρ w h)
theorem k2_ok (R : Ending → World → Prop) (ρ : Env) (w : World) (h : b22 R (ρ 0) (ρ 1) (ρ 2) w) : codeP Try.prog (pan R) p1 (q1 R) ρ w := by
  have e : Code.seq (fstC p1) (sndC p1) = p1 := by kernel_rfl
  rw [← e]
  exact seqQ (fun ρ w => b11 R (ρ 0) (ρ 1) (ρ 2) w) (b22_ok R ρ w h) (fun ρ w h => k3_ok R ρ w h)

def b1 (R : Ending → World → Prop) (x0 x1 x2 : Value) (w : World) (_r : Tok R := tok R) : Prop :=
  b22 R x0 x1 x2 w
abbrev q19 (R : Ending → World → Prop) : Exit → Env → World → Prop := QX (fun ρ w => b22 R (ρ 0) (ρ 1) (ρ 2) w) (fun ρ w => R (.returned (.tuple #[(ρ 6), (ρ 7)])) w) []
theorem b1_eq (R : Ending → World → Prop) (ρ : Env) (w : World) : (b1 R (ρ 0) (ρ 1) (ρ 2) w) = codeP Try.prog (pan R) (preC 0 code) (q19 R) ρ w := by kernel_rfl
theorem b1_ok (R : Ending → World → Prop) (ρ : Env) (w : World) (h : b1 R (ρ 0) (ρ 1) (ρ 2) w) : codeP Try.prog (pan R) code (q1 R) ρ w := by
  have e : appC 0 (preC 0 code) (dropC 1 code) = code := by kernel_rfl
  rw [← e]
  exact appQ (fun ρ w => b22 R (ρ 0) (ρ 1) (ρ 2) w) 0 ((b1_eq R ρ w).mp h) (fun ρ w h => k2_ok R ρ w h)
/-- What is owed for a call. -/
def run (R : Ending → World → Prop) (a0 a1 a2 : Value) (w : World) : Prop := b1 R a0 a1 a2 w
theorem calls (R : Ending → World → Prop) (a0 a1 a2 : Value) (w : World) (h : run R a0 a1 a2 w) : Calls Try.prog id #[a0, a1, a2] w R :=
  calls_of_tt (f := id) (fn := Try.f83) (c := code) (by kernel_rfl) Try.func83 (by kernel_rfl) (by kernel_rfl) (args := [a0, a1, a2]) (Nat.le_of_ble_eq_true rfl) rfl (b1_ok R (envOf [a0, a1, a2]) w h)
theorem enters : Enters Try.prog id := fun args w => Try.call83 args w
theorem ct {a0 a1 a2 : Value} {w : World} {S : Value → World → Prop} (h : ∀ R : Ending → World → Prop, (∀ v w, S v w → R (.returned v) w) → run R a0 a1 a2 w) : Ct Try.prog id #[a0, a1, a2] w S :=
  Ct.intro enters fun R hR => calls R a0 a1 a2 w (h R hR)
attribute [irreducible] b6 b10_1 b10 l9 b7 b4 b16 b21_1 b21 l20 b18_1 b18 b14 l13 b11 b23 b22_1 b22 b1 run
attribute [go_sem] b6 b10_1 b10 b7 b4 b16 b21_1 b21 b18_1 b18 b14 b11 b23 b22_1 b22 b1 run
end ref02_Builder_Level

/-! ### (*presage/presageref02.Builder).Rule -/
namespace ref02_Builder_Rule
noncomputable def code : Code := bodyOf Try.f84
noncomputable abbrev p1 : Code := dropC 2 code
noncomputable abbrev p2 : Code := dropC 3 (sndC p1)

def b5 (R : Ending → World → Prop) (x0 x12 : Value) (w : World) (_r : Tok R := tok R) : Prop :=
  NILC x0 fun v1 =>
  PUR Try.prog (Instr.fieldAt 66 v1 3) fun v2 =>
  LD Try.prog (Instr.loadAt 64 v2) (World.drew w) fun v3 =>
  LD Try.prog (Instr.loadAt 116 x12) (World.drew w) fun v4 =>
  RUN Try.prog (pan R) (Instr.buildSlice 64 1 #[(0, v4)]) (World.drew w) fun v5 w6 =>
  Sem.run Try.prog (Instr.loadAt 64 v2) w6 = .ok v3 w6 ∧ (RUN Try.prog (pan R) (Builtin.append_ #[64, 64] 64 #[v3, v5]) w6 fun v7 w8 =>
  NILC x0 fun v9 =>
  PUR Try.prog (Instr.fieldAt 66 v9 3) fun v10 =>
  RUNU Try.prog (pan R) (Instr.storeAt 64 v10 v7) w8 fun w11 =>
  NILC x0 fun v12 =>
  RUN Try.prog (pan R) (Instr.fieldAt 66 v12 3) w11 fun v13 w14 =>
  RUN Try.prog (pan R) (Instr.loadAt 64 v13) w14 fun v15 w16 =>
  RUN Try.prog (pan R) (Builtin.len_ #[64] 3 #[v15]) w16 fun v17 w18 =>
  RUN Try.prog (pan R) (bins .sub 3 (.tmp 99) (.const (Go.Value.int Go.IntKind.i64 1)) v17 (Go.Value.int Go.IntKind.i64 1)) w18 fun v19 w20 =>
  R (.returned (.tuple #[v19, (Go.Value.int Go.IntKind.i64 0)])) w20)
abbrev q1 (R : Ending → World → Prop) : Exit → Env → World → Prop := QX (fun ρ w => R (.returned (.tuple #[(ρ 6), (ρ 7)])) w) (fun ρ w => R (.returned (.tuple #[(ρ 6), (ρ 7)])) w) []
theorem b5_eq (R : Ending → World → Prop) (ρ : Env) (w : World) : (b5 R (ρ 0) (ρ 12) w) = codeP Try.prog (pan R) (sndC p2) (q1 R) ρ w := by kernel_rfl
theorem b5_ok (R : Ending → World → Prop) (ρ : Env) (w : World) (h : b5 R (ρ 0) (ρ 12) w) : codeP Try.prog (pan R) (sndC p2) (q1 R) ρ w := (b5_eq R ρ w).mp h
noncomputable abbrev p3 : Code := dropC 1 (fstC p2)
noncomputable abbrev p4 : Code := loopC (blkC p3)
noncomputable abbrev p5 : Code := dropC 2 p4

def b10 (R : Ending → World → Prop) (C8 : Value → World → Prop) (x13 : Value) (w : World) (_r : Tok R := tok R) (_C8 : Tok C8 := tok C8) : Prop :=
  RUN Try.prog (pan R) (bins .add 3 (.tmp 56) (.const (Go.Value.int Go.IntKind.i64 1)) x13 (Go.Value.int Go.IntKind.i64 1)) w fun v1 w2 =>
  C8 v1 w2
abbrev q2 (R : Ending → World → Prop) (C8 : Value → World → Prop) : Exit → Env → World → Prop := QX (fun ρ w => C8 (ρ 13) w) (fun ρ w => R (.returned (.tuple #[(ρ 6), (ρ 7)])) w) [(4, (fun ρ w => b5 R (ρ 0) (ρ 12) w))]
theorem b10_eq (R : Ending → World → Prop) (C8 : Value → World → Prop) (ρ : Env) (w : World) : (b10 R C8 (ρ 13) w) = codeP Try.prog (pan R) p5 (q2 R C8) ρ w := by kernel_rfl
theorem b10_ok (R : Ending → World → Prop) (C8 : Value → World → Prop) (ρ : Env) (w : World) (h : b10 R C8 (ρ 13) w) : codeP Try.prog (pan R) p5 (q2 R C8) ρ w := (b10_eq R C8 ρ w).mp h
def b9_1 (R : Ending → World → Prop) (C8 : Value → World → Prop) (x0 x2 x12 x13 : Value) (w20 : World) (_r : Tok R := tok R) (_C8 : Tok C8 := tok C8) : Prop :=
  NILC x0 fun v21 =>
  PUR Try.prog (Instr.fieldAt 66 v21 0) fun v22 =>
  LD Try.prog (Instr.loadAt 32 v22) (World.drew w20) fun v23 =>
  PUR Try.prog (Instr.indexAt 30 x2 x13) fun v24 =>
  LD Try.prog (Instr.loadAt 3 v24) (World.drew w20) fun v25 =>
  PUR Try.prog (bins .sub 3 (.tmp 79) (.const (Go.Value.int Go.IntKind.i64 1)) v25 (Go.Value.int Go.IntKind.i64 1)) fun v26 =>
  PUR Try.prog (Instr.indexAt 32 v23 v26) fun v27 =>
  PUR Try.prog (Instr.fieldAt 56 v27 1) fun v28 =>
  LD Try.prog (Instr.loadAt 3 v28) (World.drew w20) fun v29 =>
  PUR Try.prog (Instr.fieldAt 116 x12 2) fun v30 =>
  RUNU Try.prog (pan R) (Instr.storeAt 3 v30 v29) (World.drew w20) fun w31 =>
  b10 R C8 x13 w31
def b9_2 (R : Ending → World → Prop) (C8 : Value → World → Prop) (x0 x2 x12 x13 : Value) (w4 : World) (_r : Tok R := tok R) (_C8 : Tok C8 := tok C8) : Prop :=
  PUR Try.prog (Instr.fieldAt 116 x12 1) fun v5 =>
  LD Try.prog (Instr.loadAt 30 v5) (World.drew w4) fun v6 =>
  PUR Try.prog (Instr.indexAt 30 x2 x13) fun v7 =>
  LD Try.prog (Instr.loadAt 3 v7) (World.drew w4) fun v8 =>
  RUN Try.prog (pan R) (Instr.buildSlice 30 1 #[(0, v8)]) (World.drew w4) fun v9 w10 =>
  Sem.run Try.prog (Instr.loadAt 30 v5) w10 = .ok v6 w10 ∧ (RUN Try.prog (pan R) (Builtin.append_ #[30, 30] 30 #[v6, v9]) w10 fun v11 w12 =>
  PUR Try.prog (Instr.fieldAt 116 x12 1) fun v13 =>
  RUNU Try.prog (pan R) (Instr.storeAt 30 v13 v11) w12 fun w14 =>
  RUN Try.prog (pan R) (Instr.indexAt 30 x2 x13) w14 fun v15 w16 =>
  RUN Try.prog (pan R) (Instr.loadAt 3 v15) w16 fun v17 w18 =>
  RUN Try.prog (pan R) (bins .gtr 3 (.tmp 70) (.const (Go.Value.int Go.IntKind.i64 0)) v17 (Go.Value.int Go.IntKind.i64 0)) w18 fun v19 w20 =>
  SPL v19
  (b9_1 R C8 x0 x2 x12 x13 w20)
  (b10 R C8 x13 w20))

def b9 (R : Ending → World → Prop) (C8 : Value → World → Prop) (x0 x2 x12 x13 : Value) (w : World) (_r : Tok R := tok R) (_C8 : Tok C8 := tok C8) : Prop :=
  RUN Try.prog (pan R) (Builtin.len_ #[30] 3 #[x2]) w fun v1 w2 =>
  RUN Try.prog (pan R) (bins .lss 3 (.tmp 52) (.tmp 54) x13 v1) w2 fun v3 w4 =>
  SPL v3
  (b9_2 R C8 x0 x2 x12 x13 w4)
  (b5 R x0 x12 w4)
abbrev q3 (R : Ending → World → Prop) (C8 : Value → World → Prop) : Exit → Env → World → Prop := QX (fun ρ w => b10 R C8 (ρ 13) w) (fun ρ w => R (.returned (.tuple #[(ρ 6), (ρ 7)])) w) [(4, (fun ρ w => b5 R (ρ 0) (ρ 12) w))]
theorem b9_eq (R : Ending → World → Prop) (C8 : Value → World → Prop) (ρ : Env) (w : World) : (b9 R C8 (ρ 0) (ρ 2) (ρ 12) (ρ 13) w) = codeP Try.prog (pan R) (preC 1 p4) (q3 R C8) ρ w := by kernel_rfl
theorem b9_ok (R : Ending → World → Prop) (C8 : Value → World → Prop) (ρ : Env) (w : World) (h : b9 R C8 (ρ 0) (ρ 2) (ρ 12) (ρ 13) w) : codeP Try.prog (pan R) p4 (q2 R C8) ρ w := by
  have e : appC 1 (preC 1 p4) (dropC 2 p4) = p4 := by kernel_rfl
  rw [← e]
  exact appQ (fun ρ w => b10 R C8 (ρ 13) w) 1 ((b9_eq R C8 ρ w).mp h) (fun ρ w h => b10_ok R C8 ρ w h)

def l8 (R : Ending → World → Prop) (x0 x2 x12 x13 : Value) (w : World) (_r : Tok R := tok R) : Prop :=
  ∃ (J : Value → World → Prop) (μ : Value → World → Nat), J x13 w ∧ ∀ y13 w0, J y13 w0 → b9 R (fun z13 w1 => J z13 w1 ∧ μ z13 w1 < μ y13 w0) x0 x2 x12 y13 w0
abbrev q4 (R : Ending → World → Prop) : Exit → Env → World → Prop := QX (fun ρ w => b5 R (ρ 0) (ρ 12) w) (fun ρ w => R (.returned (.tuple #[(ρ 6), (ρ 7)])) w) [(4, (fun ρ w => b5 R (ρ 0) (ρ 12) w))]
theorem l8_ok (R : Ending → World → Prop) (ρ : Env) (w : World) (h : l8 R (ρ 0) (ρ 2) (ρ 12) (ρ 13) w) : codeP Try.prog (pan R) (blkC p3) (q4 R) ρ w := by
  unfold l8 at h
  obtain ⟨J, μ, h0, hr⟩ := h
  have e : Code.loop (loopC (blkC p3)) = (blkC p3) := by kernel_rfl
  rw [← e]
  refine loopQ (fun ρ' w' => J (ρ' 13) w') (fun ρ' w' => μ (ρ' 13) w') h0 fun ρ' w' hA hI => ?_
  have e0 : ρ' 0 = ρ 0 := Agree.at hA 0 (by kernel_rfl)
  have e2 : ρ' 2 = ρ 2 := Agree.at hA 2 (by kernel_rfl)
  have e12 : ρ' 12 = ρ 12 := Agree.at hA 12 (by kernel_rfl)
  have h1 := hr (ρ' 13) w' hI
  rw [← e0, ← e2, ← e12] at h1
  exact b9_ok R (fun z13 w1 => J z13 w1 ∧ μ z13 w1 < μ (ρ' 13) w') ρ' w' h1
theorem l8_intro (R : Ending → World → Prop) (x0 x2 x12 x13 : Value) (w : World) (J : Value → World → Prop) (μ : Value → World → Nat) (h0 : J x13 w)
    (hr : ∀ y13 w0, J y13 w0 → ∀ C8 : Value → World → Prop, (∀ z13 w1, J z13 w1 → μ z13 w1 < μ y13 w0 → C8 z13 w1) → b9 R C8 x0 x2 x12 y13 w0) : l8 R x0 x2 x12 x13 w := by
  unfold l8
  exact ⟨J, μ, h0, fun y13 w0 hJ => hr y13 w0 hJ _ (fun z13 w1 h1 h2 => ⟨h1, h2⟩)⟩
abbrev q5 (R : Ending → World → Prop) : Exit → Env → World → Prop := QX (fun ρ w => b5 R (ρ 0) (ρ 12) w) (fun ρ w => R (.returned (.tuple #[(ρ 6), (ρ 7)])) w) []
theorem k7_ok (R : Ending → World → Prop) (ρ : Env) (w : World) (h : l8 R (ρ 0) (ρ 2) (ρ 12) (ρ 13) w) : codeP Try.prog (pan R) p3 (q5 R) ρ w := by
  have e : Code.block 2 (blkC p3) = p3 := by kernel_rfl
  rw [← e]
  exact blockQ (l8_ok R ρ w h)

def b6 (R : Ending → World → Prop) (x0 x2 x12 : Value) (w : World) (_r : Tok R := tok R) : Prop :=
  l8 R x0 x2 x12 (Go.Value.int Go.IntKind.i64 0) w
abbrev q6 (R : Ending → World → Prop) : Exit → Env → World → Prop := QX (fun ρ w => l8 R (ρ 0) (ρ 2) (ρ 12) (ρ 13) w) (fun ρ w => R (.returned (.tuple #[(ρ 6), (ρ 7)])) w) []
theorem b6_eq (R : Ending → World → Prop) (ρ : Env) (w : World) : (b6 R (ρ 0) (ρ 2) (ρ 12) w) = codeP Try.prog (pan R) (preC 0 (fstC p2)) (q6 R) ρ w := by kernel_rfl
theorem b6_ok (R : Ending → World → Prop) (ρ : Env) (w : World) (h : b6 R (ρ 0) (ρ 2) (ρ 12) w) : codeP Try.prog (pan R) (fstC p2) (q5 R) ρ w := by
  have e : appC 0 (preC 0 (fstC p2)) (dropC 1 (fstC p2)) = (fstC p2) := by kernel_rfl
  rw [← e]
  exact appQ (fun ρ w => l8 R (ρ 0) (ρ 2) (ρ 12) (ρ 13) w) 0 ((b6_eq R ρ w).mp h) (fun ρ w h => k7_ok R ρ w h)
theorem k4_ok (R : Ending → World → Prop) (ρ : Env) (w : World) (h : b6 R (ρ 0) (ρ 2) (ρ 12) w) : codeP Try.prog (pan R) p2 (q1 R) ρ w := by
  have e : Code.seq (fstC p2) (sndC p2) = p2 := by kernel_rfl
  rw [← e]
  exact seqQ (fun ρ w => b5 R (ρ 0) (ρ 12) w) (b6_ok R ρ w h) (fun ρ w h => b5_ok R ρ w h)
def b3_1 (R : Ending → World → Prop) (x0 x1 x2 : Value) (w11 : World) (_r : Tok R := tok R) : Prop :=
  RUN Try.prog (pan R) (Instr.build 116 #[(0, x1)]) w11 fun v12 w13 =>
  RUN Try.prog (pan R) (Instr.alloc 116 true (.tuple #[])) w13 fun v14 w15 =>
  RUNU Try.prog (pan R) (Instr.storeAt 116 v14 v12) w15 fun w16 =>
  b6 R x0 x2 v14 w16
def b3_2 (R : Ending → World → Prop) (x0 x1 x2 : Value) (w2 : World) (_r : Tok R := tok R) : Prop :=
  NILC x0 fun v3 =>
  RUN Try.prog (pan R) (Instr.fieldAt 66 v3 3) w2 fun v4 w5 =>
  RUN Try.prog (pan R) (Instr.loadAt 64 v4) w5 fun v6 w7 =>
  RUN Try.prog (pan R) (Builtin.len_ #[64] 3 #[v6]) w7 fun v8 w9 =>
  RUN Try.prog (pan R) (bins .geq 3 (.tmp 48) (.const (Go.Value.int Go.IntKind.i64 96)) v8 (Go.Value.int Go.IntKind.i64 96)) w9 fun v10 w11 =>
  SPL v10
  (R (.returned (.tuple #[(Go.Value.int Go.IntKind.i64 0), (Go.Value.int Go.IntKind.i64 11)])) w11)
  (b3_1 R x0 x1 x2 w11)

def b3 (R : Ending → World → Prop) (x0 x1 x2 x8 : Value) (w : World) (_r : Tok R := tok R) : Prop :=
  RUN Try.prog (pan R) (Op.unary .not x8) w fun v1 w2 =>
  SPL v1
  (R (.returned (.tuple #[(Go.Value.int Go.IntKind.i64 0), (Go.Value.int Go.IntKind.i64 1)])) w2)
  (b3_2 R x0 x1 x2 w2)
abbrev q7 (R : Ending → World → Prop) : Exit → Env → World → Prop := QX (fun ρ w => b6 R (ρ 0) (ρ 2) (ρ 12) w) (fun ρ w => R (.returned (.tuple #[(ρ 6), (ρ 7)])) w) []
theorem b3_eq (R : Ending → World → Prop) (ρ : Env) (w : World) : (b3 R (ρ 0) (ρ 1) (ρ 2) (ρ 8) w) = codeP Try.prog (pan R) (preC 2 (sndC p1)) (q7 R) ρ w := by kernel_rfl
theorem b3_ok (R : Ending → World → Prop) (ρ : Env) (w : World) (h : b3 R (ρ 0) (ρ 1) (ρ 2) (ρ 8) w) : codeP Try.prog (pan R) (sndC p1) (q1 R) ρ w := by
  have e : appC 2 (preC 2 (sndC p1)) (dropC 3 (sndC p1)) = (sndC p1) := by kernel_rfl
  rw [← e]
  exact appQ (fun ρ w => b6 R (ρ 0) (ρ 2) (ρ 12) w) 2 ((b3_eq R ρ w).mp h) (fun ρ w h => k4_ok R ρ w h)
noncomputable abbrev p6 : Code := dropC 1 (fstC p1)
noncomputable abbrev p7 : Code := loopC (blkC p6)
noncomputable abbrev p8 : Code := dropC 1 (sndC p7)

def b16 (R : Ending → World → Prop) (C13 : Value → Value → World → Prop) (x8 x9 : Value) (w : World) (_r : Tok R := tok R) (_C13 : Tok C13 := tok C13) : Prop :=
  RUN Try.prog (pan R) (bins .add 3 (.tmp 24) (.const (Go.Value.int Go.IntKind.i64 1)) x9 (Go.Value.int Go.IntKind.i64 1)) w fun v1 w2 =>
  C13 x8 v1 w2
abbrev q8 (R : Ending → World → Prop) (C13 : Value → Value → World → Prop) : Exit → Env → World → Prop := QX (fun ρ w => C13 (ρ 8) (ρ 9) w) (fun ρ w => R (.returned (.tuple #[(ρ 6), (ρ 7)])) w) [(0, (fun ρ w => b3 R (ρ 0) (ρ 1) (ρ 2) (ρ 8) w))]
theorem b16_eq (R : Ending → World → Prop) (C13 : Value → Value → World → Prop) (ρ : Env) (w : World) : (b16 R C13 (ρ 8) (ρ 9) w) = codeP Try.prog (pan R) p8 (q8 R C13) ρ w := by kernel_rfl
theorem b16_ok (R : Ending → World → Prop) (C13 : Value → Value → World → Prop) (ρ : Env) (w : World) (h : b16 R C13 (ρ 8) (ρ 9) w) : codeP Try.prog (pan R) p8 (q8 R C13) ρ w := (b16_eq R C13 ρ w).mp h
def b15_1 (R : Ending → World → Prop) (C13 : Value → Value → World → Prop) (x0 x2 x9 v5 : Value) (w6 : World) (_r : Tok R := tok R) (_C13 : Tok C13 := tok C13) : Prop :=
  RUN Try.prog (pan R) (Instr.indexAt 30 x2 x9) w6 fun v7 w8 =>
  RUN Try.prog (pan R) (Instr.loadAt 3 v7) w8 fun v9 w10 =>
  CALL Try.prog (pan R) ref02_Builder_non.id #[x0, v9] w10 fun v11 w12 =>
  SPL v5
  (b16 R C13 (Go.Value.bool Bool.true) x9 w12)
  (b16 R C13 v11 x9 w12)

def b15 (R : Ending → World → Prop) (C13 : Value → Value → World → Prop) (x0 x2 x9 : Value) (w : World) (_r : Tok R := tok R) (_C13 : Tok C13 := tok C13) : Prop :=
  RUN Try.prog (pan R) (Instr.indexAt 30 x2 x9) w fun v1 w2 =>
  RUN Try.prog (pan R) (Instr.loadAt 3 v1) w2 fun v3 w4 =>
  CALL Try.prog (pan R) ref02_Builder_term.id #[x0, v3] w4 fun v5 w6 =>
  b15_1 R C13 x0 x2 x9 v5 w6
abbrev q9 (R : Ending → World → Prop) (C13 : Value → Value → World → Prop) : Exit → Env → World → Prop := QX (fun ρ w => b16 R C13 (ρ 8) (ρ 9) w) (fun ρ w => R (.returned (.tuple #[(ρ 6), (ρ 7)])) w) [(0, (fun ρ w => b3 R (ρ 0) (ρ 1) (ρ 2) (ρ 8) w))]
theorem b15_eq (R : Ending → World → Prop) (C13 : Value → Value → World → Prop) (ρ : Env) (w : World) : (b15 R C13 (ρ 0) (ρ 2) (ρ 9) w) = codeP Try.prog (pan R) (preC 0 (sndC p7)) (q9 R C13) ρ w := by kernel_rfl
theorem b15_ok (R : Ending → World → Prop) (C13 : Value → Value → World → Prop) (ρ : Env) (w : World) (h : b15 R C13 (ρ 0) (ρ 2) (ρ 9) w) : codeP Try.prog (pan R) (sndC p7) (q8 R C13) ρ w := by
  have e : appC 0 (preC 0 (sndC p7)) (dropC 1 (sndC p7)) = (sndC p7) := by kernel_rfl
  rw [← e]
  exact appQ (fun ρ w => b16 R C13 (ρ 8) (ρ 9) w) 0 ((b15_eq R C13 ρ w).mp h) (fun ρ w h => b16_ok R C13 ρ w h)
noncomputable abbrev p9 : Code := dropC 1 (fstC p7)

def b18 (R : Ending → World → Prop) (C13 : Value → Value → World → Prop) (x0 x1 x2 x8 x9 x23 : Value) (w : World) (_r : Tok R := tok R) (_C13 : Tok C13 := tok C13) : Prop :=
  SPL x23
  (b15 R C13 x0 x2 x9 w)
  (b3 R x0 x1 x2 x8 w)
abbrev q10 (R : Ending → World → Prop) (C13 : Value → Value → World → Prop) : Exit → Env → World → Prop := QX (fun ρ w => b15 R C13 (ρ 0) (ρ 2) (ρ 9) w) (fun ρ w => R (.returned (.tuple #[(ρ 6), (ρ 7)])) w) [(0, (fun ρ w => b3 R (ρ 0) (ρ 1) (ρ 2) (ρ 8) w))]
theorem b18_eq (R : Ending → World → Prop) (C13 : Value → Value → World → Prop) (ρ : Env) (w : World) : (b18 R C13 (ρ 0) (ρ 1) (ρ 2) (ρ 8) (ρ 9) (ρ 23) w) = codeP Try.prog (pan R) p9 (q10 R C13) ρ w := by kernel_rfl
theorem b18_ok (R : Ending → World → Prop) (C13 : Value → Value → World → Prop) (ρ : Env) (w : World) (h : b18 R C13 (ρ 0) (ρ 1) (ρ 2) (ρ 8) (ρ 9) (ρ 23) w) : codeP Try.prog (pan R) p9 (q10 R C13) ρ w := (b18_eq R C13 ρ w).mp h

def b17 (R : Ending → World → Prop) (C13 : Value → Value → World → Prop) (x0 x1 x2 x8 x9 : Value) (w : World) (_r : Tok R := tok R) (_C13 : Tok C13 := tok C13) : Prop :=
  RUN Try.prog (pan R) (Builtin.len_ #[30] 3 #[x2]) w fun v1 w2 =>
  RUN Try.prog (pan R) (bins .lss 3 (.tmp 17) (.tmp 19) x9 v1) w2 fun v3 w4 =>
  SPL v3
  (b18 R C13 x0 x1 x2 x8 x9 x8 w4)
  (b18 R C13 x0 x1 x2 x8 x9 (Go.Value.bool Bool.false) w4)
abbrev q11 (R : Ending → World → Prop) (C13 : Value → Value → World → Prop) : Exit → Env → World → Prop := QX (fun ρ w => b18 R C13 (ρ 0) (ρ 1) (ρ 2) (ρ 8) (ρ 9) (ρ 23) w) (fun ρ w => R (.returned (.tuple #[(ρ 6), (ρ 7)])) w) [(0, (fun ρ w => b3 R (ρ 0) (ρ 1) (ρ 2) (ρ 8) w))]
theorem b17_eq (R : Ending → World → Prop) (C13 : Value → Value → World → Prop) (ρ : Env) (w : World) : (b17 R C13 (ρ 0) (ρ 1) (ρ 2) (ρ 8) (ρ 9) w) = codeP Try.prog (pan R) (preC 0 (fstC p7)) (q11 R C13) ρ w := by kernel_rfl
theorem b17_ok (R : Ending → World → Prop) (C13 : Value → Value → World → Prop) (ρ : Env) (w : World) (h : b17 R C13 (ρ 0) (ρ 1) (ρ 2) (ρ 8) (ρ 9) w) : codeP Try.prog (pan R) (fstC p7) (q10 R C13) ρ w := by
  have e : appC 0 (preC 0 (fstC p7)) (dropC 1 (fstC p7)) = (fstC p7) := by kernel_rfl
  rw [← e]
  exact appQ (fun ρ w => b18 R C13 (ρ 0) (ρ 1) (ρ 2) (ρ 8) (ρ 9) (ρ 23) w) 0 ((b17_eq R C13 ρ w).mp h) (fun ρ w h => b18_ok R C13 ρ w h)
theorem k14_ok (R : Ending → World → Prop) (C13 : Value → Value → World → Prop) (ρ : Env) (w : World) (h : b17 R C13 (ρ 0) (ρ 1) (ρ 2) (ρ 8) (ρ 9) w) : codeP Try.prog (pan R) p7 (q8 R C13) ρ w := by
  have e : Code.seq (fstC p7) (sndC p7) = p7 := by kernel_rfl
  rw [← e]
  exact seqQ (fun ρ w => b15 R C13 (ρ 0) (ρ 2) (ρ 9) w) (b17_ok R C13 ρ w h) (fun ρ w h => b15_ok R C13 ρ w h)

def l13 (R : Ending → World → Prop) (x0 x1 x2 x8 x9 : Value) (w : World) (_r : Tok R := tok R) : Prop :=
  ∃ (J : Value → Value → World → Prop) (μ : Value → Value → World → Nat), J x8 x9 w ∧ ∀ y8 y9 w0, J y8 y9 w0 → b17 R (fun z8 z9 w1 => J z8 z9 w1 ∧ μ z8 z9 w1 < μ y8 y9 w0) x0 x1 x2 y8 y9 w0
abbrev q12 (R : Ending → World → Prop) : Exit → Env → World → Prop := QX (fun ρ w => b3 R (ρ 0) (ρ 1) (ρ 2) (ρ 8) w) (fun ρ w => R (.returned (.tuple #[(ρ 6), (ρ 7)])) w) [(0, (fun ρ w => b3 R (ρ 0) (ρ 1) (ρ 2) (ρ 8) w))]
theorem l13_ok (R : Ending → World → Prop) (ρ : Env) (w : World) (h : l13 R (ρ 0) (ρ 1) (ρ 2) (ρ 8) (ρ 9) w) : codeP Try.prog (pan R) (blkC p6) (q12 R) ρ w := by
  unfold l13 at h
  obtain ⟨J, μ, h0, hr⟩ := h
  have e : Code.loop (loopC (blkC p6)) = (blkC p6) := by kernel_rfl
  rw [← e]
  refine loopQ (fun ρ' w' => J (ρ' 8) (ρ' 9) w') (fun ρ' w' => μ (ρ' 8) (ρ' 9) w') h0 fun ρ' w' hA hI => ?_
  have e0 : ρ' 0 = ρ 0 := Agree.at hA 0 (by kernel_rfl)
  have e1 : ρ' 1 = ρ 1 := Agree.at hA 1 (by kernel_rfl)
  have e2 : ρ' 2 = ρ 2 := Agree.at hA 2 (by kernel_rfl)
  have h1 := hr (ρ' 8) (ρ' 9) w' hI
  rw [← e0, ← e1, ← e2] at h1
  exact k14_ok R (fun z8 z9 w1 => J z8 z9 w1 ∧ μ z8 z9 w1 < μ (ρ' 8) (ρ' 9) w') ρ' w' h1
theorem l13_intro (R : Ending → World → Prop) (x0 x1 x2 x8 x9 : Value) (w : World) (J : Value → Value → World → Prop) (μ : Value → Value → World → Nat) (h0 : J x8 x9 w)
    (hr : ∀ y8 y9 w0, J y8 y9 w0 → ∀ C13 : Value → Value → World → Prop, (∀ z8 z9 w1, J z8 z9 w1 → μ z8 z9 w1 < μ y8 y9 w0 → C13 z8 z9 w1) → b17 R C13 x0 x1 x2 y8 y9 w0) : l13 R x0 x1 x2 x8 x9 w := by
  unfold l13
  exact ⟨J, μ, h0, fun y8 y9 w0 hJ => hr y8 y9 w0 hJ _ (fun z8 z9 w1 h1 h2 => ⟨h1, h2⟩)⟩
abbrev q13 (R : Ending → World → Prop) : Exit → Env → World → Prop := QX (fun ρ w => b3 R (ρ 0) (ρ 1) (ρ 2) (ρ 8) w) (fun ρ w => R (.returned (.tuple #[(ρ 6), (ρ 7)])) w) []
theorem k12_ok (R : Ending → World → Prop) (ρ : Env) (w : World) (h : l13 R (ρ 0) (ρ 1) (ρ 2) (ρ 8) (ρ 9) w) : codeP Try.prog (pan R) p6 (q13 R) ρ w := by
  have e : Code.block 0 (blkC p6) = p6 := by kernel_rfl
  rw [← e]
  exact blockQ (l13_ok R ρ w h)

def b11 (R : Ending → World → Prop) (x0 x1 x2 x8 : Value) (w : World) (_r : Tok R := tok R) : Prop :=
  l13 R x0 x1 x2 x8 (Go.Value.int Go.IntKind.i64 0) w
abbrev q14 (R : Ending → World → Prop) : Exit → Env → World → Prop := QX (fun ρ w => l13 R (ρ 0) (ρ 1) (ρ 2) (ρ 8) (ρ 9) w) (fun ρ w => R (.returned (.tuple #[(ρ 6), (ρ 7)])) w) []
theorem b11_eq (R : Ending → World → Prop) (ρ : Env) (w : World) : (b11 R (ρ 0) (ρ 1) (ρ 2) (ρ 8) w) = codeP Try.prog (pan R) (preC 0 (fstC p1)) (q14 R) ρ w := by kernel_rfl
theorem b11_ok (R : Ending → World → Prop) (ρ : Env) (w : World) (h : b11 R (ρ 0) (ρ 1) (ρ 2) (ρ 8) w) : codeP Try.prog (pan R) (fstC p1) (q13 R) ρ w := by
  have e : appC 0 (preC 0 (fstC p1)) (dropC 1 (fstC p1)) = (fstC p1) := by kernel_rfl
  rw [← e]
  exact appQ (fun ρ w => l13 R (ρ 0) (ρ 1) (ρ 2) (ρ 8) (ρ 9) w) 0 ((b11_eq R ρ w).mp h) (fun ρ w h => k12_ok R ρ w h)
theorem k2_ok (R : Ending → World → Prop) (ρ : Env) (w : World) (h : b11 R (ρ 0) (ρ 1) (ρ 2) (ρ 8) w) : codeP Try.prog (pan R) p1 (q1 R) ρ w := by
  have e : Code.seq (fstC p1) (sndC p1) = p1 := by kernel_rfl
  rw [← e]
  exact seqQ (fun ρ w => b3 R (ρ 0) (ρ 1) (ρ 2) (ρ 8) w) (b11_ok R ρ w h) (fun ρ w h => b3_ok R ρ w h)

def b1 (R : Ending → World → Prop) (x0 x1 x2 : Value) (w : World) (_r : Tok R := tok R) : Prop :=
  CALL Try.prog (pan R) ref02_Builder_non.id #[x0, x1] w fun v1 w2 =>
  b11 R x0 x1 x2 v1 w2
abbrev q15 (R : Ending → World → Prop) : Exit → Env → World → Prop := QX (fun ρ w => b11 R (ρ 0) (ρ 1) (ρ 2) (ρ 8) w) (fun ρ w => R (.returned (.tuple #[(ρ 6), (ρ 7)])) w) []
theorem b1_eq (R : Ending → World → Prop) (ρ : Env) (w : World) : (b1 R (ρ 0) (ρ 1) (ρ 2) w) = codeP Try.prog (pan R) (preC 1 code) (q15 R) ρ w := by kernel_rfl
theorem b1_ok (R : Ending → World → Prop) (ρ : Env) (w : World) (h : b1 R (ρ 0) (ρ 1) (ρ 2) w) : codeP Try.prog (pan R) code (q1 R) ρ w := by
  have e : appC 1 (preC 1 code) (dropC 2 code) = code := by kernel_rfl
  rw [← e]
  exact appQ (fun ρ w => b11 R (ρ 0) (ρ 1) (ρ 2) (ρ 8) w) 1 ((b1_eq R ρ w).mp h) (fun ρ w h => k2_ok R ρ w h)
/-- What is owed for a call. -/
def run (R : Ending → World → Prop) (a0 a1 a2 : Value) (w : World) : Prop := b1 R a0 a1 a2 w
theorem calls (R : Ending → World → Prop) (a0 a1 a2 : Value) (w : World) (h : run R a0 a1 a2 w) : Calls Try.prog id #[a0, a1, a2] w R :=
  calls_of_tt (f := id) (fn := Try.f84) (c := code) (by kernel_rfl) Try.func84 (by kernel_rfl) (by kernel_rfl) (args := [a0, a1, a2]) (Nat.le_of_ble_eq_true rfl) rfl (b1_ok R (envOf [a0, a1, a2]) w h)
theorem enters : Enters Try.prog id := fun args w => Try.call84 args w
theorem ct {a0 a1 a2 : Value} {w : World} {S : Value → World → Prop} (h : ∀ R : Ending → World → Prop, (∀ v w, S v w → R (.returned v) w) → run R a0 a1 a2 w) : Ct Try.prog id #[a0, a1, a2] w S :=
  Ct.intro enters fun R hR => calls R a0 a1 a2 w (h R hR)
attribute [irreducible] b5 b10 b9_1 b9_2 b9 l8 b6 b3_1 b3_2 b3 b16 b15_1 b15 b18 b17 l13 b11 b1 run
attribute [go_sem] b5 b10 b9_1 b9_2 b9 b6 b3_1 b3_2 b3 b16 b15_1 b15 b18 b17 b11 b1 run
end ref02_Builder_Rule

/-! ### (*presage/presageref02.Builder).Grade -/
namespace ref02_Builder_Grade
noncomputable def code : Code := bodyOf Try.f85
noncomputable abbrev p1 : Code := dropC 1 code
noncomputable abbrev p2 : Code := sndC (sndC p1)

def b5 (R : Ending → World → Prop) (w : World) (_r : Tok R := tok R) : Prop :=
  R (.returned (Go.Value.int Go.IntKind.i64 0)) w
abbrev q1 (R : Ending → World → Prop) : Exit → Env → World → Prop := QX (fun ρ w => R (.returned (ρ 6)) w) (fun ρ w => R (.returned (ρ 6)) w) []
theorem b5_eq (R : Ending → World → Prop) (ρ : Env) (w : World) : (b5 R w) = codeP Try.prog (pan R) (sndC p2) (q1 R) ρ w := by kernel_rfl
theorem b5_ok (R : Ending → World → Prop) (ρ : Env) (w : World) (h : b5 R w) : codeP Try.prog (pan R) (sndC p2) (q1 R) ρ w := (b5_eq R ρ w).mp h
noncomputable abbrev p3 : Code := dropC 1 (fstC p2)
noncomputable abbrev p4 : Code := loopC (blkC p3)
def b9_1 (R : Ending → World → Prop) (C8 : Value → World → Prop) (x0 x1 x2 x8 : Value) (w4 : World) (_r : Tok R := tok R) (_C8 : Tok C8 := tok C8) : Prop :=
  NILC x0 fun v5 =>
  PUR Try.prog (Instr.fieldAt 66 v5 3) fun v6 =>
  LD Try.prog (Instr.loadAt 64 v6) (World.drew w4) fun v7 =>
  PUR Try.prog (Instr.indexAt 30 x2 x8) fun v8 =>
  LD Try.prog (Instr.loadAt 3 v8) (World.drew w4) fun v9 =>
  PUR Try.prog (Instr.indexAt 64 v7 v9) fun v10 =>
  PUR Try.prog (Instr.fieldAt 116 v10 2) fun v11 =>
  RUNU Try.prog (pan R) (Instr.storeAt 3 v11 x1) (World.drew w4) fun w12 =>
  RUN Try.prog (pan R) (bins .add 3 (.tmp 47) (.const (Go.Value.int Go.IntKind.i64 1)) x8 (Go.Value.int Go.IntKind.i64 1)) w12 fun v13 w14 =>
  C8 v13 w14
/- x0 b, x1 level, x2 prods, x8 i -/
def b9 (R : Ending → World → Prop) (C8 : Value → World → Prop) (x0 x1 x2 x8 : Value) (w : World) (_r : Tok R := tok R) (_C8 : Tok C8 := tok C8) : Prop :=
  RUN Try.prog (pan R) (Builtin.len_ #[30] 3 #[x2]) w fun v1 w2 =>
  RUN Try.prog (pan R) (bins .lss 3 (.tmp 43) (.tmp 45) x8 v1) w2 fun v3 w4 =>
  SPL v3
  (b9_1 R C8 x0 x1 x2 x8 w4)
  (b5 R w4)
abbrev q2 (R : Ending → World → Prop) (C8 : Value → World → Prop) : Exit → Env → World → Prop := QX (fun ρ w => C8 (ρ 8) w) (fun ρ w => R (.returned (ρ 6)) w) [(4, (fun ρ w => b5 R  w))]
theorem b9_eq (R : Ending → World → Prop) (C8 : Value → World → Prop) (ρ : Env) (w : World) : (b9 R C8 (ρ 0) (ρ 1) (ρ 2) (ρ 8) w) = codeP Try.prog (pan R) p4 (q2 R C8) ρ w := by kernel_rfl
theorem b9_ok (R : Ending → World → Prop) (C8 : Value → World → Prop) (ρ : Env) (w : World) (h : b9 R C8 (ρ 0) (ρ 1) (ρ 2) (ρ 8) w) : codeP Try.prog (pan R) p4 (q2 R C8) ρ w := (b9_eq R C8 ρ w).mp h
/- x0 b, x1 level, x2 prods, x8 i -/
def l8 (R : Ending → World → Prop) (x0 x1 x2 x8 : Value) (w : World) (_r : Tok R := tok R) : Prop :=
  ∃ (J : Value → World → Prop) (μ : Value → World → Nat), J x8 w ∧ ∀ y8 w0, J y8 w0 → b9 R (fun z8 w1 => J z8 w1 ∧ μ z8 w1 < μ y8 w0) x0 x1 x2 y8 w0
abbrev q3 (R : Ending → World → Prop) : Exit → Env → World → Prop := QX (fun ρ w => b5 R  w) (fun ρ w => R (.returned (ρ 6)) w) [(4, (fun ρ w => b5 R  w))]
theorem l8_ok (R : Ending → World → Prop) (ρ : Env) (w : World) (h : l8 R (ρ 0) (ρ 1) (ρ 2) (ρ 8) w) : codeP Try.prog (pan R) (blkC p3) (q3 R) ρ w := by
  unfold l8 at h
  obtain ⟨J, μ, h0, hr⟩ := h
  have e : Code.loop (loopC (blkC p3)) = (blkC p3) := by kernel_rfl
  rw [← e]
  refine loopQ (fun ρ' w' => J (ρ' 8) w') (fun ρ' w' => μ (ρ' 8) w') h0 fun ρ' w' hA hI => ?_
  have e0 : ρ' 0 = ρ 0 := Agree.at hA 0 (by kernel_rfl)
  have e1 : ρ' 1 = ρ 1 := Agree.at hA 1 (by kernel_rfl)
  have e2 : ρ' 2 = ρ 2 := Agree.at hA 2 (by kernel_rfl)
  have h1 := hr (ρ' 8) w' hI
  rw [← e0, ← e1, ← e2] at h1
  exact b9_ok R (fun z8 w1 => J z8 w1 ∧ μ z8 w1 < μ (ρ' 8) w') ρ' w' h1
theorem l8_intro (R : Ending → World → Prop) (x0 x1 x2 x8 : Value) (w : World) (J : Value → World → Prop) (μ : Value → World → Nat) (h0 : J x8 w)
    (hr : ∀ y8 w0, J y8 w0 → ∀ C8 : Value → World → Prop, (∀ z8 w1, J z8 w1 → μ z8 w1 < μ y8 w0 → C8 z8 w1) → b9 R C8 x0 x1 x2 y8 w0) : l8 R x0 x1 x2 x8 w := by
  unfold l8
  exact ⟨J, μ, h0, fun y8 w0 hJ => hr y8 w0 hJ _ (fun z8 w1 h1 h2 => ⟨h1, h2⟩)⟩
abbrev q4 (R : Ending → World → Prop) : Exit → Env → World → Prop := QX (fun ρ w => b5 R  w) (fun ρ w => R (.returned (ρ 6)) w) []
theorem k7_ok (R : Ending → World → Prop) (ρ : Env) (w : World) (h : l8 R (ρ 0) (ρ 1) (ρ 2) (ρ 8) w) : codeP Try.prog (pan R) p3 (q4 R) ρ w := by
  have e : Code.block 2 (blkC p3) = p3 := by kernel_rfl
  rw [← e]
  exact blockQ (l8_ok R ρ w h)
/- x0 b, x1 level, x2 prods -/
def b6 (R : Ending → World → Prop) (x0 x1 x2 : Value) (w : World) (_r : Tok R := tok R) : Prop :=
  l8 R x0 x1 x2 (Go.Value.int Go.IntKind.i64 0) w
abbrev q5 (R : Ending → World → Prop) : Exit → Env → World → Prop := QX (fun ρ w => l8 R (ρ 0) (ρ 1) (ρ 2) (ρ 8) w) (fun ρ w => R (.returned (ρ 6)) w) []
theorem b6_eq (R : Ending → World → Prop) (ρ : Env) (w : World) : (b6 R (ρ 0) (ρ 1) (ρ 2) w) = codeP Try.prog (pan R) (preC 0 (fstC p2)) (q5 R) ρ w := by kernel_rfl
theorem b6_ok (R : Ending → World → Prop) (ρ : Env) (w : World) (h : b6 R (ρ 0) (ρ 1) (ρ 2) w) : codeP Try.prog (pan R) (fstC p2) (q4 R) ρ w := by
  have e : appC 0 (preC 0 (fstC p2)) (dropC 1 (fstC p2)) = (fstC p2) := by kernel_rfl
  rw [← e]
  exact appQ (fun ρ w => l8 R (ρ 0) (ρ 1) (ρ 2) (ρ 8) w) 0 ((b6_eq R ρ w).mp h) (fun ρ w h => k7_ok R ρ w h)
theorem k4_ok (R : Ending → World → Prop) (ρ : Env) (w : World) (h : b6 R (ρ 0) (ρ 1) (ρ 2) w) : codeP Try.prog (pan R) p2 (q1 R) ρ w := by
  have e : Code.seq (fstC p2) (sndC p2) = p2 := by kernel_rfl
  rw [← e]
  exact seqQ (fun ρ w => b5 R  w) (b6_ok R ρ w h) (fun ρ w h => b5_ok R ρ w h)
noncomputable abbrev p5 : Code := fstC (sndC p1)
noncomputable abbrev p6 : Code := dropC 1 p5
noncomputable abbrev p7 : Code := loopC (blkC p6)
noncomputable abbrev p8 : Code := dropC 1 p7
/- x7 i -/
def b15 (R : Ending → World → Prop) (C12 : Value → World → Prop) (x7 : Value) (w : World) (_r : Tok R := tok R) (_C12 : Tok C12 := tok C12) : Prop :=
  RUN Try.prog (pan R) (bins .add 3 (.tmp 24) (.const (Go.Value.int Go.IntKind.i64 1)) x7 (Go.Value.int Go.IntKind.i64 1)) w fun v1 w2 =>
  C12 v1 w2
abbrev q6 (R : Ending → World → Prop) (C12 : Value → World → Prop) : Exit → Env → World → Prop := QX (fun ρ w => C12 (ρ 7) w) (fun ρ w => R (.returned (ρ 6)) w) [(0, (fun ρ w => b6 R (ρ 0) (ρ 1) (ρ 2) w))]
theorem b15_eq (R : Ending → World → Prop) (C12 : Value → World → Prop) (ρ : Env) (w : World) : (b15 R C12 (ρ 7) w) = codeP Try.prog (pan R) (sndC p8) (q6 R C12) ρ w := by kernel_rfl
theorem b15_ok (R : Ending → World → Prop) (C12 : Value → World → Prop) (ρ : Env) (w : World) (h : b15 R C12 (ρ 7) w) : codeP Try.prog (pan R) (sndC p8) (q6 R C12) ρ w := (b15_eq R C12 ρ w).mp h
noncomputable abbrev p9 : Code := blkC (fstC p8)
noncomputable abbrev p10 : Code := dropC 1 p9
/- x7 i -/
def b18 (R : Ending → World → Prop) (C12 : Value → World → Prop) (x7 x42 : Value) (w : World) (_r : Tok R := tok R) (_C12 : Tok C12 := tok C12) : Prop :=
  SPL x42
  (R (.returned (Go.Value.int Go.IntKind.i64 1)) w)
  (b15 R C12 x7 w)
abbrev q7 (R : Ending → World → Prop) (C12 : Value → World → Prop) : Exit → Env → World → Prop := QX (fun ρ w => b15 R C12 (ρ 7) w) (fun ρ w => R (.returned (ρ 6)) w) [(2, (fun ρ w => b15 R C12 (ρ 7) w)), (0, (fun ρ w => b6 R (ρ 0) (ρ 1) (ρ 2) w))]
theorem b18_eq (R : Ending → World → Prop) (C12 : Value → World → Prop) (ρ : Env) (w : World) : (b18 R C12 (ρ 7) (ρ 42) w) = codeP Try.prog (pan R) p10 (q7 R C12) ρ w := by kernel_rfl
theorem b18_ok (R : Ending → World → Prop) (C12 : Value → World → Prop) (ρ : Env) (w : World) (h : b18 R C12 (ρ 7) (ρ 42) w) : codeP Try.prog (pan R) p10 (q7 R C12) ρ w := (b18_eq R C12 ρ w).mp h
def b17_1 (R : Ending → World → Prop) (C12 : Value → World → Prop) (x0 x2 x7 : Value) (w : World) (_r : Tok R := tok R) (_C12 : Tok C12 := tok C12) : Prop :=
  PUR Try.prog (Instr.indexAt 30 x2 x7) fun v4 =>
  LD Try.prog (Instr.loadAt 3 v4) (World.drew w) fun v5 =>
  NILC x0 fun v6 =>
  PUR Try.prog (Instr.fieldAt 66 v6 3) fun v7 =>
  LD Try.prog (Instr.loadAt 64 v7) (World.drew w) fun v8 =>
  LD Try.prog (Builtin.len_ #[64] 3 #[v8]) (World.drew w) fun v9 =>
  PUR Try.prog (bins .geq 3 (.tmp 35) (.tmp 40) v5 v9) fun v10 =>
  b18 R C12 x7 v10 (World.drew w)
/- x0 b, x2 prods, x7 i -/
def b17 (R : Ending → World → Prop) (C12 : Value → World → Prop) (x0 x2 x7 : Value) (w : World) (_r : Tok R := tok R) (_C12 : Tok C12 := tok C12) : Prop :=
  PUR Try.prog (Instr.indexAt 30 x2 x7) fun v1 =>
  LD Try.prog (Instr.loadAt 3 v1) (World.drew w) fun v2 =>
  PUR Try.prog (bins .lss 3 (.tmp 29) (.const (Go.Value.int Go.IntKind.i64 0)) v2 (Go.Value.int Go.IntKind.i64 0)) fun v3 =>
  SPL v3
  (b18 R C12 x7 (Go.Value.bool Bool.true) (World.drew w))
  (b17_1 R C12 x0 x2 x7 w)
abbrev q8 (R : Ending → World → Prop) (C12 : Value → World → Prop) : Exit → Env → World → Prop := QX (fun ρ w => b18 R C12 (ρ 7) (ρ 42) w) (fun ρ w => R (.returned (ρ 6)) w) [(2, (fun ρ w => b15 R C12 (ρ 7) w)), (0, (fun ρ w => b6 R (ρ 0) (ρ 1) (ρ 2) w))]
theorem b17_eq (R : Ending → World → Prop) (C12 : Value → World → Prop) (ρ : Env) (w : World) : (b17 R C12 (ρ 0) (ρ 2) (ρ 7) w) = codeP Try.prog (pan R) (preC 0 p9) (q8 R C12) ρ w := by kernel_rfl
theorem b17_ok (R : Ending → World → Prop) (C12 : Value → World → Prop) (ρ : Env) (w : World) (h : b17 R C12 (ρ 0) (ρ 2) (ρ 7) w) : codeP Try.prog (pan R) p9 (q7 R C12) ρ w := by
  have e : appC 0 (preC 0 p9) (dropC 1 p9) = p9 := by kernel_rfl
  rw [← e]
  exact appQ (fun ρ w => b18 R C12 (ρ 7) (ρ 42) w) 0 ((b17_eq R C12 ρ w).mp h) (fun ρ w h => b18_ok R C12 ρ w h)
abbrev q9 (R : Ending → World → Prop) (C12 : Value → World → Prop) : Exit → Env → World → Prop := QX (fun ρ w => b15 R C12 (ρ 7) w) (fun ρ w => R (.returned (ρ 6)) w) [(0, (fun ρ w => b6 R (ρ 0) (ρ 1) (ρ 2) w))]
theorem k16_ok (R : Ending → World → Prop) (C12 : Value → World → Prop) (ρ : Env) (w : World) (h : b17 R C12 (ρ 0) (ρ 2) (ρ 7) w) : codeP Try.prog (pan R) (fstC p8) (q9 R C12) ρ w := by
  have e : Code.block 1 (blkC (fstC p8)) = (fstC p8) := by kernel_rfl
  rw [← e]
  exact blockQ (b17_ok R C12 ρ w h)
theorem k14_ok (R : Ending → World → Prop) (C12 : Value → World → Prop) (ρ : Env) (w : World) (h : b17 R C12 (ρ 0) (ρ 2) (ρ 7) w) : codeP Try.prog (pan R) p8 (q6 R C12) ρ w := by
  have e : Code.seq (fstC p8) (sndC p8) = p8 := by kernel_rfl
  rw [← e]
  exact seqQ (fun ρ w => b15 R C12 (ρ 7) w) (k16_ok R C12 ρ w h) (fun ρ w h => b15_ok R C12 ρ w h)
/- x0 b, x1 level, x2 prods, x7 i -/
def b13 (R : Ending → World → Prop) (C12 : Value → World → Prop) (x0 x1 x2 x7 : Value) (w : World) (_r : Tok R := tok R) (_C12 : Tok C12 := tok C12) : Prop :=
  RUN Try.prog (pan R) (Builtin.len_ #[30] 3 #[x2]) w fun v1 w2 =>
  RUN Try.prog (pan R) (bins .lss 3 (.tmp 20) (.tmp 22) x7 v1) w2 fun v3 w4 =>
  SPL v3
  (b17 R C12 x0 x2 x7 w4)
  (b6 R x0 x1 x2 w4)
abbrev q10 (R : Ending → World → Prop) (C12 : Value → World → Prop) : Exit → Env → World → Prop := QX (fun ρ w => b17 R C12 (ρ 0) (ρ 2) (ρ 7) w) (fun ρ w => R (.returned (ρ 6)) w) [(0, (fun ρ w => b6 R (ρ 0) (ρ 1) (ρ 2) w))]
theorem b13_eq (R : Ending → World → Prop) (C12 : Value → World → Prop) (ρ : Env) (w : World) : (b13 R C12 (ρ 0) (ρ 1) (ρ 2) (ρ 7) w) = codeP Try.prog (pan R) (preC 0 p7) (q10 R C12) ρ w := by kernel_rfl
theorem b13_ok (R : Ending → World → Prop) (C12 : Value → World → Prop) (ρ : Env) (w : World) (h : b13 R C12 (ρ 0) (ρ 1) (ρ 2) (ρ 7) w) : codeP Try.prog (pan R) p7 (q6 R C12) ρ w := by
  have e : appC 0 (preC 0 p7) (dropC 1 p7) = p7 := by kernel_rfl
  rw [← e]
  exact appQ (fun ρ w => b17 R C12 (ρ 0) (ρ 2) (ρ 7) w) 0 ((b13_eq R C12 ρ w).mp h) (fun ρ w h => k14_ok R C12 ρ w h)
/- x0 b, x1 level, x2 prods, x7 i -/
def l12 (R : Ending → World → Prop) (x0 x1 x2 x7 : Value) (w : World) (_r : Tok R := tok R) : Prop :=
  ∃ (J : Value → World → Prop) (μ : Value → World → Nat), J x7 w ∧ ∀ y7 w0, J y7 w0 → b13 R (fun z7 w1 => J z7 w1 ∧ μ z7 w1 < μ y7 w0) x0 x1 x2 y7 w0
abbrev q11 (R : Ending → World → Prop) : Exit → Env → World → Prop := QX (fun ρ w => b6 R (ρ 0) (ρ 1) (ρ 2) w) (fun ρ w => R (.returned (ρ 6)) w) [(0, (fun ρ w => b6 R (ρ 0) (ρ 1) (ρ 2) w))]
theorem l12_ok (R : Ending → World → Prop) (ρ : Env) (w : World) (h : l12 R (ρ 0) (ρ 1) (ρ 2) (ρ 7) w) : codeP Try.prog (pan R) (blkC p6) (q11 R) ρ w := by
  unfold l12 at h
  obtain ⟨J, μ, h0, hr⟩ := h
  have e : Code.loop (loopC (blkC p6)) = (blkC p6) := by kernel_rfl
  rw [← e]
  refine loopQ (fun ρ' w' => J (ρ' 7) w') (fun ρ' w' => μ (ρ' 7) w') h0 fun ρ' w' hA hI => ?_
  have e0 : ρ' 0 = ρ 0 := Agree.at hA 0 (by kernel_rfl)
  have e1 : ρ' 1 = ρ 1 := Agree.at hA 1 (by kernel_rfl)
  have e2 : ρ' 2 = ρ 2 := Agree.at hA 2 (by kernel_rfl)
  have h1 := hr (ρ' 7) w' hI
  rw [← e0, ← e1, ← e2] at h1
  exact b13_ok R (fun z7 w1 => J z7 w1 ∧ μ z7 w1 < μ (ρ' 7) w') ρ' w' h1
theorem l12_intro (R : Ending → World → Prop) (x0 x1 x2 x7 : Value) (w : World) (J : Value → World → Prop) (μ : Value → World → Nat) (h0 : J x7 w)
    (hr : ∀ y7 w0, J y7 w0 → ∀ C12 : Value → World → Prop, (∀ z7 w1, J z7 w1 → μ z7 w1 < μ y7 w0 → C12 z7 w1) → b13 R C12 x0 x1 x2 y7 w0) : l12 R x0 x1 x2 x7 w := by
  unfold l12
  exact ⟨J, μ, h0, fun y7 w0 hJ => hr y7 w0 hJ _ (fun z7 w1 h1 h2 => ⟨h1, h2⟩)⟩
abbrev q12 (R : Ending → World → Prop) : Exit → Env → World → Prop := QX (fun ρ w => b6 R (ρ 0) (ρ 1) (ρ 2) w) (fun ρ w => R (.returned (ρ 6)) w) []
theorem k11_ok (R : Ending → World → Prop) (ρ : Env) (w : World) (h : l12 R (ρ 0) (ρ 1) (ρ 2) (ρ 7) w) : codeP Try.prog (pan R) p6 (q12 R) ρ w := by
  have e : Code.block 0 (blkC p6) = p6 := by kernel_rfl
  rw [← e]
  exact blockQ (l12_ok R ρ w h)
/- x0 b, x1 level, x2 prods -/
def b10 (R : Ending → World → Prop) (x0 x1 x2 : Value) (w : World) (_r : Tok R := tok R) : Prop :=
  l12 R x0 x1 x2 (Go.Value.int Go.IntKind.i64 0) w
abbrev q13 (R : Ending → World → Prop) : Exit → Env → World → Prop := QX (fun ρ w => l12 R (ρ 0) (ρ 1) (ρ 2) (ρ 7) w) (fun ρ w => R (.returned (ρ 6)) w) []
theorem b10_eq (R : Ending → World → Prop) (ρ : Env) (w : World) : (b10 R (ρ 0) (ρ 1) (ρ 2) w) = codeP Try.prog (pan R) (preC 0 p5) (q13 R) ρ w := by kernel_rfl
theorem b10_ok (R : Ending → World → Prop) (ρ : Env) (w : World) (h : b10 R (ρ 0) (ρ 1) (ρ 2) w) : codeP Try.prog (pan R) p5 (q12 R) ρ w := by
  have e : appC 0 (preC 0 p5) (dropC 1 p5) = p5 := by kernel_rfl
  rw [← e]
  exact appQ (fun ρ w => l12 R (ρ 0) (ρ 1) (ρ 2) (ρ 7) w) 0 ((b10_eq R ρ w).mp h) (fun ρ w h => k11_ok R ρ w h)
theorem k3_ok (R : Ending → World → Prop) (ρ : Env) (w : World) (h : b10 R (ρ 0) (ρ 1) (ρ 2) w) : codeP Try.prog (pan R) (sndC p1) (q1 R) ρ w := by
  have e : Code.seq (fstC (sndC p1)) (sndC (sndC p1)) = (sndC p1) := by kernel_rfl
  rw [← e]
  exact seqQ (fun ρ w => b6 R (ρ 0) (ρ 1) (ρ 2) w) (b10_ok R ρ w h) (fun ρ w h => k4_ok R ρ w h)
noncomputable abbrev p11 : Code := dropC 1 (fstC p1)
/- x0 b, x1 level, x2 prods -/
def b20 (R : Ending → World → Prop) (x0 x1 x2 x19 : Value) (w : World) (_r : Tok R := tok R) : Prop :=
  SPL x19
  (R (.returned (Go.Value.int Go.IntKind.i64 1)) w)
  (b10 R x0 x1 x2 w)
abbrev q14 (R : Ending → World → Prop) : Exit → Env → World → Prop := QX (fun ρ w => b10 R (ρ 0) (ρ 1) (ρ 2) w) (fun ρ w => R (.returned (ρ 6)) w) []
theorem b20_eq (R : Ending → World → Prop) (ρ : Env) (w : World) : (b20 R (ρ 0) (ρ 1) (ρ 2) (ρ 19) w) = codeP Try.prog (pan R) p11 (q14 R) ρ w := by kernel_rfl
theorem b20_ok (R : Ending → World → Prop) (ρ : Env) (w : World) (h : b20 R (ρ 0) (ρ 1) (ρ 2) (ρ 19) w) : codeP Try.prog (pan R) p11 (q14 R) ρ w := (b20_eq R ρ w).mp h
def b19_1 (R : Ending → World → Prop) (x0 x1 x2 : Value) (w2 : World) (_r : Tok R := tok R) : Prop :=
  NILC x0 fun v3 =>
  RUN Try.prog (pan R) (Instr.fieldAt 66 v3 2) w2 fun v4 w5 =>
  RUN Try.prog (pan R) (Instr.loadAt 30 v4) w5 fun v6 w7 =>
  RUN Try.prog (pan R) (Builtin.len_ #[30] 3 #[v6]) w7 fun v8 w9 =>
  RUN Try.prog (pan R) (bins .gtr 3 (.tmp 12) (.tmp 17) x1 v8) w9 fun v10 w11 =>
  b20 R x0 x1 x2 v10 w11
/- x0 b, x1 level, x2 prods -/
def b19 (R : Ending → World → Prop) (x0 x1 x2 : Value) (w : World) (_r : Tok R := tok R) : Prop :=
  RUN Try.prog (pan R) (bins .lss 3 (.tmp 9) (.const (Go.Value.int Go.IntKind.i64 0)) x1 (Go.Value.int Go.IntKind.i64 0)) w fun v1 w2 =>
  SPL v1
  (b20 R x0 x1 x2 (Go.Value.bool Bool.true) w2)
  (b19_1 R x0 x1 x2 w2)
abbrev q15 (R : Ending → World → Prop) : Exit → Env → World → Prop := QX (fun ρ w => b20 R (ρ 0) (ρ 1) (ρ 2) (ρ 19) w) (fun ρ w => R (.returned (ρ 6)) w) []
theorem b19_eq (R : Ending → World → Prop) (ρ : Env) (w : World) : (b19 R (ρ 0) (ρ 1) (ρ 2) w) = codeP Try.prog (pan R) (preC 0 (fstC p1)) (q15 R) ρ w := by kernel_rfl
theorem b19_ok (R : Ending → World → Prop) (ρ : Env) (w : World) (h : b19 R (ρ 0) (ρ 1) (ρ 2) w) : codeP Try.prog (pan R) (fstC p1) (q14 R) ρ w := by
  have e : appC 0 (preC 0 (fstC p1)) (dropC 1 (fstC p1)) = (fstC p1) := by kernel_rfl
  rw [← e]
  exact appQ (fun ρ w => b20 R (ρ 0) (ρ 1) (ρ 2) (ρ 19) w) 0 ((b19_eq R ρ w).mp h) (fun ρ w h => b20_ok R ρ w h)
theorem k2_ok (R : Ending → World → Prop) (ρ : Env) (w : World) (h : b19 R (ρ 0) (ρ 1) (ρ 2) w) : codeP Try.prog (pan R) p1 (q1 R) ρ w := by
  have e : Code.seq (fstC p1) (sndC p1) = p1 := by kernel_rfl
  rw [← e]
  exact seqQ (fun ρ w => b10 R (ρ 0) (ρ 1) (ρ 2) w) (b19_ok R ρ w h) (fun ρ w h => k3_ok R ρ w h)
/- x0 b, x1 level, x2 prods -/
def b1 (R : Ending → World → Prop) (x0 x1 x2 : Value) (w : World) (_r : Tok R := tok R) : Prop :=
  b19 R x0 x1 x2 w
abbrev q16 (R : Ending → World → Prop) : Exit → Env → World → Prop := QX (fun ρ w => b19 R (ρ 0) (ρ 1) (ρ 2) w) (fun ρ w => R (.returned (ρ 6)) w) []
theorem b1_eq (R : Ending → World → Prop) (ρ : Env) (w : World) : (b1 R (ρ 0) (ρ 1) (ρ 2) w) = codeP Try.prog (pan R) (preC 0 code) (q16 R) ρ w := by kernel_rfl
theorem b1_ok (R : Ending → World → Prop) (ρ : Env) (w : World) (h : b1 R (ρ 0) (ρ 1) (ρ 2) w) : codeP Try.prog (pan R) code (q1 R) ρ w := by
  have e : appC 0 (preC 0 code) (dropC 1 code) = code := by kernel_rfl
  rw [← e]
  exact appQ (fun ρ w => b19 R (ρ 0) (ρ 1) (ρ 2) w) 0 ((b1_eq R ρ w).mp h) (fun ρ w h => k2_ok R ρ w h)
/-- What is owed for a call. -/
def run (R : Ending → World → Prop) (a0 a1 a2 : Value) (w : World) : Prop := b1 R a0 a1 a2 w
theorem calls (R : Ending → World → Prop) (a0 a1 a2 : Value) (w : World) (h : run R a0 a1 a2 w) : Calls Try.prog id #[a0, a1, a2] w R :=
  calls_of_t (f := id) (fn := Try.f85) (c := code) (by kernel_rfl) Try.func85 (by kernel_rfl) (by kernel_rfl) (args := [a0, a1, a2]) (Nat.le_of_ble_eq_true rfl) rfl (b1_ok R (envOf [a0, a1, a2]) w h)
theorem enters : Enters Try.prog id := fun args w => Try.call85 args w
theorem ct {a0 a1 a2 : Value} {w : World} {S : Value → World → Prop} (h : ∀ R : Ending → World → Prop, (∀ v w, S v w → R (.returned v) w) → run R a0 a1 a2 w) : Ct Try.prog id #[a0, a1, a2] w S :=
  Ct.intro enters fun R hR => calls R a0 a1 a2 w (h R hR)
attribute [irreducible] b5 b9_1 b9 l8 b6 b15 b18 b17_1 b17 b13 l12 b10 b20 b19_1 b19 b1 run
attribute [go_sem] b5 b9_1 b9 b6 b15 b18 b17_1 b17 b13 b10 b20 b19_1 b19 b1 run
end ref02_Builder_Grade

/-! ### (*presage/presageref02.Builder).non -/
namespace ref02_Builder_non
noncomputable def code : Code := bodyOf Try.f87
def b1_1 (R : Ending → World → Prop) (x0 x1 : Value) (w2 : World) (_r : Tok R := tok R) : Prop :=
  NILC x0 fun v3 =>
  RUN Try.prog (pan R) (Instr.fieldAt 66 v3 1) w2 fun v4 w5 =>
  RUN Try.prog (pan R) (Instr.loadAt 33 v4) w5 fun v6 w7 =>
  RUN Try.prog (pan R) (Builtin.len_ #[33] 3 #[v6]) w7 fun v8 w9 =>
  RUN Try.prog (pan R) (Op.unary .neg v8) w9 fun v10 w11 =>
  RUN Try.prog (pan R) (bins .geq 3 (.tmp 8) (.tmp 14) x1 v10) w11 fun v12 w13 =>
  R (.returned v12) w13
/- x0 b, x1 h -/
def b1 (R : Ending → World → Prop) (x0 x1 : Value) (w : World) (_r : Tok R := tok R) : Prop :=
  RUN Try.prog (pan R) (bins .leq 3 (.tmp 5) (.const (Go.Value.int Go.IntKind.i64 (-1))) x1 (Go.Value.int Go.IntKind.i64 (-1))) w fun v1 w2 =>
  SPL v1
  (b1_1 R x0 x1 w2)
  (R (.returned (Go.Value.bool Bool.false)) w2)
abbrev q1 (R : Ending → World → Prop) : Exit → Env → World → Prop := QX (fun ρ w => R (.returned (ρ 4)) w) (fun ρ w => R (.returned (ρ 4)) w) []
theorem b1_eq (R : Ending → World → Prop) (ρ : Env) (w : World) : (b1 R (ρ 0) (ρ 1) w) = codeP Try.prog (pan R) code (q1 R) ρ w := by kernel_rfl
theorem b1_ok (R : Ending → World → Prop) (ρ : Env) (w : World) (h : b1 R (ρ 0) (ρ 1) w) : codeP Try.prog (pan R) code (q1 R) ρ w := (b1_eq R ρ w).mp h
/-- What is owed for a call. -/
def run (R : Ending → World → Prop) (a0 a1 : Value) (w : World) : Prop := b1 R a0 a1 w
theorem calls (R : Ending → World → Prop) (a0 a1 : Value) (w : World) (h : run R a0 a1 w) : Calls Try.prog id #[a0, a1] w R :=
  calls_of_t (f := id) (fn := Try.f87) (c := code) (by kernel_rfl) Try.func87 (by kernel_rfl) (by kernel_rfl) (args := [a0, a1]) (Nat.le_of_ble_eq_true rfl) rfl (b1_ok R (envOf [a0, a1]) w h)
theorem enters : Enters Try.prog id := fun args w => Try.call87 args w
theorem ct {a0 a1 : Value} {w : World} {S : Value → World → Prop} (h : ∀ R : Ending → World → Prop, (∀ v w, S v w → R (.returned v) w) → run R a0 a1 w) : Ct Try.prog id #[a0, a1] w S :=
  Ct.intro enters fun R hR => calls R a0 a1 w (h R hR)
attribute [irreducible] b1_1 b1 run
attribute [go_sem] b1_1 b1 run
end ref02_Builder_non

/-! ### (*presage/presageref02.Builder).term -/
namespace ref02_Builder_term
noncomputable def code : Code := bodyOf Try.f95
def b1_1 (R : Ending → World → Prop) (x0 x1 : Value) (w2 : World) (_r : Tok R := tok R) : Prop :=
  NILC x0 fun v3 =>
  RUN Try.prog (pan R) (Instr.fieldAt 66 v3 0) w2 fun v4 w5 =>
  RUN Try.prog (pan R) (Instr.loadAt 32 v4) w5 fun v6 w7 =>
  RUN Try.prog (pan R) (Builtin.len_ #[32] 3 #[v6]) w7 fun v8 w9 =>
  RUN Try.prog (pan R) (bins .leq 3 (.tmp 8) (.tmp 13) x1 v8) w9 fun v10 w11 =>
  R (.returned v10) w11
/- x0 b, x1 h -/
def b1 (R : Ending → World → Prop) (x0 x1 : Value) (w : World) (_r : Tok R := tok R) : Prop :=
  RUN Try.prog (pan R) (bins .geq 3 (.tmp 5) (.const (Go.Value.int Go.IntKind.i64 1)) x1 (Go.Value.int Go.IntKind.i64 1)) w fun v1 w2 =>
  SPL v1
  (b1_1 R x0 x1 w2)
  (R (.returned (Go.Value.bool Bool.false)) w2)
abbrev q1 (R : Ending → World → Prop) : Exit → Env → World → Prop := QX (fun ρ w => R (.returned (ρ 4)) w) (fun ρ w => R (.returned (ρ 4)) w) []
theorem b1_eq (R : Ending → World → Prop) (ρ : Env) (w : World) : (b1 R (ρ 0) (ρ 1) w) = codeP Try.prog (pan R) code (q1 R) ρ w := by kernel_rfl
theorem b1_ok (R : Ending → World → Prop) (ρ : Env) (w : World) (h : b1 R (ρ 0) (ρ 1) w) : codeP Try.prog (pan R) code (q1 R) ρ w := (b1_eq R ρ w).mp h
/-- What is owed for a call. -/
def run (R : Ending → World → Prop) (a0 a1 : Value) (w : World) : Prop := b1 R a0 a1 w
theorem calls (R : Ending → World → Prop) (a0 a1 : Value) (w : World) (h : run R a0 a1 w) : Calls Try.prog id #[a0, a1] w R :=
  calls_of_t (f := id) (fn := Try.f95) (c := code) (by kernel_rfl) Try.func95 (by kernel_rfl) (by kernel_rfl) (args := [a0, a1]) (Nat.le_of_ble_eq_true rfl) rfl (b1_ok R (envOf [a0, a1]) w h)
theorem enters : Enters Try.prog id := fun args w => Try.call95 args w
theorem ct {a0 a1 : Value} {w : World} {S : Value → World → Prop} (h : ∀ R : Ending → World → Prop, (∀ v w, S v w → R (.returned v) w) → run R a0 a1 w) : Ct Try.prog id #[a0, a1] w S :=
  Ct.intro enters fun R hR => calls R a0 a1 w (h R hR)
attribute [irreducible] b1_1 b1 run
attribute [go_sem] b1_1 b1 run
end ref02_Builder_term
end Go.Proofs.Ytmhebgebfjnfjaa

