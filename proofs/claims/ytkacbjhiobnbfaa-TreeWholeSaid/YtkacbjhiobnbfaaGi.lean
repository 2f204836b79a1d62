/- Shallow programs, written by a program of ours (gen.py) off the translation; each is tied to the code by the kernel. -/
import Derived.Test.YtkacbjhiobnbfaaGa
set_option linter.unusedVariables false
set_option maxRecDepth 100000
namespace Go.Proofs.Ytkacbjhiobnbfaa
open Go.Px

/-! ### presage/presagelaw20.TreeReads -/
namespace law20_TreeReads
noncomputable def code : Code := bodyOf Try.f7
def b1_1 (R : EP) (x0 v1 : Value) (w34 : World) (_r : Tok R := tok R) : Prop :=
  CALL Try.prog (pan R) ref20_Same.id #[v1, x0] w34 fun v35 w36 =>
  SPL v35
  (CALL Try.prog (pan R) law20_awake.id #[] w36 fun v37 w38 =>
  R (.returned v37) w38)
  (R (.returned (Go.Value.bool Bool.false)) w36)
def b1_2 (R : EP) (x0 v1 v5 v11 v17 v23 : Value) (w30 : World) (_r : Tok R := tok R) : Prop :=
  CALL Try.prog (pan R) ref01_Ints.id #[v5, v17] w30 fun v31 w32 =>
  SPL v31
  (CALL Try.prog (pan R) ref01_Ints.id #[v11, v23] w32 fun v33 w34 =>
  SPL v33
  (b1_1 R x0 v1 w34)
  (R (.returned (Go.Value.bool Bool.false)) w34))
  (R (.returned (Go.Value.bool Bool.false)) w32)
def b1_3 (R : EP) (x0 v1 v5 v7 v11 v13 v17 v19 v21 : Value) (w22 : World) (_r : Tok R := tok R) : Prop :=
  RUN Try.prog (pan R) (Instr.extract v21 0) w22 fun v23 w24 =>
  RUN Try.prog (pan R) (Instr.extract v21 1) w24 fun v25 w26 =>
  RUN Try.prog (pan R) (bins .eql 29 (.tmp 40) (.tmp 41) v7 v19) w26 fun v27 w28 =>
  SPL v27
  (RUN Try.prog (pan R) (bins .eql 29 (.tmp 44) (.tmp 45) v13 v25) w28 fun v29 w30 =>
  SPL v29
  (b1_2 R x0 v1 v5 v11 v17 v23 w30)
  (R (.returned (Go.Value.bool Bool.false)) w30))
  (R (.returned (Go.Value.bool Bool.false)) w28)
def b1_4 (R : EP) (x0 x1 v1 v5 v7 v11 v13 v15 : Value) (w16 : World) (_r : Tok R := tok R) : Prop :=
  RUN Try.prog (pan R) (Instr.extract v15 0) w16 fun v17 w18 =>
  RUN Try.prog (pan R) (Instr.extract v15 1) w18 fun v19 w20 =>
  CALL Try.prog (pan R) ref20_Rightmost.id #[x0, x1] w20 fun v21 w22 =>
  b1_3 R x0 v1 v5 v7 v11 v13 v17 v19 v21 w22
def b1_5 (R : EP) (x0 x1 v1 v5 v7 v9 : Value) (w10 : World) (_r : Tok R := tok R) : Prop :=
  RUN Try.prog (pan R) (Instr.extract v9 0) w10 fun v11 w12 =>
  RUN Try.prog (pan R) (Instr.extract v9 1) w12 fun v13 w14 =>
  CALL Try.prog (pan R) ref20_Frontier.id #[x0, x1] w14 fun v15 w16 =>
  b1_4 R x0 x1 v1 v5 v7 v11 v13 v15 w16
def b1_6 (R : EP) (x0 x1 v1 v3 : Value) (w4 : World) (_r : Tok R := tok R) : Prop :=
  RUN Try.prog (pan R) (Instr.extract v3 0) w4 fun v5 w6 =>
  RUN Try.prog (pan R) (Instr.extract v3 1) w6 fun v7 w8 =>
  CALL Try.prog (pan R) tree_Rightmost.id #[v1, x1] w8 fun v9 w10 =>
  b1_5 R x0 x1 v1 v5 v7 v9 w10

def b1 (R : EP) (x0 x1 : Value) (w : World) (_r : Tok R := tok R) : Prop :=
  CALL Try.prog (pan R) ref20_Copy.id #[x0] w fun v1 w2 =>
  CALL Try.prog (pan R) tree_Frontier.id #[v1, x1] w2 fun v3 w4 =>
  b1_6 R x0 x1 v1 v3 w4
abbrev q1 (R : EP) : XP := QX (fun ρ w => R (.returned (ρ 4)) w) (fun ρ w => R (.returned (ρ 4)) w) []
theorem b1_eq (R : EP) (ρ : Env) (w : World) : (b1 R (ρ 0) (ρ 1) w) = codeP Try.prog (pan R) code (q1 R) ρ w := by kernel_rfl
theorem b1_ok (R : EP) (ρ : Env) (w : World) (h : b1 R (ρ 0) (ρ 1) w) : codeP Try.prog (pan R) code (q1 R) ρ w := (b1_eq R ρ w).mp h
/-- What is owed for a call. -/
def run (R : EP) (a0 a1 : Value) (w : World) : Prop := b1 R a0 a1 w
theorem calls (R : EP) (a0 a1 : Value) (w : World) (h : run R a0 a1 w) : Calls Try.prog id #[a0, a1] w R :=
  calls_of_t (f := id) (fn := Try.f7) (c := code) (by kernel_rfl) Try.func7 (by kernel_rfl) (by kernel_rfl) (args := [a0, a1]) (Nat.le_of_ble_eq_true rfl) rfl (b1_ok R (envOf [a0, a1]) w h)
theorem enters : Enters Try.prog id := fun args w => Try.call7 args w
theorem ct {a0 a1 : Value} {w : World} {S : VP} (h : ∀ R : EP, (∀ v w, S v w → R (.returned v) w) → run R a0 a1 w) : Ct Try.prog id #[a0, a1] w S :=
  Ct.intro enters fun R hR => calls R a0 a1 w (h R hR)
attribute [irreducible] b1_1 b1_2 b1_3 b1_4 b1_5 b1_6 b1 run
attribute [go_sem] b1_1 b1_2 b1_3 b1_4 b1_5 b1_6 b1 run
end law20_TreeReads





/-! ### presage/presagelaw20.TreeWhole -/
namespace law20_TreeWhole
noncomputable def code : Code := bodyOf Try.f12
noncomputable abbrev p1 : Code := dropC 3 code
noncomputable abbrev p2 : Code := dropC 2 (sndC p1)

def b5 (R : EP) (w : World) (_r : Tok R := tok R) : Prop :=
  CALL Try.prog (pan R) law20_awake.id #[] w fun v1 w2 =>
  R (.returned v1) w2
abbrev q1 (R : EP) : XP := QX (fun ρ w => R (.returned (ρ 2)) w) (fun ρ w => R (.returned (ρ 2)) w) []
theorem b5_eq (R : EP) (ρ : Env) (w : World) : (b5 R w) = codeP Try.prog (pan R) (sndC p2) (q1 R) ρ w := by kernel_rfl
theorem b5_ok (R : EP) (ρ : Env) (w : World) (h : b5 R w) : codeP Try.prog (pan R) (sndC p2) (q1 R) ρ w := (b5_eq R ρ w).mp h
noncomputable abbrev p3 : Code := dropC 1 (fstC p2)
noncomputable abbrev p4 : Code := loopC (blkC p3)
noncomputable abbrev p5 : Code := dropC 1 p4

def b11 (R : EP) (C8 : VP) (x7 : Value) (w : World) (_r : Tok R := tok R) (_C8 : Tok C8 := tok C8) : Prop :=
  RUN Try.prog (pan R) (bins .add 3 (.tmp 67) (.const (Go.Value.int Go.IntKind.i64 1)) x7 (Go.Value.int Go.IntKind.i64 1)) w fun v1 w2 =>
  C8 v1 w2
abbrev q2 (R : EP) (C8 : VP) : XP := QX (fun ρ w => C8 (ρ 7) w) (fun ρ w => R (.returned (ρ 2)) w) [(4, (fun ρ w => b5 R  w))]
theorem b11_eq (R : EP) (C8 : VP) (ρ : Env) (w : World) : (b11 R C8 (ρ 7) w) = codeP Try.prog (pan R) (sndC p5) (q2 R C8) ρ w := by kernel_rfl
theorem b11_ok (R : EP) (C8 : VP) (ρ : Env) (w : World) (h : b11 R C8 (ρ 7) w) : codeP Try.prog (pan R) (sndC p5) (q2 R C8) ρ w := (b11_eq R C8 ρ w).mp h
noncomputable abbrev p6 : Code := blkC (fstC p5)
noncomputable abbrev p7 : Code := dropC 2 p6
noncomputable abbrev p8 : Code := sndC (sndC p7)
noncomputable abbrev p9 : Code := dropC 2 p8
noncomputable abbrev p10 : Code := dropC 1 (sndC p9)

def b19 (R : EP) (C8 : VP) (x7 x178 : Value) (w : World) (_r : Tok R := tok R) (_C8 : Tok C8 := tok C8) : Prop :=
  SPL x178
  (R (.returned (Go.Value.bool Bool.false)) w)
  (b11 R C8 x7 w)
abbrev q3 (R : EP) (C8 : VP) : XP := QX (fun ρ w => b11 R C8 (ρ 7) w) (fun ρ w => R (.returned (ρ 2)) w) [(6, (fun ρ w => b11 R C8 (ρ 7) w)), (4, (fun ρ w => b5 R  w))]
theorem b19_eq (R : EP) (C8 : VP) (ρ : Env) (w : World) : (b19 R C8 (ρ 7) (ρ 178) w) = codeP Try.prog (pan R) p10 (q3 R C8) ρ w := by kernel_rfl
theorem b19_ok (R : EP) (C8 : VP) (ρ : Env) (w : World) (h : b19 R C8 (ρ 7) (ρ 178) w) : codeP Try.prog (pan R) p10 (q3 R C8) ρ w := (b19_eq R C8 ρ w).mp h
def b18_1 (R : EP) (C8 : VP) (x7 x10 x13 : Value) (w4 : World) (_r : Tok R := tok R) (_C8 : Tok C8 := tok C8) : Prop :=
  CALL Try.prog (pan R) ref01_Ints.id #[x10, x13] w4 fun v5 w6 =>
  RUN Try.prog (pan R) (Op.unary .not v5) w6 fun v7 w8 =>
  b19 R C8 x7 v7 w8

def b18 (R : EP) (C8 : VP) (x7 x8 x10 x12 x13 : Value) (w : World) (_r : Tok R := tok R) (_C8 : Tok C8 := tok C8) : Prop :=
  CALL Try.prog (pan R) ref01_Ints.id #[x8, x12] w fun v1 w2 =>
  RUN Try.prog (pan R) (Op.unary .not v1) w2 fun v3 w4 =>
  SPL v3
  (b19 R C8 x7 (Go.Value.bool Bool.true) w4)
  (b18_1 R C8 x7 x10 x13 w4)
abbrev q4 (R : EP) (C8 : VP) : XP := QX (fun ρ w => b19 R C8 (ρ 7) (ρ 178) w) (fun ρ w => R (.returned (ρ 2)) w) [(6, (fun ρ w => b11 R C8 (ρ 7) w)), (4, (fun ρ w => b5 R  w))]
theorem b18_eq (R : EP) (C8 : VP) (ρ : Env) (w : World) : (b18 R C8 (ρ 7) (ρ 8) (ρ 10) (ρ 12) (ρ 13) w) = codeP Try.prog (pan R) (preC 0 (sndC p9)) (q4 R C8) ρ w := by kernel_rfl
theorem b18_ok (R : EP) (C8 : VP) (ρ : Env) (w : World) (h : b18 R C8 (ρ 7) (ρ 8) (ρ 10) (ρ 12) (ρ 13) w) : codeP Try.prog (pan R) (sndC p9) (q3 R C8) ρ w := by
  have e : appC 0 (preC 0 (sndC p9)) (dropC 1 (sndC p9)) = (sndC p9) := by kernel_rfl
  rw [← e]
  exact appQ (fun ρ w => b19 R C8 (ρ 7) (ρ 178) w) 0 ((b18_eq R C8 ρ w).mp h) (fun ρ w h => b19_ok R C8 ρ w h)
noncomputable abbrev p11 : Code := dropC 1 (fstC p9)
noncomputable abbrev p12 : Code := loopC (blkC p11)
noncomputable abbrev p13 : Code := dropC 1 p12

def b25 (R : EP) (C8 : VP) (C22 : Value → Value → VP) (x12 x13 x14 : Value) (w : World) (_r : Tok R := tok R) (_C8 : Tok C8 := tok C8) (_C22 : Tok C22 := tok C22) : Prop :=
  RUN Try.prog (pan R) (bins .add 3 (.tmp 121) (.const (Go.Value.int Go.IntKind.i64 1)) x14 (Go.Value.int Go.IntKind.i64 1)) w fun v1 w2 =>
  C22 x12 x13 v1 w2
abbrev q5 (R : EP) (C8 : VP) (C22 : Value → Value → VP) : XP := QX (fun ρ w => C22 (ρ 12) (ρ 13) (ρ 14) w) (fun ρ w => R (.returned (ρ 2)) w) [(8, (fun ρ w => b18 R C8 (ρ 7) (ρ 8) (ρ 10) (ρ 12) (ρ 13) w)), (6, (fun ρ w => b11 R C8 (ρ 7) w)), (4, (fun ρ w => b5 R  w))]
theorem b25_eq (R : EP) (C8 : VP) (C22 : Value → Value → VP) (ρ : Env) (w : World) : (b25 R C8 C22 (ρ 12) (ρ 13) (ρ 14) w) = codeP Try.prog (pan R) (sndC p13) (q5 R C8 C22) ρ w := by kernel_rfl
theorem b25_ok (R : EP) (C8 : VP) (C22 : Value → Value → VP) (ρ : Env) (w : World) (h : b25 R C8 C22 (ρ 12) (ρ 13) (ρ 14) w) : codeP Try.prog (pan R) (sndC p13) (q5 R C8 C22) ρ w := (b25_eq R C8 C22 ρ w).mp h
noncomputable abbrev p14 : Code := blkC (fstC p13)
noncomputable abbrev p15 : Code := dropC 2 p14

def b29 (R : EP) (C8 : VP) (C22 : Value → Value → VP) (x12 x13 x14 x15 x17 : Value) (w : World) (_r : Tok R := tok R) (_C8 : Tok C8 := tok C8) (_C22 : Tok C22 := tok C22) : Prop :=
  RUN Try.prog (pan R) (Builtin.append_ #[24, 24] 24 #[x12, x15]) w fun v1 w2 =>
  RUN Try.prog (pan R) (Builtin.append_ #[24, 24] 24 #[x13, x17]) w2 fun v3 w4 =>
  b25 R C8 C22 v1 v3 x14 w4
abbrev q6 (R : EP) (C8 : VP) (C22 : Value → Value → VP) : XP := QX (fun ρ w => b25 R C8 C22 (ρ 12) (ρ 13) (ρ 14) w) (fun ρ w => R (.returned (ρ 2)) w) [(10, (fun ρ w => b25 R C8 C22 (ρ 12) (ρ 13) (ρ 14) w)), (8, (fun ρ w => b18 R C8 (ρ 7) (ρ 8) (ρ 10) (ρ 12) (ρ 13) w)), (6, (fun ρ w => b11 R C8 (ρ 7) w)), (4, (fun ρ w => b5 R  w))]
theorem b29_eq (R : EP) (C8 : VP) (C22 : Value → Value → VP) (ρ : Env) (w : World) : (b29 R C8 C22 (ρ 12) (ρ 13) (ρ 14) (ρ 15) (ρ 17) w) = codeP Try.prog (pan R) (sndC p15) (q6 R C8 C22) ρ w := by kernel_rfl
theorem b29_ok (R : EP) (C8 : VP) (C22 : Value → Value → VP) (ρ : Env) (w : World) (h : b29 R C8 C22 (ρ 12) (ρ 13) (ρ 14) (ρ 15) (ρ 17) w) : codeP Try.prog (pan R) (sndC p15) (q6 R C8 C22) ρ w := (b29_eq R C8 C22 ρ w).mp h
noncomputable abbrev p16 : Code := dropC 1 (fstC p15)

def b31 (R : EP) (C8 : VP) (C22 : Value → Value → VP) (x12 x13 x14 x15 x17 x162 : Value) (w : World) (_r : Tok R := tok R) (_C8 : Tok C8 := tok C8) (_C22 : Tok C22 := tok C22) : Prop :=
  SPL x162
  (R (.returned (Go.Value.bool Bool.false)) w)
  (b29 R C8 C22 x12 x13 x14 x15 x17 w)
abbrev q7 (R : EP) (C8 : VP) (C22 : Value → Value → VP) : XP := QX (fun ρ w => b29 R C8 C22 (ρ 12) (ρ 13) (ρ 14) (ρ 15) (ρ 17) w) (fun ρ w => R (.returned (ρ 2)) w) [(10, (fun ρ w => b25 R C8 C22 (ρ 12) (ρ 13) (ρ 14) w)), (8, (fun ρ w => b18 R C8 (ρ 7) (ρ 8) (ρ 10) (ρ 12) (ρ 13) w)), (6, (fun ρ w => b11 R C8 (ρ 7) w)), (4, (fun ρ w => b5 R  w))]
theorem b31_eq (R : EP) (C8 : VP) (C22 : Value → Value → VP) (ρ : Env) (w : World) : (b31 R C8 C22 (ρ 12) (ρ 13) (ρ 14) (ρ 15) (ρ 17) (ρ 162) w) = codeP Try.prog (pan R) p16 (q7 R C8 C22) ρ w := by kernel_rfl
theorem b31_ok (R : EP) (C8 : VP) (C22 : Value → Value → VP) (ρ : Env) (w : World) (h : b31 R C8 C22 (ρ 12) (ρ 13) (ρ 14) (ρ 15) (ρ 17) (ρ 162) w) : codeP Try.prog (pan R) p16 (q7 R C8 C22) ρ w := (b31_eq R C8 C22 ρ w).mp h

def b30 (R : EP) (C8 : VP) (C22 : Value → Value → VP) (x12 x13 x14 x15 x16 x17 x18 : Value) (w : World) (_r : Tok R := tok R) (_C8 : Tok C8 := tok C8) (_C22 : Tok C22 := tok C22) : Prop :=
  RUN Try.prog (pan R) (bins .neq 29 (.tmp 157) (.const (Go.Value.int Go.IntKind.i64 0)) x16 (Go.Value.int Go.IntKind.i64 0)) w fun v1 w2 =>
  SPL v1
  (b31 R C8 C22 x12 x13 x14 x15 x17 (Go.Value.bool Bool.true) w2)
  (RUN Try.prog (pan R) (bins .neq 29 (.tmp 160) (.const (Go.Value.int Go.IntKind.i64 0)) x18 (Go.Value.int Go.IntKind.i64 0)) w2 fun v3 w4 =>
  b31 R C8 C22 x12 x13 x14 x15 x17 v3 w4)
abbrev q8 (R : EP) (C8 : VP) (C22 : Value → Value → VP) : XP := QX (fun ρ w => b31 R C8 C22 (ρ 12) (ρ 13) (ρ 14) (ρ 15) (ρ 17) (ρ 162) w) (fun ρ w => R (.returned (ρ 2)) w) [(10, (fun ρ w => b25 R C8 C22 (ρ 12) (ρ 13) (ρ 14) w)), (8, (fun ρ w => b18 R C8 (ρ 7) (ρ 8) (ρ 10) (ρ 12) (ρ 13) w)), (6, (fun ρ w => b11 R C8 (ρ 7) w)), (4, (fun ρ w => b5 R  w))]
theorem b30_eq (R : EP) (C8 : VP) (C22 : Value → Value → VP) (ρ : Env) (w : World) : (b30 R C8 C22 (ρ 12) (ρ 13) (ρ 14) (ρ 15) (ρ 16) (ρ 17) (ρ 18) w) = codeP Try.prog (pan R) (preC 0 (fstC p15)) (q8 R C8 C22) ρ w := by kernel_rfl
theorem b30_ok (R : EP) (C8 : VP) (C22 : Value → Value → VP) (ρ : Env) (w : World) (h : b30 R C8 C22 (ρ 12) (ρ 13) (ρ 14) (ρ 15) (ρ 16) (ρ 17) (ρ 18) w) : codeP Try.prog (pan R) (fstC p15) (q7 R C8 C22) ρ w := by
  have e : appC 0 (preC 0 (fstC p15)) (dropC 1 (fstC p15)) = (fstC p15) := by kernel_rfl
  rw [← e]
  exact appQ (fun ρ w => b31 R C8 C22 (ρ 12) (ρ 13) (ρ 14) (ρ 15) (ρ 17) (ρ 162) w) 0 ((b30_eq R C8 C22 ρ w).mp h) (fun ρ w h => b31_ok R C8 C22 ρ w h)
theorem k28_ok (R : EP) (C8 : VP) (C22 : Value → Value → VP) (ρ : Env) (w : World) (h : b30 R C8 C22 (ρ 12) (ρ 13) (ρ 14) (ρ 15) (ρ 16) (ρ 17) (ρ 18) w) : codeP Try.prog (pan R) p15 (q6 R C8 C22) ρ w := by
  have e : Code.seq (fstC p15) (sndC p15) = p15 := by kernel_rfl
  rw [← e]
  exact seqQ (fun ρ w => b29 R C8 C22 (ρ 12) (ρ 13) (ρ 14) (ρ 15) (ρ 17) w) (b30_ok R C8 C22 ρ w h) (fun ρ w h => b29_ok R C8 C22 ρ w h)
def b27_1 (R : EP) (C8 : VP) (C22 : Value → Value → VP) (x12 x13 x14 v13 v15 v28 : Value) (w29 : World) (_r : Tok R := tok R) (_C8 : Tok C8 := tok C8) (_C22 : Tok C22 := tok C22) : Prop :=
  PUR Try.prog (Instr.extract v28 0) fun v30 =>
  PUR Try.prog (Instr.extract v28 1) fun v31 =>
  b30 R C8 C22 x12 x13 x14 v13 v15 v30 v31 w29
def b27_2 (R : EP) (C8 : VP) (C22 : Value → Value → VP) (x6 x7 x12 x13 x14 v11 : Value) (w12 : World) (_r : Tok R := tok R) (_C8 : Tok C8 := tok C8) (_C22 : Tok C22 := tok C22) : Prop :=
  RUN Try.prog (pan R) (Instr.extract v11 0) w12 fun v13 w14 =>
  RUN Try.prog (pan R) (Instr.extract v11 1) w14 fun v15 w16 =>
  PUR Try.prog (Instr.indexAt 49 x6 x7) fun v17 =>
  PUR Try.prog (Instr.fieldAt 61 v17 3) fun v18 =>
  LD Try.prog (Instr.loadAt 24 v18) (World.drew w16) fun v19 =>
  PUR Try.prog (Instr.indexAt 49 x6 x7) fun v20 =>
  PUR Try.prog (Instr.fieldAt 61 v20 3) fun v21 =>
  LD Try.prog (Instr.loadAt 24 v21) (World.drew w16) fun v22 =>
  LD Try.prog (Builtin.len_ #[24] 3 #[v22]) (World.drew w16) fun v23 =>
  PUR Try.prog (bins .sub 3 (.tmp 148) (.const (Go.Value.int Go.IntKind.i64 1)) v23 (Go.Value.int Go.IntKind.i64 1)) fun v24 =>
  PUR Try.prog (bins .sub 3 (.tmp 149) (.tmp 150) v24 x14) fun v25 =>
  PUR Try.prog (Instr.indexAt 24 v19 v25) fun v26 =>
  LD Try.prog (Instr.loadAt 3 v26) (World.drew w16) fun v27 =>
  CALL Try.prog (pan R) tree_Rightmost.id #[x6, v27] (World.drew w16) fun v28 w29 =>
  b27_1 R C8 C22 x12 x13 x14 v13 v15 v28 w29

def b27 (R : EP) (C8 : VP) (C22 : Value → Value → VP) (x6 x7 x12 x13 x14 : Value) (w : World) (_r : Tok R := tok R) (_C8 : Tok C8 := tok C8) (_C22 : Tok C22 := tok C22) : Prop :=
  RUN Try.prog (pan R) (Instr.indexAt 49 x6 x7) w fun v1 w2 =>
  RUN Try.prog (pan R) (Instr.fieldAt 61 v1 3) w2 fun v3 w4 =>
  RUN Try.prog (pan R) (Instr.loadAt 24 v3) w4 fun v5 w6 =>
  RUN Try.prog (pan R) (Instr.indexAt 24 v5 x14) w6 fun v7 w8 =>
  RUN Try.prog (pan R) (Instr.loadAt 3 v7) w8 fun v9 w10 =>
  CALL Try.prog (pan R) tree_Frontier.id #[x6, v9] w10 fun v11 w12 =>
  b27_2 R C8 C22 x6 x7 x12 x13 x14 v11 w12
abbrev q9 (R : EP) (C8 : VP) (C22 : Value → Value → VP) : XP := QX (fun ρ w => b30 R C8 C22 (ρ 12) (ρ 13) (ρ 14) (ρ 15) (ρ 16) (ρ 17) (ρ 18) w) (fun ρ w => R (.returned (ρ 2)) w) [(10, (fun ρ w => b25 R C8 C22 (ρ 12) (ρ 13) (ρ 14) w)), (8, (fun ρ w => b18 R C8 (ρ 7) (ρ 8) (ρ 10) (ρ 12) (ρ 13) w)), (6, (fun ρ w => b11 R C8 (ρ 7) w)), (4, (fun ρ w => b5 R  w))]
theorem b27_eq (R : EP) (C8 : VP) (C22 : Value → Value → VP) (ρ : Env) (w : World) : (b27 R C8 C22 (ρ 6) (ρ 7) (ρ 12) (ρ 13) (ρ 14) w) = codeP Try.prog (pan R) (preC 1 p14) (q9 R C8 C22) ρ w := by kernel_rfl
theorem b27_ok (R : EP) (C8 : VP) (C22 : Value → Value → VP) (ρ : Env) (w : World) (h : b27 R C8 C22 (ρ 6) (ρ 7) (ρ 12) (ρ 13) (ρ 14) w) : codeP Try.prog (pan R) p14 (q6 R C8 C22) ρ w := by
  have e : appC 1 (preC 1 p14) (dropC 2 p14) = p14 := by kernel_rfl
  rw [← e]
  exact appQ (fun ρ w => b30 R C8 C22 (ρ 12) (ρ 13) (ρ 14) (ρ 15) (ρ 16) (ρ 17) (ρ 18) w) 1 ((b27_eq R C8 C22 ρ w).mp h) (fun ρ w h => k28_ok R C8 C22 ρ w h)
abbrev q10 (R : EP) (C8 : VP) (C22 : Value → Value → VP) : XP := QX (fun ρ w => b25 R C8 C22 (ρ 12) (ρ 13) (ρ 14) w) (fun ρ w => R (.returned (ρ 2)) w) [(8, (fun ρ w => b18 R C8 (ρ 7) (ρ 8) (ρ 10) (ρ 12) (ρ 13) w)), (6, (fun ρ w => b11 R C8 (ρ 7) w)), (4, (fun ρ w => b5 R  w))]
theorem k26_ok (R : EP) (C8 : VP) (C22 : Value → Value → VP) (ρ : Env) (w : World) (h : b27 R C8 C22 (ρ 6) (ρ 7) (ρ 12) (ρ 13) (ρ 14) w) : codeP Try.prog (pan R) (fstC p13) (q10 R C8 C22) ρ w := by
  have e : Code.block 5 (blkC (fstC p13)) = (fstC p13) := by kernel_rfl
  rw [← e]
  exact blockQ (b27_ok R C8 C22 ρ w h)
theorem k24_ok (R : EP) (C8 : VP) (C22 : Value → Value → VP) (ρ : Env) (w : World) (h : b27 R C8 C22 (ρ 6) (ρ 7) (ρ 12) (ρ 13) (ρ 14) w) : codeP Try.prog (pan R) p13 (q5 R C8 C22) ρ w := by
  have e : Code.seq (fstC p13) (sndC p13) = p13 := by kernel_rfl
  rw [← e]
  exact seqQ (fun ρ w => b25 R C8 C22 (ρ 12) (ρ 13) (ρ 14) w) (k26_ok R C8 C22 ρ w h) (fun ρ w h => b25_ok R C8 C22 ρ w h)

def b23 (R : EP) (C8 : VP) (C22 : Value → Value → VP) (x6 x7 x8 x10 x12 x13 x14 : Value) (w : World) (_r : Tok R := tok R) (_C8 : Tok C8 := tok C8) (_C22 : Tok C22 := tok C22) : Prop :=
  RUN Try.prog (pan R) (Instr.indexAt 49 x6 x7) w fun v1 w2 =>
  RUN Try.prog (pan R) (Instr.fieldAt 61 v1 3) w2 fun v3 w4 =>
  RUN Try.prog (pan R) (Instr.loadAt 24 v3) w4 fun v5 w6 =>
  RUN Try.prog (pan R) (Builtin.len_ #[24] 3 #[v5]) w6 fun v7 w8 =>
  RUN Try.prog (pan R) (bins .lss 3 (.tmp 113) (.tmp 119) x14 v7) w8 fun v9 w10 =>
  SPL v9
  (b27 R C8 C22 x6 x7 x12 x13 x14 w10)
  (b18 R C8 x7 x8 x10 x12 x13 w10)
abbrev q11 (R : EP) (C8 : VP) (C22 : Value → Value → VP) : XP := QX (fun ρ w => b27 R C8 C22 (ρ 6) (ρ 7) (ρ 12) (ρ 13) (ρ 14) w) (fun ρ w => R (.returned (ρ 2)) w) [(8, (fun ρ w => b18 R C8 (ρ 7) (ρ 8) (ρ 10) (ρ 12) (ρ 13) w)), (6, (fun ρ w => b11 R C8 (ρ 7) w)), (4, (fun ρ w => b5 R  w))]
theorem b23_eq (R : EP) (C8 : VP) (C22 : Value → Value → VP) (ρ : Env) (w : World) : (b23 R C8 C22 (ρ 6) (ρ 7) (ρ 8) (ρ 10) (ρ 12) (ρ 13) (ρ 14) w) = codeP Try.prog (pan R) (preC 0 p12) (q11 R C8 C22) ρ w := by kernel_rfl
theorem b23_ok (R : EP) (C8 : VP) (C22 : Value → Value → VP) (ρ : Env) (w : World) (h : b23 R C8 C22 (ρ 6) (ρ 7) (ρ 8) (ρ 10) (ρ 12) (ρ 13) (ρ 14) w) : codeP Try.prog (pan R) p12 (q5 R C8 C22) ρ w := by
  have e : appC 0 (preC 0 p12) (dropC 1 p12) = p12 := by kernel_rfl
  rw [← e]
  exact appQ (fun ρ w => b27 R C8 C22 (ρ 6) (ρ 7) (ρ 12) (ρ 13) (ρ 14) w) 0 ((b23_eq R C8 C22 ρ w).mp h) (fun ρ w h => k24_ok R C8 C22 ρ w h)

def l22 (R : EP) (C8 : VP) (x6 x7 x8 x10 x12 x13 x14 : Value) (w : World) (_r : Tok R := tok R) (_C8 : Tok C8 := tok C8) : Prop :=
  ∃ (J : Value → Value → VP) (μ : Value → Value → Value → World → Nat), J x12 x13 x14 w ∧ ∀ y12 y13 y14 w0, J y12 y13 y14 w0 → b23 R C8 (fun z12 z13 z14 w1 => J z12 z13 z14 w1 ∧ μ z12 z13 z14 w1 < μ y12 y13 y14 w0) x6 x7 x8 x10 y12 y13 y14 w0
abbrev q12 (R : EP) (C8 : VP) : XP := QX (fun ρ w => b18 R C8 (ρ 7) (ρ 8) (ρ 10) (ρ 12) (ρ 13) w) (fun ρ w => R (.returned (ρ 2)) w) [(8, (fun ρ w => b18 R C8 (ρ 7) (ρ 8) (ρ 10) (ρ 12) (ρ 13) w)), (6, (fun ρ w => b11 R C8 (ρ 7) w)), (4, (fun ρ w => b5 R  w))]
theorem l22_ok (R : EP) (C8 : VP) (ρ : Env) (w : World) (h : l22 R C8 (ρ 6) (ρ 7) (ρ 8) (ρ 10) (ρ 12) (ρ 13) (ρ 14) w) : codeP Try.prog (pan R) (blkC p11) (q12 R C8) ρ w := by
  unfold l22 at h
  obtain ⟨J, μ, h0, hr⟩ := h
  have e : Code.loop (loopC (blkC p11)) = (blkC p11) := by kernel_rfl
  rw [← e]
  refine loopQ (fun ρ' w' => J (ρ' 12) (ρ' 13) (ρ' 14) w') (fun ρ' w' => μ (ρ' 12) (ρ' 13) (ρ' 14) w') h0 fun ρ' w' hA hI => ?_
  have e6 : ρ' 6 = ρ 6 := Agree.at hA 6 (by kernel_rfl)
  have e7 : ρ' 7 = ρ 7 := Agree.at hA 7 (by kernel_rfl)
  have e8 : ρ' 8 = ρ 8 := Agree.at hA 8 (by kernel_rfl)
  have e10 : ρ' 10 = ρ 10 := Agree.at hA 10 (by kernel_rfl)
  have h1 := hr (ρ' 12) (ρ' 13) (ρ' 14) w' hI
  rw [← e6, ← e7, ← e8, ← e10] at h1
  exact b23_ok R C8 (fun z12 z13 z14 w1 => J z12 z13 z14 w1 ∧ μ z12 z13 z14 w1 < μ (ρ' 12) (ρ' 13) (ρ' 14) w') ρ' w' h1
theorem l22_intro (R : EP) (C8 : VP) (x6 x7 x8 x10 x12 x13 x14 : Value) (w : World) (J : Value → Value → VP) (μ : Value → Value → Value → World → Nat) (h0 : J x12 x13 x14 w)
    (hr : ∀ y12 y13 y14 w0, J y12 y13 y14 w0 → ∀ C22 : Value → Value → VP, (∀ z12 z13 z14 w1, J z12 z13 z14 w1 → μ z12 z13 z14 w1 < μ y12 y13 y14 w0 → C22 z12 z13 z14 w1) → b23 R C8 C22 x6 x7 x8 x10 y12 y13 y14 w0) : l22 R C8 x6 x7 x8 x10 x12 x13 x14 w := by
  unfold l22
  exact ⟨J, μ, h0, fun y12 y13 y14 w0 hJ => hr y12 y13 y14 w0 hJ _ (fun z12 z13 z14 w1 h1 h2 => ⟨h1, h2⟩)⟩
abbrev q13 (R : EP) (C8 : VP) : XP := QX (fun ρ w => b18 R C8 (ρ 7) (ρ 8) (ρ 10) (ρ 12) (ρ 13) w) (fun ρ w => R (.returned (ρ 2)) w) [(6, (fun ρ w => b11 R C8 (ρ 7) w)), (4, (fun ρ w => b5 R  w))]
theorem k21_ok (R : EP) (C8 : VP) (ρ : Env) (w : World) (h : l22 R C8 (ρ 6) (ρ 7) (ρ 8) (ρ 10) (ρ 12) (ρ 13) (ρ 14) w) : codeP Try.prog (pan R) p11 (q13 R C8) ρ w := by
  have e : Code.block 4 (blkC p11) = p11 := by kernel_rfl
  rw [← e]
  exact blockQ (l22_ok R C8 ρ w h)

def b20 (R : EP) (C8 : VP) (x6 x7 x8 x10 x12 x13 : Value) (w : World) (_r : Tok R := tok R) (_C8 : Tok C8 := tok C8) : Prop :=
  l22 R C8 x6 x7 x8 x10 x12 x13 (Go.Value.int Go.IntKind.i64 0) w
abbrev q14 (R : EP) (C8 : VP) : XP := QX (fun ρ w => l22 R C8 (ρ 6) (ρ 7) (ρ 8) (ρ 10) (ρ 12) (ρ 13) (ρ 14) w) (fun ρ w => R (.returned (ρ 2)) w) [(6, (fun ρ w => b11 R C8 (ρ 7) w)), (4, (fun ρ w => b5 R  w))]
theorem b20_eq (R : EP) (C8 : VP) (ρ : Env) (w : World) : (b20 R C8 (ρ 6) (ρ 7) (ρ 8) (ρ 10) (ρ 12) (ρ 13) w) = codeP Try.prog (pan R) (preC 0 (fstC p9)) (q14 R C8) ρ w := by kernel_rfl
theorem b20_ok (R : EP) (C8 : VP) (ρ : Env) (w : World) (h : b20 R C8 (ρ 6) (ρ 7) (ρ 8) (ρ 10) (ρ 12) (ρ 13) w) : codeP Try.prog (pan R) (fstC p9) (q13 R C8) ρ w := by
  have e : appC 0 (preC 0 (fstC p9)) (dropC 1 (fstC p9)) = (fstC p9) := by kernel_rfl
  rw [← e]
  exact appQ (fun ρ w => l22 R C8 (ρ 6) (ρ 7) (ρ 8) (ρ 10) (ρ 12) (ρ 13) (ρ 14) w) 0 ((b20_eq R C8 ρ w).mp h) (fun ρ w h => k21_ok R C8 ρ w h)
theorem k17_ok (R : EP) (C8 : VP) (ρ : Env) (w : World) (h : b20 R C8 (ρ 6) (ρ 7) (ρ 8) (ρ 10) (ρ 12) (ρ 13) w) : codeP Try.prog (pan R) p9 (q3 R C8) ρ w := by
  have e : Code.seq (fstC p9) (sndC p9) = p9 := by kernel_rfl
  rw [← e]
  exact seqQ (fun ρ w => b18 R C8 (ρ 7) (ρ 8) (ρ 10) (ρ 12) (ρ 13) w) (b20_ok R C8 ρ w h) (fun ρ w h => b18_ok R C8 ρ w h)

def b16 (R : EP) (C8 : VP) (x6 x7 x8 x10 : Value) (w : World) (_r : Tok R := tok R) (_C8 : Tok C8 := tok C8) : Prop :=
  RUN Try.prog (pan R) (Instr.indexAt 49 x6 x7) w fun v1 w2 =>
  RUN Try.prog (pan R) (Instr.fieldAt 61 v1 1) w2 fun v3 w4 =>
  RUN Try.prog (pan R) (Instr.loadAt 3 v3) w4 fun v5 w6 =>
  RUN Try.prog (pan R) (Instr.buildSlice 24 1 #[(0, v5)]) w6 fun v7 w8 =>
  b20 R C8 x6 x7 x8 x10 (Go.Value.slice Option.none 0 0) v7 w8
abbrev q15 (R : EP) (C8 : VP) : XP := QX (fun ρ w => b20 R C8 (ρ 6) (ρ 7) (ρ 8) (ρ 10) (ρ 12) (ρ 13) w) (fun ρ w => R (.returned (ρ 2)) w) [(6, (fun ρ w => b11 R C8 (ρ 7) w)), (4, (fun ρ w => b5 R  w))]
theorem b16_eq (R : EP) (C8 : VP) (ρ : Env) (w : World) : (b16 R C8 (ρ 6) (ρ 7) (ρ 8) (ρ 10) w) = codeP Try.prog (pan R) (preC 1 p8) (q15 R C8) ρ w := by kernel_rfl
theorem b16_ok (R : EP) (C8 : VP) (ρ : Env) (w : World) (h : b16 R C8 (ρ 6) (ρ 7) (ρ 8) (ρ 10) w) : codeP Try.prog (pan R) p8 (q3 R C8) ρ w := by
  have e : appC 1 (preC 1 p8) (dropC 2 p8) = p8 := by kernel_rfl
  rw [← e]
  exact appQ (fun ρ w => b20 R C8 (ρ 6) (ρ 7) (ρ 8) (ρ 10) (ρ 12) (ρ 13) w) 1 ((b16_eq R C8 ρ w).mp h) (fun ρ w h => k17_ok R C8 ρ w h)
noncomputable abbrev p17 : Code := fstC (sndC p7)
noncomputable abbrev p18 : Code := dropC 1 p17
noncomputable abbrev p19 : Code := sndC (thnC p18)

def b35 (R : EP) (C8 : VP) (x7 : Value) (w : World) (_r : Tok R := tok R) (_C8 : Tok C8 := tok C8) : Prop :=
  b11 R C8 x7 w
abbrev q16 (R : EP) (C8 : VP) : XP := QX (fun ρ w => b16 R C8 (ρ 6) (ρ 7) (ρ 8) (ρ 10) w) (fun ρ w => R (.returned (ρ 2)) w) [(6, (fun ρ w => b11 R C8 (ρ 7) w)), (4, (fun ρ w => b5 R  w))]
theorem b35_eq (R : EP) (C8 : VP) (ρ : Env) (w : World) : (b35 R C8 (ρ 7) w) = codeP Try.prog (pan R) p19 (q16 R C8) ρ w := by kernel_rfl
theorem b35_ok (R : EP) (C8 : VP) (ρ : Env) (w : World) (h : b35 R C8 (ρ 7) w) : codeP Try.prog (pan R) p19 (q16 R C8) ρ w := (b35_eq R C8 ρ w).mp h
noncomputable abbrev p20 : Code := fstC (thnC p18)
noncomputable abbrev p21 : Code := dropC 1 p20

def b37 (R : EP) (C8 : VP) (x7 x106 : Value) (w : World) (_r : Tok R := tok R) (_C8 : Tok C8 := tok C8) : Prop :=
  SPL x106
  (R (.returned (Go.Value.bool Bool.false)) w)
  (b35 R C8 x7 w)
abbrev q17 (R : EP) (C8 : VP) : XP := QX (fun ρ w => b35 R C8 (ρ 7) w) (fun ρ w => R (.returned (ρ 2)) w) [(6, (fun ρ w => b11 R C8 (ρ 7) w)), (4, (fun ρ w => b5 R  w))]
theorem b37_eq (R : EP) (C8 : VP) (ρ : Env) (w : World) : (b37 R C8 (ρ 7) (ρ 106) w) = codeP Try.prog (pan R) p21 (q17 R C8) ρ w := by kernel_rfl
theorem b37_ok (R : EP) (C8 : VP) (ρ : Env) (w : World) (h : b37 R C8 (ρ 7) (ρ 106) w) : codeP Try.prog (pan R) p21 (q17 R C8) ρ w := (b37_eq R C8 ρ w).mp h
def b36_1 (R : EP) (C8 : VP) (x7 x10 : Value) (w12 : World) (_r : Tok R := tok R) (_C8 : Tok C8 := tok C8) : Prop :=
  RUN Try.prog (pan R) (Builtin.len_ #[24] 3 #[x10]) w12 fun v13 w14 =>
  RUN Try.prog (pan R) (bins .neq 3 (.tmp 104) (.const (Go.Value.int Go.IntKind.i64 0)) v13 (Go.Value.int Go.IntKind.i64 0)) w14 fun v15 w16 =>
  b37 R C8 x7 v15 w16

def b36 (R : EP) (C8 : VP) (x6 x7 x8 x10 : Value) (w : World) (_r : Tok R := tok R) (_C8 : Tok C8 := tok C8) : Prop :=
  RUN Try.prog (pan R) (Instr.indexAt 49 x6 x7) w fun v1 w2 =>
  RUN Try.prog (pan R) (Instr.fieldAt 61 v1 0) w2 fun v3 w4 =>
  RUN Try.prog (pan R) (Instr.loadAt 3 v3) w4 fun v5 w6 =>
  RUN Try.prog (pan R) (Instr.buildSlice 24 1 #[(0, v5)]) w6 fun v7 w8 =>
  CALL Try.prog (pan R) ref01_Ints.id #[x8, v7] w8 fun v9 w10 =>
  RUN Try.prog (pan R) (Op.unary .not v9) w10 fun v11 w12 =>
  SPL v11
  (b37 R C8 x7 (Go.Value.bool Bool.true) w12)
  (b36_1 R C8 x7 x10 w12)
abbrev q18 (R : EP) (C8 : VP) : XP := QX (fun ρ w => b37 R C8 (ρ 7) (ρ 106) w) (fun ρ w => R (.returned (ρ 2)) w) [(6, (fun ρ w => b11 R C8 (ρ 7) w)), (4, (fun ρ w => b5 R  w))]
theorem b36_eq (R : EP) (C8 : VP) (ρ : Env) (w : World) : (b36 R C8 (ρ 6) (ρ 7) (ρ 8) (ρ 10) w) = codeP Try.prog (pan R) (preC 0 p20) (q18 R C8) ρ w := by kernel_rfl
theorem b36_ok (R : EP) (C8 : VP) (ρ : Env) (w : World) (h : b36 R C8 (ρ 6) (ρ 7) (ρ 8) (ρ 10) w) : codeP Try.prog (pan R) p20 (q17 R C8) ρ w := by
  have e : appC 0 (preC 0 p20) (dropC 1 p20) = p20 := by kernel_rfl
  rw [← e]
  exact appQ (fun ρ w => b37 R C8 (ρ 7) (ρ 106) w) 0 ((b36_eq R C8 ρ w).mp h) (fun ρ w h => b37_ok R C8 ρ w h)
theorem k34_ok (R : EP) (C8 : VP) (ρ : Env) (w : World) (h : b36 R C8 (ρ 6) (ρ 7) (ρ 8) (ρ 10) w) : codeP Try.prog (pan R) (thnC p18) (q16 R C8) ρ w := by
  have e : Code.seq (fstC (thnC p18)) (sndC (thnC p18)) = (thnC p18) := by kernel_rfl
  rw [← e]
  exact seqQ (fun ρ w => b35 R C8 (ρ 7) w) (b36_ok R C8 ρ w h) (fun ρ w h => b35_ok R C8 ρ w h)

def b38 (R : EP) (C8 : VP) (x6 x7 x8 x10 : Value) (w : World) (_r : Tok R := tok R) (_C8 : Tok C8 := tok C8) : Prop :=
  b16 R C8 x6 x7 x8 x10 w
theorem b38_eq (R : EP) (C8 : VP) (ρ : Env) (w : World) : (b38 R C8 (ρ 6) (ρ 7) (ρ 8) (ρ 10) w) = codeP Try.prog (pan R) (elsC p18) (q16 R C8) ρ w := by kernel_rfl
theorem b38_ok (R : EP) (C8 : VP) (ρ : Env) (w : World) (h : b38 R C8 (ρ 6) (ρ 7) (ρ 8) (ρ 10) w) : codeP Try.prog (pan R) (elsC p18) (q16 R C8) ρ w := (b38_eq R C8 ρ w).mp h

def b33 (R : EP) (C8 : VP) (x6 x7 x8 x10 x92 : Value) (w : World) (_r : Tok R := tok R) (_C8 : Tok C8 := tok C8) : Prop :=
  SPL x92 (b36 R C8 x6 x7 x8 x10 w) (b38 R C8 x6 x7 x8 x10 w)
theorem b33_ok (R : EP) (C8 : VP) (ρ : Env) (w : World) (h : b33 R C8 (ρ 6) (ρ 7) (ρ 8) (ρ 10) (ρ 92) w) : codeP Try.prog (pan R) p18 (q16 R C8) ρ w := by
  have e : Code.cond (.tmp 92) (thnC p18) (elsC p18) = p18 := by kernel_rfl
  rw [← e]
  exact condQ' h (fun h => k34_ok R C8 ρ w h) (fun h => b38_ok R C8 ρ w h)

def b32 (R : EP) (C8 : VP) (x6 x7 x8 x10 : Value) (w : World) (_r : Tok R := tok R) (_C8 : Tok C8 := tok C8) : Prop :=
  RUN Try.prog (pan R) (Instr.indexAt 49 x6 x7) w fun v1 w2 =>
  RUN Try.prog (pan R) (Instr.fieldAt 61 v1 1) w2 fun v3 w4 =>
  RUN Try.prog (pan R) (Instr.loadAt 3 v3) w4 fun v5 w6 =>
  RUN Try.prog (pan R) (bins .lss 3 (.tmp 91) (.const (Go.Value.int Go.IntKind.i64 0)) v5 (Go.Value.int Go.IntKind.i64 0)) w6 fun v7 w8 =>
  b33 R C8 x6 x7 x8 x10 v7 w8
abbrev q19 (R : EP) (C8 : VP) : XP := QX (fun ρ w => b33 R C8 (ρ 6) (ρ 7) (ρ 8) (ρ 10) (ρ 92) w) (fun ρ w => R (.returned (ρ 2)) w) [(6, (fun ρ w => b11 R C8 (ρ 7) w)), (4, (fun ρ w => b5 R  w))]
theorem b32_eq (R : EP) (C8 : VP) (ρ : Env) (w : World) : (b32 R C8 (ρ 6) (ρ 7) (ρ 8) (ρ 10) w) = codeP Try.prog (pan R) (preC 0 p17) (q19 R C8) ρ w := by kernel_rfl
theorem b32_ok (R : EP) (C8 : VP) (ρ : Env) (w : World) (h : b32 R C8 (ρ 6) (ρ 7) (ρ 8) (ρ 10) w) : codeP Try.prog (pan R) p17 (q16 R C8) ρ w := by
  have e : appC 0 (preC 0 p17) (dropC 1 p17) = p17 := by kernel_rfl
  rw [← e]
  exact appQ (fun ρ w => b33 R C8 (ρ 6) (ρ 7) (ρ 8) (ρ 10) (ρ 92) w) 0 ((b32_eq R C8 ρ w).mp h) (fun ρ w h => b33_ok R C8 ρ w h)
theorem k15_ok (R : EP) (C8 : VP) (ρ : Env) (w : World) (h : b32 R C8 (ρ 6) (ρ 7) (ρ 8) (ρ 10) w) : codeP Try.prog (pan R) (sndC p7) (q3 R C8) ρ w := by
  have e : Code.seq (fstC (sndC p7)) (sndC (sndC p7)) = (sndC p7) := by kernel_rfl
  rw [← e]
  exact seqQ (fun ρ w => b16 R C8 (ρ 6) (ρ 7) (ρ 8) (ρ 10) w) (b32_ok R C8 ρ w h) (fun ρ w h => b16_ok R C8 ρ w h)
noncomputable abbrev p22 : Code := dropC 1 (fstC p7)

def b40 (R : EP) (C8 : VP) (x6 x7 x8 x10 x86 : Value) (w : World) (_r : Tok R := tok R) (_C8 : Tok C8 := tok C8) : Prop :=
  SPL x86
  (R (.returned (Go.Value.bool Bool.false)) w)
  (b32 R C8 x6 x7 x8 x10 w)
abbrev q20 (R : EP) (C8 : VP) : XP := QX (fun ρ w => b32 R C8 (ρ 6) (ρ 7) (ρ 8) (ρ 10) w) (fun ρ w => R (.returned (ρ 2)) w) [(6, (fun ρ w => b11 R C8 (ρ 7) w)), (4, (fun ρ w => b5 R  w))]
theorem b40_eq (R : EP) (C8 : VP) (ρ : Env) (w : World) : (b40 R C8 (ρ 6) (ρ 7) (ρ 8) (ρ 10) (ρ 86) w) = codeP Try.prog (pan R) p22 (q20 R C8) ρ w := by kernel_rfl
theorem b40_ok (R : EP) (C8 : VP) (ρ : Env) (w : World) (h : b40 R C8 (ρ 6) (ρ 7) (ρ 8) (ρ 10) (ρ 86) w) : codeP Try.prog (pan R) p22 (q20 R C8) ρ w := (b40_eq R C8 ρ w).mp h

def b39 (R : EP) (C8 : VP) (x6 x7 x8 x9 x10 x11 : Value) (w : World) (_r : Tok R := tok R) (_C8 : Tok C8 := tok C8) : Prop :=
  RUN Try.prog (pan R) (bins .neq 29 (.tmp 81) (.const (Go.Value.int Go.IntKind.i64 0)) x9 (Go.Value.int Go.IntKind.i64 0)) w fun v1 w2 =>
  SPL v1
  (b40 R C8 x6 x7 x8 x10 (Go.Value.bool Bool.true) w2)
  (RUN Try.prog (pan R) (bins .neq 29 (.tmp 84) (.const (Go.Value.int Go.IntKind.i64 0)) x11 (Go.Value.int Go.IntKind.i64 0)) w2 fun v3 w4 =>
  b40 R C8 x6 x7 x8 x10 v3 w4)
abbrev q21 (R : EP) (C8 : VP) : XP := QX (fun ρ w => b40 R C8 (ρ 6) (ρ 7) (ρ 8) (ρ 10) (ρ 86) w) (fun ρ w => R (.returned (ρ 2)) w) [(6, (fun ρ w => b11 R C8 (ρ 7) w)), (4, (fun ρ w => b5 R  w))]
theorem b39_eq (R : EP) (C8 : VP) (ρ : Env) (w : World) : (b39 R C8 (ρ 6) (ρ 7) (ρ 8) (ρ 9) (ρ 10) (ρ 11) w) = codeP Try.prog (pan R) (preC 0 (fstC p7)) (q21 R C8) ρ w := by kernel_rfl
theorem b39_ok (R : EP) (C8 : VP) (ρ : Env) (w : World) (h : b39 R C8 (ρ 6) (ρ 7) (ρ 8) (ρ 9) (ρ 10) (ρ 11) w) : codeP Try.prog (pan R) (fstC p7) (q20 R C8) ρ w := by
  have e : appC 0 (preC 0 (fstC p7)) (dropC 1 (fstC p7)) = (fstC p7) := by kernel_rfl
  rw [← e]
  exact appQ (fun ρ w => b40 R C8 (ρ 6) (ρ 7) (ρ 8) (ρ 10) (ρ 86) w) 0 ((b39_eq R C8 ρ w).mp h) (fun ρ w h => b40_ok R C8 ρ w h)
theorem k14_ok (R : EP) (C8 : VP) (ρ : Env) (w : World) (h : b39 R C8 (ρ 6) (ρ 7) (ρ 8) (ρ 9) (ρ 10) (ρ 11) w) : codeP Try.prog (pan R) p7 (q3 R C8) ρ w := by
  have e : Code.seq (fstC p7) (sndC p7) = p7 := by kernel_rfl
  rw [← e]
  exact seqQ (fun ρ w => b32 R C8 (ρ 6) (ρ 7) (ρ 8) (ρ 10) w) (b39_ok R C8 ρ w h) (fun ρ w h => k15_ok R C8 ρ w h)
def b13_1 (R : EP) (C8 : VP) (x6 x7 v3 v5 v7 : Value) (w8 : World) (_r : Tok R := tok R) (_C8 : Tok C8 := tok C8) : Prop :=
  RUN Try.prog (pan R) (Instr.extract v7 0) w8 fun v9 w10 =>
  RUN Try.prog (pan R) (Instr.extract v7 1) w10 fun v11 w12 =>
  b39 R C8 x6 x7 v3 v5 v9 v11 w12
def b13_2 (R : EP) (C8 : VP) (x6 x7 v1 : Value) (w2 : World) (_r : Tok R := tok R) (_C8 : Tok C8 := tok C8) : Prop :=
  RUN Try.prog (pan R) (Instr.extract v1 0) w2 fun v3 w4 =>
  RUN Try.prog (pan R) (Instr.extract v1 1) w4 fun v5 w6 =>
  CALL Try.prog (pan R) tree_Rightmost.id #[x6, x7] w6 fun v7 w8 =>
  b13_1 R C8 x6 x7 v3 v5 v7 w8

def b13 (R : EP) (C8 : VP) (x6 x7 : Value) (w : World) (_r : Tok R := tok R) (_C8 : Tok C8 := tok C8) : Prop :=
  CALL Try.prog (pan R) tree_Frontier.id #[x6, x7] w fun v1 w2 =>
  b13_2 R C8 x6 x7 v1 w2
abbrev q22 (R : EP) (C8 : VP) : XP := QX (fun ρ w => b39 R C8 (ρ 6) (ρ 7) (ρ 8) (ρ 9) (ρ 10) (ρ 11) w) (fun ρ w => R (.returned (ρ 2)) w) [(6, (fun ρ w => b11 R C8 (ρ 7) w)), (4, (fun ρ w => b5 R  w))]
theorem b13_eq (R : EP) (C8 : VP) (ρ : Env) (w : World) : (b13 R C8 (ρ 6) (ρ 7) w) = codeP Try.prog (pan R) (preC 1 p6) (q22 R C8) ρ w := by kernel_rfl
theorem b13_ok (R : EP) (C8 : VP) (ρ : Env) (w : World) (h : b13 R C8 (ρ 6) (ρ 7) w) : codeP Try.prog (pan R) p6 (q3 R C8) ρ w := by
  have e : appC 1 (preC 1 p6) (dropC 2 p6) = p6 := by kernel_rfl
  rw [← e]
  exact appQ (fun ρ w => b39 R C8 (ρ 6) (ρ 7) (ρ 8) (ρ 9) (ρ 10) (ρ 11) w) 1 ((b13_eq R C8 ρ w).mp h) (fun ρ w h => k14_ok R C8 ρ w h)
abbrev q23 (R : EP) (C8 : VP) : XP := QX (fun ρ w => b11 R C8 (ρ 7) w) (fun ρ w => R (.returned (ρ 2)) w) [(4, (fun ρ w => b5 R  w))]
theorem k12_ok (R : EP) (C8 : VP) (ρ : Env) (w : World) (h : b13 R C8 (ρ 6) (ρ 7) w) : codeP Try.prog (pan R) (fstC p5) (q23 R C8) ρ w := by
  have e : Code.block 3 (blkC (fstC p5)) = (fstC p5) := by kernel_rfl
  rw [← e]
  exact blockQ (b13_ok R C8 ρ w h)
theorem k10_ok (R : EP) (C8 : VP) (ρ : Env) (w : World) (h : b13 R C8 (ρ 6) (ρ 7) w) : codeP Try.prog (pan R) p5 (q2 R C8) ρ w := by
  have e : Code.seq (fstC p5) (sndC p5) = p5 := by kernel_rfl
  rw [← e]
  exact seqQ (fun ρ w => b11 R C8 (ρ 7) w) (k12_ok R C8 ρ w h) (fun ρ w h => b11_ok R C8 ρ w h)

def b9 (R : EP) (C8 : VP) (x6 x7 : Value) (w : World) (_r : Tok R := tok R) (_C8 : Tok C8 := tok C8) : Prop :=
  RUN Try.prog (pan R) (Builtin.len_ #[49] 3 #[x6]) w fun v1 w2 =>
  RUN Try.prog (pan R) (bins .lss 3 (.tmp 63) (.tmp 65) x7 v1) w2 fun v3 w4 =>
  SPL v3
  (b13 R C8 x6 x7 w4)
  (b5 R w4)
abbrev q24 (R : EP) (C8 : VP) : XP := QX (fun ρ w => b13 R C8 (ρ 6) (ρ 7) w) (fun ρ w => R (.returned (ρ 2)) w) [(4, (fun ρ w => b5 R  w))]
theorem b9_eq (R : EP) (C8 : VP) (ρ : Env) (w : World) : (b9 R C8 (ρ 6) (ρ 7) w) = codeP Try.prog (pan R) (preC 0 p4) (q24 R C8) ρ w := by kernel_rfl
theorem b9_ok (R : EP) (C8 : VP) (ρ : Env) (w : World) (h : b9 R C8 (ρ 6) (ρ 7) w) : codeP Try.prog (pan R) p4 (q2 R C8) ρ w := by
  have e : appC 0 (preC 0 p4) (dropC 1 p4) = p4 := by kernel_rfl
  rw [← e]
  exact appQ (fun ρ w => b13 R C8 (ρ 6) (ρ 7) w) 0 ((b9_eq R C8 ρ w).mp h) (fun ρ w h => k10_ok R C8 ρ w h)

def l8 (R : EP) (x6 x7 : Value) (w : World) (_r : Tok R := tok R) : Prop :=
  ∃ (J : VP) (μ : Value → World → Nat), J x7 w ∧ ∀ y7 w0, J y7 w0 → b9 R (fun z7 w1 => J z7 w1 ∧ μ z7 w1 < μ y7 w0) x6 y7 w0
abbrev q25 (R : EP) : XP := QX (fun ρ w => b5 R  w) (fun ρ w => R (.returned (ρ 2)) w) [(4, (fun ρ w => b5 R  w))]
theorem l8_ok (R : EP) (ρ : Env) (w : World) (h : l8 R (ρ 6) (ρ 7) w) : codeP Try.prog (pan R) (blkC p3) (q25 R) ρ w := by
  unfold l8 at h
  obtain ⟨J, μ, h0, hr⟩ := h
  have e : Code.loop (loopC (blkC p3)) = (blkC p3) := by kernel_rfl
  rw [← e]
  refine loopQ (fun ρ' w' => J (ρ' 7) w') (fun ρ' w' => μ (ρ' 7) w') h0 fun ρ' w' hA hI => ?_
  have e6 : ρ' 6 = ρ 6 := Agree.at hA 6 (by kernel_rfl)
  have h1 := hr (ρ' 7) w' hI
  rw [← e6] at h1
  exact b9_ok R (fun z7 w1 => J z7 w1 ∧ μ z7 w1 < μ (ρ' 7) w') ρ' w' h1
theorem l8_intro (R : EP) (x6 x7 : Value) (w : World) (J : VP) (μ : Value → World → Nat) (h0 : J x7 w)
    (hr : ∀ y7 w0, J y7 w0 → ∀ C8 : VP, (∀ z7 w1, J z7 w1 → μ z7 w1 < μ y7 w0 → C8 z7 w1) → b9 R C8 x6 y7 w0) : l8 R x6 x7 w := by
  unfold l8
  exact ⟨J, μ, h0, fun y7 w0 hJ => hr y7 w0 hJ _ (fun z7 w1 h1 h2 => ⟨h1, h2⟩)⟩
abbrev q26 (R : EP) : XP := QX (fun ρ w => b5 R  w) (fun ρ w => R (.returned (ρ 2)) w) []
theorem k7_ok (R : EP) (ρ : Env) (w : World) (h : l8 R (ρ 6) (ρ 7) w) : codeP Try.prog (pan R) p3 (q26 R) ρ w := by
  have e : Code.block 2 (blkC p3) = p3 := by kernel_rfl
  rw [← e]
  exact blockQ (l8_ok R ρ w h)

def b6 (R : EP) (x6 : Value) (w : World) (_r : Tok R := tok R) : Prop :=
  l8 R x6 (Go.Value.int Go.IntKind.i64 0) w
abbrev q27 (R : EP) : XP := QX (fun ρ w => l8 R (ρ 6) (ρ 7) w) (fun ρ w => R (.returned (ρ 2)) w) []
theorem b6_eq (R : EP) (ρ : Env) (w : World) : (b6 R (ρ 6) w) = codeP Try.prog (pan R) (preC 0 (fstC p2)) (q27 R) ρ w := by kernel_rfl
theorem b6_ok (R : EP) (ρ : Env) (w : World) (h : b6 R (ρ 6) w) : codeP Try.prog (pan R) (fstC p2) (q26 R) ρ w := by
  have e : appC 0 (preC 0 (fstC p2)) (dropC 1 (fstC p2)) = (fstC p2) := by kernel_rfl
  rw [← e]
  exact appQ (fun ρ w => l8 R (ρ 6) (ρ 7) w) 0 ((b6_eq R ρ w).mp h) (fun ρ w h => k7_ok R ρ w h)
theorem k4_ok (R : EP) (ρ : Env) (w : World) (h : b6 R (ρ 6) w) : codeP Try.prog (pan R) p2 (q1 R) ρ w := by
  have e : Code.seq (fstC p2) (sndC p2) = p2 := by kernel_rfl
  rw [← e]
  exact seqQ (fun ρ w => b5 R  w) (b6_ok R ρ w h) (fun ρ w h => b5_ok R ρ w h)
def b3_1 (R : EP) (x3 v1 : Value) (w2 : World) (_r : Tok R := tok R) : Prop :=
  RUN Try.prog (pan R) (Builtin.len_ #[49] 3 #[v1]) w2 fun v3 w4 =>
  CALL Try.prog (pan R) tree_Arena_Len.id #[x3] w4 fun v5 w6 =>
  RUN Try.prog (pan R) (bins .neq 3 (.tmp 59) (.tmp 61) v3 v5) w6 fun v7 w8 =>
  SPL v7
  (R (.returned (Go.Value.bool Bool.false)) w8)
  (b6 R v1 w8)

def b3 (R : EP) (x3 : Value) (w : World) (_r : Tok R := tok R) : Prop :=
  CALL Try.prog (pan R) tree_Arena_Nodes.id #[x3] w fun v1 w2 =>
  b3_1 R x3 v1 w2
abbrev q28 (R : EP) : XP := QX (fun ρ w => b6 R (ρ 6) w) (fun ρ w => R (.returned (ρ 2)) w) []
theorem b3_eq (R : EP) (ρ : Env) (w : World) : (b3 R (ρ 3) w) = codeP Try.prog (pan R) (preC 1 (sndC p1)) (q28 R) ρ w := by kernel_rfl
theorem b3_ok (R : EP) (ρ : Env) (w : World) (h : b3 R (ρ 3) w) : codeP Try.prog (pan R) (sndC p1) (q1 R) ρ w := by
  have e : appC 1 (preC 1 (sndC p1)) (dropC 2 (sndC p1)) = (sndC p1) := by kernel_rfl
  rw [← e]
  exact appQ (fun ρ w => b6 R (ρ 6) w) 1 ((b3_eq R ρ w).mp h) (fun ρ w h => k4_ok R ρ w h)
noncomputable abbrev p23 : Code := dropC 1 (fstC p1)
noncomputable abbrev p24 : Code := loopC (blkC p23)
noncomputable abbrev p25 : Code := dropC 1 (sndC p24)

def b46 (R : EP) (C43 : VP) (x4 : Value) (w : World) (_r : Tok R := tok R) (_C43 : Tok C43 := tok C43) : Prop :=
  RUN Try.prog (pan R) (bins .add 3 (.tmp 30) (.const (Go.Value.int Go.IntKind.i64 1)) x4 (Go.Value.int Go.IntKind.i64 1)) w fun v1 w2 =>
  C43 v1 w2
abbrev q29 (R : EP) (C43 : VP) : XP := QX (fun ρ w => C43 (ρ 4) w) (fun ρ w => R (.returned (ρ 2)) w) [(0, (fun ρ w => b3 R (ρ 3) w))]
theorem b46_eq (R : EP) (C43 : VP) (ρ : Env) (w : World) : (b46 R C43 (ρ 4) w) = codeP Try.prog (pan R) p25 (q29 R C43) ρ w := by kernel_rfl
theorem b46_ok (R : EP) (C43 : VP) (ρ : Env) (w : World) (h : b46 R C43 (ρ 4) w) : codeP Try.prog (pan R) p25 (q29 R C43) ρ w := (b46_eq R C43 ρ w).mp h
def b45_1 (R : EP) (C43 : VP) (x3 x4 v5 : Value) (w15 : World) (_r : Tok R := tok R) (_C43 : Tok C43 := tok C43) : Prop :=
  RUN Try.prog (pan R) (Instr.fieldAt 72 v5 1) w15 fun v16 w17 =>
  RUN Try.prog (pan R) (Instr.loadAt 3 v16) w17 fun v18 w19 =>
  RUN Try.prog (pan R) (Instr.fieldAt 72 v5 2) w19 fun v20 w21 =>
  RUN Try.prog (pan R) (Instr.loadAt 3 v20) w21 fun v22 w23 =>
  CALL Try.prog (pan R) tree_Arena_Leaf.id #[x3, v18, v22] w23 fun v24 w25 =>
  b46 R C43 x4 w25
def b45_2 (R : EP) (C43 : VP) (x3 x4 v5 : Value) (w15 : World) (_r : Tok R := tok R) (_C43 : Tok C43 := tok C43) : Prop :=
  PUR Try.prog (Instr.fieldAt 72 v5 1) fun v26 =>
  LD Try.prog (Instr.loadAt 3 v26) (World.drew w15) fun v27 =>
  PUR Try.prog (Instr.fieldAt 72 v5 2) fun v28 =>
  LD Try.prog (Instr.loadAt 3 v28) (World.drew w15) fun v29 =>
  PUR Try.prog (Instr.fieldAt 72 v5 3) fun v30 =>
  LD Try.prog (Instr.loadAt 24 v30) (World.drew w15) fun v31 =>
  RUN Try.prog (pan R) (Instr.buildSlice 24 0 #[]) (World.drew w15) fun v32 w33 =>
  Sem.run Try.prog (Instr.loadAt 24 v30) w33 = .ok v31 w33 ∧ (Sem.run Try.prog (Instr.loadAt 3 v28) w33 = .ok v29 w33 ∧ (Sem.run Try.prog (Instr.loadAt 3 v26) w33 = .ok v27 w33 ∧ (RUN Try.prog (pan R) (Builtin.append_ #[24, 24] 24 #[v32, v31]) w33 fun v34 w35 =>
  Sem.run Try.prog (Instr.loadAt 3 v28) w35 = .ok v29 w35 ∧ (Sem.run Try.prog (Instr.loadAt 3 v26) w35 = .ok v27 w35 ∧ (CALL Try.prog (pan R) tree_Arena_Join.id #[x3, v27, v29, v34] w35 fun v36 w37 =>
  b46 R C43 x4 w37)))))

def b45 (R : EP) (C43 : VP) (x0 x3 x4 : Value) (w : World) (_r : Tok R := tok R) (_C43 : Tok C43 := tok C43) : Prop :=
  RUN Try.prog (pan R) (Instr.indexAt 64 x0 x4) w fun v1 w2 =>
  RUN Try.prog (pan R) (Instr.loadAt 72 v1) w2 fun v3 w4 =>
  RUN Try.prog (pan R) (Instr.alloc 72 true (.tuple #[])) w4 fun v5 w6 =>
  RUNU Try.prog (pan R) (Instr.storeAt 72 v5 v3) w6 fun w7 =>
  RUN Try.prog (pan R) (Instr.fieldAt 72 v5 0) w7 fun v8 w9 =>
  RUN Try.prog (pan R) (Instr.loadAt 3 v8) w9 fun v10 w11 =>
  RUN Try.prog (pan R) (bins .rem 3 (.tmp 37) (.const (Go.Value.int Go.IntKind.i64 2)) v10 (Go.Value.int Go.IntKind.i64 2)) w11 fun v12 w13 =>
  RUN Try.prog (pan R) (bins .eql 3 (.tmp 38) (.const (Go.Value.int Go.IntKind.i64 0)) v12 (Go.Value.int Go.IntKind.i64 0)) w13 fun v14 w15 =>
  SPL v14
  (b45_1 R C43 x3 x4 v5 w15)
  (b45_2 R C43 x3 x4 v5 w15)
abbrev q30 (R : EP) (C43 : VP) : XP := QX (fun ρ w => b46 R C43 (ρ 4) w) (fun ρ w => R (.returned (ρ 2)) w) [(0, (fun ρ w => b3 R (ρ 3) w))]
theorem b45_eq (R : EP) (C43 : VP) (ρ : Env) (w : World) : (b45 R C43 (ρ 0) (ρ 3) (ρ 4) w) = codeP Try.prog (pan R) (preC 0 (sndC p24)) (q30 R C43) ρ w := by kernel_rfl
theorem b45_ok (R : EP) (C43 : VP) (ρ : Env) (w : World) (h : b45 R C43 (ρ 0) (ρ 3) (ρ 4) w) : codeP Try.prog (pan R) (sndC p24) (q29 R C43) ρ w := by
  have e : appC 0 (preC 0 (sndC p24)) (dropC 1 (sndC p24)) = (sndC p24) := by kernel_rfl
  rw [← e]
  exact appQ (fun ρ w => b46 R C43 (ρ 4) w) 0 ((b45_eq R C43 ρ w).mp h) (fun ρ w h => b46_ok R C43 ρ w h)
noncomputable abbrev p26 : Code := dropC 1 (fstC p24)

def b48 (R : EP) (C43 : VP) (x0 x3 x4 x29 : Value) (w : World) (_r : Tok R := tok R) (_C43 : Tok C43 := tok C43) : Prop :=
  SPL x29
  (b45 R C43 x0 x3 x4 w)
  (b3 R x3 w)
abbrev q31 (R : EP) (C43 : VP) : XP := QX (fun ρ w => b45 R C43 (ρ 0) (ρ 3) (ρ 4) w) (fun ρ w => R (.returned (ρ 2)) w) [(0, (fun ρ w => b3 R (ρ 3) w))]
theorem b48_eq (R : EP) (C43 : VP) (ρ : Env) (w : World) : (b48 R C43 (ρ 0) (ρ 3) (ρ 4) (ρ 29) w) = codeP Try.prog (pan R) p26 (q31 R C43) ρ w := by kernel_rfl
theorem b48_ok (R : EP) (C43 : VP) (ρ : Env) (w : World) (h : b48 R C43 (ρ 0) (ρ 3) (ρ 4) (ρ 29) w) : codeP Try.prog (pan R) p26 (q31 R C43) ρ w := (b48_eq R C43 ρ w).mp h

def b47 (R : EP) (C43 : VP) (x0 x3 x4 : Value) (w : World) (_r : Tok R := tok R) (_C43 : Tok C43 := tok C43) : Prop :=
  RUN Try.prog (pan R) (Builtin.len_ #[64] 3 #[x0]) w fun v1 w2 =>
  RUN Try.prog (pan R) (bins .lss 3 (.tmp 22) (.tmp 24) x4 v1) w2 fun v3 w4 =>
  SPL v3
  (RUN Try.prog (pan R) (bins .lss 3 (.tmp 27) (.const (Go.Value.int Go.IntKind.i64 40)) x4 (Go.Value.int Go.IntKind.i64 40)) w4 fun v5 w6 =>
  b48 R C43 x0 x3 x4 v5 w6)
  (b48 R C43 x0 x3 x4 (Go.Value.bool Bool.false) w4)
abbrev q32 (R : EP) (C43 : VP) : XP := QX (fun ρ w => b48 R C43 (ρ 0) (ρ 3) (ρ 4) (ρ 29) w) (fun ρ w => R (.returned (ρ 2)) w) [(0, (fun ρ w => b3 R (ρ 3) w))]
theorem b47_eq (R : EP) (C43 : VP) (ρ : Env) (w : World) : (b47 R C43 (ρ 0) (ρ 3) (ρ 4) w) = codeP Try.prog (pan R) (preC 0 (fstC p24)) (q32 R C43) ρ w := by kernel_rfl
theorem b47_ok (R : EP) (C43 : VP) (ρ : Env) (w : World) (h : b47 R C43 (ρ 0) (ρ 3) (ρ 4) w) : codeP Try.prog (pan R) (fstC p24) (q31 R C43) ρ w := by
  have e : appC 0 (preC 0 (fstC p24)) (dropC 1 (fstC p24)) = (fstC p24) := by kernel_rfl
  rw [← e]
  exact appQ (fun ρ w => b48 R C43 (ρ 0) (ρ 3) (ρ 4) (ρ 29) w) 0 ((b47_eq R C43 ρ w).mp h) (fun ρ w h => b48_ok R C43 ρ w h)
theorem k44_ok (R : EP) (C43 : VP) (ρ : Env) (w : World) (h : b47 R C43 (ρ 0) (ρ 3) (ρ 4) w) : codeP Try.prog (pan R) p24 (q29 R C43) ρ w := by
  have e : Code.seq (fstC p24) (sndC p24) = p24 := by kernel_rfl
  rw [← e]
  exact seqQ (fun ρ w => b45 R C43 (ρ 0) (ρ 3) (ρ 4) w) (b47_ok R C43 ρ w h) (fun ρ w h => b45_ok R C43 ρ w h)

def l43 (R : EP) (x0 x3 x4 : Value) (w : World) (_r : Tok R := tok R) : Prop :=
  ∃ (J : VP) (μ : Value → World → Nat), J x4 w ∧ ∀ y4 w0, J y4 w0 → b47 R (fun z4 w1 => J z4 w1 ∧ μ z4 w1 < μ y4 w0) x0 x3 y4 w0
abbrev q33 (R : EP) : XP := QX (fun ρ w => b3 R (ρ 3) w) (fun ρ w => R (.returned (ρ 2)) w) [(0, (fun ρ w => b3 R (ρ 3) w))]
theorem l43_ok (R : EP) (ρ : Env) (w : World) (h : l43 R (ρ 0) (ρ 3) (ρ 4) w) : codeP Try.prog (pan R) (blkC p23) (q33 R) ρ w := by
  unfold l43 at h
  obtain ⟨J, μ, h0, hr⟩ := h
  have e : Code.loop (loopC (blkC p23)) = (blkC p23) := by kernel_rfl
  rw [← e]
  refine loopQ (fun ρ' w' => J (ρ' 4) w') (fun ρ' w' => μ (ρ' 4) w') h0 fun ρ' w' hA hI => ?_
  have e0 : ρ' 0 = ρ 0 := Agree.at hA 0 (by kernel_rfl)
  have e3 : ρ' 3 = ρ 3 := Agree.at hA 3 (by kernel_rfl)
  have h1 := hr (ρ' 4) w' hI
  rw [← e0, ← e3] at h1
  exact k44_ok R (fun z4 w1 => J z4 w1 ∧ μ z4 w1 < μ (ρ' 4) w') ρ' w' h1
theorem l43_intro (R : EP) (x0 x3 x4 : Value) (w : World) (J : VP) (μ : Value → World → Nat) (h0 : J x4 w)
    (hr : ∀ y4 w0, J y4 w0 → ∀ C43 : VP, (∀ z4 w1, J z4 w1 → μ z4 w1 < μ y4 w0 → C43 z4 w1) → b47 R C43 x0 x3 y4 w0) : l43 R x0 x3 x4 w := by
  unfold l43
  exact ⟨J, μ, h0, fun y4 w0 hJ => hr y4 w0 hJ _ (fun z4 w1 h1 h2 => ⟨h1, h2⟩)⟩
abbrev q34 (R : EP) : XP := QX (fun ρ w => b3 R (ρ 3) w) (fun ρ w => R (.returned (ρ 2)) w) []
theorem k42_ok (R : EP) (ρ : Env) (w : World) (h : l43 R (ρ 0) (ρ 3) (ρ 4) w) : codeP Try.prog (pan R) p23 (q34 R) ρ w := by
  have e : Code.block 0 (blkC p23) = p23 := by kernel_rfl
  rw [← e]
  exact blockQ (l43_ok R ρ w h)

def b41 (R : EP) (x0 x3 : Value) (w : World) (_r : Tok R := tok R) : Prop :=
  l43 R x0 x3 (Go.Value.int Go.IntKind.i64 0) w
abbrev q35 (R : EP) : XP := QX (fun ρ w => l43 R (ρ 0) (ρ 3) (ρ 4) w) (fun ρ w => R (.returned (ρ 2)) w) []
theorem b41_eq (R : EP) (ρ : Env) (w : World) : (b41 R (ρ 0) (ρ 3) w) = codeP Try.prog (pan R) (preC 0 (fstC p1)) (q35 R) ρ w := by kernel_rfl
theorem b41_ok (R : EP) (ρ : Env) (w : World) (h : b41 R (ρ 0) (ρ 3) w) : codeP Try.prog (pan R) (fstC p1) (q34 R) ρ w := by
  have e : appC 0 (preC 0 (fstC p1)) (dropC 1 (fstC p1)) = (fstC p1) := by kernel_rfl
  rw [← e]
  exact appQ (fun ρ w => l43 R (ρ 0) (ρ 3) (ρ 4) w) 0 ((b41_eq R ρ w).mp h) (fun ρ w h => k42_ok R ρ w h)
theorem k2_ok (R : EP) (ρ : Env) (w : World) (h : b41 R (ρ 0) (ρ 3) w) : codeP Try.prog (pan R) p1 (q1 R) ρ w := by
  have e : Code.seq (fstC p1) (sndC p1) = p1 := by kernel_rfl
  rw [← e]
  exact seqQ (fun ρ w => b3 R (ρ 3) w) (b41_ok R ρ w h) (fun ρ w h => b3_ok R ρ w h)

def b1 (R : EP) (x0 : Value) (w : World) (_r : Tok R := tok R) : Prop :=
  CALL Try.prog (pan R) tree_New.id #[] w fun v1 w2 =>
  RUN Try.prog (pan R) (bins .eql 65 (.tmp 20) (.const (Go.Value.pointer Option.none)) v1 (Go.Value.pointer Option.none)) w2 fun v3 w4 =>
  SPL v3
  (R (.returned (Go.Value.bool Bool.false)) w4)
  (b41 R x0 v1 w4)
abbrev q36 (R : EP) : XP := QX (fun ρ w => b41 R (ρ 0) (ρ 3) w) (fun ρ w => R (.returned (ρ 2)) w) []
theorem b1_eq (R : EP) (ρ : Env) (w : World) : (b1 R (ρ 0) w) = codeP Try.prog (pan R) (preC 2 code) (q36 R) ρ w := by kernel_rfl
theorem b1_ok (R : EP) (ρ : Env) (w : World) (h : b1 R (ρ 0) w) : codeP Try.prog (pan R) code (q1 R) ρ w := by
  have e : appC 2 (preC 2 code) (dropC 3 code) = code := by kernel_rfl
  rw [← e]
  exact appQ (fun ρ w => b41 R (ρ 0) (ρ 3) w) 2 ((b1_eq R ρ w).mp h) (fun ρ w h => k2_ok R ρ w h)
/-- What is owed for a call. -/
def run (R : EP) (a0 : Value) (w : World) : Prop := b1 R a0 w
theorem calls (R : EP) (a0 : Value) (w : World) (h : run R a0 w) : Calls Try.prog id #[a0] w R :=
  calls_of_t (f := id) (fn := Try.f12) (c := code) (by kernel_rfl) Try.func12 (by kernel_rfl) (by kernel_rfl) (args := [a0]) (Nat.le_of_ble_eq_true rfl) rfl (b1_ok R (envOf [a0]) w h)
theorem enters : Enters Try.prog id := fun args w => Try.call12 args w
theorem ct {a0 : Value} {w : World} {S : VP} (h : ∀ R : EP, (∀ v w, S v w → R (.returned v) w) → run R a0 w) : Ct Try.prog id #[a0] w S :=
  Ct.intro enters fun R hR => calls R a0 w (h R hR)
attribute [irreducible] b5 b11 b19 b18_1 b18 b25 b29 b31 b30 b27_1 b27_2 b27 b23 l22 b20 b16 b35 b37 b36_1 b36 b38 b33 b32 b40 b39 b13_1 b13_2 b13 b9 l8 b6 b3_1 b3 b46 b45_1 b45_2 b45 b48 b47 l43 b41 b1 run
attribute [go_sem] b5 b11 b19 b18_1 b18 b25 b29 b31 b30 b27_1 b27_2 b27 b23 b20 b16 b35 b37 b36_1 b36 b38 b33 b32 b40 b39 b13_1 b13_2 b13 b9 b6 b3_1 b3 b46 b45_1 b45_2 b45 b48 b47 b41 b1 run
end law20_TreeWhole


/-! ### presage/presagelaw20.awake -/
namespace law20_awake
noncomputable def code : Code := bodyOf Try.f40
def b1_1 (R : EP) (w59 : World) (_r : Tok R := tok R) : Prop :=
  CALL Try.prog (pan R) tree_New.id #[] w59 fun v60 w61 =>
  RUN Try.prog (pan R) (bins .neq 65 (.tmp 67) (.const (Go.Value.pointer Option.none)) v60 (Go.Value.pointer Option.none)) w61 fun v62 w63 =>
  R (.returned v62) w63
def b1_2 (R : EP) (v5 v7 : Value) (w51 : World) (_r : Tok R := tok R) : Prop :=
  RUN Try.prog (pan R) (Instr.loadAt 27 v7) w51 fun v52 w53 =>
  RUN Try.prog (pan R) (Instr.buildSlice 24 2 #[(0, (Go.Value.int Go.IntKind.i64 2)), (1, (Go.Value.int Go.IntKind.i64 1))]) w53 fun v54 w55 =>
  CALL Try.prog (pan R) tree_Derives.id #[v52, v5, (Go.Value.int Go.IntKind.i64 4), v54] w55 fun v56 w57 =>
  RUN Try.prog (pan R) (Op.unary .not v56) w57 fun v58 w59 =>
  SPL v58
  (b1_1 R w59)
  (R (.returned (Go.Value.bool Bool.false)) w59)
def b1_3 (R : EP) (v5 v7 : Value) (w45 : World) (_r : Tok R := tok R) : Prop :=
  RUN Try.prog (pan R) (Instr.loadAt 27 v7) w45 fun v46 w47 =>
  RUN Try.prog (pan R) (Instr.buildSlice 24 3 #[(0, (Go.Value.int Go.IntKind.i64 2)), (1, (Go.Value.int Go.IntKind.i64 1)), (2, (Go.Value.int Go.IntKind.i64 2))]) w47 fun v48 w49 =>
  CALL Try.prog (pan R) tree_Derives.id #[v46, v5, (Go.Value.int Go.IntKind.i64 4), v48] w49 fun v50 w51 =>
  SPL v50
  (b1_2 R v5 v7 w51)
  (R (.returned (Go.Value.bool Bool.false)) w51)
def b1_4 (R : EP) (v5 v7 v18 v26 : Value) (w39 : World) (_r : Tok R := tok R) : Prop :=
  RUN Try.prog (pan R) (Instr.buildSlice 24 2 #[(0, (Go.Value.int Go.IntKind.i64 1)), (1, (Go.Value.int Go.IntKind.i64 2))]) w39 fun v40 w41 =>
  CALL Try.prog (pan R) ref01_Ints.id #[v18, v40] w41 fun v42 w43 =>
  SPL v42
  (RUN Try.prog (pan R) (bins .eql 9 (.tmp 50) (.const (Go.Value.string { data := #[101, 40, 101, 40, 39, 110, 39, 41, 32, 39, 43, 39, 32, 39, 110, 39, 41] })) v26 (Go.Value.string { data := #[101, 40, 101, 40, 39, 110, 39, 41, 32, 39, 43, 39, 32, 39, 110, 39, 41] })) w43 fun v44 w45 =>
  SPL v44
  (b1_3 R v5 v7 w45)
  (R (.returned (Go.Value.bool Bool.false)) w45))
  (R (.returned (Go.Value.bool Bool.false)) w43)
def b1_5 (R : EP) (v5 v7 v12 v18 v26 : Value) (w35 : World) (_r : Tok R := tok R) : Prop :=
  RUN Try.prog (pan R) (Instr.buildSlice 24 3 #[(0, (Go.Value.int Go.IntKind.i64 2)), (1, (Go.Value.int Go.IntKind.i64 1)), (2, (Go.Value.int Go.IntKind.i64 2))]) w35 fun v36 w37 =>
  CALL Try.prog (pan R) ref01_Ints.id #[v12, v36] w37 fun v38 w39 =>
  SPL v38
  (b1_4 R v5 v7 v18 v26 w39)
  (R (.returned (Go.Value.bool Bool.false)) w39)
def b1_6 (R : EP) (v5 v7 v12 v18 v20 v26 v28 : Value) (w31 : World) (_r : Tok R := tok R) : Prop :=
  RUN Try.prog (pan R) (bins .eql 29 (.tmp 32) (.const (Go.Value.int Go.IntKind.i64 0)) v20 (Go.Value.int Go.IntKind.i64 0)) w31 fun v32 w33 =>
  SPL v32
  (RUN Try.prog (pan R) (bins .eql 29 (.tmp 36) (.const (Go.Value.int Go.IntKind.i64 0)) v28 (Go.Value.int Go.IntKind.i64 0)) w33 fun v34 w35 =>
  SPL v34
  (b1_5 R v5 v7 v12 v18 v26 w35)
  (R (.returned (Go.Value.bool Bool.false)) w35))
  (R (.returned (Go.Value.bool Bool.false)) w33)
def b1_7 (R : EP) (v5 v7 v12 v14 v18 v20 v24 : Value) (w25 : World) (_r : Tok R := tok R) : Prop :=
  RUN Try.prog (pan R) (Instr.extract v24 0) w25 fun v26 w27 =>
  RUN Try.prog (pan R) (Instr.extract v24 1) w27 fun v28 w29 =>
  RUN Try.prog (pan R) (bins .eql 29 (.tmp 29) (.const (Go.Value.int Go.IntKind.i64 0)) v14 (Go.Value.int Go.IntKind.i64 0)) w29 fun v30 w31 =>
  SPL v30
  (b1_6 R v5 v7 v12 v18 v20 v26 v28 w31)
  (R (.returned (Go.Value.bool Bool.false)) w31)
def b1_8 (R : EP) (v5 v7 v12 v14 v16 : Value) (w17 : World) (_r : Tok R := tok R) : Prop :=
  RUN Try.prog (pan R) (Instr.extract v16 0) w17 fun v18 w19 =>
  RUN Try.prog (pan R) (Instr.extract v16 1) w19 fun v20 w21 =>
  RUN Try.prog (pan R) (Instr.loadAt 27 v7) w21 fun v22 w23 =>
  CALL Try.prog (pan R) tree_Text.id #[v22, v5, (Go.Value.int Go.IntKind.i64 4)] w23 fun v24 w25 =>
  b1_7 R v5 v7 v12 v14 v18 v20 v24 w25
def b1_9 (R : EP) (v5 v7 v10 : Value) (w11 : World) (_r : Tok R := tok R) : Prop :=
  RUN Try.prog (pan R) (Instr.extract v10 0) w11 fun v12 w13 =>
  RUN Try.prog (pan R) (Instr.extract v10 1) w13 fun v14 w15 =>
  CALL Try.prog (pan R) tree_Rightmost.id #[v5, (Go.Value.int Go.IntKind.i64 4)] w15 fun v16 w17 =>
  b1_8 R v5 v7 v12 v14 v16 w17
def b1_10 (R : EP) (v1 : Value) (w2 : World) (_r : Tok R := tok R) : Prop :=
  RUN Try.prog (pan R) (Instr.extract v1 0) w2 fun v3 w4 =>
  RUN Try.prog (pan R) (Instr.extract v1 1) w4 fun v5 w6 =>
  RUN Try.prog (pan R) (Instr.alloc 27 true (.tuple #[])) w6 fun v7 w8 =>
  RUNU Try.prog (pan R) (Instr.storeAt 27 v7 v3) w8 fun w9 =>
  CALL Try.prog (pan R) tree_Frontier.id #[v5, (Go.Value.int Go.IntKind.i64 4)] w9 fun v10 w11 =>
  b1_9 R v5 v7 v10 w11

def b1 (R : EP) (w : World) (_r : Tok R := tok R) : Prop :=
  CALL Try.prog (pan R) law20_chapter.id #[] w fun v1 w2 =>
  b1_10 R v1 w2
abbrev q1 (R : EP) : XP := QX (fun ρ w => R (.returned (ρ 0)) w) (fun ρ w => R (.returned (ρ 0)) w) []
theorem b1_eq (R : EP) (ρ : Env) (w : World) : (b1 R w) = codeP Try.prog (pan R) code (q1 R) ρ w := by kernel_rfl
theorem b1_ok (R : EP) (ρ : Env) (w : World) (h : b1 R w) : codeP Try.prog (pan R) code (q1 R) ρ w := (b1_eq R ρ w).mp h
/-- What is owed for a call. -/
def run (R : EP) (w : World) : Prop := b1 R w
theorem calls (R : EP) (w : World) (h : run R w) : Calls Try.prog id #[] w R :=
  calls_of_t (f := id) (fn := Try.f40) (c := code) (by kernel_rfl) Try.func40 (by kernel_rfl) (by kernel_rfl) (args := []) (Nat.le_of_ble_eq_true rfl) rfl (b1_ok R (envOf []) w h)
theorem enters : Enters Try.prog id := fun args w => Try.call40 args w
theorem ct {w : World} {S : VP} (h : ∀ R : EP, (∀ v w, S v w → R (.returned v) w) → run R w) : Ct Try.prog id #[] w S :=
  Ct.intro enters fun R hR => calls R w (h R hR)
attribute [irreducible] b1_1 b1_2 b1_3 b1_4 b1_5 b1_6 b1_7 b1_8 b1_9 b1_10 b1 run
attribute [go_sem] b1_1 b1_2 b1_3 b1_4 b1_5 b1_6 b1_7 b1_8 b1_9 b1_10 b1 run
end law20_awake


/-! ### presage/presagelaw20.chapter -/
namespace law20_chapter
noncomputable def code : Code := bodyOf Try.f90

def b1 (R : EP) (w : World) (_r : Tok R := tok R) : Prop :=
  RUN Try.prog (pan R) (Instr.alloc 27 true (.tuple #[])) w fun v1 w2 =>
  RUN Try.prog (pan R) (Instr.build 106 #[]) w2 fun v3 w4 =>
  RUN Try.prog (pan R) (Instr.build 106 #[(0, (Go.Value.string { data := #[43] }))]) w4 fun v5 w6 =>
  RUN Try.prog (pan R) (Instr.build 106 #[(0, (Go.Value.string { data := #[110] }))]) w6 fun v7 w8 =>
  RUN Try.prog (pan R) (Instr.buildSlice 22 3 #[(0, v3), (1, v5), (2, v7)]) w8 fun v9 w10 =>
  RUN Try.prog (pan R) (Instr.buildSlice 23 2 #[(0, (Go.Value.string { data := #[] })), (1, (Go.Value.string { data := #[101] }))]) w10 fun v11 w12 =>
  RUN Try.prog (pan R) (Instr.buildSlice 24 1 #[(0, (Go.Value.int Go.IntKind.i64 4))]) w12 fun v13 w14 =>
  RUN Try.prog (pan R) (Instr.build 47 #[(0, (Go.Value.int Go.IntKind.i64 3)), (1, v13)]) w14 fun v15 w16 =>
  RUN Try.prog (pan R) (Instr.buildSlice 24 3 #[(0, (Go.Value.int Go.IntKind.i64 4)), (1, (Go.Value.int Go.IntKind.i64 1)), (2, (Go.Value.int Go.IntKind.i64 2))]) w16 fun v17 w18 =>
  RUN Try.prog (pan R) (Instr.build 47 #[(0, (Go.Value.int Go.IntKind.i64 4)), (1, v17)]) w18 fun v19 w20 =>
  RUN Try.prog (pan R) (Instr.buildSlice 24 1 #[(0, (Go.Value.int Go.IntKind.i64 2))]) w20 fun v21 w22 =>
  RUN Try.prog (pan R) (Instr.build 47 #[(0, (Go.Value.int Go.IntKind.i64 4)), (1, v21)]) w22 fun v23 w24 =>
  RUN Try.prog (pan R) (Instr.buildSlice 25 3 #[(0, v15), (1, v19), (2, v23)]) w24 fun v25 w26 =>
  RUN Try.prog (pan R) (Instr.build 27 #[(0, v9), (1, v11), (3, (Go.Value.int Go.IntKind.i64 4)), (4, v25)]) w26 fun v27 w28 =>
  RUN Try.prog (pan R) (Instr.alloc 27 true (.tuple #[])) w28 fun v29 w30 =>
  RUNU Try.prog (pan R) (Instr.storeAt 27 v29 v27) w30 fun w31 =>
  RUN Try.prog (pan R) (Instr.build 61 #[(0, (Go.Value.int Go.IntKind.i64 2)), (1, (Go.Value.int Go.IntKind.i64 (-1)))]) w31 fun v32 w33 =>
  RUN Try.prog (pan R) (Instr.buildSlice 24 1 #[(0, (Go.Value.int Go.IntKind.i64 0))]) w33 fun v34 w35 =>
  RUN Try.prog (pan R) (Instr.build 61 #[(0, (Go.Value.int Go.IntKind.i64 4)), (1, (Go.Value.int Go.IntKind.i64 2)), (3, v34)]) w35 fun v36 w37 =>
  RUN Try.prog (pan R) (Instr.build 61 #[(0, (Go.Value.int Go.IntKind.i64 1)), (1, (Go.Value.int Go.IntKind.i64 (-1))), (2, (Go.Value.int Go.IntKind.i64 1))]) w37 fun v38 w39 =>
  RUN Try.prog (pan R) (Instr.build 61 #[(0, (Go.Value.int Go.IntKind.i64 2)), (1, (Go.Value.int Go.IntKind.i64 (-1))), (2, (Go.Value.int Go.IntKind.i64 2))]) w39 fun v40 w41 =>
  RUN Try.prog (pan R) (Instr.buildSlice 24 3 #[(0, (Go.Value.int Go.IntKind.i64 1)), (1, (Go.Value.int Go.IntKind.i64 2)), (2, (Go.Value.int Go.IntKind.i64 3))]) w41 fun v42 w43 =>
  RUN Try.prog (pan R) (Instr.build 61 #[(0, (Go.Value.int Go.IntKind.i64 4)), (1, (Go.Value.int Go.IntKind.i64 1)), (3, v42)]) w43 fun v44 w45 =>
  RUN Try.prog (pan R) (Instr.buildSlice 49 5 #[(0, v32), (1, v36), (2, v38), (3, v40), (4, v44)]) w45 fun v46 w47 =>
  RUN Try.prog (pan R) (Instr.loadAt 27 v29) w47 fun v48 w49 =>
  RUNU Try.prog (pan R) (Instr.storeAt 27 v1 v48) w49 fun w50 =>
  LD Try.prog (Instr.loadAt 27 v1) w50 fun r0 => R (.returned (.tuple #[r0, v46])) w50
abbrev q1 (R : EP) : XP := QX (fun ρ w => LD Try.prog (Instr.loadAt 27 (ρ 0)) w fun r0 => R (.returned (.tuple #[r0, (ρ 1)])) w) (fun ρ w => LD Try.prog (Instr.loadAt 27 (ρ 0)) w fun r0 => R (.returned (.tuple #[r0, (ρ 1)])) w) []
theorem b1_eq (R : EP) (ρ : Env) (w : World) : (b1 R w) = codeP Try.prog (pan R) code (q1 R) ρ w := by kernel_rfl
theorem b1_ok (R : EP) (ρ : Env) (w : World) (h : b1 R w) : codeP Try.prog (pan R) code (q1 R) ρ w := (b1_eq R ρ w).mp h
/-- What is owed for a call. -/
def run (R : EP) (w : World) : Prop := b1 R w
theorem calls (R : EP) (w : World) (h : run R w) : Calls Try.prog id #[] w R :=
  calls_of_ct (f := id) (fn := Try.f90) (c := code) (by kernel_rfl) Try.func90 (by kernel_rfl) (by kernel_rfl) (args := []) (Nat.le_of_ble_eq_true rfl) rfl (b1_ok R (envOf []) w h)
theorem enters : Enters Try.prog id := fun args w => Try.call90 args w
theorem ct {w : World} {S : VP} (h : ∀ R : EP, (∀ v w, S v w → R (.returned v) w) → run R w) : Ct Try.prog id #[] w S :=
  Ct.intro enters fun R hR => calls R w (h R hR)
attribute [irreducible] b1 run
attribute [go_sem] b1 run
end law20_chapter
end Go.Proofs.Ytkacbjhiobnbfaa

