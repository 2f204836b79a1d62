/- Shallow programs, written by a program of ours (gen.py) off the translation; each is tied to the code by the kernel. -/
import Derived.Test.YtkacbjhiobnbfaaGa
set_option linter.unusedVariables false
set_option maxRecDepth 100000
namespace Go.Proofs.Ytkacbjhiobnbfaa
open Go.Px

/-! ### presage/presagelaw05.ShowTexts -/
namespace law05_ShowTexts
noncomputable def code : Code := bodyOf Try.f3
def b1_1 (R : Ending → World → Prop) (v1 v7 : Value) (w29 : World) (_r : Tok R := tok R) : Prop :=
  RUN Try.prog (pan R) (Instr.loadAt 27 v7) w29 fun v30 w31 =>
  RUN Try.prog (pan R) (Instr.loadAt 27 v1) w31 fun v32 w33 =>
  CALL Try.prog (pan R) ref02_Same.id #[v30, v32] w33 fun v34 w35 =>
  SPL v34
  (CALL Try.prog (pan R) law05_awake.id #[] w35 fun v36 w37 =>
  R (.returned v36) w37)
  (R (.returned (Go.Value.bool Bool.false)) w35)
def b1_2 (R : Ending → World → Prop) (v1 v7 v14 v16 v20 : Value) (w21 : World) (_r : Tok R := tok R) : Prop :=
  RUN Try.prog (pan R) (Instr.extract v20 0) w21 fun v22 w23 =>
  RUN Try.prog (pan R) (Instr.extract v20 1) w23 fun v24 w25 =>
  RUN Try.prog (pan R) (bins .eql 9 (.tmp 20) (.tmp 21) v14 v22) w25 fun v26 w27 =>
  SPL v26
  (RUN Try.prog (pan R) (bins .eql 29 (.tmp 24) (.tmp 25) v16 v24) w27 fun v28 w29 =>
  SPL v28
  (b1_1 R v1 v7 w29)
  (R (.returned (Go.Value.bool Bool.false)) w29))
  (R (.returned (Go.Value.bool Bool.false)) w27)
def b1_3 (R : Ending → World → Prop) (v1 v7 v12 : Value) (w13 : World) (_r : Tok R := tok R) : Prop :=
  RUN Try.prog (pan R) (Instr.extract v12 0) w13 fun v14 w15 =>
  RUN Try.prog (pan R) (Instr.extract v12 1) w15 fun v16 w17 =>
  RUN Try.prog (pan R) (Instr.loadAt 27 v1) w17 fun v18 w19 =>
  CALL Try.prog (pan R) ref05_Text.id #[v18] w19 fun v20 w21 =>
  b1_2 R v1 v7 v14 v16 v20 w21
def b1_4 (R : Ending → World → Prop) (v1 v5 : Value) (w6 : World) (_r : Tok R := tok R) : Prop :=
  RUN Try.prog (pan R) (Instr.alloc 27 true (.tuple #[])) w6 fun v7 w8 =>
  RUNU Try.prog (pan R) (Instr.storeAt 27 v7 v5) w8 fun w9 =>
  RUN Try.prog (pan R) (Instr.loadAt 27 v7) w9 fun v10 w11 =>
  CALL Try.prog (pan R) show_Text.id #[v10] w11 fun v12 w13 =>
  b1_3 R v1 v7 v12 w13
/- x0 g -/
def b1 (R : Ending → World → Prop) (x0 : Value) (w : World) (_r : Tok R := tok R) : Prop :=
  RUN Try.prog (pan R) (Instr.box 27 x0) w fun v1 w2 =>
  RUN Try.prog (pan R) (Instr.loadAt 27 v1) w2 fun v3 w4 =>
  CALL Try.prog (pan R) ref02_Copy.id #[v3] w4 fun v5 w6 =>
  b1_4 R v1 v5 w6
abbrev q1 (R : Ending → World → Prop) : Exit → Env → World → Prop := QX (fun ρ w => R (.returned (ρ 2)) w) (fun ρ w => R (.returned (ρ 2)) w) []
theorem b1_eq (R : Ending → World → Prop) (ρ : Env) (w : World) : (b1 R (ρ 0) w) = codeP Try.prog (pan R) code (q1 R) ρ w := by kernel_rfl
theorem b1_ok (R : Ending → World → Prop) (ρ : Env) (w : World) (h : b1 R (ρ 0) w) : codeP Try.prog (pan R) code (q1 R) ρ w := (b1_eq R ρ w).mp h
/-- What is owed for a call. -/
def run (R : Ending → World → Prop) (a0 : Value) (w : World) : Prop := b1 R a0 w
theorem calls (R : Ending → World → Prop) (a0 : Value) (w : World) (h : run R a0 w) : Calls Try.prog id #[a0] w R :=
  calls_of_t (f := id) (fn := Try.f3) (c := code) (by kernel_rfl) Try.func3 (by kernel_rfl) (by kernel_rfl) (args := [a0]) (Nat.le_of_ble_eq_true rfl) rfl (b1_ok R (envOf [a0]) w h)
theorem enters : Enters Try.prog id := fun args w => Try.call3 args w
theorem ct {a0 : Value} {w : World} {S : Value → World → Prop} (h : ∀ R : Ending → World → Prop, (∀ v w, S v w → R (.returned v) w) → run R a0 w) : Ct Try.prog id #[a0] w S :=
  Ct.intro enters fun R hR => calls R a0 w (h R hR)
attribute [irreducible] b1_1 b1_2 b1_3 b1_4 b1 run
attribute [go_sem] b1_1 b1_2 b1_3 b1_4 b1 run
end law05_ShowTexts


/-! ### presage/presagelaw05.ShowSmall -/
namespace law05_ShowSmall
noncomputable def code : Code := bodyOf Try.f5
noncomputable abbrev p1 : Code := dropC 5 code
noncomputable abbrev p2 : Code := sndC (sndC p1)
def b4_1 (R : Ending → World → Prop) (x3 x7 : Value) (w52 : World) (_r : Tok R := tok R) : Prop :=
  RUN Try.prog (pan R) (Instr.loadAt 27 x7) w52 fun v53 w54 =>
  RUN Try.prog (pan R) (Instr.loadAt 27 x3) w54 fun v55 w56 =>
  CALL Try.prog (pan R) ref02_Same.id #[v53, v55] w56 fun v57 w58 =>
  SPL v57
  (CALL Try.prog (pan R) law05_awake.id #[] w58 fun v59 w60 =>
  R (.returned v59) w60)
  (R (.returned (Go.Value.bool Bool.false)) w58)
def b4_2 (R : Ending → World → Prop) (x3 x7 v31 v33 v41 v43 : Value) (w48 : World) (_r : Tok R := tok R) : Prop :=
  RUN Try.prog (pan R) (bins .eql 9 (.tmp 131) (.tmp 132) v31 v41) w48 fun v49 w50 =>
  SPL v49
  (RUN Try.prog (pan R) (bins .eql 29 (.tmp 136) (.tmp 137) v33 v43) w50 fun v51 w52 =>
  SPL v51
  (b4_1 R x3 x7 w52)
  (R (.returned (Go.Value.bool Bool.false)) w52))
  (R (.returned (Go.Value.bool Bool.false)) w50)
def b4_3 (R : Ending → World → Prop) (x3 x7 v9 v11 v21 v23 v31 v33 v39 : Value) (w40 : World) (_r : Tok R := tok R) : Prop :=
  RUN Try.prog (pan R) (Instr.extract v39 0) w40 fun v41 w42 =>
  RUN Try.prog (pan R) (Instr.extract v39 1) w42 fun v43 w44 =>
  RUN Try.prog (pan R) (bins .eql 9 (.tmp 122) (.tmp 123) v9 v21) w44 fun v45 w46 =>
  SPL v45
  (RUN Try.prog (pan R) (bins .eql 29 (.tmp 126) (.tmp 127) v11 v23) w46 fun v47 w48 =>
  SPL v47
  (b4_2 R x3 x7 v31 v33 v41 v43 w48)
  (R (.returned (Go.Value.bool Bool.false)) w48))
  (R (.returned (Go.Value.bool Bool.false)) w46)
def b4_4 (R : Ending → World → Prop) (x3 x5 x7 v9 v11 v21 v23 v29 : Value) (w30 : World) (_r : Tok R := tok R) : Prop :=
  RUN Try.prog (pan R) (Instr.extract v29 0) w30 fun v31 w32 =>
  RUN Try.prog (pan R) (Instr.extract v29 1) w32 fun v33 w34 =>
  RUN Try.prog (pan R) (Instr.loadAt 27 x3) w34 fun v35 w36 =>
  RUN Try.prog (pan R) (Instr.loadAt 36 x5) w36 fun v37 w38 =>
  CALL Try.prog (pan R) ref05_Item.id #[v35, v37] w38 fun v39 w40 =>
  b4_3 R x3 x7 v9 v11 v21 v23 v31 v33 v39 w40
def b4_5 (R : Ending → World → Prop) (x3 x5 x7 v9 v11 v19 : Value) (w20 : World) (_r : Tok R := tok R) : Prop :=
  RUN Try.prog (pan R) (Instr.extract v19 0) w20 fun v21 w22 =>
  RUN Try.prog (pan R) (Instr.extract v19 1) w22 fun v23 w24 =>
  RUN Try.prog (pan R) (Instr.loadAt 27 x7) w24 fun v25 w26 =>
  RUN Try.prog (pan R) (Instr.loadAt 36 x5) w26 fun v27 w28 =>
  CALL Try.prog (pan R) show_Item.id #[v25, v27] w28 fun v29 w30 =>
  b4_4 R x3 x5 x7 v9 v11 v21 v23 v29 w30
def b4_6 (R : Ending → World → Prop) (x3 x5 x7 v7 : Value) (w8 : World) (_r : Tok R := tok R) : Prop :=
  RUN Try.prog (pan R) (Instr.extract v7 0) w8 fun v9 w10 =>
  RUN Try.prog (pan R) (Instr.extract v7 1) w10 fun v11 w12 =>
  RUN Try.prog (pan R) (Instr.loadAt 27 x3) w12 fun v13 w14 =>
  RUN Try.prog (pan R) (Instr.fieldAt 36 x5 0) w14 fun v15 w16 =>
  RUN Try.prog (pan R) (Instr.loadAt 3 v15) w16 fun v17 w18 =>
  CALL Try.prog (pan R) ref05_Prod.id #[v13, v17] w18 fun v19 w20 =>
  b4_5 R x3 x5 x7 v9 v11 v19 w20

def b4 (R : Ending → World → Prop) (x3 x5 x7 : Value) (w : World) (_r : Tok R := tok R) : Prop :=
  RUN Try.prog (pan R) (Instr.loadAt 27 x7) w fun v1 w2 =>
  RUN Try.prog (pan R) (Instr.fieldAt 36 x5 0) w2 fun v3 w4 =>
  RUN Try.prog (pan R) (Instr.loadAt 3 v3) w4 fun v5 w6 =>
  CALL Try.prog (pan R) show_Prod.id #[v1, v5] w6 fun v7 w8 =>
  b4_6 R x3 x5 x7 v7 w8
abbrev q1 (R : Ending → World → Prop) : Exit → Env → World → Prop := QX (fun ρ w => R (.returned (ρ 6)) w) (fun ρ w => R (.returned (ρ 6)) w) []
theorem b4_eq (R : Ending → World → Prop) (ρ : Env) (w : World) : (b4 R (ρ 3) (ρ 5) (ρ 7) w) = codeP Try.prog (pan R) p2 (q1 R) ρ w := by kernel_rfl
theorem b4_ok (R : Ending → World → Prop) (ρ : Env) (w : World) (h : b4 R (ρ 3) (ρ 5) (ρ 7) w) : codeP Try.prog (pan R) p2 (q1 R) ρ w := (b4_eq R ρ w).mp h
noncomputable abbrev p3 : Code := fstC (sndC p1)
noncomputable abbrev p4 : Code := dropC 1 p3
noncomputable abbrev p5 : Code := loopC (blkC p4)
noncomputable abbrev p6 : Code := sndC (sndC p5)

def b10 (R : Ending → World → Prop) (C7 : Value → World → Prop) (x14 : Value) (w : World) (_r : Tok R := tok R) (_C7 : Tok C7 := tok C7) : Prop :=
  RUN Try.prog (pan R) (bins .add 3 (.tmp 68) (.const (Go.Value.int Go.IntKind.i64 1)) x14 (Go.Value.int Go.IntKind.i64 1)) w fun v1 w2 =>
  C7 v1 w2
abbrev q2 (R : Ending → World → Prop) (C7 : Value → World → Prop) : Exit → Env → World → Prop := QX (fun ρ w => C7 (ρ 14) w) (fun ρ w => R (.returned (ρ 6)) w) [(0, (fun ρ w => b4 R (ρ 3) (ρ 5) (ρ 7) w))]
theorem b10_eq (R : Ending → World → Prop) (C7 : Value → World → Prop) (ρ : Env) (w : World) : (b10 R C7 (ρ 14) w) = codeP Try.prog (pan R) p6 (q2 R C7) ρ w := by kernel_rfl
theorem b10_ok (R : Ending → World → Prop) (C7 : Value → World → Prop) (ρ : Env) (w : World) (h : b10 R C7 (ρ 14) w) : codeP Try.prog (pan R) p6 (q2 R C7) ρ w := (b10_eq R C7 ρ w).mp h
noncomputable abbrev p7 : Code := fstC (sndC p5)
noncomputable abbrev p8 : Code := dropC 3 (blkC p7)

def b13 (R : Ending → World → Prop) (C7 : Value → World → Prop) (x14 x95 : Value) (w : World) (_r : Tok R := tok R) (_C7 : Tok C7 := tok C7) : Prop :=
  SPL x95
  (R (.returned (Go.Value.bool Bool.false)) w)
  (b10 R C7 x14 w)
abbrev q3 (R : Ending → World → Prop) (C7 : Value → World → Prop) : Exit → Env → World → Prop := QX (fun ρ w => b10 R C7 (ρ 14) w) (fun ρ w => R (.returned (ρ 6)) w) [(2, (fun ρ w => b10 R C7 (ρ 14) w)), (0, (fun ρ w => b4 R (ρ 3) (ρ 5) (ρ 7) w))]
theorem b13_eq (R : Ending → World → Prop) (C7 : Value → World → Prop) (ρ : Env) (w : World) : (b13 R C7 (ρ 14) (ρ 95) w) = codeP Try.prog (pan R) p8 (q3 R C7) ρ w := by kernel_rfl
theorem b13_ok (R : Ending → World → Prop) (C7 : Value → World → Prop) (ρ : Env) (w : World) (h : b13 R C7 (ρ 14) (ρ 95) w) : codeP Try.prog (pan R) p8 (q3 R C7) ρ w := (b13_eq R C7 ρ w).mp h
def b12_1 (R : Ending → World → Prop) (C7 : Value → World → Prop) (x14 v6 v7 v11 : Value) (w12 : World) (_r : Tok R := tok R) (_C7 : Tok C7 := tok C7) : Prop :=
  PUR Try.prog (Instr.extract v11 0) fun v13 =>
  PUR Try.prog (Instr.extract v11 1) fun v14 =>
  RUN Try.prog (pan R) (bins .neq 9 (.tmp 88) (.tmp 89) v6 v13) w12 fun v15 w16 =>
  SPL v15
  (b13 R C7 x14 (Go.Value.bool Bool.true) w16)
  (RUN Try.prog (pan R) (bins .neq 29 (.tmp 92) (.tmp 93) v7 v14) w16 fun v17 w18 =>
  b13 R C7 x14 v17 w18)
def b12_2 (R : Ending → World → Prop) (C7 : Value → World → Prop) (x1 x3 x14 v4 : Value) (w5 : World) (_r : Tok R := tok R) (_C7 : Tok C7 := tok C7) : Prop :=
  PUR Try.prog (Instr.extract v4 0) fun v6 =>
  PUR Try.prog (Instr.extract v4 1) fun v7 =>
  LD Try.prog (Instr.loadAt 27 x3) (World.drew w5) fun v8 =>
  PUR Try.prog (Instr.indexAt 24 x1 x14) fun v9 =>
  LD Try.prog (Instr.loadAt 3 v9) (World.drew w5) fun v10 =>
  CALL Try.prog (pan R) ref05_Symbol.id #[v8, v10] (World.drew w5) fun v11 w12 =>
  b12_1 R C7 x14 v6 v7 v11 w12

def b12 (R : Ending → World → Prop) (C7 : Value → World → Prop) (x1 x3 x7 x14 : Value) (w : World) (_r : Tok R := tok R) (_C7 : Tok C7 := tok C7) : Prop :=
  LD Try.prog (Instr.loadAt 27 x7) (World.drew w) fun v1 =>
  PUR Try.prog (Instr.indexAt 24 x1 x14) fun v2 =>
  LD Try.prog (Instr.loadAt 3 v2) (World.drew w) fun v3 =>
  CALL Try.prog (pan R) show_Symbol.id #[v1, v3] (World.drew w) fun v4 w5 =>
  b12_2 R C7 x1 x3 x14 v4 w5
abbrev q4 (R : Ending → World → Prop) (C7 : Value → World → Prop) : Exit → Env → World → Prop := QX (fun ρ w => b13 R C7 (ρ 14) (ρ 95) w) (fun ρ w => R (.returned (ρ 6)) w) [(2, (fun ρ w => b10 R C7 (ρ 14) w)), (0, (fun ρ w => b4 R (ρ 3) (ρ 5) (ρ 7) w))]
theorem b12_eq (R : Ending → World → Prop) (C7 : Value → World → Prop) (ρ : Env) (w : World) : (b12 R C7 (ρ 1) (ρ 3) (ρ 7) (ρ 14) w) = codeP Try.prog (pan R) (preC 2 (blkC p7)) (q4 R C7) ρ w := by kernel_rfl
theorem b12_ok (R : Ending → World → Prop) (C7 : Value → World → Prop) (ρ : Env) (w : World) (h : b12 R C7 (ρ 1) (ρ 3) (ρ 7) (ρ 14) w) : codeP Try.prog (pan R) (blkC p7) (q3 R C7) ρ w := by
  have e : appC 2 (preC 2 (blkC p7)) (dropC 3 (blkC p7)) = (blkC p7) := by kernel_rfl
  rw [← e]
  exact appQ (fun ρ w => b13 R C7 (ρ 14) (ρ 95) w) 2 ((b12_eq R C7 ρ w).mp h) (fun ρ w h => b13_ok R C7 ρ w h)
abbrev q5 (R : Ending → World → Prop) (C7 : Value → World → Prop) : Exit → Env → World → Prop := QX (fun ρ w => b10 R C7 (ρ 14) w) (fun ρ w => R (.returned (ρ 6)) w) [(0, (fun ρ w => b4 R (ρ 3) (ρ 5) (ρ 7) w))]
theorem k11_ok (R : Ending → World → Prop) (C7 : Value → World → Prop) (ρ : Env) (w : World) (h : b12 R C7 (ρ 1) (ρ 3) (ρ 7) (ρ 14) w) : codeP Try.prog (pan R) p7 (q5 R C7) ρ w := by
  have e : Code.block 1 (blkC p7) = p7 := by kernel_rfl
  rw [← e]
  exact blockQ (b12_ok R C7 ρ w h)
theorem k9_ok (R : Ending → World → Prop) (C7 : Value → World → Prop) (ρ : Env) (w : World) (h : b12 R C7 (ρ 1) (ρ 3) (ρ 7) (ρ 14) w) : codeP Try.prog (pan R) (sndC p5) (q2 R C7) ρ w := by
  have e : Code.seq (fstC (sndC p5)) (sndC (sndC p5)) = (sndC p5) := by kernel_rfl
  rw [← e]
  exact seqQ (fun ρ w => b10 R C7 (ρ 14) w) (k11_ok R C7 ρ w h) (fun ρ w h => b10_ok R C7 ρ w h)
noncomputable abbrev p9 : Code := dropC 1 (fstC p5)

def b15 (R : Ending → World → Prop) (C7 : Value → World → Prop) (x1 x3 x5 x7 x14 x67 : Value) (w : World) (_r : Tok R := tok R) (_C7 : Tok C7 := tok C7) : Prop :=
  SPL x67
  (b12 R C7 x1 x3 x7 x14 w)
  (b4 R x3 x5 x7 w)
abbrev q6 (R : Ending → World → Prop) (C7 : Value → World → Prop) : Exit → Env → World → Prop := QX (fun ρ w => b12 R C7 (ρ 1) (ρ 3) (ρ 7) (ρ 14) w) (fun ρ w => R (.returned (ρ 6)) w) [(0, (fun ρ w => b4 R (ρ 3) (ρ 5) (ρ 7) w))]
theorem b15_eq (R : Ending → World → Prop) (C7 : Value → World → Prop) (ρ : Env) (w : World) : (b15 R C7 (ρ 1) (ρ 3) (ρ 5) (ρ 7) (ρ 14) (ρ 67) w) = codeP Try.prog (pan R) p9 (q6 R C7) ρ w := by kernel_rfl
theorem b15_ok (R : Ending → World → Prop) (C7 : Value → World → Prop) (ρ : Env) (w : World) (h : b15 R C7 (ρ 1) (ρ 3) (ρ 5) (ρ 7) (ρ 14) (ρ 67) w) : codeP Try.prog (pan R) p9 (q6 R C7) ρ w := (b15_eq R C7 ρ w).mp h

def b14 (R : Ending → World → Prop) (C7 : Value → World → Prop) (x1 x3 x5 x7 x14 : Value) (w : World) (_r : Tok R := tok R) (_C7 : Tok C7 := tok C7) : Prop :=
  RUN Try.prog (pan R) (Builtin.len_ #[24] 3 #[x1]) w fun v1 w2 =>
  RUN Try.prog (pan R) (bins .lss 3 (.tmp 60) (.tmp 62) x14 v1) w2 fun v3 w4 =>
  SPL v3
  (RUN Try.prog (pan R) (bins .lss 3 (.tmp 65) (.const (Go.Value.int Go.IntKind.i64 8)) x14 (Go.Value.int Go.IntKind.i64 8)) w4 fun v5 w6 =>
  b15 R C7 x1 x3 x5 x7 x14 v5 w6)
  (b15 R C7 x1 x3 x5 x7 x14 (Go.Value.bool Bool.false) w4)
abbrev q7 (R : Ending → World → Prop) (C7 : Value → World → Prop) : Exit → Env → World → Prop := QX (fun ρ w => b15 R C7 (ρ 1) (ρ 3) (ρ 5) (ρ 7) (ρ 14) (ρ 67) w) (fun ρ w => R (.returned (ρ 6)) w) [(0, (fun ρ w => b4 R (ρ 3) (ρ 5) (ρ 7) w))]
theorem b14_eq (R : Ending → World → Prop) (C7 : Value → World → Prop) (ρ : Env) (w : World) : (b14 R C7 (ρ 1) (ρ 3) (ρ 5) (ρ 7) (ρ 14) w) = codeP Try.prog (pan R) (preC 0 (fstC p5)) (q7 R C7) ρ w := by kernel_rfl
theorem b14_ok (R : Ending → World → Prop) (C7 : Value → World → Prop) (ρ : Env) (w : World) (h : b14 R C7 (ρ 1) (ρ 3) (ρ 5) (ρ 7) (ρ 14) w) : codeP Try.prog (pan R) (fstC p5) (q6 R C7) ρ w := by
  have e : appC 0 (preC 0 (fstC p5)) (dropC 1 (fstC p5)) = (fstC p5) := by kernel_rfl
  rw [← e]
  exact appQ (fun ρ w => b15 R C7 (ρ 1) (ρ 3) (ρ 5) (ρ 7) (ρ 14) (ρ 67) w) 0 ((b14_eq R C7 ρ w).mp h) (fun ρ w h => b15_ok R C7 ρ w h)
theorem k8_ok (R : Ending → World → Prop) (C7 : Value → World → Prop) (ρ : Env) (w : World) (h : b14 R C7 (ρ 1) (ρ 3) (ρ 5) (ρ 7) (ρ 14) w) : codeP Try.prog (pan R) p5 (q2 R C7) ρ w := by
  have e : Code.seq (fstC p5) (sndC p5) = p5 := by kernel_rfl
  rw [← e]
  exact seqQ (fun ρ w => b12 R C7 (ρ 1) (ρ 3) (ρ 7) (ρ 14) w) (b14_ok R C7 ρ w h) (fun ρ w h => k9_ok R C7 ρ w h)

def l7 (R : Ending → World → Prop) (x1 x3 x5 x7 x14 : Value) (w : World) (_r : Tok R := tok R) : Prop :=
  ∃ (J : Value → World → Prop) (μ : Value → World → Nat), J x14 w ∧ ∀ y14 w0, J y14 w0 → b14 R (fun z14 w1 => J z14 w1 ∧ μ z14 w1 < μ y14 w0) x1 x3 x5 x7 y14 w0
abbrev q8 (R : Ending → World → Prop) : Exit → Env → World → Prop := QX (fun ρ w => b4 R (ρ 3) (ρ 5) (ρ 7) w) (fun ρ w => R (.returned (ρ 6)) w) [(0, (fun ρ w => b4 R (ρ 3) (ρ 5) (ρ 7) w))]
theorem l7_ok (R : Ending → World → Prop) (ρ : Env) (w : World) (h : l7 R (ρ 1) (ρ 3) (ρ 5) (ρ 7) (ρ 14) w) : codeP Try.prog (pan R) (blkC p4) (q8 R) ρ w := by
  unfold l7 at h
  obtain ⟨J, μ, h0, hr⟩ := h
  have e : Code.loop (loopC (blkC p4)) = (blkC p4) := by kernel_rfl
  rw [← e]
  refine loopQ (fun ρ' w' => J (ρ' 14) w') (fun ρ' w' => μ (ρ' 14) w') h0 fun ρ' w' hA hI => ?_
  have e1 : ρ' 1 = ρ 1 := Agree.at hA 1 (by kernel_rfl)
  have e3 : ρ' 3 = ρ 3 := Agree.at hA 3 (by kernel_rfl)
  have e5 : ρ' 5 = ρ 5 := Agree.at hA 5 (by kernel_rfl)
  have e7 : ρ' 7 = ρ 7 := Agree.at hA 7 (by kernel_rfl)
  have h1 := hr (ρ' 14) w' hI
  rw [← e1, ← e3, ← e5, ← e7] at h1
  exact k8_ok R (fun z14 w1 => J z14 w1 ∧ μ z14 w1 < μ (ρ' 14) w') ρ' w' h1
theorem l7_intro (R : Ending → World → Prop) (x1 x3 x5 x7 x14 : Value) (w : World) (J : Value → World → Prop) (μ : Value → World → Nat) (h0 : J x14 w)
    (hr : ∀ y14 w0, J y14 w0 → ∀ C7 : Value → World → Prop, (∀ z14 w1, J z14 w1 → μ z14 w1 < μ y14 w0 → C7 z14 w1) → b14 R C7 x1 x3 x5 x7 y14 w0) : l7 R x1 x3 x5 x7 x14 w := by
  unfold l7
  exact ⟨J, μ, h0, fun y14 w0 hJ => hr y14 w0 hJ _ (fun z14 w1 h1 h2 => ⟨h1, h2⟩)⟩
abbrev q9 (R : Ending → World → Prop) : Exit → Env → World → Prop := QX (fun ρ w => b4 R (ρ 3) (ρ 5) (ρ 7) w) (fun ρ w => R (.returned (ρ 6)) w) []
theorem k6_ok (R : Ending → World → Prop) (ρ : Env) (w : World) (h : l7 R (ρ 1) (ρ 3) (ρ 5) (ρ 7) (ρ 14) w) : codeP Try.prog (pan R) p4 (q9 R) ρ w := by
  have e : Code.block 0 (blkC p4) = p4 := by kernel_rfl
  rw [← e]
  exact blockQ (l7_ok R ρ w h)

def b5 (R : Ending → World → Prop) (x1 x3 x5 x7 : Value) (w : World) (_r : Tok R := tok R) : Prop :=
  l7 R x1 x3 x5 x7 (Go.Value.int Go.IntKind.i64 0) w
abbrev q10 (R : Ending → World → Prop) : Exit → Env → World → Prop := QX (fun ρ w => l7 R (ρ 1) (ρ 3) (ρ 5) (ρ 7) (ρ 14) w) (fun ρ w => R (.returned (ρ 6)) w) []
theorem b5_eq (R : Ending → World → Prop) (ρ : Env) (w : World) : (b5 R (ρ 1) (ρ 3) (ρ 5) (ρ 7) w) = codeP Try.prog (pan R) (preC 0 p3) (q10 R) ρ w := by kernel_rfl
theorem b5_ok (R : Ending → World → Prop) (ρ : Env) (w : World) (h : b5 R (ρ 1) (ρ 3) (ρ 5) (ρ 7) w) : codeP Try.prog (pan R) p3 (q9 R) ρ w := by
  have e : appC 0 (preC 0 p3) (dropC 1 p3) = p3 := by kernel_rfl
  rw [← e]
  exact appQ (fun ρ w => l7 R (ρ 1) (ρ 3) (ρ 5) (ρ 7) (ρ 14) w) 0 ((b5_eq R ρ w).mp h) (fun ρ w h => k6_ok R ρ w h)
theorem k3_ok (R : Ending → World → Prop) (ρ : Env) (w : World) (h : b5 R (ρ 1) (ρ 3) (ρ 5) (ρ 7) w) : codeP Try.prog (pan R) (sndC p1) (q1 R) ρ w := by
  have e : Code.seq (fstC (sndC p1)) (sndC (sndC p1)) = (sndC p1) := by kernel_rfl
  rw [← e]
  exact seqQ (fun ρ w => b4 R (ρ 3) (ρ 5) (ρ 7) w) (b5_ok R ρ w h) (fun ρ w h => b4_ok R ρ w h)
noncomputable abbrev p10 : Code := dropC 1 (fstC p1)

def b17 (R : Ending → World → Prop) (x1 x3 x5 x7 x59 : Value) (w : World) (_r : Tok R := tok R) : Prop :=
  SPL x59
  (R (.returned (Go.Value.bool Bool.false)) w)
  (b5 R x1 x3 x5 x7 w)
abbrev q11 (R : Ending → World → Prop) : Exit → Env → World → Prop := QX (fun ρ w => b5 R (ρ 1) (ρ 3) (ρ 5) (ρ 7) w) (fun ρ w => R (.returned (ρ 6)) w) []
theorem b17_eq (R : Ending → World → Prop) (ρ : Env) (w : World) : (b17 R (ρ 1) (ρ 3) (ρ 5) (ρ 7) (ρ 59) w) = codeP Try.prog (pan R) p10 (q11 R) ρ w := by kernel_rfl
theorem b17_ok (R : Ending → World → Prop) (ρ : Env) (w : World) (h : b17 R (ρ 1) (ρ 3) (ρ 5) (ρ 7) (ρ 59) w) : codeP Try.prog (pan R) p10 (q11 R) ρ w := (b17_eq R ρ w).mp h
def b16_1 (R : Ending → World → Prop) (x1 x3 x5 x7 x9 : Value) (w4 : World) (_r : Tok R := tok R) : Prop :=
  CALL Try.prog (pan R) ref01_Whole.id #[x9, x1] w4 fun v5 w6 =>
  RUN Try.prog (pan R) (Op.unary .not v5) w6 fun v7 w8 =>
  b17 R x1 x3 x5 x7 v7 w8

def b16 (R : Ending → World → Prop) (x1 x3 x5 x7 x9 x10 x11 x12 x13 : Value) (w : World) (_r : Tok R := tok R) : Prop :=
  RUN Try.prog (pan R) (bins .neq 9 (.tmp 46) (.tmp 47) x10 x12) w fun v1 w2 =>
  SPL v1
  (b17 R x1 x3 x5 x7 (Go.Value.bool Bool.true) w2)
  (RUN Try.prog (pan R) (bins .neq 29 (.tmp 50) (.tmp 51) x11 x13) w2 fun v3 w4 =>
  SPL v3
  (b17 R x1 x3 x5 x7 (Go.Value.bool Bool.true) w4)
  (b16_1 R x1 x3 x5 x7 x9 w4))
abbrev q12 (R : Ending → World → Prop) : Exit → Env → World → Prop := QX (fun ρ w => b17 R (ρ 1) (ρ 3) (ρ 5) (ρ 7) (ρ 59) w) (fun ρ w => R (.returned (ρ 6)) w) []
theorem b16_eq (R : Ending → World → Prop) (ρ : Env) (w : World) : (b16 R (ρ 1) (ρ 3) (ρ 5) (ρ 7) (ρ 9) (ρ 10) (ρ 11) (ρ 12) (ρ 13) w) = codeP Try.prog (pan R) (preC 0 (fstC p1)) (q12 R) ρ w := by kernel_rfl
theorem b16_ok (R : Ending → World → Prop) (ρ : Env) (w : World) (h : b16 R (ρ 1) (ρ 3) (ρ 5) (ρ 7) (ρ 9) (ρ 10) (ρ 11) (ρ 12) (ρ 13) w) : codeP Try.prog (pan R) (fstC p1) (q11 R) ρ w := by
  have e : appC 0 (preC 0 (fstC p1)) (dropC 1 (fstC p1)) = (fstC p1) := by kernel_rfl
  rw [← e]
  exact appQ (fun ρ w => b17 R (ρ 1) (ρ 3) (ρ 5) (ρ 7) (ρ 59) w) 0 ((b16_eq R ρ w).mp h) (fun ρ w h => b17_ok R ρ w h)
theorem k2_ok (R : Ending → World → Prop) (ρ : Env) (w : World) (h : b16 R (ρ 1) (ρ 3) (ρ 5) (ρ 7) (ρ 9) (ρ 10) (ρ 11) (ρ 12) (ρ 13) w) : codeP Try.prog (pan R) p1 (q1 R) ρ w := by
  have e : Code.seq (fstC p1) (sndC p1) = p1 := by kernel_rfl
  rw [← e]
  exact seqQ (fun ρ w => b5 R (ρ 1) (ρ 3) (ρ 5) (ρ 7) w) (b16_ok R ρ w h) (fun ρ w h => k3_ok R ρ w h)
def b1_1 (R : Ending → World → Prop) (x1 v1 v3 v9 v16 v22 v24 v28 : Value) (w29 : World) (_r : Tok R := tok R) : Prop :=
  RUN Try.prog (pan R) (Instr.extract v28 0) w29 fun v30 w31 =>
  RUN Try.prog (pan R) (Instr.extract v28 1) w31 fun v32 w33 =>
  b16 R x1 v1 v3 v9 v16 v22 v24 v30 v32 w33
def b1_2 (R : Ending → World → Prop) (x1 v1 v3 v9 v16 v20 : Value) (w21 : World) (_r : Tok R := tok R) : Prop :=
  RUN Try.prog (pan R) (Instr.extract v20 0) w21 fun v22 w23 =>
  RUN Try.prog (pan R) (Instr.extract v20 1) w23 fun v24 w25 =>
  RUN Try.prog (pan R) (Instr.loadAt 27 v1) w25 fun v26 w27 =>
  CALL Try.prog (pan R) ref05_Row.id #[v26, x1] w27 fun v28 w29 =>
  b1_1 R x1 v1 v3 v9 v16 v22 v24 v28 w29
def b1_3 (R : Ending → World → Prop) (x1 v1 v3 v9 v12 : Value) (w13 : World) (_r : Tok R := tok R) : Prop :=
  RUN Try.prog (pan R) (Instr.extract v12 0) w13 fun v14 w15 =>
  RUN Try.prog (pan R) (Instr.extract v12 1) w15 fun v16 w17 =>
  RUN Try.prog (pan R) (Instr.loadAt 27 v9) w17 fun v18 w19 =>
  CALL Try.prog (pan R) show_Row.id #[v18, v14] w19 fun v20 w21 =>
  b1_2 R x1 v1 v3 v9 v16 v20 w21
def b1_4 (R : Ending → World → Prop) (x1 v1 v3 v7 : Value) (w8 : World) (_r : Tok R := tok R) : Prop :=
  RUN Try.prog (pan R) (Instr.alloc 27 true (.tuple #[])) w8 fun v9 w10 =>
  RUNU Try.prog (pan R) (Instr.storeAt 27 v9 v7) w10 fun w11 =>
  CALL Try.prog (pan R) ref01_Lent.id #[x1] w11 fun v12 w13 =>
  b1_3 R x1 v1 v3 v9 v12 w13

def b1 (R : Ending → World → Prop) (x0 x1 x2 : Value) (w : World) (_r : Tok R := tok R) : Prop :=
  RUN Try.prog (pan R) (Instr.box 27 x0) w fun v1 w2 =>
  RUN Try.prog (pan R) (Instr.box 36 x2) w2 fun v3 w4 =>
  RUN Try.prog (pan R) (Instr.loadAt 27 v1) w4 fun v5 w6 =>
  CALL Try.prog (pan R) ref02_Copy.id #[v5] w6 fun v7 w8 =>
  b1_4 R x1 v1 v3 v7 w8
abbrev q13 (R : Ending → World → Prop) : Exit → Env → World → Prop := QX (fun ρ w => b16 R (ρ 1) (ρ 3) (ρ 5) (ρ 7) (ρ 9) (ρ 10) (ρ 11) (ρ 12) (ρ 13) w) (fun ρ w => R (.returned (ρ 6)) w) []
theorem b1_eq (R : Ending → World → Prop) (ρ : Env) (w : World) : (b1 R (ρ 0) (ρ 1) (ρ 2) w) = codeP Try.prog (pan R) (preC 4 code) (q13 R) ρ w := by kernel_rfl
theorem b1_ok (R : Ending → World → Prop) (ρ : Env) (w : World) (h : b1 R (ρ 0) (ρ 1) (ρ 2) w) : codeP Try.prog (pan R) code (q1 R) ρ w := by
  have e : appC 4 (preC 4 code) (dropC 5 code) = code := by kernel_rfl
  rw [← e]
  exact appQ (fun ρ w => b16 R (ρ 1) (ρ 3) (ρ 5) (ρ 7) (ρ 9) (ρ 10) (ρ 11) (ρ 12) (ρ 13) w) 4 ((b1_eq R ρ w).mp h) (fun ρ w h => k2_ok R ρ w h)
/-- What is owed for a call. -/
def run (R : Ending → World → Prop) (a0 a1 a2 : Value) (w : World) : Prop := b1 R a0 a1 a2 w
theorem calls (R : Ending → World → Prop) (a0 a1 a2 : Value) (w : World) (h : run R a0 a1 a2 w) : Calls Try.prog id #[a0, a1, a2] w R :=
  calls_of_t (f := id) (fn := Try.f5) (c := code) (by kernel_rfl) Try.func5 (by kernel_rfl) (by kernel_rfl) (args := [a0, a1, a2]) (Nat.le_of_ble_eq_true rfl) rfl (b1_ok R (envOf [a0, a1, a2]) w h)
theorem enters : Enters Try.prog id := fun args w => Try.call5 args w
theorem ct {a0 a1 a2 : Value} {w : World} {S : Value → World → Prop} (h : ∀ R : Ending → World → Prop, (∀ v w, S v w → R (.returned v) w) → run R a0 a1 a2 w) : Ct Try.prog id #[a0, a1, a2] w S :=
  Ct.intro enters fun R hR => calls R a0 a1 a2 w (h R hR)
attribute [irreducible] b4_1 b4_2 b4_3 b4_4 b4_5 b4_6 b4 b10 b13 b12_1 b12_2 b12 b15 b14 l7 b5 b17 b16_1 b16 b1_1 b1_2 b1_3 b1_4 b1 run
attribute [go_sem] b4_1 b4_2 b4_3 b4_4 b4_5 b4_6 b4 b10 b13 b12_1 b12_2 b12 b15 b14 b5 b17 b16_1 b16 b1_1 b1_2 b1_3 b1_4 b1 run
end law05_ShowSmall


/-! ### presage/presagelaw05.awake -/
namespace law05_awake
noncomputable def code : Code := bodyOf Try.f19
def b1_1 (R : Ending → World → Prop) (v26 v36 : Value) (w43 : World) (_r : Tok R := tok R) : Prop :=
  RUN Try.prog (pan R) (bins .eql 9 (.tmp 33) (.const (Go.Value.string { data := #[37, 116, 111, 107, 101, 110, 32, 39, 97, 39, 32, 59, 10, 37, 115, 116, 97, 114, 116, 32, 83, 32, 59, 10, 83, 32, 58, 32, 83, 32, 39, 97, 39, 32, 59, 10, 83, 32, 58, 32, 59, 10] })) v26 (Go.Value.string { data := #[37, 116, 111, 107, 101, 110, 32, 39, 97, 39, 32, 59, 10, 37, 115, 116, 97, 114, 116, 32, 83, 32, 59, 10, 83, 32, 58, 32, 83, 32, 39, 97, 39, 32, 59, 10, 83, 32, 58, 32, 59, 10] })) w43 fun v44 w45 =>
  SPL v44
  (RUN Try.prog (pan R) (bins .eql 9 (.tmp 37) (.const (Go.Value.string { data := #[83, 32, 45, 62, 32, 83, 32, 46, 32, 39, 97, 39] })) v36 (Go.Value.string { data := #[83, 32, 45, 62, 32, 83, 32, 46, 32, 39, 97, 39] })) w45 fun v46 w47 =>
  R (.returned v46) w47)
  (R (.returned (Go.Value.bool Bool.false)) w45)
def b1_2 (R : Ending → World → Prop) (v26 v28 v34 : Value) (w35 : World) (_r : Tok R := tok R) : Prop :=
  RUN Try.prog (pan R) (Instr.extract v34 0) w35 fun v36 w37 =>
  RUN Try.prog (pan R) (Instr.extract v34 1) w37 fun v38 w39 =>
  RUN Try.prog (pan R) (bins .eql 29 (.tmp 26) (.const (Go.Value.int Go.IntKind.i64 0)) v28 (Go.Value.int Go.IntKind.i64 0)) w39 fun v40 w41 =>
  SPL v40
  (RUN Try.prog (pan R) (bins .eql 29 (.tmp 29) (.const (Go.Value.int Go.IntKind.i64 0)) v38 (Go.Value.int Go.IntKind.i64 0)) w41 fun v42 w43 =>
  SPL v42
  (b1_1 R v26 v36 w43)
  (R (.returned (Go.Value.bool Bool.false)) w43))
  (R (.returned (Go.Value.bool Bool.false)) w41)
def b1_3 (R : Ending → World → Prop) (v19 v24 : Value) (w25 : World) (_r : Tok R := tok R) : Prop :=
  RUN Try.prog (pan R) (Instr.extract v24 0) w25 fun v26 w27 =>
  RUN Try.prog (pan R) (Instr.extract v24 1) w27 fun v28 w29 =>
  RUN Try.prog (pan R) (Instr.loadAt 27 v19) w29 fun v30 w31 =>
  RUN Try.prog (pan R) (Instr.build 36 #[(1, (Go.Value.int Go.IntKind.i64 1))]) w31 fun v32 w33 =>
  CALL Try.prog (pan R) show_Item.id #[v30, v32] w33 fun v34 w35 =>
  b1_2 R v26 v28 v34 w35

def b1 (R : Ending → World → Prop) (w : World) (_r : Tok R := tok R) : Prop :=
  RUN Try.prog (pan R) (Instr.build 106 #[]) w fun v1 w2 =>
  RUN Try.prog (pan R) (Instr.build 106 #[(0, (Go.Value.string { data := #[97] }))]) w2 fun v3 w4 =>
  RUN Try.prog (pan R) (Instr.buildSlice 22 2 #[(0, v1), (1, v3)]) w4 fun v5 w6 =>
  RUN Try.prog (pan R) (Instr.buildSlice 23 1 #[(0, (Go.Value.string { data := #[83] }))]) w6 fun v7 w8 =>
  RUN Try.prog (pan R) (Instr.buildSlice 24 2 #[(0, (Go.Value.int Go.IntKind.i64 2)), (1, (Go.Value.int Go.IntKind.i64 1))]) w8 fun v9 w10 =>
  RUN Try.prog (pan R) (Instr.build 47 #[(0, (Go.Value.int Go.IntKind.i64 2)), (1, v9)]) w10 fun v11 w12 =>
  RUN Try.prog (pan R) (Instr.build 47 #[(0, (Go.Value.int Go.IntKind.i64 2))]) w12 fun v13 w14 =>
  RUN Try.prog (pan R) (Instr.buildSlice 25 2 #[(0, v11), (1, v13)]) w14 fun v15 w16 =>
  RUN Try.prog (pan R) (Instr.build 27 #[(0, v5), (1, v7), (3, (Go.Value.int Go.IntKind.i64 2)), (4, v15)]) w16 fun v17 w18 =>
  RUN Try.prog (pan R) (Instr.alloc 27 true (.tuple #[])) w18 fun v19 w20 =>
  RUNU Try.prog (pan R) (Instr.storeAt 27 v19 v17) w20 fun w21 =>
  RUN Try.prog (pan R) (Instr.loadAt 27 v19) w21 fun v22 w23 =>
  CALL Try.prog (pan R) show_Text.id #[v22] w23 fun v24 w25 =>
  b1_3 R v19 v24 w25
abbrev q1 (R : Ending → World → Prop) : Exit → Env → World → Prop := QX (fun ρ w => R (.returned (ρ 0)) w) (fun ρ w => R (.returned (ρ 0)) w) []
theorem b1_eq (R : Ending → World → Prop) (ρ : Env) (w : World) : (b1 R w) = codeP Try.prog (pan R) code (q1 R) ρ w := by kernel_rfl
theorem b1_ok (R : Ending → World → Prop) (ρ : Env) (w : World) (h : b1 R w) : codeP Try.prog (pan R) code (q1 R) ρ w := (b1_eq R ρ w).mp h
/-- What is owed for a call. -/
def run (R : Ending → World → Prop) (w : World) : Prop := b1 R w
theorem calls (R : Ending → World → Prop) (w : World) (h : run R w) : Calls Try.prog id #[] w R :=
  calls_of_t (f := id) (fn := Try.f19) (c := code) (by kernel_rfl) Try.func19 (by kernel_rfl) (by kernel_rfl) (args := []) (Nat.le_of_ble_eq_true rfl) rfl (b1_ok R (envOf []) w h)
theorem enters : Enters Try.prog id := fun args w => Try.call19 args w
theorem ct {w : World} {S : Value → World → Prop} (h : ∀ R : Ending → World → Prop, (∀ v w, S v w → R (.returned v) w) → run R w) : Ct Try.prog id #[] w S :=
  Ct.intro enters fun R hR => calls R w (h R hR)
attribute [irreducible] b1_1 b1_2 b1_3 b1 run
attribute [go_sem] b1_1 b1_2 b1_3 b1 run
end law05_awake

end Go.Proofs.Ytkacbjhiobnbfaa

