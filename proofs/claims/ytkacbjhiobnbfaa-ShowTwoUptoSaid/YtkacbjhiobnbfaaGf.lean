/- Shallow programs, written by a program of ours (gen.py) off the translation; each is tied to the code by the kernel. -/
import Derived.Test.YtkacbjhiobnbfaaGa
set_option linter.unusedVariables false
set_option maxRecDepth 100000
namespace Go.Proofs.Ytkacbjhiobnbfaa
open Go.Px

/-! ### presage/presagelaw05.ShowTexts -/
namespace law05_ShowTexts
noncomputable def code : Code := bodyOf Try.f3
def b1_1 (R : Ending → World → Prop) (v1 v7 : Value) (w29 : World) (_r : Tok R := tok R) : Prop :=
  RUN Try.prog (pan R) (Instr.loadAt 27 v7) w29 fun v30 w31 =>
  RUN Try.prog (pan R) (Instr.loadAt 27 v1) w31 fun v32 w33 =>
  CALL Try.prog (pan R) ref02_Same.id #[v30, v32] w33 fun v34 w35 =>
  SPL v34
  (CALL Try.prog (pan R) law05_awake.id #[] w35 fun v36 w37 =>
  R (.returned v36) w37)
  (R (.returned (Go.Value.bool Bool.false)) w35)
def b1_2 (R : Ending → World → Prop) (v1 v7 v14 v16 v20 : Value) (w21 : World) (_r : Tok R := tok R) : Prop :=
  RUN Try.prog (pan R) (Instr.extract v20 0) w21 fun v22 w23 =>
  RUN Try.prog (pan R) (Instr.extract v20 1) w23 fun v24 w25 =>
  RUN Try.prog (pan R) (bins .eql 9 (.tmp 20) (.tmp 21) v14 v22) w25 fun v26 w27 =>
  SPL v26
  (RUN Try.prog (pan R) (bins .eql 29 (.tmp 24) (.tmp 25) v16 v24) w27 fun v28 w29 =>
  SPL v28
  (b1_1 R v1 v7 w29)
  (R (.returned (Go.Value.bool Bool.false)) w29))
  (R (.returned (Go.Value.bool Bool.false)) w27)
def b1_3 (R : Ending → World → Prop) (v1 v7 v12 : Value) (w13 : World) (_r : Tok R := tok R) : Prop :=
  RUN Try.prog (pan R) (Instr.extract v12 0) w13 fun v14 w15 =>
  RUN Try.prog (pan R) (Instr.extract v12 1) w15 fun v16 w17 =>
  RUN Try.prog (pan R) (Instr.loadAt 27 v1) w17 fun v18 w19 =>
  CALL Try.prog (pan R) ref05_Text.id #[v18] w19 fun v20 w21 =>
  b1_2 R v1 v7 v14 v16 v20 w21
def b1_4 (R : Ending → World → Prop) (v1 v5 : Value) (w6 : World) (_r : Tok R := tok R) : Prop :=
  RUN Try.prog (pan R) (Instr.alloc 27 true (.tuple #[])) w6 fun v7 w8 =>
  RUNU Try.prog (pan R) (Instr.storeAt 27 v7 v5) w8 fun w9 =>
  RUN Try.prog (pan R) (Instr.loadAt 27 v7) w9 fun v10 w11 =>
  CALL Try.prog (pan R) show_Text.id #[v10] w11 fun v12 w13 =>
  b1_3 R v1 v7 v12 w13
/- x0 g -/
def b1 (R : Ending → World → Prop) (x0 : Value) (w : World) (_r : Tok R := tok R) : Prop :=
  RUN Try.prog (pan R) (Instr.box 27 x0) w fun v1 w2 =>
  RUN Try.prog (pan R) (Instr.loadAt 27 v1) w2 fun v3 w4 =>
  CALL Try.prog (pan R) ref02_Copy.id #[v3] w4 fun v5 w6 =>
  b1_4 R v1 v5 w6
abbrev q1 (R : Ending → World → Prop) : Exit → Env → World → Prop := QX (fun ρ w => R (.returned (ρ 2)) w) (fun ρ w => R (.returned (ρ 2)) w) []
theorem b1_eq (R : Ending → World → Prop) (ρ : Env) (w : World) : (b1 R (ρ 0) w) = codeP Try.prog (pan R) code (q1 R) ρ w := by kernel_rfl
theorem b1_ok (R : Ending → World → Prop) (ρ : Env) (w : World) (h : b1 R (ρ 0) w) : codeP Try.prog (pan R) code (q1 R) ρ w := (b1_eq R ρ w).mp h
/-- What is owed for a call. -/
def run (R : Ending → World → Prop) (a0 : Value) (w : World) : Prop := b1 R a0 w
theorem calls (R : Ending → World → Prop) (a0 : Value) (w : World) (h : run R a0 w) : Calls Try.prog id #[a0] w R :=
  calls_of_t (f := id) (fn := Try.f3) (c := code) (by kernel_rfl) Try.func3 (by kernel_rfl) (by kernel_rfl) (args := [a0]) (Nat.le_of_ble_eq_true rfl) rfl (b1_ok R (envOf [a0]) w h)
theorem enters : Enters Try.prog id := fun args w => Try.call3 args w
theorem ct {a0 : Value} {w : World} {S : Value → World → Prop} (h : ∀ R : Ending → World → Prop, (∀ v w, S v w → R (.returned v) w) → run R a0 w) : Ct Try.prog id #[a0] w S :=
  Ct.intro enters fun R hR => calls R a0 w (h R hR)
attribute [irreducible] b1_1 b1_2 b1_3 b1_4 b1 run
attribute [go_sem] b1_1 b1_2 b1_3 b1_4 b1 run
end law05_ShowTexts

/-! ### presage/presagelaw05.ShowTwo -/
namespace law05_ShowTwo
noncomputable def code : Code := bodyOf Try.f4
noncomputable abbrev p1 : Code := dropC 3 code
def b3_1 (R : Ending → World → Prop) (v1 v7 : Value) (w8 : World) (_r : Tok R := tok R) : Prop :=
  RUN Try.prog (pan R) (bins .eql 4 (.tmp 40) (.tmp 43) v1 v7) w8 fun v9 w10 =>
  SPL v9
  (CALL Try.prog (pan R) law05_awake.id #[] w10 fun v11 w12 =>
  R (.returned v11) w12)
  (R (.returned (Go.Value.bool Bool.false)) w10)
/- x2 g, x3 h, x5 s, x7 t -/
def b3 (R : Ending → World → Prop) (x2 x3 x5 x7 : Value) (w : World) (_r : Tok R := tok R) : Prop :=
  RUN Try.prog (pan R) (bins .eql 9 (.tmp 38) (.tmp 39) x5 x7) w fun v1 w2 =>
  RUN Try.prog (pan R) (Instr.loadAt 27 x2) w2 fun v3 w4 =>
  RUN Try.prog (pan R) (Instr.loadAt 27 x3) w4 fun v5 w6 =>
  CALL Try.prog (pan R) ref02_Same.id #[v3, v5] w6 fun v7 w8 =>
  b3_1 R v1 v7 w8
abbrev q1 (R : Ending → World → Prop) : Exit → Env → World → Prop := QX (fun ρ w => R (.returned (ρ 4)) w) (fun ρ w => R (.returned (ρ 4)) w) []
theorem b3_eq (R : Ending → World → Prop) (ρ : Env) (w : World) : (b3 R (ρ 2) (ρ 3) (ρ 5) (ρ 7) w) = codeP Try.prog (pan R) (sndC p1) (q1 R) ρ w := by kernel_rfl
theorem b3_ok (R : Ending → World → Prop) (ρ : Env) (w : World) (h : b3 R (ρ 2) (ρ 3) (ρ 5) (ρ 7) w) : codeP Try.prog (pan R) (sndC p1) (q1 R) ρ w := (b3_eq R ρ w).mp h
noncomputable abbrev p2 : Code := dropC 1 (fstC p1)
/- x2 g, x3 h, x5 s, x7 t -/
def b5 (R : Ending → World → Prop) (x2 x3 x5 x7 x36 : Value) (w : World) (_r : Tok R := tok R) : Prop :=
  SPL x36
  (CALL Try.prog (pan R) law05_awake.id #[] w fun v1 w2 =>
  R (.returned v1) w2)
  (b3 R x2 x3 x5 x7 w)
abbrev q2 (R : Ending → World → Prop) : Exit → Env → World → Prop := QX (fun ρ w => b3 R (ρ 2) (ρ 3) (ρ 5) (ρ 7) w) (fun ρ w => R (.returned (ρ 4)) w) []
theorem b5_eq (R : Ending → World → Prop) (ρ : Env) (w : World) : (b5 R (ρ 2) (ρ 3) (ρ 5) (ρ 7) (ρ 36) w) = codeP Try.prog (pan R) p2 (q2 R) ρ w := by kernel_rfl
theorem b5_ok (R : Ending → World → Prop) (ρ : Env) (w : World) (h : b5 R (ρ 2) (ρ 3) (ρ 5) (ρ 7) (ρ 36) w) : codeP Try.prog (pan R) p2 (q2 R) ρ w := (b5_eq R ρ w).mp h
def b4_1 (R : Ending → World → Prop) (x2 x3 x5 x6 x7 x8 : Value) (w12 : World) (_r : Tok R := tok R) : Prop :=
  RUN Try.prog (pan R) (bins .neq 29 (.tmp 30) (.const (Go.Value.int Go.IntKind.i64 0)) x6 (Go.Value.int Go.IntKind.i64 0)) w12 fun v13 w14 =>
  SPL v13
  (b5 R x2 x3 x5 x7 (Go.Value.bool Bool.true) w14)
  (RUN Try.prog (pan R) (bins .neq 29 (.tmp 34) (.const (Go.Value.int Go.IntKind.i64 0)) x8 (Go.Value.int Go.IntKind.i64 0)) w14 fun v15 w16 =>
  b5 R x2 x3 x5 x7 v15 w16)
def b4_2 (R : Ending → World → Prop) (x2 x3 x5 x6 x7 x8 : Value) (w6 : World) (_r : Tok R := tok R) : Prop :=
  RUN Try.prog (pan R) (Instr.loadAt 27 x3) w6 fun v7 w8 =>
  CALL Try.prog (pan R) ref02_Valid.id #[v7] w8 fun v9 w10 =>
  RUN Try.prog (pan R) (Op.unary .not v9) w10 fun v11 w12 =>
  SPL v11
  (b5 R x2 x3 x5 x7 (Go.Value.bool Bool.true) w12)
  (b4_1 R x2 x3 x5 x6 x7 x8 w12)
/- x2 g, x3 h, x5 s, x6 e, x7 t, x8 f -/
def b4 (R : Ending → World → Prop) (x2 x3 x5 x6 x7 x8 : Value) (w : World) (_r : Tok R := tok R) : Prop :=
  RUN Try.prog (pan R) (Instr.loadAt 27 x2) w fun v1 w2 =>
  CALL Try.prog (pan R) ref02_Valid.id #[v1] w2 fun v3 w4 =>
  RUN Try.prog (pan R) (Op.unary .not v3) w4 fun v5 w6 =>
  SPL v5
  (b5 R x2 x3 x5 x7 (Go.Value.bool Bool.true) w6)
  (b4_2 R x2 x3 x5 x6 x7 x8 w6)
abbrev q3 (R : Ending → World → Prop) : Exit → Env → World → Prop := QX (fun ρ w => b5 R (ρ 2) (ρ 3) (ρ 5) (ρ 7) (ρ 36) w) (fun ρ w => R (.returned (ρ 4)) w) []
theorem b4_eq (R : Ending → World → Prop) (ρ : Env) (w : World) : (b4 R (ρ 2) (ρ 3) (ρ 5) (ρ 6) (ρ 7) (ρ 8) w) = codeP Try.prog (pan R) (preC 0 (fstC p1)) (q3 R) ρ w := by kernel_rfl
theorem b4_ok (R : Ending → World → Prop) (ρ : Env) (w : World) (h : b4 R (ρ 2) (ρ 3) (ρ 5) (ρ 6) (ρ 7) (ρ 8) w) : codeP Try.prog (pan R) (fstC p1) (q2 R) ρ w := by
  have e : appC 0 (preC 0 (fstC p1)) (dropC 1 (fstC p1)) = (fstC p1) := by kernel_rfl
  rw [← e]
  exact appQ (fun ρ w => b5 R (ρ 2) (ρ 3) (ρ 5) (ρ 7) (ρ 36) w) 0 ((b4_eq R ρ w).mp h) (fun ρ w h => b5_ok R ρ w h)
theorem k2_ok (R : Ending → World → Prop) (ρ : Env) (w : World) (h : b4 R (ρ 2) (ρ 3) (ρ 5) (ρ 6) (ρ 7) (ρ 8) w) : codeP Try.prog (pan R) p1 (q1 R) ρ w := by
  have e : Code.seq (fstC p1) (sndC p1) = p1 := by kernel_rfl
  rw [← e]
  exact seqQ (fun ρ w => b3 R (ρ 2) (ρ 3) (ρ 5) (ρ 7) w) (b4_ok R ρ w h) (fun ρ w h => b3_ok R ρ w h)
def b1_1 (R : Ending → World → Prop) (v1 v3 v11 v13 v19 : Value) (w20 : World) (_r : Tok R := tok R) : Prop :=
  RUN Try.prog (pan R) (Instr.extract v19 0) w20 fun v21 w22 =>
  RUN Try.prog (pan R) (Instr.extract v19 1) w22 fun v23 w24 =>
  b4 R v1 v3 v11 v13 v21 v23 w24
def b1_2 (R : Ending → World → Prop) (v1 v3 v9 : Value) (w10 : World) (_r : Tok R := tok R) : Prop :=
  RUN Try.prog (pan R) (Instr.extract v9 0) w10 fun v11 w12 =>
  RUN Try.prog (pan R) (Instr.extract v9 1) w12 fun v13 w14 =>
  RUN Try.prog (pan R) (Instr.loadAt 27 v3) w14 fun v15 w16 =>
  CALL Try.prog (pan R) ref02_Copy.id #[v15] w16 fun v17 w18 =>
  CALL Try.prog (pan R) show_Text.id #[v17] w18 fun v19 w20 =>
  b1_1 R v1 v3 v11 v13 v19 w20
/- x0 g, x1 h -/
def b1 (R : Ending → World → Prop) (x0 x1 : Value) (w : World) (_r : Tok R := tok R) : Prop :=
  RUN Try.prog (pan R) (Instr.box 27 x0) w fun v1 w2 =>
  RUN Try.prog (pan R) (Instr.box 27 x1) w2 fun v3 w4 =>
  RUN Try.prog (pan R) (Instr.loadAt 27 v1) w4 fun v5 w6 =>
  CALL Try.prog (pan R) ref02_Copy.id #[v5] w6 fun v7 w8 =>
  CALL Try.prog (pan R) show_Text.id #[v7] w8 fun v9 w10 =>
  b1_2 R v1 v3 v9 w10
abbrev q4 (R : Ending → World → Prop) : Exit → Env → World → Prop := QX (fun ρ w => b4 R (ρ 2) (ρ 3) (ρ 5) (ρ 6) (ρ 7) (ρ 8) w) (fun ρ w => R (.returned (ρ 4)) w) []
theorem b1_eq (R : Ending → World → Prop) (ρ : Env) (w : World) : (b1 R (ρ 0) (ρ 1) w) = codeP Try.prog (pan R) (preC 2 code) (q4 R) ρ w := by kernel_rfl
theorem b1_ok (R : Ending → World → Prop) (ρ : Env) (w : World) (h : b1 R (ρ 0) (ρ 1) w) : codeP Try.prog (pan R) code (q1 R) ρ w := by
  have e : appC 2 (preC 2 code) (dropC 3 code) = code := by kernel_rfl
  rw [← e]
  exact appQ (fun ρ w => b4 R (ρ 2) (ρ 3) (ρ 5) (ρ 6) (ρ 7) (ρ 8) w) 2 ((b1_eq R ρ w).mp h) (fun ρ w h => k2_ok R ρ w h)
/-- What is owed for a call. -/
def run (R : Ending → World → Prop) (a0 a1 : Value) (w : World) : Prop := b1 R a0 a1 w
theorem calls (R : Ending → World → Prop) (a0 a1 : Value) (w : World) (h : run R a0 a1 w) : Calls Try.prog id #[a0, a1] w R :=
  calls_of_t (f := id) (fn := Try.f4) (c := code) (by kernel_rfl) Try.func4 (by kernel_rfl) (by kernel_rfl) (args := [a0, a1]) (Nat.le_of_ble_eq_true rfl) rfl (b1_ok R (envOf [a0, a1]) w h)
theorem enters : Enters Try.prog id := fun args w => Try.call4 args w
theorem ct {a0 a1 : Value} {w : World} {S : Value → World → Prop} (h : ∀ R : Ending → World → Prop, (∀ v w, S v w → R (.returned v) w) → run R a0 a1 w) : Ct Try.prog id #[a0, a1] w S :=
  Ct.intro enters fun R hR => calls R a0 a1 w (h R hR)
attribute [irreducible] b3_1 b3 b5 b4_1 b4_2 b4 b1_1 b1_2 b1 run
attribute [go_sem] b3_1 b3 b5 b4_1 b4_2 b4 b1_1 b1_2 b1 run
end law05_ShowTwo



/-! ### presage/presagelaw05.awake -/
namespace law05_awake
noncomputable def code : Code := bodyOf Try.f19
def b1_1 (R : Ending → World → Prop) (v26 v36 : Value) (w43 : World) (_r : Tok R := tok R) : Prop :=
  RUN Try.prog (pan R) (bins .eql 9 (.tmp 33) (.const (Go.Value.string { data := #[37, 116, 111, 107, 101, 110, 32, 39, 97, 39, 32, 59, 10, 37, 115, 116, 97, 114, 116, 32, 83, 32, 59, 10, 83, 32, 58, 32, 83, 32, 39, 97, 39, 32, 59, 10, 83, 32, 58, 32, 59, 10] })) v26 (Go.Value.string { data := #[37, 116, 111, 107, 101, 110, 32, 39, 97, 39, 32, 59, 10, 37, 115, 116, 97, 114, 116, 32, 83, 32, 59, 10, 83, 32, 58, 32, 83, 32, 39, 97, 39, 32, 59, 10, 83, 32, 58, 32, 59, 10] })) w43 fun v44 w45 =>
  SPL v44
  (RUN Try.prog (pan R) (bins .eql 9 (.tmp 37) (.const (Go.Value.string { data := #[83, 32, 45, 62, 32, 83, 32, 46, 32, 39, 97, 39] })) v36 (Go.Value.string { data := #[83, 32, 45, 62, 32, 83, 32, 46, 32, 39, 97, 39] })) w45 fun v46 w47 =>
  R (.returned v46) w47)
  (R (.returned (Go.Value.bool Bool.false)) w45)
def b1_2 (R : Ending → World → Prop) (v26 v28 v34 : Value) (w35 : World) (_r : Tok R := tok R) : Prop :=
  RUN Try.prog (pan R) (Instr.extract v34 0) w35 fun v36 w37 =>
  RUN Try.prog (pan R) (Instr.extract v34 1) w37 fun v38 w39 =>
  RUN Try.prog (pan R) (bins .eql 29 (.tmp 26) (.const (Go.Value.int Go.IntKind.i64 0)) v28 (Go.Value.int Go.IntKind.i64 0)) w39 fun v40 w41 =>
  SPL v40
  (RUN Try.prog (pan R) (bins .eql 29 (.tmp 29) (.const (Go.Value.int Go.IntKind.i64 0)) v38 (Go.Value.int Go.IntKind.i64 0)) w41 fun v42 w43 =>
  SPL v42
  (b1_1 R v26 v36 w43)
  (R (.returned (Go.Value.bool Bool.false)) w43))
  (R (.returned (Go.Value.bool Bool.false)) w41)
def b1_3 (R : Ending → World → Prop) (v19 v24 : Value) (w25 : World) (_r : Tok R := tok R) : Prop :=
  RUN Try.prog (pan R) (Instr.extract v24 0) w25 fun v26 w27 =>
  RUN Try.prog (pan R) (Instr.extract v24 1) w27 fun v28 w29 =>
  RUN Try.prog (pan R) (Instr.loadAt 27 v19) w29 fun v30 w31 =>
  RUN Try.prog (pan R) (Instr.build 36 #[(1, (Go.Value.int Go.IntKind.i64 1))]) w31 fun v32 w33 =>
  CALL Try.prog (pan R) show_Item.id #[v30, v32] w33 fun v34 w35 =>
  b1_2 R v26 v28 v34 w35

def b1 (R : Ending → World → Prop) (w : World) (_r : Tok R := tok R) : Prop :=
  RUN Try.prog (pan R) (Instr.build 106 #[]) w fun v1 w2 =>
  RUN Try.prog (pan R) (Instr.build 106 #[(0, (Go.Value.string { data := #[97] }))]) w2 fun v3 w4 =>
  RUN Try.prog (pan R) (Instr.buildSlice 22 2 #[(0, v1), (1, v3)]) w4 fun v5 w6 =>
  RUN Try.prog (pan R) (Instr.buildSlice 23 1 #[(0, (Go.Value.string { data := #[83] }))]) w6 fun v7 w8 =>
  RUN Try.prog (pan R) (Instr.buildSlice 24 2 #[(0, (Go.Value.int Go.IntKind.i64 2)), (1, (Go.Value.int Go.IntKind.i64 1))]) w8 fun v9 w10 =>
  RUN Try.prog (pan R) (Instr.build 47 #[(0, (Go.Value.int Go.IntKind.i64 2)), (1, v9)]) w10 fun v11 w12 =>
  RUN Try.prog (pan R) (Instr.build 47 #[(0, (Go.Value.int Go.IntKind.i64 2))]) w12 fun v13 w14 =>
  RUN Try.prog (pan R) (Instr.buildSlice 25 2 #[(0, v11), (1, v13)]) w14 fun v15 w16 =>
  RUN Try.prog (pan R) (Instr.build 27 #[(0, v5), (1, v7), (3, (Go.Value.int Go.IntKind.i64 2)), (4, v15)]) w16 fun v17 w18 =>
  RUN Try.prog (pan R) (Instr.alloc 27 true (.tuple #[])) w18 fun v19 w20 =>
  RUNU Try.prog (pan R) (Instr.storeAt 27 v19 v17) w20 fun w21 =>
  RUN Try.prog (pan R) (Instr.loadAt 27 v19) w21 fun v22 w23 =>
  CALL Try.prog (pan R) show_Text.id #[v22] w23 fun v24 w25 =>
  b1_3 R v19 v24 w25
abbrev q1 (R : Ending → World → Prop) : Exit → Env → World → Prop := QX (fun ρ w => R (.returned (ρ 0)) w) (fun ρ w => R (.returned (ρ 0)) w) []
theorem b1_eq (R : Ending → World → Prop) (ρ : Env) (w : World) : (b1 R w) = codeP Try.prog (pan R) code (q1 R) ρ w := by kernel_rfl
theorem b1_ok (R : Ending → World → Prop) (ρ : Env) (w : World) (h : b1 R w) : codeP Try.prog (pan R) code (q1 R) ρ w := (b1_eq R ρ w).mp h
/-- What is owed for a call. -/
def run (R : Ending → World → Prop) (w : World) : Prop := b1 R w
theorem calls (R : Ending → World → Prop) (w : World) (h : run R w) : Calls Try.prog id #[] w R :=
  calls_of_t (f := id) (fn := Try.f19) (c := code) (by kernel_rfl) Try.func19 (by kernel_rfl) (by kernel_rfl) (args := []) (Nat.le_of_ble_eq_true rfl) rfl (b1_ok R (envOf []) w h)
theorem enters : Enters Try.prog id := fun args w => Try.call19 args w
theorem ct {w : World} {S : Value → World → Prop} (h : ∀ R : Ending → World → Prop, (∀ v w, S v w → R (.returned v) w) → run R w) : Ct Try.prog id #[] w S :=
  Ct.intro enters fun R hR => calls R w (h R hR)
attribute [irreducible] b1_1 b1_2 b1_3 b1 run
attribute [go_sem] b1_1 b1_2 b1_3 b1 run
end law05_awake

end Go.Proofs.Ytkacbjhiobnbfaa

