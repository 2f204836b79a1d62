/- Shallow programs, written by a program of ours (gen.py) off the translation; each is tied to the code by the kernel. -/
import Derived.Test.YtmhebgebfjnfjaaGa
set_option linter.unusedVariables false
set_option maxRecDepth 100000
namespace Go.Proofs.Ytmhebgebfjnfjaa
open Go.Px

/-! ### presage/presagelaw02.GramAgain -/
namespace law02_GramAgain
noncomputable def code : Code := bodyOf Try.f7
noncomputable abbrev p1 : Code := dropC 3 code
noncomputable abbrev p2 : Code := dropC 1 (sndC p1)
noncomputable abbrev p3 : Code := sndC (sndC p2)
noncomputable abbrev p4 : Code := dropC 2 p3
def b8_1 (R : Ending → World → Prop) (v17 : Value) (w33 : World) (_r : Tok R := tok R) : Prop :=
  RUN Try.prog (pan R) (Instr.loadAt 36 v17) w33 fun v34 w35 =>
  CALL Try.prog (pan R) gram_Closed.id #[v34] w35 fun v36 w37 =>
  RUN Try.prog (pan R) (Op.unary .not v36) w37 fun v38 w39 =>
  R (.returned v38) w39
def b8_2 (R : Ending → World → Prop) (v17 : Value) (w29 : World) (_r : Tok R := tok R) : Prop :=
  RUN Try.prog (pan R) (Instr.loadAt 36 v17) w29 fun v30 w31 =>
  CALL Try.prog (pan R) gram_Valid.id #[v30] w31 fun v32 w33 =>
  SPL v32
  (b8_1 R v17 w33)
  (R (.returned (Go.Value.bool Bool.false)) w33)
def b8_3 (R : Ending → World → Prop) (v9 v15 v17 v24 : Value) (w25 : World) (_r : Tok R := tok R) : Prop :=
  RUN Try.prog (pan R) (bins .eql 22 (.tmp 160) (.const (Go.Value.int Go.IntKind.i64 0)) v9 (Go.Value.int Go.IntKind.i64 0)) w25 fun v26 w27 =>
  SPL v26
  (RUN Try.prog (pan R) (bins .eql 22 (.tmp 163) (.const (Go.Value.int Go.IntKind.i64 0)) v15 (Go.Value.int Go.IntKind.i64 0)) w27 fun v28 w29 =>
  SPL v28
  (SPL v24
  (b8_2 R v17 w29)
  (R (.returned (Go.Value.bool Bool.false)) w29))
  (R (.returned (Go.Value.bool Bool.false)) w29))
  (R (.returned (Go.Value.bool Bool.false)) w27)
def b8_4 (R : Ending → World → Prop) (x1 v9 v11 : Value) (w12 : World) (_r : Tok R := tok R) : Prop :=
  RUN Try.prog (pan R) (Instr.extract v11 0) w12 fun v13 w14 =>
  RUN Try.prog (pan R) (Instr.extract v11 1) w14 fun v15 w16 =>
  RUN Try.prog (pan R) (Instr.alloc 36 true (.tuple #[])) w16 fun v17 w18 =>
  RUNU Try.prog (pan R) (Instr.storeAt 36 v17 v13) w18 fun w19 =>
  RUN Try.prog (pan R) (Instr.loadAt 36 x1) w19 fun v20 w21 =>
  RUN Try.prog (pan R) (Instr.loadAt 36 v17) w21 fun v22 w23 =>
  CALL Try.prog (pan R) ref02_Same.id #[v20, v22] w23 fun v24 w25 =>
  b8_3 R v9 v15 v17 v24 w25
def b8_5 (R : Ending → World → Prop) (x1 x5 v7 : Value) (w8 : World) (_r : Tok R := tok R) : Prop :=
  CALL Try.prog (pan R) gram_Builder_Start.id #[x5, v7] w8 fun v9 w10 =>
  CALL Try.prog (pan R) gram_Builder_Grammar.id #[x5] w10 fun v11 w12 =>
  b8_4 R x1 v9 v11 w12

def b8 (R : Ending → World → Prop) (x1 x5 : Value) (w : World) (_r : Tok R := tok R) : Prop :=
  RUN Try.prog (pan R) (Instr.loadAt 36 x1) w fun v1 w2 =>
  RUN Try.prog (pan R) (Instr.fieldAt 36 x1 3) w2 fun v3 w4 =>
  RUN Try.prog (pan R) (Instr.loadAt 3 v3) w4 fun v5 w6 =>
  CALL Try.prog (pan R) law02_handle.id #[v1, v5] w6 fun v7 w8 =>
  b8_5 R x1 x5 v7 w8
abbrev q1 (R : Ending → World → Prop) : Exit → Env → World → Prop := QX (fun ρ w => R (.returned (ρ 2)) w) (fun ρ w => R (.returned (ρ 2)) w) []
theorem b8_eq (R : Ending → World → Prop) (ρ : Env) (w : World) : (b8 R (ρ 1) (ρ 5) w) = codeP Try.prog (pan R) (sndC p4) (q1 R) ρ w := by kernel_rfl
theorem b8_ok (R : Ending → World → Prop) (ρ : Env) (w : World) (h : b8 R (ρ 1) (ρ 5) w) : codeP Try.prog (pan R) (sndC p4) (q1 R) ρ w := (b8_eq R ρ w).mp h
noncomputable abbrev p5 : Code := dropC 1 (fstC p4)
noncomputable abbrev p6 : Code := loopC (blkC p5)
noncomputable abbrev p7 : Code := dropC 1 p6

def b14 (R : Ending → World → Prop) (C11 : Value → World → Prop) (x13 : Value) (w : World) (_r : Tok R := tok R) (_C11 : Tok C11 := tok C11) : Prop :=
  RUN Try.prog (pan R) (bins .add 3 (.tmp 95) (.const (Go.Value.int Go.IntKind.i64 1)) x13 (Go.Value.int Go.IntKind.i64 1)) w fun v1 w2 =>
  C11 v1 w2
abbrev q2 (R : Ending → World → Prop) (C11 : Value → World → Prop) : Exit → Env → World → Prop := QX (fun ρ w => C11 (ρ 13) w) (fun ρ w => R (.returned (ρ 2)) w) [(8, (fun ρ w => b8 R (ρ 1) (ρ 5) w))]
theorem b14_eq (R : Ending → World → Prop) (C11 : Value → World → Prop) (ρ : Env) (w : World) : (b14 R C11 (ρ 13) w) = codeP Try.prog (pan R) (sndC p7) (q2 R C11) ρ w := by kernel_rfl
theorem b14_ok (R : Ending → World → Prop) (C11 : Value → World → Prop) (ρ : Env) (w : World) (h : b14 R C11 (ρ 13) w) : codeP Try.prog (pan R) (sndC p7) (q2 R C11) ρ w := (b14_eq R C11 ρ w).mp h
noncomputable abbrev p8 : Code := blkC (fstC p7)
noncomputable abbrev p9 : Code := dropC 2 p8
noncomputable abbrev p10 : Code := dropC 3 (sndC p9)

def b19 (R : Ending → World → Prop) (C11 : Value → World → Prop) (x13 x145 : Value) (w : World) (_r : Tok R := tok R) (_C11 : Tok C11 := tok C11) : Prop :=
  SPL x145
  (R (.returned (Go.Value.bool Bool.false)) w)
  (b14 R C11 x13 w)
abbrev q3 (R : Ending → World → Prop) (C11 : Value → World → Prop) : Exit → Env → World → Prop := QX (fun ρ w => b14 R C11 (ρ 13) w) (fun ρ w => R (.returned (ρ 2)) w) [(10, (fun ρ w => b14 R C11 (ρ 13) w)), (8, (fun ρ w => b8 R (ρ 1) (ρ 5) w))]
theorem b19_eq (R : Ending → World → Prop) (C11 : Value → World → Prop) (ρ : Env) (w : World) : (b19 R C11 (ρ 13) (ρ 145) w) = codeP Try.prog (pan R) p10 (q3 R C11) ρ w := by kernel_rfl
theorem b19_ok (R : Ending → World → Prop) (C11 : Value → World → Prop) (ρ : Env) (w : World) (h : b19 R C11 (ρ 13) (ρ 145) w) : codeP Try.prog (pan R) p10 (q3 R C11) ρ w := (b19_eq R C11 ρ w).mp h
def b18_1 (R : Ending → World → Prop) (C11 : Value → World → Prop) (x13 v13 v21 : Value) (w24 : World) (_r : Tok R := tok R) (_C11 : Tok C11 := tok C11) : Prop :=
  RUN Try.prog (pan R) (bins .neq 22 (.tmp 139) (.const (Go.Value.int Go.IntKind.i64 0)) v13 (Go.Value.int Go.IntKind.i64 0)) w24 fun v25 w26 =>
  SPL v25
  (b19 R C11 x13 (Go.Value.bool Bool.true) w26)
  (RUN Try.prog (pan R) (bins .neq 22 (.tmp 143) (.const (Go.Value.int Go.IntKind.i64 0)) v21 (Go.Value.int Go.IntKind.i64 0)) w26 fun v27 w28 =>
  b19 R C11 x13 v27 w28)
def b18_2 (R : Ending → World → Prop) (C11 : Value → World → Prop) (x5 x13 x14 v9 : Value) (w10 : World) (_r : Tok R := tok R) (_C11 : Tok C11 := tok C11) : Prop :=
  RUN Try.prog (pan R) (Instr.extract v9 0) w10 fun v11 w12 =>
  RUN Try.prog (pan R) (Instr.extract v9 1) w12 fun v13 w14 =>
  RUN Try.prog (pan R) (Instr.fieldAt 59 x14 2) w14 fun v15 w16 =>
  RUN Try.prog (pan R) (Instr.loadAt 3 v15) w16 fun v17 w18 =>
  RUN Try.prog (pan R) (Instr.buildSlice 30 1 #[(0, x13)]) w18 fun v19 w20 =>
  CALL Try.prog (pan R) gram_Builder_Grade.id #[x5, v17, v19] w20 fun v21 w22 =>
  RUN Try.prog (pan R) (bins .neq 3 (.tmp 135) (.tmp 136) v11 x13) w22 fun v23 w24 =>
  SPL v23
  (b19 R C11 x13 (Go.Value.bool Bool.true) w24)
  (b18_1 R C11 x13 v13 v21 w24)

def b18 (R : Ending → World → Prop) (C11 : Value → World → Prop) (x1 x5 x13 x14 x15 : Value) (w : World) (_r : Tok R := tok R) (_C11 : Tok C11 := tok C11) : Prop :=
  RUN Try.prog (pan R) (Instr.loadAt 36 x1) w fun v1 w2 =>
  RUN Try.prog (pan R) (Instr.fieldAt 59 x14 0) w2 fun v3 w4 =>
  RUN Try.prog (pan R) (Instr.loadAt 3 v3) w4 fun v5 w6 =>
  CALL Try.prog (pan R) law02_handle.id #[v1, v5] w6 fun v7 w8 =>
  CALL Try.prog (pan R) gram_Builder_Rule.id #[x5, v7, x15] w8 fun v9 w10 =>
  b18_2 R C11 x5 x13 x14 v9 w10
abbrev q4 (R : Ending → World → Prop) (C11 : Value → World → Prop) : Exit → Env → World → Prop := QX (fun ρ w => b19 R C11 (ρ 13) (ρ 145) w) (fun ρ w => R (.returned (ρ 2)) w) [(10, (fun ρ w => b14 R C11 (ρ 13) w)), (8, (fun ρ w => b8 R (ρ 1) (ρ 5) w))]
theorem b18_eq (R : Ending → World → Prop) (C11 : Value → World → Prop) (ρ : Env) (w : World) : (b18 R C11 (ρ 1) (ρ 5) (ρ 13) (ρ 14) (ρ 15) w) = codeP Try.prog (pan R) (preC 2 (sndC p9)) (q4 R C11) ρ w := by kernel_rfl
theorem b18_ok (R : Ending → World → Prop) (C11 : Value → World → Prop) (ρ : Env) (w : World) (h : b18 R C11 (ρ 1) (ρ 5) (ρ 13) (ρ 14) (ρ 15) w) : codeP Try.prog (pan R) (sndC p9) (q3 R C11) ρ w := by
  have e : appC 2 (preC 2 (sndC p9)) (dropC 3 (sndC p9)) = (sndC p9) := by kernel_rfl
  rw [← e]
  exact appQ (fun ρ w => b19 R C11 (ρ 13) (ρ 145) w) 2 ((b18_eq R C11 ρ w).mp h) (fun ρ w h => b19_ok R C11 ρ w h)
noncomputable abbrev p11 : Code := dropC 1 (fstC p9)
noncomputable abbrev p12 : Code := loopC (blkC p11)
def b23_1 (R : Ending → World → Prop) (C22 : Value → Value → World → Prop) (x15 x16 v14 : Value) (w15 : World) (_r : Tok R := tok R) (_C22 : Tok C22 := tok C22) : Prop :=
  RUN Try.prog (pan R) (Instr.buildSlice 30 1 #[(0, v14)]) w15 fun v16 w17 =>
  RUN Try.prog (pan R) (Builtin.append_ #[30, 30] 30 #[x15, v16]) w17 fun v18 w19 =>
  RUN Try.prog (pan R) (bins .add 3 (.tmp 107) (.const (Go.Value.int Go.IntKind.i64 1)) x16 (Go.Value.int Go.IntKind.i64 1)) w19 fun v20 w21 =>
  C22 v18 v20 w21
def b23_2 (R : Ending → World → Prop) (C22 : Value → Value → World → Prop) (x1 x14 x15 x16 : Value) (w8 : World) (_r : Tok R := tok R) (_C22 : Tok C22 := tok C22) : Prop :=
  LD Try.prog (Instr.loadAt 36 x1) (World.drew w8) fun v9 =>
  PUR Try.prog (Instr.fieldAt 59 x14 1) fun v10 =>
  LD Try.prog (Instr.loadAt 30 v10) (World.drew w8) fun v11 =>
  PUR Try.prog (Instr.indexAt 30 v11 x16) fun v12 =>
  LD Try.prog (Instr.loadAt 3 v12) (World.drew w8) fun v13 =>
  CALL Try.prog (pan R) law02_handle.id #[v9, v13] (World.drew w8) fun v14 w15 =>
  b23_1 R C22 x15 x16 v14 w15

def b23 (R : Ending → World → Prop) (C11 : Value → World → Prop) (C22 : Value → Value → World → Prop) (x1 x5 x13 x14 x15 x16 : Value) (w : World) (_r : Tok R := tok R) (_C11 : Tok C11 := tok C11) (_C22 : Tok C22 := tok C22) : Prop :=
  RUN Try.prog (pan R) (Instr.fieldAt 59 x14 1) w fun v1 w2 =>
  RUN Try.prog (pan R) (Instr.loadAt 30 v1) w2 fun v3 w4 =>
  RUN Try.prog (pan R) (Builtin.len_ #[30] 3 #[v3]) w4 fun v5 w6 =>
  RUN Try.prog (pan R) (bins .lss 3 (.tmp 102) (.tmp 105) x16 v5) w6 fun v7 w8 =>
  SPL v7
  (b23_2 R C22 x1 x14 x15 x16 w8)
  (b18 R C11 x1 x5 x13 x14 x15 w8)
abbrev q5 (R : Ending → World → Prop) (C11 : Value → World → Prop) (C22 : Value → Value → World → Prop) : Exit → Env → World → Prop := QX (fun ρ w => C22 (ρ 15) (ρ 16) w) (fun ρ w => R (.returned (ρ 2)) w) [(12, (fun ρ w => b18 R C11 (ρ 1) (ρ 5) (ρ 13) (ρ 14) (ρ 15) w)), (10, (fun ρ w => b14 R C11 (ρ 13) w)), (8, (fun ρ w => b8 R (ρ 1) (ρ 5) w))]
theorem b23_eq (R : Ending → World → Prop) (C11 : Value → World → Prop) (C22 : Value → Value → World → Prop) (ρ : Env) (w : World) : (b23 R C11 C22 (ρ 1) (ρ 5) (ρ 13) (ρ 14) (ρ 15) (ρ 16) w) = codeP Try.prog (pan R) p12 (q5 R C11 C22) ρ w := by kernel_rfl
theorem b23_ok (R : Ending → World → Prop) (C11 : Value → World → Prop) (C22 : Value → Value → World → Prop) (ρ : Env) (w : World) (h : b23 R C11 C22 (ρ 1) (ρ 5) (ρ 13) (ρ 14) (ρ 15) (ρ 16) w) : codeP Try.prog (pan R) p12 (q5 R C11 C22) ρ w := (b23_eq R C11 C22 ρ w).mp h

def l22 (R : Ending → World → Prop) (C11 : Value → World → Prop) (x1 x5 x13 x14 x15 x16 : Value) (w : World) (_r : Tok R := tok R) (_C11 : Tok C11 := tok C11) : Prop :=
  ∃ (J : Value → Value → World → Prop) (μ : Value → Value → World → Nat), J x15 x16 w ∧ ∀ y15 y16 w0, J y15 y16 w0 → b23 R C11 (fun z15 z16 w1 => J z15 z16 w1 ∧ μ z15 z16 w1 < μ y15 y16 w0) x1 x5 x13 x14 y15 y16 w0
abbrev q6 (R : Ending → World → Prop) (C11 : Value → World → Prop) : Exit → Env → World → Prop := QX (fun ρ w => b18 R C11 (ρ 1) (ρ 5) (ρ 13) (ρ 14) (ρ 15) w) (fun ρ w => R (.returned (ρ 2)) w) [(12, (fun ρ w => b18 R C11 (ρ 1) (ρ 5) (ρ 13) (ρ 14) (ρ 15) w)), (10, (fun ρ w => b14 R C11 (ρ 13) w)), (8, (fun ρ w => b8 R (ρ 1) (ρ 5) w))]
theorem l22_ok (R : Ending → World → Prop) (C11 : Value → World → Prop) (ρ : Env) (w : World) (h : l22 R C11 (ρ 1) (ρ 5) (ρ 13) (ρ 14) (ρ 15) (ρ 16) w) : codeP Try.prog (pan R) (blkC p11) (q6 R C11) ρ w := by
  unfold l22 at h
  obtain ⟨J, μ, h0, hr⟩ := h
  have e : Code.loop (loopC (blkC p11)) = (blkC p11) := by kernel_rfl
  rw [← e]
  refine loopQ (fun ρ' w' => J (ρ' 15) (ρ' 16) w') (fun ρ' w' => μ (ρ' 15) (ρ' 16) w') h0 fun ρ' w' hA hI => ?_
  have e1 : ρ' 1 = ρ 1 := Agree.at hA 1 (by kernel_rfl)
  have e5 : ρ' 5 = ρ 5 := Agree.at hA 5 (by kernel_rfl)
  have e13 : ρ' 13 = ρ 13 := Agree.at hA 13 (by kernel_rfl)
  have e14 : ρ' 14 = ρ 14 := Agree.at hA 14 (by kernel_rfl)
  have h1 := hr (ρ' 15) (ρ' 16) w' hI
  rw [← e1, ← e5, ← e13, ← e14] at h1
  exact b23_ok R C11 (fun z15 z16 w1 => J z15 z16 w1 ∧ μ z15 z16 w1 < μ (ρ' 15) (ρ' 16) w') ρ' w' h1
theorem l22_intro (R : Ending → World → Prop) (C11 : Value → World → Prop) (x1 x5 x13 x14 x15 x16 : Value) (w : World) (J : Value → Value → World → Prop) (μ : Value → Value → World → Nat) (h0 : J x15 x16 w)
    (hr : ∀ y15 y16 w0, J y15 y16 w0 → ∀ C22 : Value → Value → World → Prop, (∀ z15 z16 w1, J z15 z16 w1 → μ z15 z16 w1 < μ y15 y16 w0 → C22 z15 z16 w1) → b23 R C11 C22 x1 x5 x13 x14 y15 y16 w0) : l22 R C11 x1 x5 x13 x14 x15 x16 w := by
  unfold l22
  exact ⟨J, μ, h0, fun y15 y16 w0 hJ => hr y15 y16 w0 hJ _ (fun z15 z16 w1 h1 h2 => ⟨h1, h2⟩)⟩
abbrev q7 (R : Ending → World → Prop) (C11 : Value → World → Prop) : Exit → Env → World → Prop := QX (fun ρ w => b18 R C11 (ρ 1) (ρ 5) (ρ 13) (ρ 14) (ρ 15) w) (fun ρ w => R (.returned (ρ 2)) w) [(10, (fun ρ w => b14 R C11 (ρ 13) w)), (8, (fun ρ w => b8 R (ρ 1) (ρ 5) w))]
theorem k21_ok (R : Ending → World → Prop) (C11 : Value → World → Prop) (ρ : Env) (w : World) (h : l22 R C11 (ρ 1) (ρ 5) (ρ 13) (ρ 14) (ρ 15) (ρ 16) w) : codeP Try.prog (pan R) p11 (q7 R C11) ρ w := by
  have e : Code.block 6 (blkC p11) = p11 := by kernel_rfl
  rw [← e]
  exact blockQ (l22_ok R C11 ρ w h)

def b20 (R : Ending → World → Prop) (C11 : Value → World → Prop) (x1 x5 x13 x14 x15 : Value) (w : World) (_r : Tok R := tok R) (_C11 : Tok C11 := tok C11) : Prop :=
  l22 R C11 x1 x5 x13 x14 x15 (Go.Value.int Go.IntKind.i64 0) w
abbrev q8 (R : Ending → World → Prop) (C11 : Value → World → Prop) : Exit → Env → World → Prop := QX (fun ρ w => l22 R C11 (ρ 1) (ρ 5) (ρ 13) (ρ 14) (ρ 15) (ρ 16) w) (fun ρ w => R (.returned (ρ 2)) w) [(10, (fun ρ w => b14 R C11 (ρ 13) w)), (8, (fun ρ w => b8 R (ρ 1) (ρ 5) w))]
theorem b20_eq (R : Ending → World → Prop) (C11 : Value → World → Prop) (ρ : Env) (w : World) : (b20 R C11 (ρ 1) (ρ 5) (ρ 13) (ρ 14) (ρ 15) w) = codeP Try.prog (pan R) (preC 0 (fstC p9)) (q8 R C11) ρ w := by kernel_rfl
theorem b20_ok (R : Ending → World → Prop) (C11 : Value → World → Prop) (ρ : Env) (w : World) (h : b20 R C11 (ρ 1) (ρ 5) (ρ 13) (ρ 14) (ρ 15) w) : codeP Try.prog (pan R) (fstC p9) (q7 R C11) ρ w := by
  have e : appC 0 (preC 0 (fstC p9)) (dropC 1 (fstC p9)) = (fstC p9) := by kernel_rfl
  rw [← e]
  exact appQ (fun ρ w => l22 R C11 (ρ 1) (ρ 5) (ρ 13) (ρ 14) (ρ 15) (ρ 16) w) 0 ((b20_eq R C11 ρ w).mp h) (fun ρ w h => k21_ok R C11 ρ w h)
theorem k17_ok (R : Ending → World → Prop) (C11 : Value → World → Prop) (ρ : Env) (w : World) (h : b20 R C11 (ρ 1) (ρ 5) (ρ 13) (ρ 14) (ρ 15) w) : codeP Try.prog (pan R) p9 (q3 R C11) ρ w := by
  have e : Code.seq (fstC p9) (sndC p9) = p9 := by kernel_rfl
  rw [← e]
  exact seqQ (fun ρ w => b18 R C11 (ρ 1) (ρ 5) (ρ 13) (ρ 14) (ρ 15) w) (b20_ok R C11 ρ w h) (fun ρ w h => b18_ok R C11 ρ w h)

def b16 (R : Ending → World → Prop) (C11 : Value → World → Prop) (x1 x5 x13 : Value) (w : World) (_r : Tok R := tok R) (_C11 : Tok C11 := tok C11) : Prop :=
  RUN Try.prog (pan R) (Instr.fieldAt 36 x1 4) w fun v1 w2 =>
  RUN Try.prog (pan R) (Instr.loadAt 34 v1) w2 fun v3 w4 =>
  RUN Try.prog (pan R) (Instr.indexAt 34 v3 x13) w4 fun v5 w6 =>
  RUN Try.prog (pan R) (Instr.loadAt 59 v5) w6 fun v7 w8 =>
  RUN Try.prog (pan R) (Instr.alloc 59 true (.tuple #[])) w8 fun v9 w10 =>
  RUNU Try.prog (pan R) (Instr.storeAt 59 v9 v7) w10 fun w11 =>
  b20 R C11 x1 x5 x13 v9 (Go.Value.slice Option.none 0 0) w11
abbrev q9 (R : Ending → World → Prop) (C11 : Value → World → Prop) : Exit → Env → World → Prop := QX (fun ρ w => b20 R C11 (ρ 1) (ρ 5) (ρ 13) (ρ 14) (ρ 15) w) (fun ρ w => R (.returned (ρ 2)) w) [(10, (fun ρ w => b14 R C11 (ρ 13) w)), (8, (fun ρ w => b8 R (ρ 1) (ρ 5) w))]
theorem b16_eq (R : Ending → World → Prop) (C11 : Value → World → Prop) (ρ : Env) (w : World) : (b16 R C11 (ρ 1) (ρ 5) (ρ 13) w) = codeP Try.prog (pan R) (preC 1 p8) (q9 R C11) ρ w := by kernel_rfl
theorem b16_ok (R : Ending → World → Prop) (C11 : Value → World → Prop) (ρ : Env) (w : World) (h : b16 R C11 (ρ 1) (ρ 5) (ρ 13) w) : codeP Try.prog (pan R) p8 (q3 R C11) ρ w := by
  have e : appC 1 (preC 1 p8) (dropC 2 p8) = p8 := by kernel_rfl
  rw [← e]
  exact appQ (fun ρ w => b20 R C11 (ρ 1) (ρ 5) (ρ 13) (ρ 14) (ρ 15) w) 1 ((b16_eq R C11 ρ w).mp h) (fun ρ w h => k17_ok R C11 ρ w h)
abbrev q10 (R : Ending → World → Prop) (C11 : Value → World → Prop) : Exit → Env → World → Prop := QX (fun ρ w => b14 R C11 (ρ 13) w) (fun ρ w => R (.returned (ρ 2)) w) [(8, (fun ρ w => b8 R (ρ 1) (ρ 5) w))]
theorem k15_ok (R : Ending → World → Prop) (C11 : Value → World → Prop) (ρ : Env) (w : World) (h : b16 R C11 (ρ 1) (ρ 5) (ρ 13) w) : codeP Try.prog (pan R) (fstC p7) (q10 R C11) ρ w := by
  have e : Code.block 5 (blkC (fstC p7)) = (fstC p7) := by kernel_rfl
  rw [← e]
  exact blockQ (b16_ok R C11 ρ w h)
theorem k13_ok (R : Ending → World → Prop) (C11 : Value → World → Prop) (ρ : Env) (w : World) (h : b16 R C11 (ρ 1) (ρ 5) (ρ 13) w) : codeP Try.prog (pan R) p7 (q2 R C11) ρ w := by
  have e : Code.seq (fstC p7) (sndC p7) = p7 := by kernel_rfl
  rw [← e]
  exact seqQ (fun ρ w => b14 R C11 (ρ 13) w) (k15_ok R C11 ρ w h) (fun ρ w h => b14_ok R C11 ρ w h)

def b12 (R : Ending → World → Prop) (C11 : Value → World → Prop) (x1 x5 x13 : Value) (w : World) (_r : Tok R := tok R) (_C11 : Tok C11 := tok C11) : Prop :=
  RUN Try.prog (pan R) (Instr.fieldAt 36 x1 4) w fun v1 w2 =>
  RUN Try.prog (pan R) (Instr.loadAt 34 v1) w2 fun v3 w4 =>
  RUN Try.prog (pan R) (Builtin.len_ #[34] 3 #[v3]) w4 fun v5 w6 =>
  RUN Try.prog (pan R) (bins .lss 3 (.tmp 90) (.tmp 93) x13 v5) w6 fun v7 w8 =>
  SPL v7
  (b16 R C11 x1 x5 x13 w8)
  (b8 R x1 x5 w8)
abbrev q11 (R : Ending → World → Prop) (C11 : Value → World → Prop) : Exit → Env → World → Prop := QX (fun ρ w => b16 R C11 (ρ 1) (ρ 5) (ρ 13) w) (fun ρ w => R (.returned (ρ 2)) w) [(8, (fun ρ w => b8 R (ρ 1) (ρ 5) w))]
theorem b12_eq (R : Ending → World → Prop) (C11 : Value → World → Prop) (ρ : Env) (w : World) : (b12 R C11 (ρ 1) (ρ 5) (ρ 13) w) = codeP Try.prog (pan R) (preC 0 p6) (q11 R C11) ρ w := by kernel_rfl
theorem b12_ok (R : Ending → World → Prop) (C11 : Value → World → Prop) (ρ : Env) (w : World) (h : b12 R C11 (ρ 1) (ρ 5) (ρ 13) w) : codeP Try.prog (pan R) p6 (q2 R C11) ρ w := by
  have e : appC 0 (preC 0 p6) (dropC 1 p6) = p6 := by kernel_rfl
  rw [← e]
  exact appQ (fun ρ w => b16 R C11 (ρ 1) (ρ 5) (ρ 13) w) 0 ((b12_eq R C11 ρ w).mp h) (fun ρ w h => k13_ok R C11 ρ w h)

def l11 (R : Ending → World → Prop) (x1 x5 x13 : Value) (w : World) (_r : Tok R := tok R) : Prop :=
  ∃ (J : Value → World → Prop) (μ : Value → World → Nat), J x13 w ∧ ∀ y13 w0, J y13 w0 → b12 R (fun z13 w1 => J z13 w1 ∧ μ z13 w1 < μ y13 w0) x1 x5 y13 w0
abbrev q12 (R : Ending → World → Prop) : Exit → Env → World → Prop := QX (fun ρ w => b8 R (ρ 1) (ρ 5) w) (fun ρ w => R (.returned (ρ 2)) w) [(8, (fun ρ w => b8 R (ρ 1) (ρ 5) w))]
theorem l11_ok (R : Ending → World → Prop) (ρ : Env) (w : World) (h : l11 R (ρ 1) (ρ 5) (ρ 13) w) : codeP Try.prog (pan R) (blkC p5) (q12 R) ρ w := by
  unfold l11 at h
  obtain ⟨J, μ, h0, hr⟩ := h
  have e : Code.loop (loopC (blkC p5)) = (blkC p5) := by kernel_rfl
  rw [← e]
  refine loopQ (fun ρ' w' => J (ρ' 13) w') (fun ρ' w' => μ (ρ' 13) w') h0 fun ρ' w' hA hI => ?_
  have e1 : ρ' 1 = ρ 1 := Agree.at hA 1 (by kernel_rfl)
  have e5 : ρ' 5 = ρ 5 := Agree.at hA 5 (by kernel_rfl)
  have h1 := hr (ρ' 13) w' hI
  rw [← e1, ← e5] at h1
  exact b12_ok R (fun z13 w1 => J z13 w1 ∧ μ z13 w1 < μ (ρ' 13) w') ρ' w' h1
theorem l11_intro (R : Ending → World → Prop) (x1 x5 x13 : Value) (w : World) (J : Value → World → Prop) (μ : Value → World → Nat) (h0 : J x13 w)
    (hr : ∀ y13 w0, J y13 w0 → ∀ C11 : Value → World → Prop, (∀ z13 w1, J z13 w1 → μ z13 w1 < μ y13 w0 → C11 z13 w1) → b12 R C11 x1 x5 y13 w0) : l11 R x1 x5 x13 w := by
  unfold l11
  exact ⟨J, μ, h0, fun y13 w0 hJ => hr y13 w0 hJ _ (fun z13 w1 h1 h2 => ⟨h1, h2⟩)⟩
abbrev q13 (R : Ending → World → Prop) : Exit → Env → World → Prop := QX (fun ρ w => b8 R (ρ 1) (ρ 5) w) (fun ρ w => R (.returned (ρ 2)) w) []
theorem k10_ok (R : Ending → World → Prop) (ρ : Env) (w : World) (h : l11 R (ρ 1) (ρ 5) (ρ 13) w) : codeP Try.prog (pan R) p5 (q13 R) ρ w := by
  have e : Code.block 4 (blkC p5) = p5 := by kernel_rfl
  rw [← e]
  exact blockQ (l11_ok R ρ w h)

def b9 (R : Ending → World → Prop) (x1 x5 : Value) (w : World) (_r : Tok R := tok R) : Prop :=
  l11 R x1 x5 (Go.Value.int Go.IntKind.i64 0) w
abbrev q14 (R : Ending → World → Prop) : Exit → Env → World → Prop := QX (fun ρ w => l11 R (ρ 1) (ρ 5) (ρ 13) w) (fun ρ w => R (.returned (ρ 2)) w) []
theorem b9_eq (R : Ending → World → Prop) (ρ : Env) (w : World) : (b9 R (ρ 1) (ρ 5) w) = codeP Try.prog (pan R) (preC 0 (fstC p4)) (q14 R) ρ w := by kernel_rfl
theorem b9_ok (R : Ending → World → Prop) (ρ : Env) (w : World) (h : b9 R (ρ 1) (ρ 5) w) : codeP Try.prog (pan R) (fstC p4) (q13 R) ρ w := by
  have e : appC 0 (preC 0 (fstC p4)) (dropC 1 (fstC p4)) = (fstC p4) := by kernel_rfl
  rw [← e]
  exact appQ (fun ρ w => l11 R (ρ 1) (ρ 5) (ρ 13) w) 0 ((b9_eq R ρ w).mp h) (fun ρ w h => k10_ok R ρ w h)
theorem k7_ok (R : Ending → World → Prop) (ρ : Env) (w : World) (h : b9 R (ρ 1) (ρ 5) w) : codeP Try.prog (pan R) p4 (q1 R) ρ w := by
  have e : Code.seq (fstC p4) (sndC p4) = p4 := by kernel_rfl
  rw [← e]
  exact seqQ (fun ρ w => b8 R (ρ 1) (ρ 5) w) (b9_ok R ρ w h) (fun ρ w h => b8_ok R ρ w h)

def b6 (R : Ending → World → Prop) (x1 x5 : Value) (w : World) (_r : Tok R := tok R) : Prop :=
  RUN Try.prog (pan R) (Instr.loadAt 36 x1) w fun v1 w2 =>
  CALL Try.prog (pan R) law02_levels.id #[x5, v1] w2 fun v3 w4 =>
  RUN Try.prog (pan R) (Op.unary .not v3) w4 fun v5 w6 =>
  SPL v5
  (R (.returned (Go.Value.bool Bool.false)) w6)
  (b9 R x1 x5 w6)
abbrev q15 (R : Ending → World → Prop) : Exit → Env → World → Prop := QX (fun ρ w => b9 R (ρ 1) (ρ 5) w) (fun ρ w => R (.returned (ρ 2)) w) []
theorem b6_eq (R : Ending → World → Prop) (ρ : Env) (w : World) : (b6 R (ρ 1) (ρ 5) w) = codeP Try.prog (pan R) (preC 1 p3) (q15 R) ρ w := by kernel_rfl
theorem b6_ok (R : Ending → World → Prop) (ρ : Env) (w : World) (h : b6 R (ρ 1) (ρ 5) w) : codeP Try.prog (pan R) p3 (q1 R) ρ w := by
  have e : appC 1 (preC 1 p3) (dropC 2 p3) = p3 := by kernel_rfl
  rw [← e]
  exact appQ (fun ρ w => b9 R (ρ 1) (ρ 5) w) 1 ((b6_eq R ρ w).mp h) (fun ρ w h => k7_ok R ρ w h)
noncomputable abbrev p13 : Code := fstC (sndC p2)
noncomputable abbrev p14 : Code := dropC 1 p13
noncomputable abbrev p15 : Code := loopC (blkC p14)
noncomputable abbrev p16 : Code := dropC 1 p15

def b29 (R : Ending → World → Prop) (C26 : Value → World → Prop) (x9 : Value) (w : World) (_r : Tok R := tok R) (_C26 : Tok C26 := tok C26) : Prop :=
  RUN Try.prog (pan R) (bins .add 3 (.tmp 65) (.const (Go.Value.int Go.IntKind.i64 1)) x9 (Go.Value.int Go.IntKind.i64 1)) w fun v1 w2 =>
  C26 v1 w2
abbrev q16 (R : Ending → World → Prop) (C26 : Value → World → Prop) : Exit → Env → World → Prop := QX (fun ρ w => C26 (ρ 9) w) (fun ρ w => R (.returned (ρ 2)) w) [(4, (fun ρ w => b6 R (ρ 1) (ρ 5) w))]
theorem b29_eq (R : Ending → World → Prop) (C26 : Value → World → Prop) (ρ : Env) (w : World) : (b29 R C26 (ρ 9) w) = codeP Try.prog (pan R) (sndC p16) (q16 R C26) ρ w := by kernel_rfl
theorem b29_ok (R : Ending → World → Prop) (C26 : Value → World → Prop) (ρ : Env) (w : World) (h : b29 R C26 (ρ 9) w) : codeP Try.prog (pan R) (sndC p16) (q16 R C26) ρ w := (b29_eq R C26 ρ w).mp h
noncomputable abbrev p17 : Code := blkC (fstC p16)
noncomputable abbrev p18 : Code := dropC 2 p17

def b32 (R : Ending → World → Prop) (C26 : Value → World → Prop) (x9 x84 : Value) (w : World) (_r : Tok R := tok R) (_C26 : Tok C26 := tok C26) : Prop :=
  SPL x84
  (R (.returned (Go.Value.bool Bool.false)) w)
  (b29 R C26 x9 w)
abbrev q17 (R : Ending → World → Prop) (C26 : Value → World → Prop) : Exit → Env → World → Prop := QX (fun ρ w => b29 R C26 (ρ 9) w) (fun ρ w => R (.returned (ρ 2)) w) [(6, (fun ρ w => b29 R C26 (ρ 9) w)), (4, (fun ρ w => b6 R (ρ 1) (ρ 5) w))]
theorem b32_eq (R : Ending → World → Prop) (C26 : Value → World → Prop) (ρ : Env) (w : World) : (b32 R C26 (ρ 9) (ρ 84) w) = codeP Try.prog (pan R) p18 (q17 R C26) ρ w := by kernel_rfl
theorem b32_ok (R : Ending → World → Prop) (C26 : Value → World → Prop) (ρ : Env) (w : World) (h : b32 R C26 (ρ 9) (ρ 84) w) : codeP Try.prog (pan R) p18 (q17 R C26) ρ w := (b32_eq R C26 ρ w).mp h
def b31_1 (R : Ending → World → Prop) (C26 : Value → World → Prop) (x9 v9 : Value) (w10 : World) (_r : Tok R := tok R) (_C26 : Tok C26 := tok C26) : Prop :=
  RUN Try.prog (pan R) (Instr.extract v9 0) w10 fun v11 w12 =>
  RUN Try.prog (pan R) (Instr.extract v9 1) w12 fun v13 w14 =>
  RUN Try.prog (pan R) (bins .sub 3 (.const (Go.Value.int Go.IntKind.i64 (-1))) (.tmp 78) (Go.Value.int Go.IntKind.i64 (-1)) x9) w14 fun v15 w16 =>
  RUN Try.prog (pan R) (bins .neq 3 (.tmp 77) (.tmp 79) v11 v15) w16 fun v17 w18 =>
  SPL v17
  (b32 R C26 x9 (Go.Value.bool Bool.true) w18)
  (RUN Try.prog (pan R) (bins .neq 22 (.tmp 82) (.const (Go.Value.int Go.IntKind.i64 0)) v13 (Go.Value.int Go.IntKind.i64 0)) w18 fun v19 w20 =>
  b32 R C26 x9 v19 w20)

def b31 (R : Ending → World → Prop) (C26 : Value → World → Prop) (x1 x5 x9 : Value) (w : World) (_r : Tok R := tok R) (_C26 : Tok C26 := tok C26) : Prop :=
  RUN Try.prog (pan R) (Instr.fieldAt 36 x1 1) w fun v1 w2 =>
  RUN Try.prog (pan R) (Instr.loadAt 33 v1) w2 fun v3 w4 =>
  RUN Try.prog (pan R) (Instr.indexAt 33 v3 x9) w4 fun v5 w6 =>
  RUN Try.prog (pan R) (Instr.loadAt 9 v5) w6 fun v7 w8 =>
  CALL Try.prog (pan R) gram_Builder_Non.id #[x5, v7] w8 fun v9 w10 =>
  b31_1 R C26 x9 v9 w10
abbrev q18 (R : Ending → World → Prop) (C26 : Value → World → Prop) : Exit → Env → World → Prop := QX (fun ρ w => b32 R C26 (ρ 9) (ρ 84) w) (fun ρ w => R (.returned (ρ 2)) w) [(6, (fun ρ w => b29 R C26 (ρ 9) w)), (4, (fun ρ w => b6 R (ρ 1) (ρ 5) w))]
theorem b31_eq (R : Ending → World → Prop) (C26 : Value → World → Prop) (ρ : Env) (w : World) : (b31 R C26 (ρ 1) (ρ 5) (ρ 9) w) = codeP Try.prog (pan R) (preC 1 p17) (q18 R C26) ρ w := by kernel_rfl
theorem b31_ok (R : Ending → World → Prop) (C26 : Value → World → Prop) (ρ : Env) (w : World) (h : b31 R C26 (ρ 1) (ρ 5) (ρ 9) w) : codeP Try.prog (pan R) p17 (q17 R C26) ρ w := by
  have e : appC 1 (preC 1 p17) (dropC 2 p17) = p17 := by kernel_rfl
  rw [← e]
  exact appQ (fun ρ w => b32 R C26 (ρ 9) (ρ 84) w) 1 ((b31_eq R C26 ρ w).mp h) (fun ρ w h => b32_ok R C26 ρ w h)
abbrev q19 (R : Ending → World → Prop) (C26 : Value → World → Prop) : Exit → Env → World → Prop := QX (fun ρ w => b29 R C26 (ρ 9) w) (fun ρ w => R (.returned (ρ 2)) w) [(4, (fun ρ w => b6 R (ρ 1) (ρ 5) w))]
theorem k30_ok (R : Ending → World → Prop) (C26 : Value → World → Prop) (ρ : Env) (w : World) (h : b31 R C26 (ρ 1) (ρ 5) (ρ 9) w) : codeP Try.prog (pan R) (fstC p16) (q19 R C26) ρ w := by
  have e : Code.block 3 (blkC (fstC p16)) = (fstC p16) := by kernel_rfl
  rw [← e]
  exact blockQ (b31_ok R C26 ρ w h)
theorem k28_ok (R : Ending → World → Prop) (C26 : Value → World → Prop) (ρ : Env) (w : World) (h : b31 R C26 (ρ 1) (ρ 5) (ρ 9) w) : codeP Try.prog (pan R) p16 (q16 R C26) ρ w := by
  have e : Code.seq (fstC p16) (sndC p16) = p16 := by kernel_rfl
  rw [← e]
  exact seqQ (fun ρ w => b29 R C26 (ρ 9) w) (k30_ok R C26 ρ w h) (fun ρ w h => b29_ok R C26 ρ w h)

def b27 (R : Ending → World → Prop) (C26 : Value → World → Prop) (x1 x5 x9 : Value) (w : World) (_r : Tok R := tok R) (_C26 : Tok C26 := tok C26) : Prop :=
  RUN Try.prog (pan R) (Instr.fieldAt 36 x1 1) w fun v1 w2 =>
  RUN Try.prog (pan R) (Instr.loadAt 33 v1) w2 fun v3 w4 =>
  RUN Try.prog (pan R) (Builtin.len_ #[33] 3 #[v3]) w4 fun v5 w6 =>
  RUN Try.prog (pan R) (bins .lss 3 (.tmp 60) (.tmp 63) x9 v5) w6 fun v7 w8 =>
  SPL v7
  (b31 R C26 x1 x5 x9 w8)
  (b6 R x1 x5 w8)
abbrev q20 (R : Ending → World → Prop) (C26 : Value → World → Prop) : Exit → Env → World → Prop := QX (fun ρ w => b31 R C26 (ρ 1) (ρ 5) (ρ 9) w) (fun ρ w => R (.returned (ρ 2)) w) [(4, (fun ρ w => b6 R (ρ 1) (ρ 5) w))]
theorem b27_eq (R : Ending → World → Prop) (C26 : Value → World → Prop) (ρ : Env) (w : World) : (b27 R C26 (ρ 1) (ρ 5) (ρ 9) w) = codeP Try.prog (pan R) (preC 0 p15) (q20 R C26) ρ w := by kernel_rfl
theorem b27_ok (R : Ending → World → Prop) (C26 : Value → World → Prop) (ρ : Env) (w : World) (h : b27 R C26 (ρ 1) (ρ 5) (ρ 9) w) : codeP Try.prog (pan R) p15 (q16 R C26) ρ w := by
  have e : appC 0 (preC 0 p15) (dropC 1 p15) = p15 := by kernel_rfl
  rw [← e]
  exact appQ (fun ρ w => b31 R C26 (ρ 1) (ρ 5) (ρ 9) w) 0 ((b27_eq R C26 ρ w).mp h) (fun ρ w h => k28_ok R C26 ρ w h)

def l26 (R : Ending → World → Prop) (x1 x5 x9 : Value) (w : World) (_r : Tok R := tok R) : Prop :=
  ∃ (J : Value → World → Prop) (μ : Value → World → Nat), J x9 w ∧ ∀ y9 w0, J y9 w0 → b27 R (fun z9 w1 => J z9 w1 ∧ μ z9 w1 < μ y9 w0) x1 x5 y9 w0
abbrev q21 (R : Ending → World → Prop) : Exit → Env → World → Prop := QX (fun ρ w => b6 R (ρ 1) (ρ 5) w) (fun ρ w => R (.returned (ρ 2)) w) [(4, (fun ρ w => b6 R (ρ 1) (ρ 5) w))]
theorem l26_ok (R : Ending → World → Prop) (ρ : Env) (w : World) (h : l26 R (ρ 1) (ρ 5) (ρ 9) w) : codeP Try.prog (pan R) (blkC p14) (q21 R) ρ w := by
  unfold l26 at h
  obtain ⟨J, μ, h0, hr⟩ := h
  have e : Code.loop (loopC (blkC p14)) = (blkC p14) := by kernel_rfl
  rw [← e]
  refine loopQ (fun ρ' w' => J (ρ' 9) w') (fun ρ' w' => μ (ρ' 9) w') h0 fun ρ' w' hA hI => ?_
  have e1 : ρ' 1 = ρ 1 := Agree.at hA 1 (by kernel_rfl)
  have e5 : ρ' 5 = ρ 5 := Agree.at hA 5 (by kernel_rfl)
  have h1 := hr (ρ' 9) w' hI
  rw [← e1, ← e5] at h1
  exact b27_ok R (fun z9 w1 => J z9 w1 ∧ μ z9 w1 < μ (ρ' 9) w') ρ' w' h1
theorem l26_intro (R : Ending → World → Prop) (x1 x5 x9 : Value) (w : World) (J : Value → World → Prop) (μ : Value → World → Nat) (h0 : J x9 w)
    (hr : ∀ y9 w0, J y9 w0 → ∀ C26 : Value → World → Prop, (∀ z9 w1, J z9 w1 → μ z9 w1 < μ y9 w0 → C26 z9 w1) → b27 R C26 x1 x5 y9 w0) : l26 R x1 x5 x9 w := by
  unfold l26
  exact ⟨J, μ, h0, fun y9 w0 hJ => hr y9 w0 hJ _ (fun z9 w1 h1 h2 => ⟨h1, h2⟩)⟩
abbrev q22 (R : Ending → World → Prop) : Exit → Env → World → Prop := QX (fun ρ w => b6 R (ρ 1) (ρ 5) w) (fun ρ w => R (.returned (ρ 2)) w) []
theorem k25_ok (R : Ending → World → Prop) (ρ : Env) (w : World) (h : l26 R (ρ 1) (ρ 5) (ρ 9) w) : codeP Try.prog (pan R) p14 (q22 R) ρ w := by
  have e : Code.block 2 (blkC p14) = p14 := by kernel_rfl
  rw [← e]
  exact blockQ (l26_ok R ρ w h)

def b24 (R : Ending → World → Prop) (x1 x5 : Value) (w : World) (_r : Tok R := tok R) : Prop :=
  l26 R x1 x5 (Go.Value.int Go.IntKind.i64 0) w
abbrev q23 (R : Ending → World → Prop) : Exit → Env → World → Prop := QX (fun ρ w => l26 R (ρ 1) (ρ 5) (ρ 9) w) (fun ρ w => R (.returned (ρ 2)) w) []
theorem b24_eq (R : Ending → World → Prop) (ρ : Env) (w : World) : (b24 R (ρ 1) (ρ 5) w) = codeP Try.prog (pan R) (preC 0 p13) (q23 R) ρ w := by kernel_rfl
theorem b24_ok (R : Ending → World → Prop) (ρ : Env) (w : World) (h : b24 R (ρ 1) (ρ 5) w) : codeP Try.prog (pan R) p13 (q22 R) ρ w := by
  have e : appC 0 (preC 0 p13) (dropC 1 p13) = p13 := by kernel_rfl
  rw [← e]
  exact appQ (fun ρ w => l26 R (ρ 1) (ρ 5) (ρ 9) w) 0 ((b24_eq R ρ w).mp h) (fun ρ w h => k25_ok R ρ w h)
theorem k5_ok (R : Ending → World → Prop) (ρ : Env) (w : World) (h : b24 R (ρ 1) (ρ 5) w) : codeP Try.prog (pan R) (sndC p2) (q1 R) ρ w := by
  have e : Code.seq (fstC (sndC p2)) (sndC (sndC p2)) = (sndC p2) := by kernel_rfl
  rw [← e]
  exact seqQ (fun ρ w => b6 R (ρ 1) (ρ 5) w) (b24_ok R ρ w h) (fun ρ w h => b6_ok R ρ w h)
noncomputable abbrev p19 : Code := dropC 1 (fstC p2)
noncomputable abbrev p20 : Code := loopC (blkC p19)
noncomputable abbrev p21 : Code := dropC 1 p20

def b38 (R : Ending → World → Prop) (C35 : Value → World → Prop) (x6 : Value) (w : World) (_r : Tok R := tok R) (_C35 : Tok C35 := tok C35) : Prop :=
  RUN Try.prog (pan R) (bins .add 3 (.tmp 40) (.const (Go.Value.int Go.IntKind.i64 1)) x6 (Go.Value.int Go.IntKind.i64 1)) w fun v1 w2 =>
  C35 v1 w2
abbrev q24 (R : Ending → World → Prop) (C35 : Value → World → Prop) : Exit → Env → World → Prop := QX (fun ρ w => C35 (ρ 6) w) (fun ρ w => R (.returned (ρ 2)) w) [(0, (fun ρ w => b24 R (ρ 1) (ρ 5) w))]
theorem b38_eq (R : Ending → World → Prop) (C35 : Value → World → Prop) (ρ : Env) (w : World) : (b38 R C35 (ρ 6) w) = codeP Try.prog (pan R) (sndC p21) (q24 R C35) ρ w := by kernel_rfl
theorem b38_ok (R : Ending → World → Prop) (C35 : Value → World → Prop) (ρ : Env) (w : World) (h : b38 R C35 (ρ 6) w) : codeP Try.prog (pan R) (sndC p21) (q24 R C35) ρ w := (b38_eq R C35 ρ w).mp h
noncomputable abbrev p22 : Code := blkC (fstC p21)
noncomputable abbrev p23 : Code := dropC 2 p22

def b41 (R : Ending → World → Prop) (C35 : Value → World → Prop) (x6 x59 : Value) (w : World) (_r : Tok R := tok R) (_C35 : Tok C35 := tok C35) : Prop :=
  SPL x59
  (R (.returned (Go.Value.bool Bool.false)) w)
  (b38 R C35 x6 w)
abbrev q25 (R : Ending → World → Prop) (C35 : Value → World → Prop) : Exit → Env → World → Prop := QX (fun ρ w => b38 R C35 (ρ 6) w) (fun ρ w => R (.returned (ρ 2)) w) [(2, (fun ρ w => b38 R C35 (ρ 6) w)), (0, (fun ρ w => b24 R (ρ 1) (ρ 5) w))]
theorem b41_eq (R : Ending → World → Prop) (C35 : Value → World → Prop) (ρ : Env) (w : World) : (b41 R C35 (ρ 6) (ρ 59) w) = codeP Try.prog (pan R) p23 (q25 R C35) ρ w := by kernel_rfl
theorem b41_ok (R : Ending → World → Prop) (C35 : Value → World → Prop) (ρ : Env) (w : World) (h : b41 R C35 (ρ 6) (ρ 59) w) : codeP Try.prog (pan R) p23 (q25 R C35) ρ w := (b41_eq R C35 ρ w).mp h
def b40_1 (R : Ending → World → Prop) (C35 : Value → World → Prop) (x6 v11 : Value) (w12 : World) (_r : Tok R := tok R) (_C35 : Tok C35 := tok C35) : Prop :=
  RUN Try.prog (pan R) (Instr.extract v11 0) w12 fun v13 w14 =>
  RUN Try.prog (pan R) (Instr.extract v11 1) w14 fun v15 w16 =>
  RUN Try.prog (pan R) (bins .neq 3 (.tmp 53) (.tmp 54) v13 x6) w16 fun v17 w18 =>
  SPL v17
  (b41 R C35 x6 (Go.Value.bool Bool.true) w18)
  (RUN Try.prog (pan R) (bins .neq 22 (.tmp 57) (.const (Go.Value.int Go.IntKind.i64 0)) v15 (Go.Value.int Go.IntKind.i64 0)) w18 fun v19 w20 =>
  b41 R C35 x6 v19 w20)

def b40 (R : Ending → World → Prop) (C35 : Value → World → Prop) (x1 x5 x6 : Value) (w : World) (_r : Tok R := tok R) (_C35 : Tok C35 := tok C35) : Prop :=
  RUN Try.prog (pan R) (Instr.fieldAt 36 x1 0) w fun v1 w2 =>
  RUN Try.prog (pan R) (Instr.loadAt 32 v1) w2 fun v3 w4 =>
  RUN Try.prog (pan R) (Instr.indexAt 32 v3 x6) w4 fun v5 w6 =>
  RUN Try.prog (pan R) (Instr.fieldAt 56 v5 0) w6 fun v7 w8 =>
  RUN Try.prog (pan R) (Instr.loadAt 9 v7) w8 fun v9 w10 =>
  CALL Try.prog (pan R) gram_Builder_Term.id #[x5, v9] w10 fun v11 w12 =>
  b40_1 R C35 x6 v11 w12
abbrev q26 (R : Ending → World → Prop) (C35 : Value → World → Prop) : Exit → Env → World → Prop := QX (fun ρ w => b41 R C35 (ρ 6) (ρ 59) w) (fun ρ w => R (.returned (ρ 2)) w) [(2, (fun ρ w => b38 R C35 (ρ 6) w)), (0, (fun ρ w => b24 R (ρ 1) (ρ 5) w))]
theorem b40_eq (R : Ending → World → Prop) (C35 : Value → World → Prop) (ρ : Env) (w : World) : (b40 R C35 (ρ 1) (ρ 5) (ρ 6) w) = codeP Try.prog (pan R) (preC 1 p22) (q26 R C35) ρ w := by kernel_rfl
theorem b40_ok (R : Ending → World → Prop) (C35 : Value → World → Prop) (ρ : Env) (w : World) (h : b40 R C35 (ρ 1) (ρ 5) (ρ 6) w) : codeP Try.prog (pan R) p22 (q25 R C35) ρ w := by
  have e : appC 1 (preC 1 p22) (dropC 2 p22) = p22 := by kernel_rfl
  rw [← e]
  exact appQ (fun ρ w => b41 R C35 (ρ 6) (ρ 59) w) 1 ((b40_eq R C35 ρ w).mp h) (fun ρ w h => b41_ok R C35 ρ w h)
abbrev q27 (R : Ending → World → Prop) (C35 : Value → World → Prop) : Exit → Env → World → Prop := QX (fun ρ w => b38 R C35 (ρ 6) w) (fun ρ w => R (.returned (ρ 2)) w) [(0, (fun ρ w => b24 R (ρ 1) (ρ 5) w))]
theorem k39_ok (R : Ending → World → Prop) (C35 : Value → World → Prop) (ρ : Env) (w : World) (h : b40 R C35 (ρ 1) (ρ 5) (ρ 6) w) : codeP Try.prog (pan R) (fstC p21) (q27 R C35) ρ w := by
  have e : Code.block 1 (blkC (fstC p21)) = (fstC p21) := by kernel_rfl
  rw [← e]
  exact blockQ (b40_ok R C35 ρ w h)
theorem k37_ok (R : Ending → World → Prop) (C35 : Value → World → Prop) (ρ : Env) (w : World) (h : b40 R C35 (ρ 1) (ρ 5) (ρ 6) w) : codeP Try.prog (pan R) p21 (q24 R C35) ρ w := by
  have e : Code.seq (fstC p21) (sndC p21) = p21 := by kernel_rfl
  rw [← e]
  exact seqQ (fun ρ w => b38 R C35 (ρ 6) w) (k39_ok R C35 ρ w h) (fun ρ w h => b38_ok R C35 ρ w h)

def b36 (R : Ending → World → Prop) (C35 : Value → World → Prop) (x1 x5 x6 : Value) (w : World) (_r : Tok R := tok R) (_C35 : Tok C35 := tok C35) : Prop :=
  RUN Try.prog (pan R) (Instr.fieldAt 36 x1 0) w fun v1 w2 =>
  RUN Try.prog (pan R) (Instr.loadAt 32 v1) w2 fun v3 w4 =>
  RUN Try.prog (pan R) (Builtin.len_ #[32] 3 #[v3]) w4 fun v5 w6 =>
  RUN Try.prog (pan R) (bins .lss 3 (.tmp 35) (.tmp 38) x6 v5) w6 fun v7 w8 =>
  SPL v7
  (b40 R C35 x1 x5 x6 w8)
  (b24 R x1 x5 w8)
abbrev q28 (R : Ending → World → Prop) (C35 : Value → World → Prop) : Exit → Env → World → Prop := QX (fun ρ w => b40 R C35 (ρ 1) (ρ 5) (ρ 6) w) (fun ρ w => R (.returned (ρ 2)) w) [(0, (fun ρ w => b24 R (ρ 1) (ρ 5) w))]
theorem b36_eq (R : Ending → World → Prop) (C35 : Value → World → Prop) (ρ : Env) (w : World) : (b36 R C35 (ρ 1) (ρ 5) (ρ 6) w) = codeP Try.prog (pan R) (preC 0 p20) (q28 R C35) ρ w := by kernel_rfl
theorem b36_ok (R : Ending → World → Prop) (C35 : Value → World → Prop) (ρ : Env) (w : World) (h : b36 R C35 (ρ 1) (ρ 5) (ρ 6) w) : codeP Try.prog (pan R) p20 (q24 R C35) ρ w := by
  have e : appC 0 (preC 0 p20) (dropC 1 p20) = p20 := by kernel_rfl
  rw [← e]
  exact appQ (fun ρ w => b40 R C35 (ρ 1) (ρ 5) (ρ 6) w) 0 ((b36_eq R C35 ρ w).mp h) (fun ρ w h => k37_ok R C35 ρ w h)

def l35 (R : Ending → World → Prop) (x1 x5 x6 : Value) (w : World) (_r : Tok R := tok R) : Prop :=
  ∃ (J : Value → World → Prop) (μ : Value → World → Nat), J x6 w ∧ ∀ y6 w0, J y6 w0 → b36 R (fun z6 w1 => J z6 w1 ∧ μ z6 w1 < μ y6 w0) x1 x5 y6 w0
abbrev q29 (R : Ending → World → Prop) : Exit → Env → World → Prop := QX (fun ρ w => b24 R (ρ 1) (ρ 5) w) (fun ρ w => R (.returned (ρ 2)) w) [(0, (fun ρ w => b24 R (ρ 1) (ρ 5) w))]
theorem l35_ok (R : Ending → World → Prop) (ρ : Env) (w : World) (h : l35 R (ρ 1) (ρ 5) (ρ 6) w) : codeP Try.prog (pan R) (blkC p19) (q29 R) ρ w := by
  unfold l35 at h
  obtain ⟨J, μ, h0, hr⟩ := h
  have e : Code.loop (loopC (blkC p19)) = (blkC p19) := by kernel_rfl
  rw [← e]
  refine loopQ (fun ρ' w' => J (ρ' 6) w') (fun ρ' w' => μ (ρ' 6) w') h0 fun ρ' w' hA hI => ?_
  have e1 : ρ' 1 = ρ 1 := Agree.at hA 1 (by kernel_rfl)
  have e5 : ρ' 5 = ρ 5 := Agree.at hA 5 (by kernel_rfl)
  have h1 := hr (ρ' 6) w' hI
  rw [← e1, ← e5] at h1
  exact b36_ok R (fun z6 w1 => J z6 w1 ∧ μ z6 w1 < μ (ρ' 6) w') ρ' w' h1
theorem l35_intro (R : Ending → World → Prop) (x1 x5 x6 : Value) (w : World) (J : Value → World → Prop) (μ : Value → World → Nat) (h0 : J x6 w)
    (hr : ∀ y6 w0, J y6 w0 → ∀ C35 : Value → World → Prop, (∀ z6 w1, J z6 w1 → μ z6 w1 < μ y6 w0 → C35 z6 w1) → b36 R C35 x1 x5 y6 w0) : l35 R x1 x5 x6 w := by
  unfold l35
  exact ⟨J, μ, h0, fun y6 w0 hJ => hr y6 w0 hJ _ (fun z6 w1 h1 h2 => ⟨h1, h2⟩)⟩
abbrev q30 (R : Ending → World → Prop) : Exit → Env → World → Prop := QX (fun ρ w => b24 R (ρ 1) (ρ 5) w) (fun ρ w => R (.returned (ρ 2)) w) []
theorem k34_ok (R : Ending → World → Prop) (ρ : Env) (w : World) (h : l35 R (ρ 1) (ρ 5) (ρ 6) w) : codeP Try.prog (pan R) p19 (q30 R) ρ w := by
  have e : Code.block 0 (blkC p19) = p19 := by kernel_rfl
  rw [← e]
  exact blockQ (l35_ok R ρ w h)

def b33 (R : Ending → World → Prop) (x1 x5 : Value) (w : World) (_r : Tok R := tok R) : Prop :=
  l35 R x1 x5 (Go.Value.int Go.IntKind.i64 1) w
abbrev q31 (R : Ending → World → Prop) : Exit → Env → World → Prop := QX (fun ρ w => l35 R (ρ 1) (ρ 5) (ρ 6) w) (fun ρ w => R (.returned (ρ 2)) w) []
theorem b33_eq (R : Ending → World → Prop) (ρ : Env) (w : World) : (b33 R (ρ 1) (ρ 5) w) = codeP Try.prog (pan R) (preC 0 (fstC p2)) (q31 R) ρ w := by kernel_rfl
theorem b33_ok (R : Ending → World → Prop) (ρ : Env) (w : World) (h : b33 R (ρ 1) (ρ 5) w) : codeP Try.prog (pan R) (fstC p2) (q30 R) ρ w := by
  have e : appC 0 (preC 0 (fstC p2)) (dropC 1 (fstC p2)) = (fstC p2) := by kernel_rfl
  rw [← e]
  exact appQ (fun ρ w => l35 R (ρ 1) (ρ 5) (ρ 6) w) 0 ((b33_eq R ρ w).mp h) (fun ρ w h => k34_ok R ρ w h)
theorem k4_ok (R : Ending → World → Prop) (ρ : Env) (w : World) (h : b33 R (ρ 1) (ρ 5) w) : codeP Try.prog (pan R) p2 (q1 R) ρ w := by
  have e : Code.seq (fstC p2) (sndC p2) = p2 := by kernel_rfl
  rw [← e]
  exact seqQ (fun ρ w => b24 R (ρ 1) (ρ 5) w) (b33_ok R ρ w h) (fun ρ w h => k5_ok R ρ w h)

def b3 (R : Ending → World → Prop) (x1 : Value) (w : World) (_r : Tok R := tok R) : Prop :=
  CALL Try.prog (pan R) gram_New.id #[] w fun v1 w2 =>
  b33 R x1 v1 w2
abbrev q32 (R : Ending → World → Prop) : Exit → Env → World → Prop := QX (fun ρ w => b33 R (ρ 1) (ρ 5) w) (fun ρ w => R (.returned (ρ 2)) w) []
theorem b3_eq (R : Ending → World → Prop) (ρ : Env) (w : World) : (b3 R (ρ 1) w) = codeP Try.prog (pan R) (preC 0 (sndC p1)) (q32 R) ρ w := by kernel_rfl
theorem b3_ok (R : Ending → World → Prop) (ρ : Env) (w : World) (h : b3 R (ρ 1) w) : codeP Try.prog (pan R) (sndC p1) (q1 R) ρ w := by
  have e : appC 0 (preC 0 (sndC p1)) (dropC 1 (sndC p1)) = (sndC p1) := by kernel_rfl
  rw [← e]
  exact appQ (fun ρ w => b33 R (ρ 1) (ρ 5) w) 0 ((b3_eq R ρ w).mp h) (fun ρ w h => k4_ok R ρ w h)
noncomputable abbrev p24 : Code := dropC 1 (fstC p1)

def b43 (R : Ending → World → Prop) (x1 x3 x32 : Value) (w : World) (_r : Tok R := tok R) : Prop :=
  SPL x32
  (R (.returned x3) w)
  (b3 R x1 w)
abbrev q33 (R : Ending → World → Prop) : Exit → Env → World → Prop := QX (fun ρ w => b3 R (ρ 1) w) (fun ρ w => R (.returned (ρ 2)) w) []
theorem b43_eq (R : Ending → World → Prop) (ρ : Env) (w : World) : (b43 R (ρ 1) (ρ 3) (ρ 32) w) = codeP Try.prog (pan R) p24 (q33 R) ρ w := by kernel_rfl
theorem b43_ok (R : Ending → World → Prop) (ρ : Env) (w : World) (h : b43 R (ρ 1) (ρ 3) (ρ 32) w) : codeP Try.prog (pan R) p24 (q33 R) ρ w := (b43_eq R ρ w).mp h

def b42 (R : Ending → World → Prop) (x1 x3 x4 : Value) (w : World) (_r : Tok R := tok R) : Prop :=
  RUN Try.prog (pan R) (Op.unary .not x3) w fun v1 w2 =>
  SPL v1
  (b43 R x1 x3 (Go.Value.bool Bool.true) w2)
  (RUN Try.prog (pan R) (Op.unary .not x4) w2 fun v3 w4 =>
  b43 R x1 x3 v3 w4)
abbrev q34 (R : Ending → World → Prop) : Exit → Env → World → Prop := QX (fun ρ w => b43 R (ρ 1) (ρ 3) (ρ 32) w) (fun ρ w => R (.returned (ρ 2)) w) []
theorem b42_eq (R : Ending → World → Prop) (ρ : Env) (w : World) : (b42 R (ρ 1) (ρ 3) (ρ 4) w) = codeP Try.prog (pan R) (preC 0 (fstC p1)) (q34 R) ρ w := by kernel_rfl
theorem b42_ok (R : Ending → World → Prop) (ρ : Env) (w : World) (h : b42 R (ρ 1) (ρ 3) (ρ 4) w) : codeP Try.prog (pan R) (fstC p1) (q33 R) ρ w := by
  have e : appC 0 (preC 0 (fstC p1)) (dropC 1 (fstC p1)) = (fstC p1) := by kernel_rfl
  rw [← e]
  exact appQ (fun ρ w => b43 R (ρ 1) (ρ 3) (ρ 32) w) 0 ((b42_eq R ρ w).mp h) (fun ρ w h => b43_ok R ρ w h)
theorem k2_ok (R : Ending → World → Prop) (ρ : Env) (w : World) (h : b42 R (ρ 1) (ρ 3) (ρ 4) w) : codeP Try.prog (pan R) p1 (q1 R) ρ w := by
  have e : Code.seq (fstC p1) (sndC p1) = p1 := by kernel_rfl
  rw [← e]
  exact seqQ (fun ρ w => b3 R (ρ 1) w) (b42_ok R ρ w h) (fun ρ w h => b3_ok R ρ w h)
def b1_1 (R : Ending → World → Prop) (v1 v3 : Value) (w4 : World) (_r : Tok R := tok R) : Prop :=
  RUN Try.prog (pan R) (Instr.loadAt 36 v1) w4 fun v5 w6 =>
  CALL Try.prog (pan R) ref02_Valid.id #[v5] w6 fun v7 w8 =>
  b42 R v1 v3 v7 w8

def b1 (R : Ending → World → Prop) (x0 : Value) (w : World) (_r : Tok R := tok R) : Prop :=
  RUN Try.prog (pan R) (Instr.box 36 x0) w fun v1 w2 =>
  CALL Try.prog (pan R) law02_awake.id #[] w2 fun v3 w4 =>
  b1_1 R v1 v3 w4
abbrev q35 (R : Ending → World → Prop) : Exit → Env → World → Prop := QX (fun ρ w => b42 R (ρ 1) (ρ 3) (ρ 4) w) (fun ρ w => R (.returned (ρ 2)) w) []
theorem b1_eq (R : Ending → World → Prop) (ρ : Env) (w : World) : (b1 R (ρ 0) w) = codeP Try.prog (pan R) (preC 2 code) (q35 R) ρ w := by kernel_rfl
theorem b1_ok (R : Ending → World → Prop) (ρ : Env) (w : World) (h : b1 R (ρ 0) w) : codeP Try.prog (pan R) code (q1 R) ρ w := by
  have e : appC 2 (preC 2 code) (dropC 3 code) = code := by kernel_rfl
  rw [← e]
  exact appQ (fun ρ w => b42 R (ρ 1) (ρ 3) (ρ 4) w) 2 ((b1_eq R ρ w).mp h) (fun ρ w h => k2_ok R ρ w h)
/-- What is owed for a call. -/
def run (R : Ending → World → Prop) (a0 : Value) (w : World) : Prop := b1 R a0 w
theorem calls (R : Ending → World → Prop) (a0 : Value) (w : World) (h : run R a0 w) : Calls Try.prog id #[a0] w R :=
  calls_of_t (f := id) (fn := Try.f7) (c := code) (by kernel_rfl) Try.func7 (by kernel_rfl) (by kernel_rfl) (args := [a0]) (Nat.le_of_ble_eq_true rfl) rfl (b1_ok R (envOf [a0]) w h)
theorem enters : Enters Try.prog id := fun args w => Try.call7 args w
theorem ct {a0 : Value} {w : World} {S : Value → World → Prop} (h : ∀ R : Ending → World → Prop, (∀ v w, S v w → R (.returned v) w) → run R a0 w) : Ct Try.prog id #[a0] w S :=
  Ct.intro enters fun R hR => calls R a0 w (h R hR)
attribute [irreducible] b8_1 b8_2 b8_3 b8_4 b8_5 b8 b14 b19 b18_1 b18_2 b18 b23_1 b23_2 b23 l22 b20 b16 b12 l11 b9 b6 b29 b32 b31_1 b31 b27 l26 b24 b38 b41 b40_1 b40 b36 l35 b33 b3 b43 b42 b1_1 b1 run
attribute [go_sem] b8_1 b8_2 b8_3 b8_4 b8_5 b8 b14 b19 b18_1 b18_2 b18 b23_1 b23_2 b23 b20 b16 b12 b9 b6 b29 b32 b31_1 b31 b27 b24 b38 b41 b40_1 b40 b36 b33 b3 b43 b42 b1_1 b1 run
end law02_GramAgain

/-! ### presage/presagelaw02.levels -/
namespace law02_levels
noncomputable def code : Code := bodyOf Try.f24
noncomputable abbrev p1 : Code := dropC 1 code

def b3 (R : Ending → World → Prop) (w : World) (_r : Tok R := tok R) : Prop :=
  R (.returned (Go.Value.bool Bool.true)) w
abbrev q1 (R : Ending → World → Prop) : Exit → Env → World → Prop := QX (fun ρ w => R (.returned (ρ 4)) w) (fun ρ w => R (.returned (ρ 4)) w) []
theorem b3_eq (R : Ending → World → Prop) (ρ : Env) (w : World) : (b3 R w) = codeP Try.prog (pan R) (sndC p1) (q1 R) ρ w := by kernel_rfl
theorem b3_ok (R : Ending → World → Prop) (ρ : Env) (w : World) (h : b3 R w) : codeP Try.prog (pan R) (sndC p1) (q1 R) ρ w := (b3_eq R ρ w).mp h
noncomputable abbrev p2 : Code := dropC 1 (fstC p1)
noncomputable abbrev p3 : Code := loopC (blkC p2)
noncomputable abbrev p4 : Code := dropC 1 p3
/- x5 i -/
def b9 (R : Ending → World → Prop) (C6 : Value → World → Prop) (x5 : Value) (w : World) (_r : Tok R := tok R) (_C6 : Tok C6 := tok C6) : Prop :=
  RUN Try.prog (pan R) (bins .add 3 (.tmp 15) (.const (Go.Value.int Go.IntKind.i64 1)) x5 (Go.Value.int Go.IntKind.i64 1)) w fun v1 w2 =>
  C6 v1 w2
abbrev q2 (R : Ending → World → Prop) (C6 : Value → World → Prop) : Exit → Env → World → Prop := QX (fun ρ w => C6 (ρ 5) w) (fun ρ w => R (.returned (ρ 4)) w) [(0, (fun ρ w => b3 R  w))]
theorem b9_eq (R : Ending → World → Prop) (C6 : Value → World → Prop) (ρ : Env) (w : World) : (b9 R C6 (ρ 5) w) = codeP Try.prog (pan R) (sndC p4) (q2 R C6) ρ w := by kernel_rfl
theorem b9_ok (R : Ending → World → Prop) (C6 : Value → World → Prop) (ρ : Env) (w : World) (h : b9 R C6 (ρ 5) w) : codeP Try.prog (pan R) (sndC p4) (q2 R C6) ρ w := (b9_eq R C6 ρ w).mp h
noncomputable abbrev p5 : Code := blkC (fstC p4)
noncomputable abbrev p6 : Code := dropC 1 p5
noncomputable abbrev p7 : Code := dropC 2 (sndC p6)
/- x5 i -/
def b14 (R : Ending → World → Prop) (C6 : Value → World → Prop) (x5 x55 : Value) (w : World) (_r : Tok R := tok R) (_C6 : Tok C6 := tok C6) : Prop :=
  SPL x55
  (R (.returned (Go.Value.bool Bool.false)) w)
  (b9 R C6 x5 w)
abbrev q3 (R : Ending → World → Prop) (C6 : Value → World → Prop) : Exit → Env → World → Prop := QX (fun ρ w => b9 R C6 (ρ 5) w) (fun ρ w => R (.returned (ρ 4)) w) [(2, (fun ρ w => b9 R C6 (ρ 5) w)), (0, (fun ρ w => b3 R  w))]
theorem b14_eq (R : Ending → World → Prop) (C6 : Value → World → Prop) (ρ : Env) (w : World) : (b14 R C6 (ρ 5) (ρ 55) w) = codeP Try.prog (pan R) p7 (q3 R C6) ρ w := by kernel_rfl
theorem b14_ok (R : Ending → World → Prop) (C6 : Value → World → Prop) (ρ : Env) (w : World) (h : b14 R C6 (ρ 5) (ρ 55) w) : codeP Try.prog (pan R) p7 (q3 R C6) ρ w := (b14_eq R C6 ρ w).mp h
def b13_1 (R : Ending → World → Prop) (C6 : Value → World → Prop) (x5 v9 : Value) (w10 : World) (_r : Tok R := tok R) (_C6 : Tok C6 := tok C6) : Prop :=
  RUN Try.prog (pan R) (Instr.extract v9 0) w10 fun v11 w12 =>
  RUN Try.prog (pan R) (Instr.extract v9 1) w12 fun v13 w14 =>
  RUN Try.prog (pan R) (bins .add 3 (.tmp 49) (.const (Go.Value.int Go.IntKind.i64 1)) x5 (Go.Value.int Go.IntKind.i64 1)) w14 fun v15 w16 =>
  RUN Try.prog (pan R) (bins .neq 3 (.tmp 48) (.tmp 50) v11 v15) w16 fun v17 w18 =>
  SPL v17
  (b14 R C6 x5 (Go.Value.bool Bool.true) w18)
  (RUN Try.prog (pan R) (bins .neq 22 (.tmp 53) (.const (Go.Value.int Go.IntKind.i64 0)) v13 (Go.Value.int Go.IntKind.i64 0)) w18 fun v19 w20 =>
  b14 R C6 x5 v19 w20)
/- x0 b, x3 g, x5 i, x6 l -/
def b13 (R : Ending → World → Prop) (C6 : Value → World → Prop) (x0 x3 x5 x6 : Value) (w : World) (_r : Tok R := tok R) (_C6 : Tok C6 := tok C6) : Prop :=
  RUN Try.prog (pan R) (Instr.fieldAt 36 x3 2) w fun v1 w2 =>
  RUN Try.prog (pan R) (Instr.loadAt 30 v1) w2 fun v3 w4 =>
  RUN Try.prog (pan R) (Instr.indexAt 30 v3 x5) w4 fun v5 w6 =>
  RUN Try.prog (pan R) (Instr.loadAt 3 v5) w6 fun v7 w8 =>
  CALL Try.prog (pan R) gram_Builder_Level.id #[x0, v7, x6] w8 fun v9 w10 =>
  b13_1 R C6 x5 v9 w10
abbrev q4 (R : Ending → World → Prop) (C6 : Value → World → Prop) : Exit → Env → World → Prop := QX (fun ρ w => b14 R C6 (ρ 5) (ρ 55) w) (fun ρ w => R (.returned (ρ 4)) w) [(2, (fun ρ w => b9 R C6 (ρ 5) w)), (0, (fun ρ w => b3 R  w))]
theorem b13_eq (R : Ending → World → Prop) (C6 : Value → World → Prop) (ρ : Env) (w : World) : (b13 R C6 (ρ 0) (ρ 3) (ρ 5) (ρ 6) w) = codeP Try.prog (pan R) (preC 1 (sndC p6)) (q4 R C6) ρ w := by kernel_rfl
theorem b13_ok (R : Ending → World → Prop) (C6 : Value → World → Prop) (ρ : Env) (w : World) (h : b13 R C6 (ρ 0) (ρ 3) (ρ 5) (ρ 6) w) : codeP Try.prog (pan R) (sndC p6) (q3 R C6) ρ w := by
  have e : appC 1 (preC 1 (sndC p6)) (dropC 2 (sndC p6)) = (sndC p6) := by kernel_rfl
  rw [← e]
  exact appQ (fun ρ w => b14 R C6 (ρ 5) (ρ 55) w) 1 ((b13_eq R C6 ρ w).mp h) (fun ρ w h => b14_ok R C6 ρ w h)
noncomputable abbrev p8 : Code := dropC 1 (fstC p6)
noncomputable abbrev p9 : Code := loopC (blkC p8)
noncomputable abbrev p10 : Code := dropC 2 p9
/- x6 l, x7 t -/
def b19 (R : Ending → World → Prop) (C6 : Value → World → Prop) (C17 : Value → Value → World → Prop) (x6 x7 : Value) (w : World) (_r : Tok R := tok R) (_C6 : Tok C6 := tok C6) (_C17 : Tok C17 := tok C17) : Prop :=
  RUN Try.prog (pan R) (bins .add 3 (.tmp 22) (.const (Go.Value.int Go.IntKind.i64 1)) x7 (Go.Value.int Go.IntKind.i64 1)) w fun v1 w2 =>
  C17 x6 v1 w2
abbrev q5 (R : Ending → World → Prop) (C6 : Value → World → Prop) (C17 : Value → Value → World → Prop) : Exit → Env → World → Prop := QX (fun ρ w => C17 (ρ 6) (ρ 7) w) (fun ρ w => R (.returned (ρ 4)) w) [(4, (fun ρ w => b13 R C6 (ρ 0) (ρ 3) (ρ 5) (ρ 6) w)), (2, (fun ρ w => b9 R C6 (ρ 5) w)), (0, (fun ρ w => b3 R  w))]
theorem b19_eq (R : Ending → World → Prop) (C6 : Value → World → Prop) (C17 : Value → Value → World → Prop) (ρ : Env) (w : World) : (b19 R C6 C17 (ρ 6) (ρ 7) w) = codeP Try.prog (pan R) p10 (q5 R C6 C17) ρ w := by kernel_rfl
theorem b19_ok (R : Ending → World → Prop) (C6 : Value → World → Prop) (C17 : Value → Value → World → Prop) (ρ : Env) (w : World) (h : b19 R C6 C17 (ρ 6) (ρ 7) w) : codeP Try.prog (pan R) p10 (q5 R C6 C17) ρ w := (b19_eq R C6 C17 ρ w).mp h
def b18_1 (R : Ending → World → Prop) (C6 : Value → World → Prop) (C17 : Value → Value → World → Prop) (x6 x7 : Value) (w22 : World) (_r : Tok R := tok R) (_C6 : Tok C6 := tok C6) (_C17 : Tok C17 := tok C17) : Prop :=
  RUN Try.prog (pan R) (Instr.buildSlice 30 1 #[(0, x7)]) w22 fun v23 w24 =>
  RUN Try.prog (pan R) (Builtin.append_ #[30, 30] 30 #[x6, v23]) w24 fun v25 w26 =>
  b19 R C6 C17 v25 x7 w26
def b18_2 (R : Ending → World → Prop) (C6 : Value → World → Prop) (C17 : Value → Value → World → Prop) (x3 x5 x6 x7 : Value) (w8 : World) (_r : Tok R := tok R) (_C6 : Tok C6 := tok C6) (_C17 : Tok C17 := tok C17) : Prop :=
  RUN Try.prog (pan R) (Instr.fieldAt 36 x3 0) w8 fun v9 w10 =>
  RUN Try.prog (pan R) (Instr.loadAt 32 v9) w10 fun v11 w12 =>
  RUN Try.prog (pan R) (Instr.indexAt 32 v11 x7) w12 fun v13 w14 =>
  RUN Try.prog (pan R) (Instr.fieldAt 56 v13 1) w14 fun v15 w16 =>
  RUN Try.prog (pan R) (Instr.loadAt 3 v15) w16 fun v17 w18 =>
  RUN Try.prog (pan R) (bins .add 3 (.tmp 30) (.const (Go.Value.int Go.IntKind.i64 1)) x5 (Go.Value.int Go.IntKind.i64 1)) w18 fun v19 w20 =>
  RUN Try.prog (pan R) (bins .eql 3 (.tmp 29) (.tmp 31) v17 v19) w20 fun v21 w22 =>
  SPL v21
  (b18_1 R C6 C17 x6 x7 w22)
  (b19 R C6 C17 x6 x7 w22)
/- x0 b, x3 g, x5 i, x6 l, x7 t -/
def b18 (R : Ending → World → Prop) (C6 : Value → World → Prop) (C17 : Value → Value → World → Prop) (x0 x3 x5 x6 x7 : Value) (w : World) (_r : Tok R := tok R) (_C6 : Tok C6 := tok C6) (_C17 : Tok C17 := tok C17) : Prop :=
  RUN Try.prog (pan R) (Instr.fieldAt 36 x3 0) w fun v1 w2 =>
  RUN Try.prog (pan R) (Instr.loadAt 32 v1) w2 fun v3 w4 =>
  RUN Try.prog (pan R) (Builtin.len_ #[32] 3 #[v3]) w4 fun v5 w6 =>
  RUN Try.prog (pan R) (bins .lss 3 (.tmp 17) (.tmp 20) x7 v5) w6 fun v7 w8 =>
  SPL v7
  (b18_2 R C6 C17 x3 x5 x6 x7 w8)
  (b13 R C6 x0 x3 x5 x6 w8)
abbrev q6 (R : Ending → World → Prop) (C6 : Value → World → Prop) (C17 : Value → Value → World → Prop) : Exit → Env → World → Prop := QX (fun ρ w => b19 R C6 C17 (ρ 6) (ρ 7) w) (fun ρ w => R (.returned (ρ 4)) w) [(4, (fun ρ w => b13 R C6 (ρ 0) (ρ 3) (ρ 5) (ρ 6) w)), (2, (fun ρ w => b9 R C6 (ρ 5) w)), (0, (fun ρ w => b3 R  w))]
theorem b18_eq (R : Ending → World → Prop) (C6 : Value → World → Prop) (C17 : Value → Value → World → Prop) (ρ : Env) (w : World) : (b18 R C6 C17 (ρ 0) (ρ 3) (ρ 5) (ρ 6) (ρ 7) w) = codeP Try.prog (pan R) (preC 1 p9) (q6 R C6 C17) ρ w := by kernel_rfl
theorem b18_ok (R : Ending → World → Prop) (C6 : Value → World → Prop) (C17 : Value → Value → World → Prop) (ρ : Env) (w : World) (h : b18 R C6 C17 (ρ 0) (ρ 3) (ρ 5) (ρ 6) (ρ 7) w) : codeP Try.prog (pan R) p9 (q5 R C6 C17) ρ w := by
  have e : appC 1 (preC 1 p9) (dropC 2 p9) = p9 := by kernel_rfl
  rw [← e]
  exact appQ (fun ρ w => b19 R C6 C17 (ρ 6) (ρ 7) w) 1 ((b18_eq R C6 C17 ρ w).mp h) (fun ρ w h => b19_ok R C6 C17 ρ w h)
/- x0 b, x3 g, x5 i, x6 l, x7 t -/
def l17 (R : Ending → World → Prop) (C6 : Value → World → Prop) (x0 x3 x5 x6 x7 : Value) (w : World) (_r : Tok R := tok R) (_C6 : Tok C6 := tok C6) : Prop :=
  ∃ (J : Value → Value → World → Prop) (μ : Value → Value → World → Nat), J x6 x7 w ∧ ∀ y6 y7 w0, J y6 y7 w0 → b18 R C6 (fun z6 z7 w1 => J z6 z7 w1 ∧ μ z6 z7 w1 < μ y6 y7 w0) x0 x3 x5 y6 y7 w0
abbrev q7 (R : Ending → World → Prop) (C6 : Value → World → Prop) : Exit → Env → World → Prop := QX (fun ρ w => b13 R C6 (ρ 0) (ρ 3) (ρ 5) (ρ 6) w) (fun ρ w => R (.returned (ρ 4)) w) [(4, (fun ρ w => b13 R C6 (ρ 0) (ρ 3) (ρ 5) (ρ 6) w)), (2, (fun ρ w => b9 R C6 (ρ 5) w)), (0, (fun ρ w => b3 R  w))]
theorem l17_ok (R : Ending → World → Prop) (C6 : Value → World → Prop) (ρ : Env) (w : World) (h : l17 R C6 (ρ 0) (ρ 3) (ρ 5) (ρ 6) (ρ 7) w) : codeP Try.prog (pan R) (blkC p8) (q7 R C6) ρ w := by
  unfold l17 at h
  obtain ⟨J, μ, h0, hr⟩ := h
  have e : Code.loop (loopC (blkC p8)) = (blkC p8) := by kernel_rfl
  rw [← e]
  refine loopQ (fun ρ' w' => J (ρ' 6) (ρ' 7) w') (fun ρ' w' => μ (ρ' 6) (ρ' 7) w') h0 fun ρ' w' hA hI => ?_
  have e0 : ρ' 0 = ρ 0 := Agree.at hA 0 (by kernel_rfl)
  have e3 : ρ' 3 = ρ 3 := Agree.at hA 3 (by kernel_rfl)
  have e5 : ρ' 5 = ρ 5 := Agree.at hA 5 (by kernel_rfl)
  have h1 := hr (ρ' 6) (ρ' 7) w' hI
  rw [← e0, ← e3, ← e5] at h1
  exact b18_ok R C6 (fun z6 z7 w1 => J z6 z7 w1 ∧ μ z6 z7 w1 < μ (ρ' 6) (ρ' 7) w') ρ' w' h1
theorem l17_intro (R : Ending → World → Prop) (C6 : Value → World → Prop) (x0 x3 x5 x6 x7 : Value) (w : World) (J : Value → Value → World → Prop) (μ : Value → Value → World → Nat) (h0 : J x6 x7 w)
    (hr : ∀ y6 y7 w0, J y6 y7 w0 → ∀ C17 : Value → Value → World → Prop, (∀ z6 z7 w1, J z6 z7 w1 → μ z6 z7 w1 < μ y6 y7 w0 → C17 z6 z7 w1) → b18 R C6 C17 x0 x3 x5 y6 y7 w0) : l17 R C6 x0 x3 x5 x6 x7 w := by
  unfold l17
  exact ⟨J, μ, h0, fun y6 y7 w0 hJ => hr y6 y7 w0 hJ _ (fun z6 z7 w1 h1 h2 => ⟨h1, h2⟩)⟩
abbrev q8 (R : Ending → World → Prop) (C6 : Value → World → Prop) : Exit → Env → World → Prop := QX (fun ρ w => b13 R C6 (ρ 0) (ρ 3) (ρ 5) (ρ 6) w) (fun ρ w => R (.returned (ρ 4)) w) [(2, (fun ρ w => b9 R C6 (ρ 5) w)), (0, (fun ρ w => b3 R  w))]
theorem k16_ok (R : Ending → World → Prop) (C6 : Value → World → Prop) (ρ : Env) (w : World) (h : l17 R C6 (ρ 0) (ρ 3) (ρ 5) (ρ 6) (ρ 7) w) : codeP Try.prog (pan R) p8 (q8 R C6) ρ w := by
  have e : Code.block 2 (blkC p8) = p8 := by kernel_rfl
  rw [← e]
  exact blockQ (l17_ok R C6 ρ w h)
/- x0 b, x3 g, x5 i, x6 l -/
def b15 (R : Ending → World → Prop) (C6 : Value → World → Prop) (x0 x3 x5 x6 : Value) (w : World) (_r : Tok R := tok R) (_C6 : Tok C6 := tok C6) : Prop :=
  l17 R C6 x0 x3 x5 x6 (Go.Value.int Go.IntKind.i64 1) w
abbrev q9 (R : Ending → World → Prop) (C6 : Value → World → Prop) : Exit → Env → World → Prop := QX (fun ρ w => l17 R C6 (ρ 0) (ρ 3) (ρ 5) (ρ 6) (ρ 7) w) (fun ρ w => R (.returned (ρ 4)) w) [(2, (fun ρ w => b9 R C6 (ρ 5) w)), (0, (fun ρ w => b3 R  w))]
theorem b15_eq (R : Ending → World → Prop) (C6 : Value → World → Prop) (ρ : Env) (w : World) : (b15 R C6 (ρ 0) (ρ 3) (ρ 5) (ρ 6) w) = codeP Try.prog (pan R) (preC 0 (fstC p6)) (q9 R C6) ρ w := by kernel_rfl
theorem b15_ok (R : Ending → World → Prop) (C6 : Value → World → Prop) (ρ : Env) (w : World) (h : b15 R C6 (ρ 0) (ρ 3) (ρ 5) (ρ 6) w) : codeP Try.prog (pan R) (fstC p6) (q8 R C6) ρ w := by
  have e : appC 0 (preC 0 (fstC p6)) (dropC 1 (fstC p6)) = (fstC p6) := by kernel_rfl
  rw [← e]
  exact appQ (fun ρ w => l17 R C6 (ρ 0) (ρ 3) (ρ 5) (ρ 6) (ρ 7) w) 0 ((b15_eq R C6 ρ w).mp h) (fun ρ w h => k16_ok R C6 ρ w h)
theorem k12_ok (R : Ending → World → Prop) (C6 : Value → World → Prop) (ρ : Env) (w : World) (h : b15 R C6 (ρ 0) (ρ 3) (ρ 5) (ρ 6) w) : codeP Try.prog (pan R) p6 (q3 R C6) ρ w := by
  have e : Code.seq (fstC p6) (sndC p6) = p6 := by kernel_rfl
  rw [← e]
  exact seqQ (fun ρ w => b13 R C6 (ρ 0) (ρ 3) (ρ 5) (ρ 6) w) (b15_ok R C6 ρ w h) (fun ρ w h => b13_ok R C6 ρ w h)
/- x0 b, x3 g, x5 i -/
def b11 (R : Ending → World → Prop) (C6 : Value → World → Prop) (x0 x3 x5 : Value) (w : World) (_r : Tok R := tok R) (_C6 : Tok C6 := tok C6) : Prop :=
  b15 R C6 x0 x3 x5 (Go.Value.slice Option.none 0 0) w
abbrev q10 (R : Ending → World → Prop) (C6 : Value → World → Prop) : Exit → Env → World → Prop := QX (fun ρ w => b15 R C6 (ρ 0) (ρ 3) (ρ 5) (ρ 6) w) (fun ρ w => R (.returned (ρ 4)) w) [(2, (fun ρ w => b9 R C6 (ρ 5) w)), (0, (fun ρ w => b3 R  w))]
theorem b11_eq (R : Ending → World → Prop) (C6 : Value → World → Prop) (ρ : Env) (w : World) : (b11 R C6 (ρ 0) (ρ 3) (ρ 5) w) = codeP Try.prog (pan R) (preC 0 p5) (q10 R C6) ρ w := by kernel_rfl
theorem b11_ok (R : Ending → World → Prop) (C6 : Value → World → Prop) (ρ : Env) (w : World) (h : b11 R C6 (ρ 0) (ρ 3) (ρ 5) w) : codeP Try.prog (pan R) p5 (q3 R C6) ρ w := by
  have e : appC 0 (preC 0 p5) (dropC 1 p5) = p5 := by kernel_rfl
  rw [← e]
  exact appQ (fun ρ w => b15 R C6 (ρ 0) (ρ 3) (ρ 5) (ρ 6) w) 0 ((b11_eq R C6 ρ w).mp h) (fun ρ w h => k12_ok R C6 ρ w h)
abbrev q11 (R : Ending → World → Prop) (C6 : Value → World → Prop) : Exit → Env → World → Prop := QX (fun ρ w => b9 R C6 (ρ 5) w) (fun ρ w => R (.returned (ρ 4)) w) [(0, (fun ρ w => b3 R  w))]
theorem k10_ok (R : Ending → World → Prop) (C6 : Value → World → Prop) (ρ : Env) (w : World) (h : b11 R C6 (ρ 0) (ρ 3) (ρ 5) w) : codeP Try.prog (pan R) (fstC p4) (q11 R C6) ρ w := by
  have e : Code.block 1 (blkC (fstC p4)) = (fstC p4) := by kernel_rfl
  rw [← e]
  exact blockQ (b11_ok R C6 ρ w h)
theorem k8_ok (R : Ending → World → Prop) (C6 : Value → World → Prop) (ρ : Env) (w : World) (h : b11 R C6 (ρ 0) (ρ 3) (ρ 5) w) : codeP Try.prog (pan R) p4 (q2 R C6) ρ w := by
  have e : Code.seq (fstC p4) (sndC p4) = p4 := by kernel_rfl
  rw [← e]
  exact seqQ (fun ρ w => b9 R C6 (ρ 5) w) (k10_ok R C6 ρ w h) (fun ρ w h => b9_ok R C6 ρ w h)
/- x0 b, x3 g, x5 i -/
def b7 (R : Ending → World → Prop) (C6 : Value → World → Prop) (x0 x3 x5 : Value) (w : World) (_r : Tok R := tok R) (_C6 : Tok C6 := tok C6) : Prop :=
  RUN Try.prog (pan R) (Instr.fieldAt 36 x3 2) w fun v1 w2 =>
  RUN Try.prog (pan R) (Instr.loadAt 30 v1) w2 fun v3 w4 =>
  RUN Try.prog (pan R) (Builtin.len_ #[30] 3 #[v3]) w4 fun v5 w6 =>
  RUN Try.prog (pan R) (bins .lss 3 (.tmp 10) (.tmp 13) x5 v5) w6 fun v7 w8 =>
  SPL v7
  (b11 R C6 x0 x3 x5 w8)
  (b3 R w8)
abbrev q12 (R : Ending → World → Prop) (C6 : Value → World → Prop) : Exit → Env → World → Prop := QX (fun ρ w => b11 R C6 (ρ 0) (ρ 3) (ρ 5) w) (fun ρ w => R (.returned (ρ 4)) w) [(0, (fun ρ w => b3 R  w))]
theorem b7_eq (R : Ending → World → Prop) (C6 : Value → World → Prop) (ρ : Env) (w : World) : (b7 R C6 (ρ 0) (ρ 3) (ρ 5) w) = codeP Try.prog (pan R) (preC 0 p3) (q12 R C6) ρ w := by kernel_rfl
theorem b7_ok (R : Ending → World → Prop) (C6 : Value → World → Prop) (ρ : Env) (w : World) (h : b7 R C6 (ρ 0) (ρ 3) (ρ 5) w) : codeP Try.prog (pan R) p3 (q2 R C6) ρ w := by
  have e : appC 0 (preC 0 p3) (dropC 1 p3) = p3 := by kernel_rfl
  rw [← e]
  exact appQ (fun ρ w => b11 R C6 (ρ 0) (ρ 3) (ρ 5) w) 0 ((b7_eq R C6 ρ w).mp h) (fun ρ w h => k8_ok R C6 ρ w h)
/- x0 b, x3 g, x5 i -/
def l6 (R : Ending → World → Prop) (x0 x3 x5 : Value) (w : World) (_r : Tok R := tok R) : Prop :=
  ∃ (J : Value → World → Prop) (μ : Value → World → Nat), J x5 w ∧ ∀ y5 w0, J y5 w0 → b7 R (fun z5 w1 => J z5 w1 ∧ μ z5 w1 < μ y5 w0) x0 x3 y5 w0
abbrev q13 (R : Ending → World → Prop) : Exit → Env → World → Prop := QX (fun ρ w => b3 R  w) (fun ρ w => R (.returned (ρ 4)) w) [(0, (fun ρ w => b3 R  w))]
theorem l6_ok (R : Ending → World → Prop) (ρ : Env) (w : World) (h : l6 R (ρ 0) (ρ 3) (ρ 5) w) : codeP Try.prog (pan R) (blkC p2) (q13 R) ρ w := by
  unfold l6 at h
  obtain ⟨J, μ, h0, hr⟩ := h
  have e : Code.loop (loopC (blkC p2)) = (blkC p2) := by kernel_rfl
  rw [← e]
  refine loopQ (fun ρ' w' => J (ρ' 5) w') (fun ρ' w' => μ (ρ' 5) w') h0 fun ρ' w' hA hI => ?_
  have e0 : ρ' 0 = ρ 0 := Agree.at hA 0 (by kernel_rfl)
  have e3 : ρ' 3 = ρ 3 := Agree.at hA 3 (by kernel_rfl)
  have h1 := hr (ρ' 5) w' hI
  rw [← e0, ← e3] at h1
  exact b7_ok R (fun z5 w1 => J z5 w1 ∧ μ z5 w1 < μ (ρ' 5) w') ρ' w' h1
theorem l6_intro (R : Ending → World → Prop) (x0 x3 x5 : Value) (w : World) (J : Value → World → Prop) (μ : Value → World → Nat) (h0 : J x5 w)
    (hr : ∀ y5 w0, J y5 w0 → ∀ C6 : Value → World → Prop, (∀ z5 w1, J z5 w1 → μ z5 w1 < μ y5 w0 → C6 z5 w1) → b7 R C6 x0 x3 y5 w0) : l6 R x0 x3 x5 w := by
  unfold l6
  exact ⟨J, μ, h0, fun y5 w0 hJ => hr y5 w0 hJ _ (fun z5 w1 h1 h2 => ⟨h1, h2⟩)⟩
abbrev q14 (R : Ending → World → Prop) : Exit → Env → World → Prop := QX (fun ρ w => b3 R  w) (fun ρ w => R (.returned (ρ 4)) w) []
theorem k5_ok (R : Ending → World → Prop) (ρ : Env) (w : World) (h : l6 R (ρ 0) (ρ 3) (ρ 5) w) : codeP Try.prog (pan R) p2 (q14 R) ρ w := by
  have e : Code.block 0 (blkC p2) = p2 := by kernel_rfl
  rw [← e]
  exact blockQ (l6_ok R ρ w h)
/- x0 b, x3 g -/
def b4 (R : Ending → World → Prop) (x0 x3 : Value) (w : World) (_r : Tok R := tok R) : Prop :=
  l6 R x0 x3 (Go.Value.int Go.IntKind.i64 0) w
abbrev q15 (R : Ending → World → Prop) : Exit → Env → World → Prop := QX (fun ρ w => l6 R (ρ 0) (ρ 3) (ρ 5) w) (fun ρ w => R (.returned (ρ 4)) w) []
theorem b4_eq (R : Ending → World → Prop) (ρ : Env) (w : World) : (b4 R (ρ 0) (ρ 3) w) = codeP Try.prog (pan R) (preC 0 (fstC p1)) (q15 R) ρ w := by kernel_rfl
theorem b4_ok (R : Ending → World → Prop) (ρ : Env) (w : World) (h : b4 R (ρ 0) (ρ 3) w) : codeP Try.prog (pan R) (fstC p1) (q14 R) ρ w := by
  have e : appC 0 (preC 0 (fstC p1)) (dropC 1 (fstC p1)) = (fstC p1) := by kernel_rfl
  rw [← e]
  exact appQ (fun ρ w => l6 R (ρ 0) (ρ 3) (ρ 5) w) 0 ((b4_eq R ρ w).mp h) (fun ρ w h => k5_ok R ρ w h)
theorem k2_ok (R : Ending → World → Prop) (ρ : Env) (w : World) (h : b4 R (ρ 0) (ρ 3) w) : codeP Try.prog (pan R) p1 (q1 R) ρ w := by
  have e : Code.seq (fstC p1) (sndC p1) = p1 := by kernel_rfl
  rw [← e]
  exact seqQ (fun ρ w => b3 R  w) (b4_ok R ρ w h) (fun ρ w h => b3_ok R ρ w h)
/- x0 b, x1 g -/
def b1 (R : Ending → World → Prop) (x0 x1 : Value) (w : World) (_r : Tok R := tok R) : Prop :=
  RUN Try.prog (pan R) (Instr.box 36 x1) w fun v1 w2 =>
  b4 R x0 v1 w2
abbrev q16 (R : Ending → World → Prop) : Exit → Env → World → Prop := QX (fun ρ w => b4 R (ρ 0) (ρ 3) w) (fun ρ w => R (.returned (ρ 4)) w) []
theorem b1_eq (R : Ending → World → Prop) (ρ : Env) (w : World) : (b1 R (ρ 0) (ρ 1) w) = codeP Try.prog (pan R) (preC 0 code) (q16 R) ρ w := by kernel_rfl
theorem b1_ok (R : Ending → World → Prop) (ρ : Env) (w : World) (h : b1 R (ρ 0) (ρ 1) w) : codeP Try.prog (pan R) code (q1 R) ρ w := by
  have e : appC 0 (preC 0 code) (dropC 1 code) = code := by kernel_rfl
  rw [← e]
  exact appQ (fun ρ w => b4 R (ρ 0) (ρ 3) w) 0 ((b1_eq R ρ w).mp h) (fun ρ w h => k2_ok R ρ w h)
/-- What is owed for a call. -/
def run (R : Ending → World → Prop) (a0 a1 : Value) (w : World) : Prop := b1 R a0 a1 w
theorem calls (R : Ending → World → Prop) (a0 a1 : Value) (w : World) (h : run R a0 a1 w) : Calls Try.prog id #[a0, a1] w R :=
  calls_of_t (f := id) (fn := Try.f24) (c := code) (by kernel_rfl) Try.func24 (by kernel_rfl) (by kernel_rfl) (args := [a0, a1]) (Nat.le_of_ble_eq_true rfl) rfl (b1_ok R (envOf [a0, a1]) w h)
theorem enters : Enters Try.prog id := fun args w => Try.call24 args w
theorem ct {a0 a1 : Value} {w : World} {S : Value → World → Prop} (h : ∀ R : Ending → World → Prop, (∀ v w, S v w → R (.returned v) w) → run R a0 a1 w) : Ct Try.prog id #[a0, a1] w S :=
  Ct.intro enters fun R hR => calls R a0 a1 w (h R hR)
attribute [irreducible] b3 b9 b14 b13_1 b13 b19 b18_1 b18_2 b18 l17 b15 b11 b7 l6 b4 b1 run
attribute [go_sem] b3 b9 b14 b13_1 b13 b19 b18_1 b18_2 b18 b15 b11 b7 b4 b1 run
end law02_levels

/-! ### presage/presagelaw02.handle -/
namespace law02_handle
noncomputable def code : Code := bodyOf Try.f25
def b1_1 (R : Ending → World → Prop) (x1 v1 : Value) (w10 : World) (_r : Tok R := tok R) : Prop :=
  RUN Try.prog (pan R) (Instr.fieldAt 36 v1 0) w10 fun v11 w12 =>
  RUN Try.prog (pan R) (Instr.loadAt 32 v11) w12 fun v13 w14 =>
  RUN Try.prog (pan R) (Builtin.len_ #[32] 3 #[v13]) w14 fun v15 w16 =>
  RUN Try.prog (pan R) (bins .sub 3 (.tmp 11) (.tmp 14) x1 v15) w16 fun v17 w18 =>
  RUN Try.prog (pan R) (bins .add 3 (.tmp 15) (.const (Go.Value.int Go.IntKind.i64 1)) v17 (Go.Value.int Go.IntKind.i64 1)) w18 fun v19 w20 =>
  RUN Try.prog (pan R) (Op.unary .neg v19) w20 fun v21 w22 =>
  R (.returned v21) w22
/- x0 g, x1 sym -/
def b1 (R : Ending → World → Prop) (x0 x1 : Value) (w : World) (_r : Tok R := tok R) : Prop :=
  RUN Try.prog (pan R) (Instr.box 36 x0) w fun v1 w2 =>
  RUN Try.prog (pan R) (Instr.fieldAt 36 v1 0) w2 fun v3 w4 =>
  RUN Try.prog (pan R) (Instr.loadAt 32 v3) w4 fun v5 w6 =>
  RUN Try.prog (pan R) (Builtin.len_ #[32] 3 #[v5]) w6 fun v7 w8 =>
  RUN Try.prog (pan R) (bins .lss 3 (.tmp 5) (.tmp 8) x1 v7) w8 fun v9 w10 =>
  SPL v9
  (R (.returned x1) w10)
  (b1_1 R x1 v1 w10)
abbrev q1 (R : Ending → World → Prop) : Exit → Env → World → Prop := QX (fun ρ w => R (.returned (ρ 4)) w) (fun ρ w => R (.returned (ρ 4)) w) []
theorem b1_eq (R : Ending → World → Prop) (ρ : Env) (w : World) : (b1 R (ρ 0) (ρ 1) w) = codeP Try.prog (pan R) code (q1 R) ρ w := by kernel_rfl
theorem b1_ok (R : Ending → World → Prop) (ρ : Env) (w : World) (h : b1 R (ρ 0) (ρ 1) w) : codeP Try.prog (pan R) code (q1 R) ρ w := (b1_eq R ρ w).mp h
/-- What is owed for a call. -/
def run (R : Ending → World → Prop) (a0 a1 : Value) (w : World) : Prop := b1 R a0 a1 w
theorem calls (R : Ending → World → Prop) (a0 a1 : Value) (w : World) (h : run R a0 a1 w) : Calls Try.prog id #[a0, a1] w R :=
  calls_of_t (f := id) (fn := Try.f25) (c := code) (by kernel_rfl) Try.func25 (by kernel_rfl) (by kernel_rfl) (args := [a0, a1]) (Nat.le_of_ble_eq_true rfl) rfl (b1_ok R (envOf [a0, a1]) w h)
theorem enters : Enters Try.prog id := fun args w => Try.call25 args w
theorem ct {a0 a1 : Value} {w : World} {S : Value → World → Prop} (h : ∀ R : Ending → World → Prop, (∀ v w, S v w → R (.returned v) w) → run R a0 a1 w) : Ct Try.prog id #[a0, a1] w S :=
  Ct.intro enters fun R hR => calls R a0 a1 w (h R hR)
attribute [irreducible] b1_1 b1 run
attribute [go_sem] b1_1 b1 run
end law02_handle
end Go.Proofs.Ytmhebgebfjnfjaa

