import Derived.Test.YtmhebgebfjnfjaaT02Ids
/- Shallow programs, written by a program of ours (gen.py) off the translation; each is tied to the code by the kernel. -/
set_option linter.unusedVariables false
set_option maxRecDepth 100000
namespace Go.Proofs.Ytmhebgebfjnfjaa
open Go.Px

/-! ### presage/presagelaw02.GramNames -/
namespace law02_GramNames
noncomputable def code : Code := bodyOf Try.f3
noncomputable abbrev p1 : Code := dropC 6 code
noncomputable abbrev p2 : Code := dropC 1 p1
def b3_1 (R : Ending → World → Prop) (x6 x7 x8 : Value) (w8 : World) (_r : Tok R := tok R) : Prop :=
  CALL Try.prog (pan R) law02_num.id #[x6] w8 fun v9 w10 =>
  RUN Try.prog (pan R) (bins .eql 3 (.tmp 86) (.const (Go.Value.int Go.IntKind.i64 1)) v9 (Go.Value.int Go.IntKind.i64 1)) w10 fun v11 w12 =>
  SPL v11
  (SPL x7
  (SPL x8
  (R (.returned (Go.Value.bool Bool.true)) w12)
  (R (.returned (Go.Value.bool Bool.false)) w12))
  (R (.returned (Go.Value.bool Bool.false)) w12))
  (R (.returned (Go.Value.bool Bool.false)) w12)
def b3_2 (R : Ending → World → Prop) (x3 x6 x7 x8 : Value) (w4 : World) (_r : Tok R := tok R) : Prop :=
  CALL Try.prog (pan R) law02_num.id #[x3] w4 fun v5 w6 =>
  RUN Try.prog (pan R) (bins .eql 3 (.tmp 81) (.const (Go.Value.int Go.IntKind.i64 1)) v5 (Go.Value.int Go.IntKind.i64 1)) w6 fun v7 w8 =>
  SPL v7
  (b3_1 R x6 x7 x8 w8)
  (R (.returned (Go.Value.bool Bool.false)) w8)

def b3 (R : Ending → World → Prop) (x2 x3 x6 x7 x8 : Value) (w : World) (_r : Tok R := tok R) : Prop :=
  CALL Try.prog (pan R) law02_num.id #[x2] w fun v1 w2 =>
  RUN Try.prog (pan R) (bins .eql 3 (.tmp 77) (.const (Go.Value.int Go.IntKind.i64 1)) v1 (Go.Value.int Go.IntKind.i64 1)) w2 fun v3 w4 =>
  SPL v3
  (b3_2 R x3 x6 x7 x8 w4)
  (R (.returned (Go.Value.bool Bool.false)) w4)
abbrev q1 (R : Ending → World → Prop) : Exit → Env → World → Prop := QX (fun ρ w => R (.returned (ρ 0)) w) (fun ρ w => R (.returned (ρ 0)) w) []
theorem b3_eq (R : Ending → World → Prop) (ρ : Env) (w : World) : (b3 R (ρ 2) (ρ 3) (ρ 6) (ρ 7) (ρ 8) w) = codeP Try.prog (pan R) p2 (q1 R) ρ w := by kernel_rfl
theorem b3_ok (R : Ending → World → Prop) (ρ : Env) (w : World) (h : b3 R (ρ 2) (ρ 3) (ρ 6) (ρ 7) (ρ 8) w) : codeP Try.prog (pan R) p2 (q1 R) ρ w := (b3_eq R ρ w).mp h
def b2_1 (R : Ending → World → Prop) (x2 x3 x6 x7 : Value) (w20 : World) (_r : Tok R := tok R) : Prop :=
  CALL Try.prog (pan R) law02_num.id #[(Go.Value.int Go.IntKind.i64 22)] w20 fun v21 w22 =>
  RUN Try.prog (pan R) (bins .eql 3 (.tmp 73) (.const (Go.Value.int Go.IntKind.i64 22)) v21 (Go.Value.int Go.IntKind.i64 22)) w22 fun v23 w24 =>
  b3 R x2 x3 x6 x7 v23 w24
def b2_2 (R : Ending → World → Prop) (x2 x3 x6 x7 : Value) (w16 : World) (_r : Tok R := tok R) : Prop :=
  CALL Try.prog (pan R) law02_num.id #[(Go.Value.int Go.IntKind.i64 21)] w16 fun v17 w18 =>
  RUN Try.prog (pan R) (bins .eql 3 (.tmp 69) (.const (Go.Value.int Go.IntKind.i64 21)) v17 (Go.Value.int Go.IntKind.i64 21)) w18 fun v19 w20 =>
  SPL v19
  (b2_1 R x2 x3 x6 x7 w20)
  (b3 R x2 x3 x6 x7 (Go.Value.bool Bool.false) w20)
def b2_3 (R : Ending → World → Prop) (x2 x3 x6 x7 : Value) (w12 : World) (_r : Tok R := tok R) : Prop :=
  CALL Try.prog (pan R) law02_num.id #[(Go.Value.int Go.IntKind.i64 20)] w12 fun v13 w14 =>
  RUN Try.prog (pan R) (bins .eql 3 (.tmp 65) (.const (Go.Value.int Go.IntKind.i64 20)) v13 (Go.Value.int Go.IntKind.i64 20)) w14 fun v15 w16 =>
  SPL v15
  (b2_2 R x2 x3 x6 x7 w16)
  (b3 R x2 x3 x6 x7 (Go.Value.bool Bool.false) w16)
def b2_4 (R : Ending → World → Prop) (x2 x3 x6 x7 : Value) (w8 : World) (_r : Tok R := tok R) : Prop :=
  CALL Try.prog (pan R) law02_num.id #[(Go.Value.int Go.IntKind.i64 18)] w8 fun v9 w10 =>
  RUN Try.prog (pan R) (bins .eql 3 (.tmp 61) (.const (Go.Value.int Go.IntKind.i64 18)) v9 (Go.Value.int Go.IntKind.i64 18)) w10 fun v11 w12 =>
  SPL v11
  (b2_3 R x2 x3 x6 x7 w12)
  (b3 R x2 x3 x6 x7 (Go.Value.bool Bool.false) w12)
def b2_5 (R : Ending → World → Prop) (x2 x3 x6 x7 : Value) (w4 : World) (_r : Tok R := tok R) : Prop :=
  CALL Try.prog (pan R) law02_num.id #[(Go.Value.int Go.IntKind.i64 17)] w4 fun v5 w6 =>
  RUN Try.prog (pan R) (bins .eql 3 (.tmp 57) (.const (Go.Value.int Go.IntKind.i64 17)) v5 (Go.Value.int Go.IntKind.i64 17)) w6 fun v7 w8 =>
  SPL v7
  (b2_4 R x2 x3 x6 x7 w8)
  (b3 R x2 x3 x6 x7 (Go.Value.bool Bool.false) w8)

def b2 (R : Ending → World → Prop) (x2 x3 x6 x7 : Value) (w : World) (_r : Tok R := tok R) : Prop :=
  CALL Try.prog (pan R) law02_num.id #[(Go.Value.int Go.IntKind.i64 16)] w fun v1 w2 =>
  RUN Try.prog (pan R) (bins .eql 3 (.tmp 54) (.const (Go.Value.int Go.IntKind.i64 16)) v1 (Go.Value.int Go.IntKind.i64 16)) w2 fun v3 w4 =>
  SPL v3
  (b2_5 R x2 x3 x6 x7 w4)
  (b3 R x2 x3 x6 x7 (Go.Value.bool Bool.false) w4)
abbrev q2 (R : Ending → World → Prop) : Exit → Env → World → Prop := QX (fun ρ w => b3 R (ρ 2) (ρ 3) (ρ 6) (ρ 7) (ρ 8) w) (fun ρ w => R (.returned (ρ 0)) w) []
theorem b2_eq (R : Ending → World → Prop) (ρ : Env) (w : World) : (b2 R (ρ 2) (ρ 3) (ρ 6) (ρ 7) w) = codeP Try.prog (pan R) (preC 0 p1) (q2 R) ρ w := by kernel_rfl
theorem b2_ok (R : Ending → World → Prop) (ρ : Env) (w : World) (h : b2 R (ρ 2) (ρ 3) (ρ 6) (ρ 7) w) : codeP Try.prog (pan R) p1 (q1 R) ρ w := by
  have e : appC 0 (preC 0 p1) (dropC 1 p1) = p1 := by kernel_rfl
  rw [← e]
  exact appQ (fun ρ w => b3 R (ρ 2) (ρ 3) (ρ 6) (ρ 7) (ρ 8) w) 0 ((b2_eq R ρ w).mp h) (fun ρ w h => b3_ok R ρ w h)
def b1_1 (R : Ending → World → Prop) (v7 v11 v17 : Value) (w46 : World) (_r : Tok R := tok R) : Prop :=
  CALL Try.prog (pan R) law02_num.id #[(Go.Value.int Go.IntKind.i64 15)] w46 fun v47 w48 =>
  RUN Try.prog (pan R) (bins .eql 3 (.tmp 51) (.const (Go.Value.int Go.IntKind.i64 15)) v47 (Go.Value.int Go.IntKind.i64 15)) w48 fun v49 w50 =>
  b2 R v7 v11 v17 v49 w50
def b1_2 (R : Ending → World → Prop) (v7 v11 v17 : Value) (w42 : World) (_r : Tok R := tok R) : Prop :=
  CALL Try.prog (pan R) law02_num.id #[(Go.Value.int Go.IntKind.i64 14)] w42 fun v43 w44 =>
  RUN Try.prog (pan R) (bins .eql 3 (.tmp 47) (.const (Go.Value.int Go.IntKind.i64 14)) v43 (Go.Value.int Go.IntKind.i64 14)) w44 fun v45 w46 =>
  SPL v45
  (b1_1 R v7 v11 v17 w46)
  (b2 R v7 v11 v17 (Go.Value.bool Bool.false) w46)
def b1_3 (R : Ending → World → Prop) (v7 v11 v17 : Value) (w38 : World) (_r : Tok R := tok R) : Prop :=
  CALL Try.prog (pan R) law02_num.id #[(Go.Value.int Go.IntKind.i64 13)] w38 fun v39 w40 =>
  RUN Try.prog (pan R) (bins .eql 3 (.tmp 43) (.const (Go.Value.int Go.IntKind.i64 13)) v39 (Go.Value.int Go.IntKind.i64 13)) w40 fun v41 w42 =>
  SPL v41
  (b1_2 R v7 v11 v17 w42)
  (b2 R v7 v11 v17 (Go.Value.bool Bool.false) w42)
def b1_4 (R : Ending → World → Prop) (v7 v11 v17 : Value) (w34 : World) (_r : Tok R := tok R) : Prop :=
  CALL Try.prog (pan R) law02_num.id #[(Go.Value.int Go.IntKind.i64 12)] w34 fun v35 w36 =>
  RUN Try.prog (pan R) (bins .eql 3 (.tmp 39) (.const (Go.Value.int Go.IntKind.i64 12)) v35 (Go.Value.int Go.IntKind.i64 12)) w36 fun v37 w38 =>
  SPL v37
  (b1_3 R v7 v11 v17 w38)
  (b2 R v7 v11 v17 (Go.Value.bool Bool.false) w38)
def b1_5 (R : Ending → World → Prop) (v7 v11 v17 : Value) (w30 : World) (_r : Tok R := tok R) : Prop :=
  CALL Try.prog (pan R) law02_num.id #[(Go.Value.int Go.IntKind.i64 11)] w30 fun v31 w32 =>
  RUN Try.prog (pan R) (bins .eql 3 (.tmp 35) (.const (Go.Value.int Go.IntKind.i64 11)) v31 (Go.Value.int Go.IntKind.i64 11)) w32 fun v33 w34 =>
  SPL v33
  (b1_4 R v7 v11 v17 w34)
  (b2 R v7 v11 v17 (Go.Value.bool Bool.false) w34)
def b1_6 (R : Ending → World → Prop) (v7 v11 v17 : Value) (w26 : World) (_r : Tok R := tok R) : Prop :=
  CALL Try.prog (pan R) law02_num.id #[(Go.Value.int Go.IntKind.i64 10)] w26 fun v27 w28 =>
  RUN Try.prog (pan R) (bins .eql 3 (.tmp 31) (.const (Go.Value.int Go.IntKind.i64 10)) v27 (Go.Value.int Go.IntKind.i64 10)) w28 fun v29 w30 =>
  SPL v29
  (b1_5 R v7 v11 v17 w30)
  (b2 R v7 v11 v17 (Go.Value.bool Bool.false) w30)
def b1_7 (R : Ending → World → Prop) (v7 v11 v17 : Value) (w22 : World) (_r : Tok R := tok R) : Prop :=
  CALL Try.prog (pan R) law02_num.id #[(Go.Value.int Go.IntKind.i64 1)] w22 fun v23 w24 =>
  RUN Try.prog (pan R) (bins .eql 3 (.tmp 27) (.const (Go.Value.int Go.IntKind.i64 1)) v23 (Go.Value.int Go.IntKind.i64 1)) w24 fun v25 w26 =>
  SPL v25
  (b1_6 R v7 v11 v17 w26)
  (b2 R v7 v11 v17 (Go.Value.bool Bool.false) w26)
def b1_8 (R : Ending → World → Prop) (v7 v11 v13 : Value) (w14 : World) (_r : Tok R := tok R) : Prop :=
  RUN Try.prog (pan R) (Instr.extract v13 0) w14 fun v15 w16 =>
  RUN Try.prog (pan R) (Instr.extract v13 1) w16 fun v17 w18 =>
  CALL Try.prog (pan R) law02_num.id #[(Go.Value.int Go.IntKind.i64 0)] w18 fun v19 w20 =>
  RUN Try.prog (pan R) (bins .eql 3 (.tmp 24) (.const (Go.Value.int Go.IntKind.i64 0)) v19 (Go.Value.int Go.IntKind.i64 0)) w20 fun v21 w22 =>
  SPL v21
  (b1_7 R v7 v11 v17 w22)
  (b2 R v7 v11 v17 (Go.Value.bool Bool.false) w22)
def b1_9 (R : Ending → World → Prop) (v7 v9 : Value) (w10 : World) (_r : Tok R := tok R) : Prop :=
  CALL Try.prog (pan R) gram_Builder_Start.id #[v9, (Go.Value.int Go.IntKind.i64 (-1))] w10 fun v11 w12 =>
  CALL Try.prog (pan R) gram_Builder_Non.id #[(Go.Value.pointer Option.none), (Go.Value.string { data := #[120] })] w12 fun v13 w14 =>
  b1_8 R v7 v11 v13 w14
def b1_10 (R : Ending → World → Prop) (v3 : Value) (w4 : World) (_r : Tok R := tok R) : Prop :=
  RUN Try.prog (pan R) (Instr.extract v3 0) w4 fun v5 w6 =>
  RUN Try.prog (pan R) (Instr.extract v3 1) w6 fun v7 w8 =>
  CALL Try.prog (pan R) gram_New.id #[] w8 fun v9 w10 =>
  b1_9 R v7 v9 w10

def b1 (R : Ending → World → Prop) (w : World) (_r : Tok R := tok R) : Prop :=
  CALL Try.prog (pan R) gram_New.id #[] w fun v1 w2 =>
  CALL Try.prog (pan R) gram_Builder_Term.id #[v1, (Go.Value.string { data := #[] })] w2 fun v3 w4 =>
  b1_10 R v3 w4
abbrev q3 (R : Ending → World → Prop) : Exit → Env → World → Prop := QX (fun ρ w => b2 R (ρ 2) (ρ 3) (ρ 6) (ρ 7) w) (fun ρ w => R (.returned (ρ 0)) w) []
theorem b1_eq (R : Ending → World → Prop) (ρ : Env) (w : World) : (b1 R w) = codeP Try.prog (pan R) (preC 5 code) (q3 R) ρ w := by kernel_rfl
theorem b1_ok (R : Ending → World → Prop) (ρ : Env) (w : World) (h : b1 R w) : codeP Try.prog (pan R) code (q1 R) ρ w := by
  have e : appC 5 (preC 5 code) (dropC 6 code) = code := by kernel_rfl
  rw [← e]
  exact appQ (fun ρ w => b2 R (ρ 2) (ρ 3) (ρ 6) (ρ 7) w) 5 ((b1_eq R ρ w).mp h) (fun ρ w h => b2_ok R ρ w h)
/-- What is owed for a call. -/
def run (R : Ending → World → Prop) (w : World) : Prop := b1 R w
theorem calls (R : Ending → World → Prop) (w : World) (h : run R w) : Calls Try.prog id #[] w R :=
  calls_of_t (f := id) (fn := Try.f3) (c := code) (by kernel_rfl) Try.func3 (by kernel_rfl) (by kernel_rfl) (args := []) (Nat.le_of_ble_eq_true rfl) rfl (b1_ok R (envOf []) w h)
theorem enters : Enters Try.prog id := fun args w => Try.call3 args w
theorem ct {w : World} {S : Value → World → Prop} (h : ∀ R : Ending → World → Prop, (∀ v w, S v w → R (.returned v) w) → run R w) : Ct Try.prog id #[] w S :=
  Ct.intro enters fun R hR => calls R w (h R hR)
attribute [irreducible] b3_1 b3_2 b3 b2_1 b2_2 b2_3 b2_4 b2_5 b2 b1_1 b1_2 b1_3 b1_4 b1_5 b1_6 b1_7 b1_8 b1_9 b1_10 b1 run
attribute [go_sem] b3_1 b3_2 b3 b2_1 b2_2 b2_3 b2_4 b2_5 b2 b1_1 b1_2 b1_3 b1_4 b1_5 b1_6 b1_7 b1_8 b1_9 b1_10 b1 run
end law02_GramNames

/-! ### presage/presagelaw02.GramNil -/
namespace law02_GramNil
noncomputable def code : Code := bodyOf Try.f4
def b1_1 (R : Ending → World → Prop) (v38 v40 : Value) (w59 : World) (_r : Tok R := tok R) : Prop :=
  RUN Try.prog (pan R) (bins .eql 3 (.tmp 77) (.const (Go.Value.int Go.IntKind.i64 1)) v38 (Go.Value.int Go.IntKind.i64 1)) w59 fun v60 w61 =>
  SPL v60
  (RUN Try.prog (pan R) (bins .eql 22 (.tmp 81) (.const (Go.Value.int Go.IntKind.i64 0)) v40 (Go.Value.int Go.IntKind.i64 0)) w61 fun v62 w63 =>
  R (.returned v62) w63)
  (R (.returned (Go.Value.bool Bool.false)) w61)
def b1_2 (R : Ending → World → Prop) (v24 v26 v28 v30 v38 v40 : Value) (w51 : World) (_r : Tok R := tok R) : Prop :=
  RUN Try.prog (pan R) (bins .add 3 (.tmp 67) (.tmp 68) v24 v26) w51 fun v52 w53 =>
  RUN Try.prog (pan R) (bins .add 3 (.tmp 69) (.tmp 70) v52 v28) w53 fun v54 w55 =>
  RUN Try.prog (pan R) (bins .add 3 (.tmp 71) (.tmp 72) v54 v30) w55 fun v56 w57 =>
  RUN Try.prog (pan R) (bins .eql 3 (.tmp 73) (.const (Go.Value.int Go.IntKind.i64 0)) v56 (Go.Value.int Go.IntKind.i64 0)) w57 fun v58 w59 =>
  SPL v58
  (b1_1 R v38 v40 w59)
  (R (.returned (Go.Value.bool Bool.false)) w59)
def b1_3 (R : Ending → World → Prop) (x1 v24 v26 v28 v30 v38 v40 : Value) (w47 : World) (_r : Tok R := tok R) : Prop :=
  CALL Try.prog (pan R) gram_Builder_Grade.id #[(Go.Value.pointer Option.none), (Go.Value.int Go.IntKind.i64 0), x1] w47 fun v48 w49 =>
  RUN Try.prog (pan R) (bins .eql 22 (.tmp 63) (.const (Go.Value.int Go.IntKind.i64 1)) v48 (Go.Value.int Go.IntKind.i64 1)) w49 fun v50 w51 =>
  SPL v50
  (b1_2 R v24 v26 v28 v30 v38 v40 w51)
  (R (.returned (Go.Value.bool Bool.false)) w51)
def b1_4 (R : Ending → World → Prop) (x1 v11 v17 v24 v26 v28 v30 v38 v40 : Value) (w43 : World) (_r : Tok R := tok R) : Prop :=
  RUN Try.prog (pan R) (bins .eql 22 (.tmp 53) (.const (Go.Value.int Go.IntKind.i64 1)) v11 (Go.Value.int Go.IntKind.i64 1)) w43 fun v44 w45 =>
  SPL v44
  (RUN Try.prog (pan R) (bins .eql 22 (.tmp 57) (.const (Go.Value.int Go.IntKind.i64 1)) v17 (Go.Value.int Go.IntKind.i64 1)) w45 fun v46 w47 =>
  SPL v46
  (b1_3 R x1 v24 v26 v28 v30 v38 v40 w47)
  (R (.returned (Go.Value.bool Bool.false)) w47))
  (R (.returned (Go.Value.bool Bool.false)) w45)
def b1_5 (R : Ending → World → Prop) (x1 v5 v11 v17 v24 v26 v28 v30 v36 : Value) (w37 : World) (_r : Tok R := tok R) : Prop :=
  RUN Try.prog (pan R) (Instr.extract v36 0) w37 fun v38 w39 =>
  RUN Try.prog (pan R) (Instr.extract v36 1) w39 fun v40 w41 =>
  RUN Try.prog (pan R) (bins .eql 22 (.tmp 50) (.const (Go.Value.int Go.IntKind.i64 1)) v5 (Go.Value.int Go.IntKind.i64 1)) w41 fun v42 w43 =>
  SPL v42
  (b1_4 R x1 v11 v17 v24 v26 v28 v30 v38 v40 w43)
  (R (.returned (Go.Value.bool Bool.false)) w43)
def b1_6 (R : Ending → World → Prop) (x1 v5 v11 v17 v22 : Value) (w23 : World) (_r : Tok R := tok R) : Prop :=
  RUN Try.prog (pan R) (Instr.extract v22 0) w23 fun v24 w25 =>
  RUN Try.prog (pan R) (Instr.extract v22 1) w25 fun v26 w27 =>
  RUN Try.prog (pan R) (Instr.extract v22 2) w27 fun v28 w29 =>
  RUN Try.prog (pan R) (Instr.extract v22 3) w29 fun v30 w31 =>
  RUN Try.prog (pan R) (Instr.build 48 #[]) w31 fun v32 w33 =>
  RUN Try.prog (pan R) (Instr.box 48 v32) w33 fun v34 w35 =>
  CALL Try.prog (pan R) gram_Builder_Term.id #[v34, (Go.Value.string { data := #[120] })] w35 fun v36 w37 =>
  b1_5 R x1 v5 v11 v17 v24 v26 v28 v30 v36 w37
def b1_7 (R : Ending → World → Prop) (x1 v5 v11 v13 : Value) (w14 : World) (_r : Tok R := tok R) : Prop :=
  RUN Try.prog (pan R) (Instr.extract v13 0) w14 fun v15 w16 =>
  RUN Try.prog (pan R) (Instr.extract v13 1) w16 fun v17 w18 =>
  RUN Try.prog (pan R) (Instr.alloc 36 true (.tuple #[])) w18 fun v19 w20 =>
  RUNU Try.prog (pan R) (Instr.storeAt 36 v19 v15) w20 fun w21 =>
  CALL Try.prog (pan R) gram_Builder_Sizes.id #[(Go.Value.pointer Option.none)] w21 fun v22 w23 =>
  b1_6 R x1 v5 v11 v17 v22 w23
def b1_8 (R : Ending → World → Prop) (x1 v5 v7 : Value) (w8 : World) (_r : Tok R := tok R) : Prop :=
  RUN Try.prog (pan R) (Instr.extract v7 0) w8 fun v9 w10 =>
  RUN Try.prog (pan R) (Instr.extract v7 1) w10 fun v11 w12 =>
  CALL Try.prog (pan R) gram_Builder_Grammar.id #[(Go.Value.pointer Option.none)] w12 fun v13 w14 =>
  b1_7 R x1 v5 v11 v13 w14
def b1_9 (R : Ending → World → Prop) (x1 v1 : Value) (w2 : World) (_r : Tok R := tok R) : Prop :=
  RUN Try.prog (pan R) (Instr.extract v1 0) w2 fun v3 w4 =>
  RUN Try.prog (pan R) (Instr.extract v1 1) w4 fun v5 w6 =>
  CALL Try.prog (pan R) gram_Builder_Rule.id #[(Go.Value.pointer Option.none), (Go.Value.int Go.IntKind.i64 (-1)), x1] w6 fun v7 w8 =>
  b1_8 R x1 v5 v7 w8

def b1 (R : Ending → World → Prop) (x0 x1 : Value) (w : World) (_r : Tok R := tok R) : Prop :=
  CALL Try.prog (pan R) gram_Builder_Term.id #[(Go.Value.pointer Option.none), x0] w fun v1 w2 =>
  b1_9 R x1 v1 w2
abbrev q1 (R : Ending → World → Prop) : Exit → Env → World → Prop := QX (fun ρ w => R (.returned (ρ 4)) w) (fun ρ w => R (.returned (ρ 4)) w) []
theorem b1_eq (R : Ending → World → Prop) (ρ : Env) (w : World) : (b1 R (ρ 0) (ρ 1) w) = codeP Try.prog (pan R) code (q1 R) ρ w := by kernel_rfl
theorem b1_ok (R : Ending → World → Prop) (ρ : Env) (w : World) (h : b1 R (ρ 0) (ρ 1) w) : codeP Try.prog (pan R) code (q1 R) ρ w := (b1_eq R ρ w).mp h
/-- What is owed for a call. -/
def run (R : Ending → World → Prop) (a0 a1 : Value) (w : World) : Prop := b1 R a0 a1 w
theorem calls (R : Ending → World → Prop) (a0 a1 : Value) (w : World) (h : run R a0 a1 w) : Calls Try.prog id #[a0, a1] w R :=
  calls_of_t (f := id) (fn := Try.f4) (c := code) (by kernel_rfl) Try.func4 (by kernel_rfl) (by kernel_rfl) (args := [a0, a1]) (Nat.le_of_ble_eq_true rfl) rfl (b1_ok R (envOf [a0, a1]) w h)
theorem enters : Enters Try.prog id := fun args w => Try.call4 args w
theorem ct {a0 a1 : Value} {w : World} {S : Value → World → Prop} (h : ∀ R : Ending → World → Prop, (∀ v w, S v w → R (.returned v) w) → run R a0 a1 w) : Ct Try.prog id #[a0, a1] w S :=
  Ct.intro enters fun R hR => calls R a0 a1 w (h R hR)
attribute [irreducible] b1_1 b1_2 b1_3 b1_4 b1_5 b1_6 b1_7 b1_8 b1_9 b1 run
attribute [go_sem] b1_1 b1_2 b1_3 b1_4 b1_5 b1_6 b1_7 b1_8 b1_9 b1 run
end law02_GramNil

/-! ### presage/presagelaw02.GramFull -/
namespace law02_GramFull
noncomputable def code : Code := bodyOf Try.f5
noncomputable abbrev p1 : Code := dropC 4 code
noncomputable abbrev p2 : Code := dropC 1 p1
noncomputable abbrev p3 : Code := dropC 5 (sndC p2)
noncomputable abbrev p4 : Code := dropC 3 (sndC p3)
def b7_1 (R : Ending → World → Prop) (x19 x25 x26 : Value) (w6 : World) (_r : Tok R := tok R) : Prop :=
  RUN Try.prog (pan R) (bins .eql 22 (.tmp 143) (.const (Go.Value.int Go.IntKind.i64 0)) x19 (Go.Value.int Go.IntKind.i64 0)) w6 fun v7 w8 =>
  SPL v7
  (RUN Try.prog (pan R) (bins .eql 22 (.tmp 147) (.tmp 148) x25 x26) w8 fun v9 w10 =>
  R (.returned v9) w10)
  (R (.returned (Go.Value.bool Bool.false)) w8)
def b7_2 (R : Ending → World → Prop) (x17 x18 x19 x25 x26 : Value) (w2 : World) (_r : Tok R := tok R) : Prop :=
  RUN Try.prog (pan R) (bins .eql 22 (.tmp 135) (.const (Go.Value.int Go.IntKind.i64 11)) x17 (Go.Value.int Go.IntKind.i64 11)) w2 fun v3 w4 =>
  SPL v3
  (RUN Try.prog (pan R) (bins .eql 3 (.tmp 139) (.const (Go.Value.int Go.IntKind.i64 (-1))) x18 (Go.Value.int Go.IntKind.i64 (-1))) w4 fun v5 w6 =>
  SPL v5
  (b7_1 R x19 x25 x26 w6)
  (R (.returned (Go.Value.bool Bool.false)) w6))
  (R (.returned (Go.Value.bool Bool.false)) w4)

def b7 (R : Ending → World → Prop) (x5 x15 x17 x18 x19 x25 x26 : Value) (w : World) (_r : Tok R := tok R) : Prop :=
  SPL x5
  (RUN Try.prog (pan R) (bins .eql 22 (.tmp 131) (.const (Go.Value.int Go.IntKind.i64 11)) x15 (Go.Value.int Go.IntKind.i64 11)) w fun v1 w2 =>
  SPL v1
  (b7_2 R x17 x18 x19 x25 x26 w2)
  (R (.returned (Go.Value.bool Bool.false)) w2))
  (R (.returned (Go.Value.bool Bool.false)) w)
abbrev q1 (R : Ending → World → Prop) : Exit → Env → World → Prop := QX (fun ρ w => R (.returned (ρ 4)) w) (fun ρ w => R (.returned (ρ 4)) w) []
theorem b7_eq (R : Ending → World → Prop) (ρ : Env) (w : World) : (b7 R (ρ 5) (ρ 15) (ρ 17) (ρ 18) (ρ 19) (ρ 25) (ρ 26) w) = codeP Try.prog (pan R) p4 (q1 R) ρ w := by kernel_rfl
theorem b7_ok (R : Ending → World → Prop) (ρ : Env) (w : World) (h : b7 R (ρ 5) (ρ 15) (ρ 17) (ρ 18) (ρ 19) (ρ 25) (ρ 26) w) : codeP Try.prog (pan R) p4 (q1 R) ρ w := (b7_eq R ρ w).mp h
def b6_1 (R : Ending → World → Prop) (x5 x15 x17 x18 x19 x20 v1 : Value) (w2 : World) (_r : Tok R := tok R) : Prop :=
  RUN Try.prog (pan R) (Instr.extract v1 0) w2 fun v3 w4 =>
  RUN Try.prog (pan R) (Instr.extract v1 1) w4 fun v5 w6 =>
  RUN Try.prog (pan R) (bins .eql 3 (.tmp 127) (.const (Go.Value.int Go.IntKind.i64 95)) x20 (Go.Value.int Go.IntKind.i64 95)) w6 fun v7 w8 =>
  SPL v7
  (b7 R x5 x15 x17 x18 x19 v5 (Go.Value.int Go.IntKind.i64 0) w8)
  (b7 R x5 x15 x17 x18 x19 v5 (Go.Value.int Go.IntKind.i64 11) w8)

def b6 (R : Ending → World → Prop) (x5 x7 x15 x17 x18 x19 x20 : Value) (w : World) (_r : Tok R := tok R) : Prop :=
  CALL Try.prog (pan R) gram_Builder_Rule.id #[x7, (Go.Value.int Go.IntKind.i64 (-1)), (Go.Value.slice Option.none 0 0)] w fun v1 w2 =>
  b6_1 R x5 x15 x17 x18 x19 x20 v1 w2
abbrev q2 (R : Ending → World → Prop) : Exit → Env → World → Prop := QX (fun ρ w => b7 R (ρ 5) (ρ 15) (ρ 17) (ρ 18) (ρ 19) (ρ 25) (ρ 26) w) (fun ρ w => R (.returned (ρ 4)) w) []
theorem b6_eq (R : Ending → World → Prop) (ρ : Env) (w : World) : (b6 R (ρ 5) (ρ 7) (ρ 15) (ρ 17) (ρ 18) (ρ 19) (ρ 20) w) = codeP Try.prog (pan R) (preC 2 (sndC p3)) (q2 R) ρ w := by kernel_rfl
theorem b6_ok (R : Ending → World → Prop) (ρ : Env) (w : World) (h : b6 R (ρ 5) (ρ 7) (ρ 15) (ρ 17) (ρ 18) (ρ 19) (ρ 20) w) : codeP Try.prog (pan R) (sndC p3) (q1 R) ρ w := by
  have e : appC 2 (preC 2 (sndC p3)) (dropC 3 (sndC p3)) = (sndC p3) := by kernel_rfl
  rw [← e]
  exact appQ (fun ρ w => b7 R (ρ 5) (ρ 15) (ρ 17) (ρ 18) (ρ 19) (ρ 25) (ρ 26) w) 2 ((b6_eq R ρ w).mp h) (fun ρ w h => b7_ok R ρ w h)
noncomputable abbrev p5 : Code := dropC 1 (fstC p3)
noncomputable abbrev p6 : Code := loopC (blkC p5)
noncomputable abbrev p7 : Code := dropC 1 p6

def b13 (R : Ending → World → Prop) (C10 : Value → World → Prop) (x21 : Value) (w : World) (_r : Tok R := tok R) (_C10 : Tok C10 := tok C10) : Prop :=
  RUN Try.prog (pan R) (bins .add 3 (.tmp 103) (.const (Go.Value.int Go.IntKind.i64 1)) x21 (Go.Value.int Go.IntKind.i64 1)) w fun v1 w2 =>
  C10 v1 w2
abbrev q3 (R : Ending → World → Prop) (C10 : Value → World → Prop) : Exit → Env → World → Prop := QX (fun ρ w => C10 (ρ 21) w) (fun ρ w => R (.returned (ρ 4)) w) [(4, (fun ρ w => b6 R (ρ 5) (ρ 7) (ρ 15) (ρ 17) (ρ 18) (ρ 19) (ρ 20) w))]
theorem b13_eq (R : Ending → World → Prop) (C10 : Value → World → Prop) (ρ : Env) (w : World) : (b13 R C10 (ρ 21) w) = codeP Try.prog (pan R) (sndC p7) (q3 R C10) ρ w := by kernel_rfl
theorem b13_ok (R : Ending → World → Prop) (C10 : Value → World → Prop) (ρ : Env) (w : World) (h : b13 R C10 (ρ 21) w) : codeP Try.prog (pan R) (sndC p7) (q3 R C10) ρ w := (b13_eq R C10 ρ w).mp h
noncomputable abbrev p8 : Code := blkC (fstC p7)
noncomputable abbrev p9 : Code := dropC 2 p8

def b16 (R : Ending → World → Prop) (C10 : Value → World → Prop) (x21 x121 : Value) (w : World) (_r : Tok R := tok R) (_C10 : Tok C10 := tok C10) : Prop :=
  SPL x121
  (R (.returned (Go.Value.bool Bool.false)) w)
  (b13 R C10 x21 w)
abbrev q4 (R : Ending → World → Prop) (C10 : Value → World → Prop) : Exit → Env → World → Prop := QX (fun ρ w => b13 R C10 (ρ 21) w) (fun ρ w => R (.returned (ρ 4)) w) [(6, (fun ρ w => b13 R C10 (ρ 21) w)), (4, (fun ρ w => b6 R (ρ 5) (ρ 7) (ρ 15) (ρ 17) (ρ 18) (ρ 19) (ρ 20) w))]
theorem b16_eq (R : Ending → World → Prop) (C10 : Value → World → Prop) (ρ : Env) (w : World) : (b16 R C10 (ρ 21) (ρ 121) w) = codeP Try.prog (pan R) p9 (q4 R C10) ρ w := by kernel_rfl
theorem b16_ok (R : Ending → World → Prop) (C10 : Value → World → Prop) (ρ : Env) (w : World) (h : b16 R C10 (ρ 21) (ρ 121) w) : codeP Try.prog (pan R) p9 (q4 R C10) ρ w := (b16_eq R C10 ρ w).mp h
def b15_1 (R : Ending → World → Prop) (C10 : Value → World → Prop) (x21 v7 : Value) (w8 : World) (_r : Tok R := tok R) (_C10 : Tok C10 := tok C10) : Prop :=
  RUN Try.prog (pan R) (Instr.extract v7 0) w8 fun v9 w10 =>
  RUN Try.prog (pan R) (Instr.extract v7 1) w10 fun v11 w12 =>
  RUN Try.prog (pan R) (bins .neq 3 (.tmp 115) (.tmp 116) v9 x21) w12 fun v13 w14 =>
  SPL v13
  (b16 R C10 x21 (Go.Value.bool Bool.true) w14)
  (RUN Try.prog (pan R) (bins .neq 22 (.tmp 119) (.const (Go.Value.int Go.IntKind.i64 0)) v11 (Go.Value.int Go.IntKind.i64 0)) w14 fun v15 w16 =>
  b16 R C10 x21 v15 w16)

def b15 (R : Ending → World → Prop) (C10 : Value → World → Prop) (x6 x7 x21 : Value) (w : World) (_r : Tok R := tok R) (_C10 : Tok C10 := tok C10) : Prop :=
  RUN Try.prog (pan R) (bins .add 3 (.tmp 108) (.const (Go.Value.int Go.IntKind.i64 1)) x6 (Go.Value.int Go.IntKind.i64 1)) w fun v1 w2 =>
  RUN Try.prog (pan R) (bins .rem 3 (.tmp 107) (.tmp 109) x21 v1) w2 fun v3 w4 =>
  RUN Try.prog (pan R) (bins .sub 3 (.const (Go.Value.int Go.IntKind.i64 (-1))) (.tmp 110) (Go.Value.int Go.IntKind.i64 (-1)) v3) w4 fun v5 w6 =>
  CALL Try.prog (pan R) gram_Builder_Rule.id #[x7, v5, (Go.Value.slice Option.none 0 0)] w6 fun v7 w8 =>
  b15_1 R C10 x21 v7 w8
abbrev q5 (R : Ending → World → Prop) (C10 : Value → World → Prop) : Exit → Env → World → Prop := QX (fun ρ w => b16 R C10 (ρ 21) (ρ 121) w) (fun ρ w => R (.returned (ρ 4)) w) [(6, (fun ρ w => b13 R C10 (ρ 21) w)), (4, (fun ρ w => b6 R (ρ 5) (ρ 7) (ρ 15) (ρ 17) (ρ 18) (ρ 19) (ρ 20) w))]
theorem b15_eq (R : Ending → World → Prop) (C10 : Value → World → Prop) (ρ : Env) (w : World) : (b15 R C10 (ρ 6) (ρ 7) (ρ 21) w) = codeP Try.prog (pan R) (preC 1 p8) (q5 R C10) ρ w := by kernel_rfl
theorem b15_ok (R : Ending → World → Prop) (C10 : Value → World → Prop) (ρ : Env) (w : World) (h : b15 R C10 (ρ 6) (ρ 7) (ρ 21) w) : codeP Try.prog (pan R) p8 (q4 R C10) ρ w := by
  have e : appC 1 (preC 1 p8) (dropC 2 p8) = p8 := by kernel_rfl
  rw [← e]
  exact appQ (fun ρ w => b16 R C10 (ρ 21) (ρ 121) w) 1 ((b15_eq R C10 ρ w).mp h) (fun ρ w h => b16_ok R C10 ρ w h)
abbrev q6 (R : Ending → World → Prop) (C10 : Value → World → Prop) : Exit → Env → World → Prop := QX (fun ρ w => b13 R C10 (ρ 21) w) (fun ρ w => R (.returned (ρ 4)) w) [(4, (fun ρ w => b6 R (ρ 5) (ρ 7) (ρ 15) (ρ 17) (ρ 18) (ρ 19) (ρ 20) w))]
theorem k14_ok (R : Ending → World → Prop) (C10 : Value → World → Prop) (ρ : Env) (w : World) (h : b15 R C10 (ρ 6) (ρ 7) (ρ 21) w) : codeP Try.prog (pan R) (fstC p7) (q6 R C10) ρ w := by
  have e : Code.block 3 (blkC (fstC p7)) = (fstC p7) := by kernel_rfl
  rw [← e]
  exact blockQ (b15_ok R C10 ρ w h)
theorem k12_ok (R : Ending → World → Prop) (C10 : Value → World → Prop) (ρ : Env) (w : World) (h : b15 R C10 (ρ 6) (ρ 7) (ρ 21) w) : codeP Try.prog (pan R) p7 (q3 R C10) ρ w := by
  have e : Code.seq (fstC p7) (sndC p7) = p7 := by kernel_rfl
  rw [← e]
  exact seqQ (fun ρ w => b13 R C10 (ρ 21) w) (k14_ok R C10 ρ w h) (fun ρ w h => b13_ok R C10 ρ w h)

def b11 (R : Ending → World → Prop) (C10 : Value → World → Prop) (x5 x6 x7 x15 x17 x18 x19 x20 x21 : Value) (w : World) (_r : Tok R := tok R) (_C10 : Tok C10 := tok C10) : Prop :=
  RUN Try.prog (pan R) (bins .lss 3 (.tmp 100) (.tmp 101) x21 x20) w fun v1 w2 =>
  SPL v1
  (b15 R C10 x6 x7 x21 w2)
  (b6 R x5 x7 x15 x17 x18 x19 x20 w2)
abbrev q7 (R : Ending → World → Prop) (C10 : Value → World → Prop) : Exit → Env → World → Prop := QX (fun ρ w => b15 R C10 (ρ 6) (ρ 7) (ρ 21) w) (fun ρ w => R (.returned (ρ 4)) w) [(4, (fun ρ w => b6 R (ρ 5) (ρ 7) (ρ 15) (ρ 17) (ρ 18) (ρ 19) (ρ 20) w))]
theorem b11_eq (R : Ending → World → Prop) (C10 : Value → World → Prop) (ρ : Env) (w : World) : (b11 R C10 (ρ 5) (ρ 6) (ρ 7) (ρ 15) (ρ 17) (ρ 18) (ρ 19) (ρ 20) (ρ 21) w) = codeP Try.prog (pan R) (preC 0 p6) (q7 R C10) ρ w := by kernel_rfl
theorem b11_ok (R : Ending → World → Prop) (C10 : Value → World → Prop) (ρ : Env) (w : World) (h : b11 R C10 (ρ 5) (ρ 6) (ρ 7) (ρ 15) (ρ 17) (ρ 18) (ρ 19) (ρ 20) (ρ 21) w) : codeP Try.prog (pan R) p6 (q3 R C10) ρ w := by
  have e : appC 0 (preC 0 p6) (dropC 1 p6) = p6 := by kernel_rfl
  rw [← e]
  exact appQ (fun ρ w => b15 R C10 (ρ 6) (ρ 7) (ρ 21) w) 0 ((b11_eq R C10 ρ w).mp h) (fun ρ w h => k12_ok R C10 ρ w h)

def l10 (R : Ending → World → Prop) (x5 x6 x7 x15 x17 x18 x19 x20 x21 : Value) (w : World) (_r : Tok R := tok R) : Prop :=
  ∃ (J : Value → World → Prop) (μ : Value → World → Nat), J x21 w ∧ ∀ y21 w0, J y21 w0 → b11 R (fun z21 w1 => J z21 w1 ∧ μ z21 w1 < μ y21 w0) x5 x6 x7 x15 x17 x18 x19 x20 y21 w0
abbrev q8 (R : Ending → World → Prop) : Exit → Env → World → Prop := QX (fun ρ w => b6 R (ρ 5) (ρ 7) (ρ 15) (ρ 17) (ρ 18) (ρ 19) (ρ 20) w) (fun ρ w => R (.returned (ρ 4)) w) [(4, (fun ρ w => b6 R (ρ 5) (ρ 7) (ρ 15) (ρ 17) (ρ 18) (ρ 19) (ρ 20) w))]
theorem l10_ok (R : Ending → World → Prop) (ρ : Env) (w : World) (h : l10 R (ρ 5) (ρ 6) (ρ 7) (ρ 15) (ρ 17) (ρ 18) (ρ 19) (ρ 20) (ρ 21) w) : codeP Try.prog (pan R) (blkC p5) (q8 R) ρ w := by
  unfold l10 at h
  obtain ⟨J, μ, h0, hr⟩ := h
  have e : Code.loop (loopC (blkC p5)) = (blkC p5) := by kernel_rfl
  rw [← e]
  refine loopQ (fun ρ' w' => J (ρ' 21) w') (fun ρ' w' => μ (ρ' 21) w') h0 fun ρ' w' hA hI => ?_
  have e5 : ρ' 5 = ρ 5 := Agree.at hA 5 (by kernel_rfl)
  have e6 : ρ' 6 = ρ 6 := Agree.at hA 6 (by kernel_rfl)
  have e7 : ρ' 7 = ρ 7 := Agree.at hA 7 (by kernel_rfl)
  have e15 : ρ' 15 = ρ 15 := Agree.at hA 15 (by kernel_rfl)
  have e17 : ρ' 17 = ρ 17 := Agree.at hA 17 (by kernel_rfl)
  have e18 : ρ' 18 = ρ 18 := Agree.at hA 18 (by kernel_rfl)
  have e19 : ρ' 19 = ρ 19 := Agree.at hA 19 (by kernel_rfl)
  have e20 : ρ' 20 = ρ 20 := Agree.at hA 20 (by kernel_rfl)
  have h1 := hr (ρ' 21) w' hI
  rw [← e5, ← e6, ← e7, ← e15, ← e17, ← e18, ← e19, ← e20] at h1
  exact b11_ok R (fun z21 w1 => J z21 w1 ∧ μ z21 w1 < μ (ρ' 21) w') ρ' w' h1
theorem l10_intro (R : Ending → World → Prop) (x5 x6 x7 x15 x17 x18 x19 x20 x21 : Value) (w : World) (J : Value → World → Prop) (μ : Value → World → Nat) (h0 : J x21 w)
    (hr : ∀ y21 w0, J y21 w0 → ∀ C10 : Value → World → Prop, (∀ z21 w1, J z21 w1 → μ z21 w1 < μ y21 w0 → C10 z21 w1) → b11 R C10 x5 x6 x7 x15 x17 x18 x19 x20 y21 w0) : l10 R x5 x6 x7 x15 x17 x18 x19 x20 x21 w := by
  unfold l10
  exact ⟨J, μ, h0, fun y21 w0 hJ => hr y21 w0 hJ _ (fun z21 w1 h1 h2 => ⟨h1, h2⟩)⟩
abbrev q9 (R : Ending → World → Prop) : Exit → Env → World → Prop := QX (fun ρ w => b6 R (ρ 5) (ρ 7) (ρ 15) (ρ 17) (ρ 18) (ρ 19) (ρ 20) w) (fun ρ w => R (.returned (ρ 4)) w) []
theorem k9_ok (R : Ending → World → Prop) (ρ : Env) (w : World) (h : l10 R (ρ 5) (ρ 6) (ρ 7) (ρ 15) (ρ 17) (ρ 18) (ρ 19) (ρ 20) (ρ 21) w) : codeP Try.prog (pan R) p5 (q9 R) ρ w := by
  have e : Code.block 2 (blkC p5) = p5 := by kernel_rfl
  rw [← e]
  exact blockQ (l10_ok R ρ w h)

def b8 (R : Ending → World → Prop) (x5 x6 x7 x15 x17 x18 x19 x20 : Value) (w : World) (_r : Tok R := tok R) : Prop :=
  l10 R x5 x6 x7 x15 x17 x18 x19 x20 (Go.Value.int Go.IntKind.i64 0) w
abbrev q10 (R : Ending → World → Prop) : Exit → Env → World → Prop := QX (fun ρ w => l10 R (ρ 5) (ρ 6) (ρ 7) (ρ 15) (ρ 17) (ρ 18) (ρ 19) (ρ 20) (ρ 21) w) (fun ρ w => R (.returned (ρ 4)) w) []
theorem b8_eq (R : Ending → World → Prop) (ρ : Env) (w : World) : (b8 R (ρ 5) (ρ 6) (ρ 7) (ρ 15) (ρ 17) (ρ 18) (ρ 19) (ρ 20) w) = codeP Try.prog (pan R) (preC 0 (fstC p3)) (q10 R) ρ w := by kernel_rfl
theorem b8_ok (R : Ending → World → Prop) (ρ : Env) (w : World) (h : b8 R (ρ 5) (ρ 6) (ρ 7) (ρ 15) (ρ 17) (ρ 18) (ρ 19) (ρ 20) w) : codeP Try.prog (pan R) (fstC p3) (q9 R) ρ w := by
  have e : appC 0 (preC 0 (fstC p3)) (dropC 1 (fstC p3)) = (fstC p3) := by kernel_rfl
  rw [← e]
  exact appQ (fun ρ w => l10 R (ρ 5) (ρ 6) (ρ 7) (ρ 15) (ρ 17) (ρ 18) (ρ 19) (ρ 20) (ρ 21) w) 0 ((b8_eq R ρ w).mp h) (fun ρ w h => k9_ok R ρ w h)
theorem k5_ok (R : Ending → World → Prop) (ρ : Env) (w : World) (h : b8 R (ρ 5) (ρ 6) (ρ 7) (ρ 15) (ρ 17) (ρ 18) (ρ 19) (ρ 20) w) : codeP Try.prog (pan R) p3 (q1 R) ρ w := by
  have e : Code.seq (fstC p3) (sndC p3) = p3 := by kernel_rfl
  rw [← e]
  exact seqQ (fun ρ w => b6 R (ρ 5) (ρ 7) (ρ 15) (ρ 17) (ρ 18) (ρ 19) (ρ 20) w) (b8_ok R ρ w h) (fun ρ w h => b6_ok R ρ w h)
def b4_1 (R : Ending → World → Prop) (x1 x5 x6 x7 v5 v11 v13 : Value) (w14 : World) (_r : Tok R := tok R) : Prop :=
  RUN Try.prog (pan R) (Instr.extract v13 0) w14 fun v15 w16 =>
  RUN Try.prog (pan R) (Instr.extract v13 1) w16 fun v17 w18 =>
  RUN Try.prog (pan R) (bins .rem 3 (.tmp 97) (.const (Go.Value.int Go.IntKind.i64 3)) x1 (Go.Value.int Go.IntKind.i64 3)) w18 fun v19 w20 =>
  RUN Try.prog (pan R) (bins .eql 3 (.tmp 98) (.const (Go.Value.int Go.IntKind.i64 0)) v19 (Go.Value.int Go.IntKind.i64 0)) w20 fun v21 w22 =>
  SPL v21
  (b8 R x5 x6 x7 v5 v11 v15 v17 (Go.Value.int Go.IntKind.i64 95) w22)
  (b8 R x5 x6 x7 v5 v11 v15 v17 (Go.Value.int Go.IntKind.i64 96) w22)
def b4_2 (R : Ending → World → Prop) (x1 x5 x6 x7 v5 v7 : Value) (w8 : World) (_r : Tok R := tok R) : Prop :=
  RUN Try.prog (pan R) (Instr.extract v7 0) w8 fun v9 w10 =>
  RUN Try.prog (pan R) (Instr.extract v7 1) w10 fun v11 w12 =>
  CALL Try.prog (pan R) gram_Builder_Non.id #[x7, (Go.Value.string { data := #[110, 97, 97] })] w12 fun v13 w14 =>
  b4_1 R x1 x5 x6 x7 v5 v11 v13 w14
def b4_3 (R : Ending → World → Prop) (x1 x5 x6 x7 v1 : Value) (w2 : World) (_r : Tok R := tok R) : Prop :=
  RUN Try.prog (pan R) (Instr.extract v1 0) w2 fun v3 w4 =>
  RUN Try.prog (pan R) (Instr.extract v1 1) w4 fun v5 w6 =>
  CALL Try.prog (pan R) gram_Builder_Term.id #[x7, (Go.Value.string { data := #[109, 111, 114, 101] })] w6 fun v7 w8 =>
  b4_2 R x1 x5 x6 x7 v5 v7 w8

def b4 (R : Ending → World → Prop) (x1 x5 x6 x7 : Value) (w : World) (_r : Tok R := tok R) : Prop :=
  CALL Try.prog (pan R) gram_Builder_Non.id #[x7, (Go.Value.string { data := #[109, 111, 114, 101] })] w fun v1 w2 =>
  b4_3 R x1 x5 x6 x7 v1 w2
abbrev q11 (R : Ending → World → Prop) : Exit → Env → World → Prop := QX (fun ρ w => b8 R (ρ 5) (ρ 6) (ρ 7) (ρ 15) (ρ 17) (ρ 18) (ρ 19) (ρ 20) w) (fun ρ w => R (.returned (ρ 4)) w) []
theorem b4_eq (R : Ending → World → Prop) (ρ : Env) (w : World) : (b4 R (ρ 1) (ρ 5) (ρ 6) (ρ 7) w) = codeP Try.prog (pan R) (preC 4 (sndC p2)) (q11 R) ρ w := by kernel_rfl
theorem b4_ok (R : Ending → World → Prop) (ρ : Env) (w : World) (h : b4 R (ρ 1) (ρ 5) (ρ 6) (ρ 7) w) : codeP Try.prog (pan R) (sndC p2) (q1 R) ρ w := by
  have e : appC 4 (preC 4 (sndC p2)) (dropC 5 (sndC p2)) = (sndC p2) := by kernel_rfl
  rw [← e]
  exact appQ (fun ρ w => b8 R (ρ 5) (ρ 6) (ρ 7) (ρ 15) (ρ 17) (ρ 18) (ρ 19) (ρ 20) w) 4 ((b4_eq R ρ w).mp h) (fun ρ w h => k5_ok R ρ w h)
noncomputable abbrev p10 : Code := dropC 1 (fstC p2)
noncomputable abbrev p11 : Code := loopC (blkC p10)
noncomputable abbrev p12 : Code := dropC 1 p11

def b22 (R : Ending → World → Prop) (C19 : Value → World → Prop) (x8 : Value) (w : World) (_r : Tok R := tok R) (_C19 : Tok C19 := tok C19) : Prop :=
  RUN Try.prog (pan R) (bins .add 3 (.tmp 37) (.const (Go.Value.int Go.IntKind.i64 1)) x8 (Go.Value.int Go.IntKind.i64 1)) w fun v1 w2 =>
  C19 v1 w2
abbrev q12 (R : Ending → World → Prop) (C19 : Value → World → Prop) : Exit → Env → World → Prop := QX (fun ρ w => C19 (ρ 8) w) (fun ρ w => R (.returned (ρ 4)) w) [(0, (fun ρ w => b4 R (ρ 1) (ρ 5) (ρ 6) (ρ 7) w))]
theorem b22_eq (R : Ending → World → Prop) (C19 : Value → World → Prop) (ρ : Env) (w : World) : (b22 R C19 (ρ 8) w) = codeP Try.prog (pan R) (sndC p12) (q12 R C19) ρ w := by kernel_rfl
theorem b22_ok (R : Ending → World → Prop) (C19 : Value → World → Prop) (ρ : Env) (w : World) (h : b22 R C19 (ρ 8) w) : codeP Try.prog (pan R) (sndC p12) (q12 R C19) ρ w := (b22_eq R C19 ρ w).mp h
noncomputable abbrev p13 : Code := blkC (fstC p12)
noncomputable abbrev p14 : Code := dropC 1 p13
noncomputable abbrev p15 : Code := dropC 2 (sndC p14)

def b27 (R : Ending → World → Prop) (C19 : Value → World → Prop) (x8 x81 : Value) (w : World) (_r : Tok R := tok R) (_C19 : Tok C19 := tok C19) : Prop :=
  SPL x81
  (R (.returned (Go.Value.bool Bool.false)) w)
  (b22 R C19 x8 w)
abbrev q13 (R : Ending → World → Prop) (C19 : Value → World → Prop) : Exit → Env → World → Prop := QX (fun ρ w => b22 R C19 (ρ 8) w) (fun ρ w => R (.returned (ρ 4)) w) [(2, (fun ρ w => b22 R C19 (ρ 8) w)), (0, (fun ρ w => b4 R (ρ 1) (ρ 5) (ρ 6) (ρ 7) w))]
theorem b27_eq (R : Ending → World → Prop) (C19 : Value → World → Prop) (ρ : Env) (w : World) : (b27 R C19 (ρ 8) (ρ 81) w) = codeP Try.prog (pan R) p15 (q13 R C19) ρ w := by kernel_rfl
theorem b27_ok (R : Ending → World → Prop) (C19 : Value → World → Prop) (ρ : Env) (w : World) (h : b27 R C19 (ρ 8) (ρ 81) w) : codeP Try.prog (pan R) p15 (q13 R C19) ρ w := (b27_eq R C19 ρ w).mp h
def b26_1 (R : Ending → World → Prop) (C19 : Value → World → Prop) (x6 x8 v1 : Value) (w2 : World) (_r : Tok R := tok R) (_C19 : Tok C19 := tok C19) : Prop :=
  RUN Try.prog (pan R) (Instr.extract v1 0) w2 fun v3 w4 =>
  RUN Try.prog (pan R) (Instr.extract v1 1) w4 fun v5 w6 =>
  RUN Try.prog (pan R) (bins .sub 3 (.tmp 74) (.tmp 75) x8 x6) w6 fun v7 w8 =>
  RUN Try.prog (pan R) (bins .neq 3 (.tmp 73) (.tmp 76) v3 v7) w8 fun v9 w10 =>
  SPL v9
  (b27 R C19 x8 (Go.Value.bool Bool.true) w10)
  (RUN Try.prog (pan R) (bins .neq 22 (.tmp 79) (.const (Go.Value.int Go.IntKind.i64 0)) v5 (Go.Value.int Go.IntKind.i64 0)) w10 fun v11 w12 =>
  b27 R C19 x8 v11 w12)

def b26 (R : Ending → World → Prop) (C19 : Value → World → Prop) (x6 x7 x8 x9 : Value) (w : World) (_r : Tok R := tok R) (_C19 : Tok C19 := tok C19) : Prop :=
  CALL Try.prog (pan R) gram_Builder_Term.id #[x7, x9] w fun v1 w2 =>
  b26_1 R C19 x6 x8 v1 w2
abbrev q14 (R : Ending → World → Prop) (C19 : Value → World → Prop) : Exit → Env → World → Prop := QX (fun ρ w => b27 R C19 (ρ 8) (ρ 81) w) (fun ρ w => R (.returned (ρ 4)) w) [(2, (fun ρ w => b22 R C19 (ρ 8) w)), (0, (fun ρ w => b4 R (ρ 1) (ρ 5) (ρ 6) (ρ 7) w))]
theorem b26_eq (R : Ending → World → Prop) (C19 : Value → World → Prop) (ρ : Env) (w : World) : (b26 R C19 (ρ 6) (ρ 7) (ρ 8) (ρ 9) w) = codeP Try.prog (pan R) (preC 1 (sndC p14)) (q14 R C19) ρ w := by kernel_rfl
theorem b26_ok (R : Ending → World → Prop) (C19 : Value → World → Prop) (ρ : Env) (w : World) (h : b26 R C19 (ρ 6) (ρ 7) (ρ 8) (ρ 9) w) : codeP Try.prog (pan R) (sndC p14) (q13 R C19) ρ w := by
  have e : appC 1 (preC 1 (sndC p14)) (dropC 2 (sndC p14)) = (sndC p14) := by kernel_rfl
  rw [← e]
  exact appQ (fun ρ w => b27 R C19 (ρ 8) (ρ 81) w) 1 ((b26_eq R C19 ρ w).mp h) (fun ρ w h => b27_ok R C19 ρ w h)
noncomputable abbrev p16 : Code := dropC 1 (fstC p14)
noncomputable abbrev p17 : Code := dropC 1 (thnC p16)

def b32 (R : Ending → World → Prop) (C19 : Value → World → Prop) (x8 : Value) (w : World) (_r : Tok R := tok R) (_C19 : Tok C19 := tok C19) : Prop :=
  b22 R C19 x8 w
abbrev q15 (R : Ending → World → Prop) (C19 : Value → World → Prop) : Exit → Env → World → Prop := QX (fun ρ w => b26 R C19 (ρ 6) (ρ 7) (ρ 8) (ρ 9) w) (fun ρ w => R (.returned (ρ 4)) w) [(2, (fun ρ w => b22 R C19 (ρ 8) w)), (0, (fun ρ w => b4 R (ρ 1) (ρ 5) (ρ 6) (ρ 7) w))]
theorem b32_eq (R : Ending → World → Prop) (C19 : Value → World → Prop) (ρ : Env) (w : World) : (b32 R C19 (ρ 8) w) = codeP Try.prog (pan R) (sndC p17) (q15 R C19) ρ w := by kernel_rfl
theorem b32_ok (R : Ending → World → Prop) (C19 : Value → World → Prop) (ρ : Env) (w : World) (h : b32 R C19 (ρ 8) w) : codeP Try.prog (pan R) (sndC p17) (q15 R C19) ρ w := (b32_eq R C19 ρ w).mp h
noncomputable abbrev p18 : Code := dropC 1 (fstC p17)

def b34 (R : Ending → World → Prop) (C19 : Value → World → Prop) (x8 x66 : Value) (w : World) (_r : Tok R := tok R) (_C19 : Tok C19 := tok C19) : Prop :=
  SPL x66
  (R (.returned (Go.Value.bool Bool.false)) w)
  (b32 R C19 x8 w)
abbrev q16 (R : Ending → World → Prop) (C19 : Value → World → Prop) : Exit → Env → World → Prop := QX (fun ρ w => b32 R C19 (ρ 8) w) (fun ρ w => R (.returned (ρ 4)) w) [(2, (fun ρ w => b22 R C19 (ρ 8) w)), (0, (fun ρ w => b4 R (ρ 1) (ρ 5) (ρ 6) (ρ 7) w))]
theorem b34_eq (R : Ending → World → Prop) (C19 : Value → World → Prop) (ρ : Env) (w : World) : (b34 R C19 (ρ 8) (ρ 66) w) = codeP Try.prog (pan R) p18 (q16 R C19) ρ w := by kernel_rfl
theorem b34_ok (R : Ending → World → Prop) (C19 : Value → World → Prop) (ρ : Env) (w : World) (h : b34 R C19 (ρ 8) (ρ 66) w) : codeP Try.prog (pan R) p18 (q16 R C19) ρ w := (b34_eq R C19 ρ w).mp h

def b33 (R : Ending → World → Prop) (C19 : Value → World → Prop) (x8 x10 x11 : Value) (w : World) (_r : Tok R := tok R) (_C19 : Tok C19 := tok C19) : Prop :=
  RUN Try.prog (pan R) (bins .sub 3 (.const (Go.Value.int Go.IntKind.i64 (-1))) (.tmp 60) (Go.Value.int Go.IntKind.i64 (-1)) x8) w fun v1 w2 =>
  RUN Try.prog (pan R) (bins .neq 3 (.tmp 59) (.tmp 61) x10 v1) w2 fun v3 w4 =>
  SPL v3
  (b34 R C19 x8 (Go.Value.bool Bool.true) w4)
  (RUN Try.prog (pan R) (bins .neq 22 (.tmp 64) (.const (Go.Value.int Go.IntKind.i64 0)) x11 (Go.Value.int Go.IntKind.i64 0)) w4 fun v5 w6 =>
  b34 R C19 x8 v5 w6)
abbrev q17 (R : Ending → World → Prop) (C19 : Value → World → Prop) : Exit → Env → World → Prop := QX (fun ρ w => b34 R C19 (ρ 8) (ρ 66) w) (fun ρ w => R (.returned (ρ 4)) w) [(2, (fun ρ w => b22 R C19 (ρ 8) w)), (0, (fun ρ w => b4 R (ρ 1) (ρ 5) (ρ 6) (ρ 7) w))]
theorem b33_eq (R : Ending → World → Prop) (C19 : Value → World → Prop) (ρ : Env) (w : World) : (b33 R C19 (ρ 8) (ρ 10) (ρ 11) w) = codeP Try.prog (pan R) (preC 0 (fstC p17)) (q17 R C19) ρ w := by kernel_rfl
theorem b33_ok (R : Ending → World → Prop) (C19 : Value → World → Prop) (ρ : Env) (w : World) (h : b33 R C19 (ρ 8) (ρ 10) (ρ 11) w) : codeP Try.prog (pan R) (fstC p17) (q16 R C19) ρ w := by
  have e : appC 0 (preC 0 (fstC p17)) (dropC 1 (fstC p17)) = (fstC p17) := by kernel_rfl
  rw [← e]
  exact appQ (fun ρ w => b34 R C19 (ρ 8) (ρ 66) w) 0 ((b33_eq R C19 ρ w).mp h) (fun ρ w h => b34_ok R C19 ρ w h)
theorem k31_ok (R : Ending → World → Prop) (C19 : Value → World → Prop) (ρ : Env) (w : World) (h : b33 R C19 (ρ 8) (ρ 10) (ρ 11) w) : codeP Try.prog (pan R) p17 (q15 R C19) ρ w := by
  have e : Code.seq (fstC p17) (sndC p17) = p17 := by kernel_rfl
  rw [← e]
  exact seqQ (fun ρ w => b32 R C19 (ρ 8) w) (b33_ok R C19 ρ w h) (fun ρ w h => b32_ok R C19 ρ w h)
def b30_1 (R : Ending → World → Prop) (C19 : Value → World → Prop) (x8 v1 : Value) (w2 : World) (_r : Tok R := tok R) (_C19 : Tok C19 := tok C19) : Prop :=
  RUN Try.prog (pan R) (Instr.extract v1 0) w2 fun v3 w4 =>
  RUN Try.prog (pan R) (Instr.extract v1 1) w4 fun v5 w6 =>
  b33 R C19 x8 v3 v5 w6

def b30 (R : Ending → World → Prop) (C19 : Value → World → Prop) (x7 x8 x9 : Value) (w : World) (_r : Tok R := tok R) (_C19 : Tok C19 := tok C19) : Prop :=
  CALL Try.prog (pan R) gram_Builder_Non.id #[x7, x9] w fun v1 w2 =>
  b30_1 R C19 x8 v1 w2
abbrev q18 (R : Ending → World → Prop) (C19 : Value → World → Prop) : Exit → Env → World → Prop := QX (fun ρ w => b33 R C19 (ρ 8) (ρ 10) (ρ 11) w) (fun ρ w => R (.returned (ρ 4)) w) [(2, (fun ρ w => b22 R C19 (ρ 8) w)), (0, (fun ρ w => b4 R (ρ 1) (ρ 5) (ρ 6) (ρ 7) w))]
theorem b30_eq (R : Ending → World → Prop) (C19 : Value → World → Prop) (ρ : Env) (w : World) : (b30 R C19 (ρ 7) (ρ 8) (ρ 9) w) = codeP Try.prog (pan R) (preC 0 (thnC p16)) (q18 R C19) ρ w := by kernel_rfl
theorem b30_ok (R : Ending → World → Prop) (C19 : Value → World → Prop) (ρ : Env) (w : World) (h : b30 R C19 (ρ 7) (ρ 8) (ρ 9) w) : codeP Try.prog (pan R) (thnC p16) (q15 R C19) ρ w := by
  have e : appC 0 (preC 0 (thnC p16)) (dropC 1 (thnC p16)) = (thnC p16) := by kernel_rfl
  rw [← e]
  exact appQ (fun ρ w => b33 R C19 (ρ 8) (ρ 10) (ρ 11) w) 0 ((b30_eq R C19 ρ w).mp h) (fun ρ w h => k31_ok R C19 ρ w h)

def b35 (R : Ending → World → Prop) (C19 : Value → World → Prop) (x6 x7 x8 x9 : Value) (w : World) (_r : Tok R := tok R) (_C19 : Tok C19 := tok C19) : Prop :=
  b26 R C19 x6 x7 x8 x9 w
theorem b35_eq (R : Ending → World → Prop) (C19 : Value → World → Prop) (ρ : Env) (w : World) : (b35 R C19 (ρ 6) (ρ 7) (ρ 8) (ρ 9) w) = codeP Try.prog (pan R) (elsC p16) (q15 R C19) ρ w := by kernel_rfl
theorem b35_ok (R : Ending → World → Prop) (C19 : Value → World → Prop) (ρ : Env) (w : World) (h : b35 R C19 (ρ 6) (ρ 7) (ρ 8) (ρ 9) w) : codeP Try.prog (pan R) (elsC p16) (q15 R C19) ρ w := (b35_eq R C19 ρ w).mp h

def b29 (R : Ending → World → Prop) (C19 : Value → World → Prop) (x6 x7 x8 x9 x52 : Value) (w : World) (_r : Tok R := tok R) (_C19 : Tok C19 := tok C19) : Prop :=
  SPL x52 (b30 R C19 x7 x8 x9 w) (b35 R C19 x6 x7 x8 x9 w)
theorem b29_ok (R : Ending → World → Prop) (C19 : Value → World → Prop) (ρ : Env) (w : World) (h : b29 R C19 (ρ 6) (ρ 7) (ρ 8) (ρ 9) (ρ 52) w) : codeP Try.prog (pan R) p16 (q15 R C19) ρ w := by
  have e : Code.cond (.tmp 52) (thnC p16) (elsC p16) = p16 := by kernel_rfl
  rw [← e]
  exact condQ' h (fun h => b30_ok R C19 ρ w h) (fun h => b35_ok R C19 ρ w h)

def b28 (R : Ending → World → Prop) (C19 : Value → World → Prop) (x6 x7 x8 x9 : Value) (w : World) (_r : Tok R := tok R) (_C19 : Tok C19 := tok C19) : Prop :=
  RUN Try.prog (pan R) (bins .leq 3 (.tmp 50) (.tmp 51) x8 x6) w fun v1 w2 =>
  b29 R C19 x6 x7 x8 x9 v1 w2
abbrev q19 (R : Ending → World → Prop) (C19 : Value → World → Prop) : Exit → Env → World → Prop := QX (fun ρ w => b29 R C19 (ρ 6) (ρ 7) (ρ 8) (ρ 9) (ρ 52) w) (fun ρ w => R (.returned (ρ 4)) w) [(2, (fun ρ w => b22 R C19 (ρ 8) w)), (0, (fun ρ w => b4 R (ρ 1) (ρ 5) (ρ 6) (ρ 7) w))]
theorem b28_eq (R : Ending → World → Prop) (C19 : Value → World → Prop) (ρ : Env) (w : World) : (b28 R C19 (ρ 6) (ρ 7) (ρ 8) (ρ 9) w) = codeP Try.prog (pan R) (preC 0 (fstC p14)) (q19 R C19) ρ w := by kernel_rfl
theorem b28_ok (R : Ending → World → Prop) (C19 : Value → World → Prop) (ρ : Env) (w : World) (h : b28 R C19 (ρ 6) (ρ 7) (ρ 8) (ρ 9) w) : codeP Try.prog (pan R) (fstC p14) (q15 R C19) ρ w := by
  have e : appC 0 (preC 0 (fstC p14)) (dropC 1 (fstC p14)) = (fstC p14) := by kernel_rfl
  rw [← e]
  exact appQ (fun ρ w => b29 R C19 (ρ 6) (ρ 7) (ρ 8) (ρ 9) (ρ 52) w) 0 ((b28_eq R C19 ρ w).mp h) (fun ρ w h => b29_ok R C19 ρ w h)
theorem k25_ok (R : Ending → World → Prop) (C19 : Value → World → Prop) (ρ : Env) (w : World) (h : b28 R C19 (ρ 6) (ρ 7) (ρ 8) (ρ 9) w) : codeP Try.prog (pan R) p14 (q13 R C19) ρ w := by
  have e : Code.seq (fstC p14) (sndC p14) = p14 := by kernel_rfl
  rw [← e]
  exact seqQ (fun ρ w => b26 R C19 (ρ 6) (ρ 7) (ρ 8) (ρ 9) w) (b28_ok R C19 ρ w h) (fun ρ w h => b26_ok R C19 ρ w h)

def b24 (R : Ending → World → Prop) (C19 : Value → World → Prop) (x6 x7 x8 : Value) (w : World) (_r : Tok R := tok R) (_C19 : Tok C19 := tok C19) : Prop :=
  RUN Try.prog (pan R) (bins .quo 3 (.tmp 39) (.const (Go.Value.int Go.IntKind.i64 26)) x8 (Go.Value.int Go.IntKind.i64 26)) w fun v1 w2 =>
  RUN Try.prog (pan R) (bins .add 3 (.const (Go.Value.int Go.IntKind.i64 97)) (.tmp 40) (Go.Value.int Go.IntKind.i64 97) v1) w2 fun v3 w4 =>
  RUN Try.prog (pan R) (convert 3 5 v3) w4 fun v5 w6 =>
  RUN Try.prog (pan R) (bins .rem 3 (.tmp 43) (.const (Go.Value.int Go.IntKind.i64 26)) x8 (Go.Value.int Go.IntKind.i64 26)) w6 fun v7 w8 =>
  RUN Try.prog (pan R) (bins .add 3 (.const (Go.Value.int Go.IntKind.i64 97)) (.tmp 44) (Go.Value.int Go.IntKind.i64 97) v7) w8 fun v9 w10 =>
  RUN Try.prog (pan R) (convert 3 5 v9) w10 fun v11 w12 =>
  RUN Try.prog (pan R) (Instr.buildSlice 51 2 #[(0, v5), (1, v11)]) w12 fun v13 w14 =>
  RUN Try.prog (pan R) (convert 51 9 v13) w14 fun v15 w16 =>
  RUN Try.prog (pan R) (bins .add 9 (.const (Go.Value.string { data := #[110] })) (.tmp 48) (Go.Value.string { data := #[110] }) v15) w16 fun v17 w18 =>
  b28 R C19 x6 x7 x8 v17 w18
abbrev q20 (R : Ending → World → Prop) (C19 : Value → World → Prop) : Exit → Env → World → Prop := QX (fun ρ w => b28 R C19 (ρ 6) (ρ 7) (ρ 8) (ρ 9) w) (fun ρ w => R (.returned (ρ 4)) w) [(2, (fun ρ w => b22 R C19 (ρ 8) w)), (0, (fun ρ w => b4 R (ρ 1) (ρ 5) (ρ 6) (ρ 7) w))]
theorem b24_eq (R : Ending → World → Prop) (C19 : Value → World → Prop) (ρ : Env) (w : World) : (b24 R C19 (ρ 6) (ρ 7) (ρ 8) w) = codeP Try.prog (pan R) (preC 0 p13) (q20 R C19) ρ w := by kernel_rfl
theorem b24_ok (R : Ending → World → Prop) (C19 : Value → World → Prop) (ρ : Env) (w : World) (h : b24 R C19 (ρ 6) (ρ 7) (ρ 8) w) : codeP Try.prog (pan R) p13 (q13 R C19) ρ w := by
  have e : appC 0 (preC 0 p13) (dropC 1 p13) = p13 := by kernel_rfl
  rw [← e]
  exact appQ (fun ρ w => b28 R C19 (ρ 6) (ρ 7) (ρ 8) (ρ 9) w) 0 ((b24_eq R C19 ρ w).mp h) (fun ρ w h => k25_ok R C19 ρ w h)
abbrev q21 (R : Ending → World → Prop) (C19 : Value → World → Prop) : Exit → Env → World → Prop := QX (fun ρ w => b22 R C19 (ρ 8) w) (fun ρ w => R (.returned (ρ 4)) w) [(0, (fun ρ w => b4 R (ρ 1) (ρ 5) (ρ 6) (ρ 7) w))]
theorem k23_ok (R : Ending → World → Prop) (C19 : Value → World → Prop) (ρ : Env) (w : World) (h : b24 R C19 (ρ 6) (ρ 7) (ρ 8) w) : codeP Try.prog (pan R) (fstC p12) (q21 R C19) ρ w := by
  have e : Code.block 1 (blkC (fstC p12)) = (fstC p12) := by kernel_rfl
  rw [← e]
  exact blockQ (b24_ok R C19 ρ w h)
theorem k21_ok (R : Ending → World → Prop) (C19 : Value → World → Prop) (ρ : Env) (w : World) (h : b24 R C19 (ρ 6) (ρ 7) (ρ 8) w) : codeP Try.prog (pan R) p12 (q12 R C19) ρ w := by
  have e : Code.seq (fstC p12) (sndC p12) = p12 := by kernel_rfl
  rw [← e]
  exact seqQ (fun ρ w => b22 R C19 (ρ 8) w) (k23_ok R C19 ρ w h) (fun ρ w h => b22_ok R C19 ρ w h)

def b20 (R : Ending → World → Prop) (C19 : Value → World → Prop) (x1 x5 x6 x7 x8 : Value) (w : World) (_r : Tok R := tok R) (_C19 : Tok C19 := tok C19) : Prop :=
  RUN Try.prog (pan R) (bins .lss 3 (.tmp 35) (.const (Go.Value.int Go.IntKind.i64 64)) x8 (Go.Value.int Go.IntKind.i64 64)) w fun v1 w2 =>
  SPL v1
  (b24 R C19 x6 x7 x8 w2)
  (b4 R x1 x5 x6 x7 w2)
abbrev q22 (R : Ending → World → Prop) (C19 : Value → World → Prop) : Exit → Env → World → Prop := QX (fun ρ w => b24 R C19 (ρ 6) (ρ 7) (ρ 8) w) (fun ρ w => R (.returned (ρ 4)) w) [(0, (fun ρ w => b4 R (ρ 1) (ρ 5) (ρ 6) (ρ 7) w))]
theorem b20_eq (R : Ending → World → Prop) (C19 : Value → World → Prop) (ρ : Env) (w : World) : (b20 R C19 (ρ 1) (ρ 5) (ρ 6) (ρ 7) (ρ 8) w) = codeP Try.prog (pan R) (preC 0 p11) (q22 R C19) ρ w := by kernel_rfl
theorem b20_ok (R : Ending → World → Prop) (C19 : Value → World → Prop) (ρ : Env) (w : World) (h : b20 R C19 (ρ 1) (ρ 5) (ρ 6) (ρ 7) (ρ 8) w) : codeP Try.prog (pan R) p11 (q12 R C19) ρ w := by
  have e : appC 0 (preC 0 p11) (dropC 1 p11) = p11 := by kernel_rfl
  rw [← e]
  exact appQ (fun ρ w => b24 R C19 (ρ 6) (ρ 7) (ρ 8) w) 0 ((b20_eq R C19 ρ w).mp h) (fun ρ w h => k21_ok R C19 ρ w h)

def l19 (R : Ending → World → Prop) (x1 x5 x6 x7 x8 : Value) (w : World) (_r : Tok R := tok R) : Prop :=
  ∃ (J : Value → World → Prop) (μ : Value → World → Nat), J x8 w ∧ ∀ y8 w0, J y8 w0 → b20 R (fun z8 w1 => J z8 w1 ∧ μ z8 w1 < μ y8 w0) x1 x5 x6 x7 y8 w0
abbrev q23 (R : Ending → World → Prop) : Exit → Env → World → Prop := QX (fun ρ w => b4 R (ρ 1) (ρ 5) (ρ 6) (ρ 7) w) (fun ρ w => R (.returned (ρ 4)) w) [(0, (fun ρ w => b4 R (ρ 1) (ρ 5) (ρ 6) (ρ 7) w))]
theorem l19_ok (R : Ending → World → Prop) (ρ : Env) (w : World) (h : l19 R (ρ 1) (ρ 5) (ρ 6) (ρ 7) (ρ 8) w) : codeP Try.prog (pan R) (blkC p10) (q23 R) ρ w := by
  unfold l19 at h
  obtain ⟨J, μ, h0, hr⟩ := h
  have e : Code.loop (loopC (blkC p10)) = (blkC p10) := by kernel_rfl
  rw [← e]
  refine loopQ (fun ρ' w' => J (ρ' 8) w') (fun ρ' w' => μ (ρ' 8) w') h0 fun ρ' w' hA hI => ?_
  have e1 : ρ' 1 = ρ 1 := Agree.at hA 1 (by kernel_rfl)
  have e5 : ρ' 5 = ρ 5 := Agree.at hA 5 (by kernel_rfl)
  have e6 : ρ' 6 = ρ 6 := Agree.at hA 6 (by kernel_rfl)
  have e7 : ρ' 7 = ρ 7 := Agree.at hA 7 (by kernel_rfl)
  have h1 := hr (ρ' 8) w' hI
  rw [← e1, ← e5, ← e6, ← e7] at h1
  exact b20_ok R (fun z8 w1 => J z8 w1 ∧ μ z8 w1 < μ (ρ' 8) w') ρ' w' h1
theorem l19_intro (R : Ending → World → Prop) (x1 x5 x6 x7 x8 : Value) (w : World) (J : Value → World → Prop) (μ : Value → World → Nat) (h0 : J x8 w)
    (hr : ∀ y8 w0, J y8 w0 → ∀ C19 : Value → World → Prop, (∀ z8 w1, J z8 w1 → μ z8 w1 < μ y8 w0 → C19 z8 w1) → b20 R C19 x1 x5 x6 x7 y8 w0) : l19 R x1 x5 x6 x7 x8 w := by
  unfold l19
  exact ⟨J, μ, h0, fun y8 w0 hJ => hr y8 w0 hJ _ (fun z8 w1 h1 h2 => ⟨h1, h2⟩)⟩
abbrev q24 (R : Ending → World → Prop) : Exit → Env → World → Prop := QX (fun ρ w => b4 R (ρ 1) (ρ 5) (ρ 6) (ρ 7) w) (fun ρ w => R (.returned (ρ 4)) w) []
theorem k18_ok (R : Ending → World → Prop) (ρ : Env) (w : World) (h : l19 R (ρ 1) (ρ 5) (ρ 6) (ρ 7) (ρ 8) w) : codeP Try.prog (pan R) p10 (q24 R) ρ w := by
  have e : Code.block 0 (blkC p10) = p10 := by kernel_rfl
  rw [← e]
  exact blockQ (l19_ok R ρ w h)

def b17 (R : Ending → World → Prop) (x1 x5 x6 x7 : Value) (w : World) (_r : Tok R := tok R) : Prop :=
  l19 R x1 x5 x6 x7 (Go.Value.int Go.IntKind.i64 0) w
abbrev q25 (R : Ending → World → Prop) : Exit → Env → World → Prop := QX (fun ρ w => l19 R (ρ 1) (ρ 5) (ρ 6) (ρ 7) (ρ 8) w) (fun ρ w => R (.returned (ρ 4)) w) []
theorem b17_eq (R : Ending → World → Prop) (ρ : Env) (w : World) : (b17 R (ρ 1) (ρ 5) (ρ 6) (ρ 7) w) = codeP Try.prog (pan R) (preC 0 (fstC p2)) (q25 R) ρ w := by kernel_rfl
theorem b17_ok (R : Ending → World → Prop) (ρ : Env) (w : World) (h : b17 R (ρ 1) (ρ 5) (ρ 6) (ρ 7) w) : codeP Try.prog (pan R) (fstC p2) (q24 R) ρ w := by
  have e : appC 0 (preC 0 (fstC p2)) (dropC 1 (fstC p2)) = (fstC p2) := by kernel_rfl
  rw [← e]
  exact appQ (fun ρ w => l19 R (ρ 1) (ρ 5) (ρ 6) (ρ 7) (ρ 8) w) 0 ((b17_eq R ρ w).mp h) (fun ρ w h => k18_ok R ρ w h)
theorem k3_ok (R : Ending → World → Prop) (ρ : Env) (w : World) (h : b17 R (ρ 1) (ρ 5) (ρ 6) (ρ 7) w) : codeP Try.prog (pan R) p2 (q1 R) ρ w := by
  have e : Code.seq (fstC p2) (sndC p2) = p2 := by kernel_rfl
  rw [← e]
  exact seqQ (fun ρ w => b4 R (ρ 1) (ρ 5) (ρ 6) (ρ 7) w) (b17_ok R ρ w h) (fun ρ w h => b4_ok R ρ w h)

def b2 (R : Ending → World → Prop) (x1 x5 x6 : Value) (w : World) (_r : Tok R := tok R) : Prop :=
  CALL Try.prog (pan R) gram_New.id #[] w fun v1 w2 =>
  b17 R x1 x5 x6 v1 w2
abbrev q26 (R : Ending → World → Prop) : Exit → Env → World → Prop := QX (fun ρ w => b17 R (ρ 1) (ρ 5) (ρ 6) (ρ 7) w) (fun ρ w => R (.returned (ρ 4)) w) []
theorem b2_eq (R : Ending → World → Prop) (ρ : Env) (w : World) : (b2 R (ρ 1) (ρ 5) (ρ 6) w) = codeP Try.prog (pan R) (preC 0 p1) (q26 R) ρ w := by kernel_rfl
theorem b2_ok (R : Ending → World → Prop) (ρ : Env) (w : World) (h : b2 R (ρ 1) (ρ 5) (ρ 6) w) : codeP Try.prog (pan R) p1 (q1 R) ρ w := by
  have e : appC 0 (preC 0 p1) (dropC 1 p1) = p1 := by kernel_rfl
  rw [← e]
  exact appQ (fun ρ w => b17 R (ρ 1) (ρ 5) (ρ 6) (ρ 7) w) 0 ((b2_eq R ρ w).mp h) (fun ρ w h => k3_ok R ρ w h)
def b1_1 (R : Ending → World → Prop) (x0 x1 v1 : Value) (w2 : World) (_r : Tok R := tok R) : Prop :=
  RUN Try.prog (pan R) (bins .rem 3 (.tmp 28) (.const (Go.Value.int Go.IntKind.i64 64)) x0 (Go.Value.int Go.IntKind.i64 64)) w2 fun v3 w4 =>
  RUN Try.prog (pan R) (bins .lss 3 (.tmp 30) (.const (Go.Value.int Go.IntKind.i64 0)) v3 (Go.Value.int Go.IntKind.i64 0)) w4 fun v5 w6 =>
  SPL v5
  (RUN Try.prog (pan R) (Op.unary .neg v3) w6 fun v7 w8 =>
  b2 R x1 v1 v7 w8)
  (b2 R x1 v1 v3 w6)

def b1 (R : Ending → World → Prop) (x0 x1 : Value) (w : World) (_r : Tok R := tok R) : Prop :=
  CALL Try.prog (pan R) law02_awake.id #[] w fun v1 w2 =>
  b1_1 R x0 x1 v1 w2
abbrev q27 (R : Ending → World → Prop) : Exit → Env → World → Prop := QX (fun ρ w => b2 R (ρ 1) (ρ 5) (ρ 6) w) (fun ρ w => R (.returned (ρ 4)) w) []
theorem b1_eq (R : Ending → World → Prop) (ρ : Env) (w : World) : (b1 R (ρ 0) (ρ 1) w) = codeP Try.prog (pan R) (preC 3 code) (q27 R) ρ w := by kernel_rfl
theorem b1_ok (R : Ending → World → Prop) (ρ : Env) (w : World) (h : b1 R (ρ 0) (ρ 1) w) : codeP Try.prog (pan R) code (q1 R) ρ w := by
  have e : appC 3 (preC 3 code) (dropC 4 code) = code := by kernel_rfl
  rw [← e]
  exact appQ (fun ρ w => b2 R (ρ 1) (ρ 5) (ρ 6) w) 3 ((b1_eq R ρ w).mp h) (fun ρ w h => b2_ok R ρ w h)
/-- What is owed for a call. -/
def run (R : Ending → World → Prop) (a0 a1 : Value) (w : World) : Prop := b1 R a0 a1 w
theorem calls (R : Ending → World → Prop) (a0 a1 : Value) (w : World) (h : run R a0 a1 w) : Calls Try.prog id #[a0, a1] w R :=
  calls_of_t (f := id) (fn := Try.f5) (c := code) (by kernel_rfl) Try.func5 (by kernel_rfl) (by kernel_rfl) (args := [a0, a1]) (Nat.le_of_ble_eq_true rfl) rfl (b1_ok R (envOf [a0, a1]) w h)
theorem enters : Enters Try.prog id := fun args w => Try.call5 args w
theorem ct {a0 a1 : Value} {w : World} {S : Value → World → Prop} (h : ∀ R : Ending → World → Prop, (∀ v w, S v w → R (.returned v) w) → run R a0 a1 w) : Ct Try.prog id #[a0, a1] w S :=
  Ct.intro enters fun R hR => calls R a0 a1 w (h R hR)
attribute [irreducible] b7_1 b7_2 b7 b6_1 b6 b13 b16 b15_1 b15 b11 l10 b8 b4_1 b4_2 b4_3 b4 b22 b27 b26_1 b26 b32 b34 b33 b30_1 b30 b35 b29 b28 b24 b20 l19 b17 b2 b1_1 b1 run
attribute [go_sem] b7_1 b7_2 b7 b6_1 b6 b13 b16 b15_1 b15 b11 b8 b4_1 b4_2 b4_3 b4 b22 b27 b26_1 b26 b32 b34 b33 b30_1 b30 b35 b29 b28 b24 b20 b17 b2 b1_1 b1 run
end law02_GramFull

/-! ### presage/presagelaw02.GramSame -/
namespace law02_GramSame
noncomputable def code : Code := bodyOf Try.f6
def b1_1 (R : Ending → World → Prop) (v1 : Value) (w23 : World) (_r : Tok R := tok R) : Prop :=
  LD Try.prog (Instr.loadAt 36 v1) w23 fun v25 =>
  LD Try.prog (Instr.loadAt 36 v1) w23 fun v26 =>
  CALL Try.prog (pan R) gram_Same.id #[v25, v26] w23 fun v27 w28 =>
  R (.returned v27) w28
def b1_2 (R : Ending → World → Prop) (v1 v3 v18 v19 v20 : Value) (w21 : World) (_r : Tok R := tok R) : Prop :=
  Sem.run Try.prog (Instr.loadAt 36 v1) w21 = .ok v19 w21 ∧ (Sem.run Try.prog (Instr.loadAt 36 v3) w21 = .ok v18 w21 ∧ (CALL Try.prog (pan R) ref02_Same.id #[v18, v19] w21 fun v22 w23 =>
  PUR Try.prog (bins .eql 4 (.tmp 20) (.tmp 23) v20 v22) fun v24 =>
  SPL v24
  (b1_1 R v1 w23)
  (R (.returned (Go.Value.bool Bool.false)) w23)))
def b1_3 (R : Ending → World → Prop) (v1 v3 : Value) (w14 : World) (_r : Tok R := tok R) : Prop :=
  LD Try.prog (Instr.loadAt 36 v3) w14 fun v16 =>
  LD Try.prog (Instr.loadAt 36 v1) w14 fun v17 =>
  LD Try.prog (Instr.loadAt 36 v3) w14 fun v18 =>
  LD Try.prog (Instr.loadAt 36 v1) w14 fun v19 =>
  CALL Try.prog (pan R) gram_Same.id #[v16, v17] w14 fun v20 w21 =>
  b1_2 R v1 v3 v18 v19 v20 w21
def b1_4 (R : Ending → World → Prop) (v1 v3 v9 v10 v11 : Value) (w12 : World) (_r : Tok R := tok R) : Prop :=
  Sem.run Try.prog (Instr.loadAt 36 v3) w12 = .ok v10 w12 ∧ (Sem.run Try.prog (Instr.loadAt 36 v1) w12 = .ok v9 w12 ∧ (CALL Try.prog (pan R) ref02_Same.id #[v9, v10] w12 fun v13 w14 =>
  PUR Try.prog (bins .eql 4 (.tmp 11) (.tmp 14) v11 v13) fun v15 =>
  SPL v15
  (b1_3 R v1 v3 w14)
  (R (.returned (Go.Value.bool Bool.false)) w14)))
def b1_5 (R : Ending → World → Prop) (v1 v3 : Value) (w6 : World) (_r : Tok R := tok R) : Prop :=
  LD Try.prog (Instr.loadAt 36 v1) (World.drew w6) fun v7 =>
  LD Try.prog (Instr.loadAt 36 v3) (World.drew w6) fun v8 =>
  LD Try.prog (Instr.loadAt 36 v1) (World.drew w6) fun v9 =>
  LD Try.prog (Instr.loadAt 36 v3) (World.drew w6) fun v10 =>
  CALL Try.prog (pan R) gram_Same.id #[v7, v8] (World.drew w6) fun v11 w12 =>
  b1_4 R v1 v3 v9 v10 v11 w12
/- x0 a, x1 b -/
def b1 (R : Ending → World → Prop) (x0 x1 : Value) (w : World) (_r : Tok R := tok R) : Prop :=
  RUN Try.prog (pan R) (Instr.box 36 x0) w fun v1 w2 =>
  RUN Try.prog (pan R) (Instr.box 36 x1) w2 fun v3 w4 =>
  CALL Try.prog (pan R) law02_awake.id #[] w4 fun v5 w6 =>
  SPL v5
  (b1_5 R v1 v3 w6)
  (R (.returned (Go.Value.bool Bool.false)) (World.drew w6))
abbrev q1 (R : Ending → World → Prop) : Exit → Env → World → Prop := QX (fun ρ w => R (.returned (ρ 4)) w) (fun ρ w => R (.returned (ρ 4)) w) []
theorem b1_eq (R : Ending → World → Prop) (ρ : Env) (w : World) : (b1 R (ρ 0) (ρ 1) w) = codeP Try.prog (pan R) code (q1 R) ρ w := by kernel_rfl
theorem b1_ok (R : Ending → World → Prop) (ρ : Env) (w : World) (h : b1 R (ρ 0) (ρ 1) w) : codeP Try.prog (pan R) code (q1 R) ρ w := (b1_eq R ρ w).mp h
/-- What is owed for a call. -/
def run (R : Ending → World → Prop) (a0 a1 : Value) (w : World) : Prop := b1 R a0 a1 w
theorem calls (R : Ending → World → Prop) (a0 a1 : Value) (w : World) (h : run R a0 a1 w) : Calls Try.prog id #[a0, a1] w R :=
  calls_of_t (f := id) (fn := Try.f6) (c := code) (by kernel_rfl) Try.func6 (by kernel_rfl) (by kernel_rfl) (args := [a0, a1]) (Nat.le_of_ble_eq_true rfl) rfl (b1_ok R (envOf [a0, a1]) w h)
theorem enters : Enters Try.prog id := fun args w => Try.call6 args w
theorem ct {a0 a1 : Value} {w : World} {S : Value → World → Prop} (h : ∀ R : Ending → World → Prop, (∀ v w, S v w → R (.returned v) w) → run R a0 a1 w) : Ct Try.prog id #[a0, a1] w S :=
  Ct.intro enters fun R hR => calls R a0 a1 w (h R hR)
attribute [irreducible] b1_1 b1_2 b1_3 b1_4 b1_5 b1 run
attribute [go_sem] b1_1 b1_2 b1_3 b1_4 b1_5 b1 run
end law02_GramSame

/-! ### presage/presagelaw02.num -/
namespace law02_num
noncomputable def code : Code := bodyOf Try.f15
/- x0 e -/
def b1 (R : Ending → World → Prop) (x0 : Value) (w : World) (_r : Tok R := tok R) : Prop :=
  R (.returned x0) w
abbrev q1 (R : Ending → World → Prop) : Exit → Env → World → Prop := QX (fun ρ w => R (.returned (ρ 2)) w) (fun ρ w => R (.returned (ρ 2)) w) []
theorem b1_eq (R : Ending → World → Prop) (ρ : Env) (w : World) : (b1 R (ρ 0) w) = codeP Try.prog (pan R) code (q1 R) ρ w := by kernel_rfl
theorem b1_ok (R : Ending → World → Prop) (ρ : Env) (w : World) (h : b1 R (ρ 0) w) : codeP Try.prog (pan R) code (q1 R) ρ w := (b1_eq R ρ w).mp h
/-- What is owed for a call. -/
def run (R : Ending → World → Prop) (a0 : Value) (w : World) : Prop := b1 R a0 w
theorem calls (R : Ending → World → Prop) (a0 : Value) (w : World) (h : run R a0 w) : Calls Try.prog id #[a0] w R :=
  calls_of_t (f := id) (fn := Try.f15) (c := code) (by kernel_rfl) Try.func15 (by kernel_rfl) (by kernel_rfl) (args := [a0]) (Nat.le_of_ble_eq_true rfl) rfl (b1_ok R (envOf [a0]) w h)
theorem enters : Enters Try.prog id := fun args w => Try.call15 args w
theorem ct {a0 : Value} {w : World} {S : Value → World → Prop} (h : ∀ R : Ending → World → Prop, (∀ v w, S v w → R (.returned v) w) → run R a0 w) : Ct Try.prog id #[a0] w S :=
  Ct.intro enters fun R hR => calls R a0 w (h R hR)
attribute [irreducible] b1 run
attribute [go_sem] b1 run
end law02_num

/-! ### presage/presagelaw02.awake -/
namespace law02_awake
noncomputable def code : Code := bodyOf Try.f20
def b1_1 (R : Ending → World → Prop) (v29 : Value) (w59 : World) (_r : Tok R := tok R) : Prop :=
  RUN Try.prog (pan R) (Instr.loadAt 36 v29) w59 fun v60 w61 =>
  CALL Try.prog (pan R) gram_Closed.id #[v60] w61 fun v62 w63 =>
  RUN Try.prog (pan R) (Op.unary .not v62) w63 fun v64 w65 =>
  R (.returned v64) w65
def b1_2 (R : Ending → World → Prop) (v29 : Value) (w55 : World) (_r : Tok R := tok R) : Prop :=
  RUN Try.prog (pan R) (Instr.loadAt 36 v29) w55 fun v56 w57 =>
  CALL Try.prog (pan R) gram_Valid.id #[v56] w57 fun v58 w59 =>
  SPL v58
  (b1_1 R v29 w59)
  (R (.returned (Go.Value.bool Bool.false)) w59)
def b1_3 (R : Ending → World → Prop) (v29 : Value) (w47 : World) (_r : Tok R := tok R) : Prop :=
  RUN Try.prog (pan R) (Instr.fieldAt 36 v29 0) w47 fun v48 w49 =>
  RUN Try.prog (pan R) (Instr.loadAt 32 v48) w49 fun v50 w51 =>
  RUN Try.prog (pan R) (Builtin.len_ #[32] 3 #[v50]) w51 fun v52 w53 =>
  RUN Try.prog (pan R) (bins .eql 3 (.tmp 68) (.const (Go.Value.int Go.IntKind.i64 2)) v52 (Go.Value.int Go.IntKind.i64 2)) w53 fun v54 w55 =>
  SPL v54
  (b1_2 R v29 w55)
  (R (.returned (Go.Value.bool Bool.false)) w55)
def b1_4 (R : Ending → World → Prop) (v11 v19 v29 : Value) (w43 : World) (_r : Tok R := tok R) : Prop :=
  RUN Try.prog (pan R) (bins .eql 3 (.tmp 58) (.const (Go.Value.int Go.IntKind.i64 (-1))) v11 (Go.Value.int Go.IntKind.i64 (-1))) w43 fun v44 w45 =>
  SPL v44
  (RUN Try.prog (pan R) (bins .eql 3 (.tmp 62) (.const (Go.Value.int Go.IntKind.i64 0)) v19 (Go.Value.int Go.IntKind.i64 0)) w45 fun v46 w47 =>
  SPL v46
  (b1_3 R v29 w47)
  (R (.returned (Go.Value.bool Bool.false)) w47))
  (R (.returned (Go.Value.bool Bool.false)) w45)
def b1_5 (R : Ending → World → Prop) (v5 v11 v19 v27 v29 : Value) (w39 : World) (_r : Tok R := tok R) : Prop :=
  RUN Try.prog (pan R) (bins .eql 22 (.tmp 50) (.const (Go.Value.int Go.IntKind.i64 0)) v27 (Go.Value.int Go.IntKind.i64 0)) w39 fun v40 w41 =>
  SPL v40
  (RUN Try.prog (pan R) (bins .eql 3 (.tmp 54) (.const (Go.Value.int Go.IntKind.i64 1)) v5 (Go.Value.int Go.IntKind.i64 1)) w41 fun v42 w43 =>
  SPL v42
  (b1_4 R v11 v19 v29 w43)
  (R (.returned (Go.Value.bool Bool.false)) w43))
  (R (.returned (Go.Value.bool Bool.false)) w41)
def b1_6 (R : Ending → World → Prop) (v5 v11 v13 v19 v21 v27 v29 : Value) (w35 : World) (_r : Tok R := tok R) : Prop :=
  RUN Try.prog (pan R) (bins .eql 22 (.tmp 42) (.const (Go.Value.int Go.IntKind.i64 0)) v13 (Go.Value.int Go.IntKind.i64 0)) w35 fun v36 w37 =>
  SPL v36
  (RUN Try.prog (pan R) (bins .eql 22 (.tmp 46) (.const (Go.Value.int Go.IntKind.i64 0)) v21 (Go.Value.int Go.IntKind.i64 0)) w37 fun v38 w39 =>
  SPL v38
  (b1_5 R v5 v11 v19 v27 v29 w39)
  (R (.returned (Go.Value.bool Bool.false)) w39))
  (R (.returned (Go.Value.bool Bool.false)) w37)
def b1_7 (R : Ending → World → Prop) (v1 v5 v7 v11 v13 v19 v21 v23 : Value) (w24 : World) (_r : Tok R := tok R) : Prop :=
  RUN Try.prog (pan R) (Instr.extract v23 0) w24 fun v25 w26 =>
  RUN Try.prog (pan R) (Instr.extract v23 1) w26 fun v27 w28 =>
  RUN Try.prog (pan R) (Instr.alloc 36 true (.tuple #[])) w28 fun v29 w30 =>
  RUNU Try.prog (pan R) (Instr.storeAt 36 v29 v25) w30 fun w31 =>
  RUN Try.prog (pan R) (bins .neq 24 (.tmp 35) (.const (Go.Value.pointer Option.none)) v1 (Go.Value.pointer Option.none)) w31 fun v32 w33 =>
  SPL v32
  (RUN Try.prog (pan R) (bins .eql 22 (.tmp 38) (.const (Go.Value.int Go.IntKind.i64 0)) v7 (Go.Value.int Go.IntKind.i64 0)) w33 fun v34 w35 =>
  SPL v34
  (b1_6 R v5 v11 v13 v19 v21 v27 v29 w35)
  (R (.returned (Go.Value.bool Bool.false)) w35))
  (R (.returned (Go.Value.bool Bool.false)) w33)
def b1_8 (R : Ending → World → Prop) (v1 v5 v7 v11 v13 v17 : Value) (w18 : World) (_r : Tok R := tok R) : Prop :=
  RUN Try.prog (pan R) (Instr.extract v17 0) w18 fun v19 w20 =>
  RUN Try.prog (pan R) (Instr.extract v17 1) w20 fun v21 w22 =>
  CALL Try.prog (pan R) gram_Builder_Grammar.id #[v1] w22 fun v23 w24 =>
  b1_7 R v1 v5 v7 v11 v13 v19 v21 v23 w24
def b1_9 (R : Ending → World → Prop) (v1 v5 v7 v9 : Value) (w10 : World) (_r : Tok R := tok R) : Prop :=
  RUN Try.prog (pan R) (Instr.extract v9 0) w10 fun v11 w12 =>
  RUN Try.prog (pan R) (Instr.extract v9 1) w12 fun v13 w14 =>
  RUN Try.prog (pan R) (Instr.buildSlice 30 2 #[(0, v11), (1, v5)]) w14 fun v15 w16 =>
  CALL Try.prog (pan R) gram_Builder_Rule.id #[v1, v11, v15] w16 fun v17 w18 =>
  b1_8 R v1 v5 v7 v11 v13 v17 w18
def b1_10 (R : Ending → World → Prop) (v1 v3 : Value) (w4 : World) (_r : Tok R := tok R) : Prop :=
  RUN Try.prog (pan R) (Instr.extract v3 0) w4 fun v5 w6 =>
  RUN Try.prog (pan R) (Instr.extract v3 1) w6 fun v7 w8 =>
  CALL Try.prog (pan R) gram_Builder_Non.id #[v1, (Go.Value.string { data := #[101] })] w8 fun v9 w10 =>
  b1_9 R v1 v5 v7 v9 w10

def b1 (R : Ending → World → Prop) (w : World) (_r : Tok R := tok R) : Prop :=
  CALL Try.prog (pan R) gram_New.id #[] w fun v1 w2 =>
  CALL Try.prog (pan R) gram_Builder_Term.id #[v1, (Go.Value.string { data := #[43] })] w2 fun v3 w4 =>
  b1_10 R v1 v3 w4
abbrev q1 (R : Ending → World → Prop) : Exit → Env → World → Prop := QX (fun ρ w => R (.returned (ρ 0)) w) (fun ρ w => R (.returned (ρ 0)) w) []
theorem b1_eq (R : Ending → World → Prop) (ρ : Env) (w : World) : (b1 R w) = codeP Try.prog (pan R) code (q1 R) ρ w := by kernel_rfl
theorem b1_ok (R : Ending → World → Prop) (ρ : Env) (w : World) (h : b1 R w) : codeP Try.prog (pan R) code (q1 R) ρ w := (b1_eq R ρ w).mp h
/-- What is owed for a call. -/
def run (R : Ending → World → Prop) (w : World) : Prop := b1 R w
theorem calls (R : Ending → World → Prop) (w : World) (h : run R w) : Calls Try.prog id #[] w R :=
  calls_of_t (f := id) (fn := Try.f20) (c := code) (by kernel_rfl) Try.func20 (by kernel_rfl) (by kernel_rfl) (args := []) (Nat.le_of_ble_eq_true rfl) rfl (b1_ok R (envOf []) w h)
theorem enters : Enters Try.prog id := fun args w => Try.call20 args w
theorem ct {w : World} {S : Value → World → Prop} (h : ∀ R : Ending → World → Prop, (∀ v w, S v w → R (.returned v) w) → run R w) : Ct Try.prog id #[] w S :=
  Ct.intro enters fun R hR => calls R w (h R hR)
attribute [irreducible] b1_1 b1_2 b1_3 b1_4 b1_5 b1_6 b1_7 b1_8 b1_9 b1_10 b1 run
attribute [go_sem] b1_1 b1_2 b1_3 b1_4 b1_5 b1_6 b1_7 b1_8 b1_9 b1_10 b1 run
end law02_awake
end Go.Proofs.Ytmhebgebfjnfjaa
