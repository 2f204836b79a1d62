/- Shallow programs, written by a program of ours (gen.py) off the translation; each is tied to the code by the kernel. -/
import Derived.Test.YtkacbjhiobnbfaaGa
set_option linter.unusedVariables false
set_option maxRecDepth 100000
namespace Go.Proofs.Ytkacbjhiobnbfaa
open Go.Px







/-! ### presage/presagelaw20.TreeNobody -/
namespace law20_TreeNobody
noncomputable def code : Code := bodyOf Try.f13
def b1_1 (R : EP) (v53 : Value) (w54 : World) (_r : Tok R := tok R) : Prop :=
  RUN Try.prog (pan R) (bins .eql 3 (.tmp 74) (.const (Go.Value.int Go.IntKind.i64 1)) v53 (Go.Value.int Go.IntKind.i64 1)) w54 fun v55 w56 =>
  SPL v55
  (CALL Try.prog (pan R) law20_awake.id #[] w56 fun v57 w58 =>
  R (.returned v57) w58)
  (R (.returned (Go.Value.bool Bool.false)) w56)
def b1_2 (R : EP) (v19 v29 : Value) (w50 : World) (_r : Tok R := tok R) : Prop :=
  RUN Try.prog (pan R) (bins .eql 29 (.tmp 69) (.const (Go.Value.int Go.IntKind.i64 0)) v29 (Go.Value.int Go.IntKind.i64 0)) w50 fun v51 w52 =>
  SPL v51
  (CALL Try.prog (pan R) tree_Arena_Len.id #[v19] w52 fun v53 w54 =>
  b1_1 R v53 w54)
  (R (.returned (Go.Value.bool Bool.false)) w52)
def b1_3 (R : EP) (v19 v27 v29 v43 : Value) (w44 : World) (_r : Tok R := tok R) : Prop :=
  RUN Try.prog (pan R) (Builtin.len_ #[49] 3 #[v43]) w44 fun v45 w46 =>
  RUN Try.prog (pan R) (bins .eql 3 (.tmp 61) (.const (Go.Value.int Go.IntKind.i64 0)) v45 (Go.Value.int Go.IntKind.i64 0)) w46 fun v47 w48 =>
  SPL v47
  (RUN Try.prog (pan R) (bins .eql 3 (.tmp 65) (.const (Go.Value.int Go.IntKind.i64 0)) v27 (Go.Value.int Go.IntKind.i64 0)) w48 fun v49 w50 =>
  SPL v49
  (b1_2 R v19 v29 w50)
  (R (.returned (Go.Value.bool Bool.false)) w50))
  (R (.returned (Go.Value.bool Bool.false)) w48)
def b1_4 (R : EP) (v19 v27 v29 v39 : Value) (w40 : World) (_r : Tok R := tok R) : Prop :=
  RUN Try.prog (pan R) (bins .eql 3 (.tmp 55) (.const (Go.Value.int Go.IntKind.i64 0)) v39 (Go.Value.int Go.IntKind.i64 0)) w40 fun v41 w42 =>
  SPL v41
  (CALL Try.prog (pan R) tree_Arena_Nodes.id #[(Go.Value.pointer Option.none)] w42 fun v43 w44 =>
  b1_3 R v19 v27 v29 v43 w44)
  (R (.returned (Go.Value.bool Bool.false)) w42)
def b1_5 (R : EP) (v15 v19 v27 v29 : Value) (w36 : World) (_r : Tok R := tok R) : Prop :=
  RUN Try.prog (pan R) (bins .eql 29 (.tmp 50) (.const (Go.Value.int Go.IntKind.i64 1)) v15 (Go.Value.int Go.IntKind.i64 1)) w36 fun v37 w38 =>
  SPL v37
  (CALL Try.prog (pan R) tree_Arena_Len.id #[(Go.Value.pointer Option.none)] w38 fun v39 w40 =>
  b1_4 R v19 v27 v29 v39 w40)
  (R (.returned (Go.Value.bool Bool.false)) w38)
def b1_6 (R : EP) (v5 v13 v15 v19 v27 v29 : Value) (w32 : World) (_r : Tok R := tok R) : Prop :=
  RUN Try.prog (pan R) (bins .eql 3 (.tmp 42) (.const (Go.Value.int Go.IntKind.i64 0)) v13 (Go.Value.int Go.IntKind.i64 0)) w32 fun v33 w34 =>
  SPL v33
  (RUN Try.prog (pan R) (bins .eql 29 (.tmp 46) (.const (Go.Value.int Go.IntKind.i64 1)) v5 (Go.Value.int Go.IntKind.i64 1)) w34 fun v35 w36 =>
  SPL v35
  (b1_5 R v15 v19 v27 v29 w36)
  (R (.returned (Go.Value.bool Bool.false)) w36))
  (R (.returned (Go.Value.bool Bool.false)) w34)
def b1_7 (R : EP) (v3 v5 v13 v15 v19 v25 : Value) (w26 : World) (_r : Tok R := tok R) : Prop :=
  RUN Try.prog (pan R) (Instr.extract v25 0) w26 fun v27 w28 =>
  RUN Try.prog (pan R) (Instr.extract v25 1) w28 fun v29 w30 =>
  RUN Try.prog (pan R) (bins .eql 3 (.tmp 39) (.const (Go.Value.int Go.IntKind.i64 0)) v3 (Go.Value.int Go.IntKind.i64 0)) w30 fun v31 w32 =>
  SPL v31
  (b1_6 R v5 v13 v15 v19 v27 v29 w32)
  (R (.returned (Go.Value.bool Bool.false)) w32)
def b1_8 (R : EP) (x0 v3 v5 v13 v15 v19 v21 : Value) (w22 : World) (_r : Tok R := tok R) : Prop :=
  CALL Try.prog (pan R) law20_pick.id #[x0, (Go.Value.int Go.IntKind.i64 7)] w22 fun v23 w24 =>
  CALL Try.prog (pan R) tree_Arena_Leaf.id #[v19, v21, v23] w24 fun v25 w26 =>
  b1_7 R v3 v5 v13 v15 v19 v25 w26
def b1_9 (R : EP) (x0 v3 v5 v11 : Value) (w12 : World) (_r : Tok R := tok R) : Prop :=
  RUN Try.prog (pan R) (Instr.extract v11 0) w12 fun v13 w14 =>
  RUN Try.prog (pan R) (Instr.extract v11 1) w14 fun v15 w16 =>
  RUN Try.prog (pan R) (Instr.build 81 #[]) w16 fun v17 w18 =>
  RUN Try.prog (pan R) (Instr.box 81 v17) w18 fun v19 w20 =>
  CALL Try.prog (pan R) law20_pick.id #[x0, (Go.Value.int Go.IntKind.i64 99)] w20 fun v21 w22 =>
  b1_8 R x0 v3 v5 v13 v15 v19 v21 w22
def b1_10 (R : EP) (x0 x1 v1 : Value) (w2 : World) (_r : Tok R := tok R) : Prop :=
  RUN Try.prog (pan R) (Instr.extract v1 0) w2 fun v3 w4 =>
  RUN Try.prog (pan R) (Instr.extract v1 1) w4 fun v5 w6 =>
  RUN Try.prog (pan R) (Instr.buildSlice 24 0 #[]) w6 fun v7 w8 =>
  RUN Try.prog (pan R) (Builtin.append_ #[24, 24] 24 #[v7, x1]) w8 fun v9 w10 =>
  CALL Try.prog (pan R) tree_Arena_Join.id #[(Go.Value.pointer Option.none), x0, (Go.Value.int Go.IntKind.i64 0), v9] w10 fun v11 w12 =>
  b1_9 R x0 v3 v5 v11 w12

def b1 (R : EP) (x0 x1 : Value) (w : World) (_r : Tok R := tok R) : Prop :=
  CALL Try.prog (pan R) tree_Arena_Leaf.id #[(Go.Value.pointer Option.none), x0, (Go.Value.int Go.IntKind.i64 0)] w fun v1 w2 =>
  b1_10 R x0 x1 v1 w2
abbrev q1 (R : EP) : XP := QX (fun ρ w => R (.returned (ρ 4)) w) (fun ρ w => R (.returned (ρ 4)) w) []
theorem b1_eq (R : EP) (ρ : Env) (w : World) : (b1 R (ρ 0) (ρ 1) w) = codeP Try.prog (pan R) code (q1 R) ρ w := by kernel_rfl
theorem b1_ok (R : EP) (ρ : Env) (w : World) (h : b1 R (ρ 0) (ρ 1) w) : codeP Try.prog (pan R) code (q1 R) ρ w := (b1_eq R ρ w).mp h
/-- What is owed for a call. -/
def run (R : EP) (a0 a1 : Value) (w : World) : Prop := b1 R a0 a1 w
theorem calls (R : EP) (a0 a1 : Value) (w : World) (h : run R a0 a1 w) : Calls Try.prog id #[a0, a1] w R :=
  calls_of_t (f := id) (fn := Try.f13) (c := code) (by kernel_rfl) Try.func13 (by kernel_rfl) (by kernel_rfl) (args := [a0, a1]) (Nat.le_of_ble_eq_true rfl) rfl (b1_ok R (envOf [a0, a1]) w h)
theorem enters : Enters Try.prog id := fun args w => Try.call13 args w
theorem ct {a0 a1 : Value} {w : World} {S : VP} (h : ∀ R : EP, (∀ v w, S v w → R (.returned v) w) → run R a0 a1 w) : Ct Try.prog id #[a0, a1] w S :=
  Ct.intro enters fun R hR => calls R a0 a1 w (h R hR)
attribute [irreducible] b1_1 b1_2 b1_3 b1_4 b1_5 b1_6 b1_7 b1_8 b1_9 b1_10 b1 run
attribute [go_sem] b1_1 b1_2 b1_3 b1_4 b1_5 b1_6 b1_7 b1_8 b1_9 b1_10 b1 run
end law20_TreeNobody

/-! ### presage/presagelaw20.awake -/
namespace law20_awake
noncomputable def code : Code := bodyOf Try.f40
def b1_1 (R : EP) (w59 : World) (_r : Tok R := tok R) : Prop :=
  CALL Try.prog (pan R) tree_New.id #[] w59 fun v60 w61 =>
  RUN Try.prog (pan R) (bins .neq 65 (.tmp 67) (.const (Go.Value.pointer Option.none)) v60 (Go.Value.pointer Option.none)) w61 fun v62 w63 =>
  R (.returned v62) w63
def b1_2 (R : EP) (v5 v7 : Value) (w51 : World) (_r : Tok R := tok R) : Prop :=
  RUN Try.prog (pan R) (Instr.loadAt 27 v7) w51 fun v52 w53 =>
  RUN Try.prog (pan R) (Instr.buildSlice 24 2 #[(0, (Go.Value.int Go.IntKind.i64 2)), (1, (Go.Value.int Go.IntKind.i64 1))]) w53 fun v54 w55 =>
  CALL Try.prog (pan R) tree_Derives.id #[v52, v5, (Go.Value.int Go.IntKind.i64 4), v54] w55 fun v56 w57 =>
  RUN Try.prog (pan R) (Op.unary .not v56) w57 fun v58 w59 =>
  SPL v58
  (b1_1 R w59)
  (R (.returned (Go.Value.bool Bool.false)) w59)
def b1_3 (R : EP) (v5 v7 : Value) (w45 : World) (_r : Tok R := tok R) : Prop :=
  RUN Try.prog (pan R) (Instr.loadAt 27 v7) w45 fun v46 w47 =>
  RUN Try.prog (pan R) (Instr.buildSlice 24 3 #[(0, (Go.Value.int Go.IntKind.i64 2)), (1, (Go.Value.int Go.IntKind.i64 1)), (2, (Go.Value.int Go.IntKind.i64 2))]) w47 fun v48 w49 =>
  CALL Try.prog (pan R) tree_Derives.id #[v46, v5, (Go.Value.int Go.IntKind.i64 4), v48] w49 fun v50 w51 =>
  SPL v50
  (b1_2 R v5 v7 w51)
  (R (.returned (Go.Value.bool Bool.false)) w51)
def b1_4 (R : EP) (v5 v7 v18 v26 : Value) (w39 : World) (_r : Tok R := tok R) : Prop :=
  RUN Try.prog (pan R) (Instr.buildSlice 24 2 #[(0, (Go.Value.int Go.IntKind.i64 1)), (1, (Go.Value.int Go.IntKind.i64 2))]) w39 fun v40 w41 =>
  CALL Try.prog (pan R) ref01_Ints.id #[v18, v40] w41 fun v42 w43 =>
  SPL v42
  (RUN Try.prog (pan R) (bins .eql 9 (.tmp 50) (.const (Go.Value.string { data := #[101, 40, 101, 40, 39, 110, 39, 41, 32, 39, 43, 39, 32, 39, 110, 39, 41] })) v26 (Go.Value.string { data := #[101, 40, 101, 40, 39, 110, 39, 41, 32, 39, 43, 39, 32, 39, 110, 39, 41] })) w43 fun v44 w45 =>
  SPL v44
  (b1_3 R v5 v7 w45)
  (R (.returned (Go.Value.bool Bool.false)) w45))
  (R (.returned (Go.Value.bool Bool.false)) w43)
def b1_5 (R : EP) (v5 v7 v12 v18 v26 : Value) (w35 : World) (_r : Tok R := tok R) : Prop :=
  RUN Try.prog (pan R) (Instr.buildSlice 24 3 #[(0, (Go.Value.int Go.IntKind.i64 2)), (1, (Go.Value.int Go.IntKind.i64 1)), (2, (Go.Value.int Go.IntKind.i64 2))]) w35 fun v36 w37 =>
  CALL Try.prog (pan R) ref01_Ints.id #[v12, v36] w37 fun v38 w39 =>
  SPL v38
  (b1_4 R v5 v7 v18 v26 w39)
  (R (.returned (Go.Value.bool Bool.false)) w39)
def b1_6 (R : EP) (v5 v7 v12 v18 v20 v26 v28 : Value) (w31 : World) (_r : Tok R := tok R) : Prop :=
  RUN Try.prog (pan R) (bins .eql 29 (.tmp 32) (.const (Go.Value.int Go.IntKind.i64 0)) v20 (Go.Value.int Go.IntKind.i64 0)) w31 fun v32 w33 =>
  SPL v32
  (RUN Try.prog (pan R) (bins .eql 29 (.tmp 36) (.const (Go.Value.int Go.IntKind.i64 0)) v28 (Go.Value.int Go.IntKind.i64 0)) w33 fun v34 w35 =>
  SPL v34
  (b1_5 R v5 v7 v12 v18 v26 w35)
  (R (.returned (Go.Value.bool Bool.false)) w35))
  (R (.returned (Go.Value.bool Bool.false)) w33)
def b1_7 (R : EP) (v5 v7 v12 v14 v18 v20 v24 : Value) (w25 : World) (_r : Tok R := tok R) : Prop :=
  RUN Try.prog (pan R) (Instr.extract v24 0) w25 fun v26 w27 =>
  RUN Try.prog (pan R) (Instr.extract v24 1) w27 fun v28 w29 =>
  RUN Try.prog (pan R) (bins .eql 29 (.tmp 29) (.const (Go.Value.int Go.IntKind.i64 0)) v14 (Go.Value.int Go.IntKind.i64 0)) w29 fun v30 w31 =>
  SPL v30
  (b1_6 R v5 v7 v12 v18 v20 v26 v28 w31)
  (R (.returned (Go.Value.bool Bool.false)) w31)
def b1_8 (R : EP) (v5 v7 v12 v14 v16 : Value) (w17 : World) (_r : Tok R := tok R) : Prop :=
  RUN Try.prog (pan R) (Instr.extract v16 0) w17 fun v18 w19 =>
  RUN Try.prog (pan R) (Instr.extract v16 1) w19 fun v20 w21 =>
  RUN Try.prog (pan R) (Instr.loadAt 27 v7) w21 fun v22 w23 =>
  CALL Try.prog (pan R) tree_Text.id #[v22, v5, (Go.Value.int Go.IntKind.i64 4)] w23 fun v24 w25 =>
  b1_7 R v5 v7 v12 v14 v18 v20 v24 w25
def b1_9 (R : EP) (v5 v7 v10 : Value) (w11 : World) (_r : Tok R := tok R) : Prop :=
  RUN Try.prog (pan R) (Instr.extract v10 0) w11 fun v12 w13 =>
  RUN Try.prog (pan R) (Instr.extract v10 1) w13 fun v14 w15 =>
  CALL Try.prog (pan R) tree_Rightmost.id #[v5, (Go.Value.int Go.IntKind.i64 4)] w15 fun v16 w17 =>
  b1_8 R v5 v7 v12 v14 v16 w17
def b1_10 (R : EP) (v1 : Value) (w2 : World) (_r : Tok R := tok R) : Prop :=
  RUN Try.prog (pan R) (Instr.extract v1 0) w2 fun v3 w4 =>
  RUN Try.prog (pan R) (Instr.extract v1 1) w4 fun v5 w6 =>
  RUN Try.prog (pan R) (Instr.alloc 27 true (.tuple #[])) w6 fun v7 w8 =>
  RUNU Try.prog (pan R) (Instr.storeAt 27 v7 v3) w8 fun w9 =>
  CALL Try.prog (pan R) tree_Frontier.id #[v5, (Go.Value.int Go.IntKind.i64 4)] w9 fun v10 w11 =>
  b1_9 R v5 v7 v10 w11

def b1 (R : EP) (w : World) (_r : Tok R := tok R) : Prop :=
  CALL Try.prog (pan R) law20_chapter.id #[] w fun v1 w2 =>
  b1_10 R v1 w2
abbrev q1 (R : EP) : XP := QX (fun ρ w => R (.returned (ρ 0)) w) (fun ρ w => R (.returned (ρ 0)) w) []
theorem b1_eq (R : EP) (ρ : Env) (w : World) : (b1 R w) = codeP Try.prog (pan R) code (q1 R) ρ w := by kernel_rfl
theorem b1_ok (R : EP) (ρ : Env) (w : World) (h : b1 R w) : codeP Try.prog (pan R) code (q1 R) ρ w := (b1_eq R ρ w).mp h
/-- What is owed for a call. -/
def run (R : EP) (w : World) : Prop := b1 R w
theorem calls (R : EP) (w : World) (h : run R w) : Calls Try.prog id #[] w R :=
  calls_of_t (f := id) (fn := Try.f40) (c := code) (by kernel_rfl) Try.func40 (by kernel_rfl) (by kernel_rfl) (args := []) (Nat.le_of_ble_eq_true rfl) rfl (b1_ok R (envOf []) w h)
theorem enters : Enters Try.prog id := fun args w => Try.call40 args w
theorem ct {w : World} {S : VP} (h : ∀ R : EP, (∀ v w, S v w → R (.returned v) w) → run R w) : Ct Try.prog id #[] w S :=
  Ct.intro enters fun R hR => calls R w (h R hR)
attribute [irreducible] b1_1 b1_2 b1_3 b1_4 b1_5 b1_6 b1_7 b1_8 b1_9 b1_10 b1 run
attribute [go_sem] b1_1 b1_2 b1_3 b1_4 b1_5 b1_6 b1_7 b1_8 b1_9 b1_10 b1 run
end law20_awake

/-! ### presage/presagelaw20.pick -/
namespace law20_pick
noncomputable def code : Code := bodyOf Try.f55
noncomputable abbrev p1 : Code := dropC 2 code
def b2 (R : EP) (x0 x1 : Value) (w : World) (_r : Tok R := tok R) : Prop :=
  RUN Try.prog (pan R) (bins .rem 3 (.tmp 10) (.tmp 11) x0 x1) w fun v1 w2 =>
  R (.returned v1) w2
abbrev q1 (R : EP) : XP := QX (fun ρ w => R (.returned (ρ 4)) w) (fun ρ w => R (.returned (ρ 4)) w) []
theorem b2_eq (R : EP) (ρ : Env) (w : World) : (b2 R (ρ 0) (ρ 1) w) = codeP Try.prog (pan R) p1 (q1 R) ρ w := by kernel_rfl
theorem b2_ok (R : EP) (ρ : Env) (w : World) (h : b2 R (ρ 0) (ρ 1) w) : codeP Try.prog (pan R) p1 (q1 R) ρ w := (b2_eq R ρ w).mp h
def b1_1 (R : EP) (x0 x1 : Value) (w2 : World) (_r : Tok R := tok R) : Prop :=
  RUN Try.prog (pan R) (bins .add 3 (.tmp 7) (.const (Go.Value.int Go.IntKind.i64 1)) x0 (Go.Value.int Go.IntKind.i64 1)) w2 fun v3 w4 =>
  RUN Try.prog (pan R) (Op.unary .neg v3) w4 fun v5 w6 =>
  b2 R v5 x1 w6
def b1 (R : EP) (x0 x1 : Value) (w : World) (_r : Tok R := tok R) : Prop :=
  RUN Try.prog (pan R) (bins .lss 3 (.tmp 5) (.const (Go.Value.int Go.IntKind.i64 0)) x0 (Go.Value.int Go.IntKind.i64 0)) w fun v1 w2 =>
  SPL v1
  (b1_1 R x0 x1 w2)
  (b2 R x0 x1 w2)
abbrev q2 (R : EP) : XP := QX (fun ρ w => b2 R (ρ 0) (ρ 1) w) (fun ρ w => R (.returned (ρ 4)) w) []
theorem b1_eq (R : EP) (ρ : Env) (w : World) : (b1 R (ρ 0) (ρ 1) w) = codeP Try.prog (pan R) (preC 1 code) (q2 R) ρ w := by kernel_rfl
theorem b1_ok (R : EP) (ρ : Env) (w : World) (h : b1 R (ρ 0) (ρ 1) w) : codeP Try.prog (pan R) code (q1 R) ρ w := by
  have e : appC 1 (preC 1 code) (dropC 2 code) = code := by kernel_rfl
  rw [← e]
  exact appQ (fun ρ w => b2 R (ρ 0) (ρ 1) w) 1 ((b1_eq R ρ w).mp h) (fun ρ w h => b2_ok R ρ w h)
/-- What is owed for a call. -/
def run (R : EP) (a0 a1 : Value) (w : World) : Prop := b1 R a0 a1 w
theorem calls (R : EP) (a0 a1 : Value) (w : World) (h : run R a0 a1 w) : Calls Try.prog id #[a0, a1] w R :=
  calls_of_t (f := id) (fn := Try.f55) (c := code) (by kernel_rfl) Try.func55 (by kernel_rfl) (by kernel_rfl) (args := [a0, a1]) (Nat.le_of_ble_eq_true rfl) rfl (b1_ok R (envOf [a0, a1]) w h)
theorem enters : Enters Try.prog id := fun args w => Try.call55 args w
theorem ct {a0 a1 : Value} {w : World} {S : VP} (h : ∀ R : EP, (∀ v w, S v w → R (.returned v) w) → run R a0 a1 w) : Ct Try.prog id #[a0, a1] w S :=
  Ct.intro enters fun R hR => calls R a0 a1 w (h R hR)
attribute [irreducible] b2 b1_1 b1 run
attribute [go_sem] b2 b1_1 b1 run
end law20_pick

/-! ### presage/presagelaw20.chapter -/
namespace law20_chapter
noncomputable def code : Code := bodyOf Try.f90

def b1 (R : EP) (w : World) (_r : Tok R := tok R) : Prop :=
  RUN Try.prog (pan R) (Instr.alloc 27 true (.tuple #[])) w fun v1 w2 =>
  RUN Try.prog (pan R) (Instr.build 106 #[]) w2 fun v3 w4 =>
  RUN Try.prog (pan R) (Instr.build 106 #[(0, (Go.Value.string { data := #[43] }))]) w4 fun v5 w6 =>
  RUN Try.prog (pan R) (Instr.build 106 #[(0, (Go.Value.string { data := #[110] }))]) w6 fun v7 w8 =>
  RUN Try.prog (pan R) (Instr.buildSlice 22 3 #[(0, v3), (1, v5), (2, v7)]) w8 fun v9 w10 =>
  RUN Try.prog (pan R) (Instr.buildSlice 23 2 #[(0, (Go.Value.string { data := #[] })), (1, (Go.Value.string { data := #[101] }))]) w10 fun v11 w12 =>
  RUN Try.prog (pan R) (Instr.buildSlice 24 1 #[(0, (Go.Value.int Go.IntKind.i64 4))]) w12 fun v13 w14 =>
  RUN Try.prog (pan R) (Instr.build 47 #[(0, (Go.Value.int Go.IntKind.i64 3)), (1, v13)]) w14 fun v15 w16 =>
  RUN Try.prog (pan R) (Instr.buildSlice 24 3 #[(0, (Go.Value.int Go.IntKind.i64 4)), (1, (Go.Value.int Go.IntKind.i64 1)), (2, (Go.Value.int Go.IntKind.i64 2))]) w16 fun v17 w18 =>
  RUN Try.prog (pan R) (Instr.build 47 #[(0, (Go.Value.int Go.IntKind.i64 4)), (1, v17)]) w18 fun v19 w20 =>
  RUN Try.prog (pan R) (Instr.buildSlice 24 1 #[(0, (Go.Value.int Go.IntKind.i64 2))]) w20 fun v21 w22 =>
  RUN Try.prog (pan R) (Instr.build 47 #[(0, (Go.Value.int Go.IntKind.i64 4)), (1, v21)]) w22 fun v23 w24 =>
  RUN Try.prog (pan R) (Instr.buildSlice 25 3 #[(0, v15), (1, v19), (2, v23)]) w24 fun v25 w26 =>
  RUN Try.prog (pan R) (Instr.build 27 #[(0, v9), (1, v11), (3, (Go.Value.int Go.IntKind.i64 4)), (4, v25)]) w26 fun v27 w28 =>
  RUN Try.prog (pan R) (Instr.alloc 27 true (.tuple #[])) w28 fun v29 w30 =>
  RUNU Try.prog (pan R) (Instr.storeAt 27 v29 v27) w30 fun w31 =>
  RUN Try.prog (pan R) (Instr.build 61 #[(0, (Go.Value.int Go.IntKind.i64 2)), (1, (Go.Value.int Go.IntKind.i64 (-1)))]) w31 fun v32 w33 =>
  RUN Try.prog (pan R) (Instr.buildSlice 24 1 #[(0, (Go.Value.int Go.IntKind.i64 0))]) w33 fun v34 w35 =>
  RUN Try.prog (pan R) (Instr.build 61 #[(0, (Go.Value.int Go.IntKind.i64 4)), (1, (Go.Value.int Go.IntKind.i64 2)), (3, v34)]) w35 fun v36 w37 =>
  RUN Try.prog (pan R) (Instr.build 61 #[(0, (Go.Value.int Go.IntKind.i64 1)), (1, (Go.Value.int Go.IntKind.i64 (-1))), (2, (Go.Value.int Go.IntKind.i64 1))]) w37 fun v38 w39 =>
  RUN Try.prog (pan R) (Instr.build 61 #[(0, (Go.Value.int Go.IntKind.i64 2)), (1, (Go.Value.int Go.IntKind.i64 (-1))), (2, (Go.Value.int Go.IntKind.i64 2))]) w39 fun v40 w41 =>
  RUN Try.prog (pan R) (Instr.buildSlice 24 3 #[(0, (Go.Value.int Go.IntKind.i64 1)), (1, (Go.Value.int Go.IntKind.i64 2)), (2, (Go.Value.int Go.IntKind.i64 3))]) w41 fun v42 w43 =>
  RUN Try.prog (pan R) (Instr.build 61 #[(0, (Go.Value.int Go.IntKind.i64 4)), (1, (Go.Value.int Go.IntKind.i64 1)), (3, v42)]) w43 fun v44 w45 =>
  RUN Try.prog (pan R) (Instr.buildSlice 49 5 #[(0, v32), (1, v36), (2, v38), (3, v40), (4, v44)]) w45 fun v46 w47 =>
  RUN Try.prog (pan R) (Instr.loadAt 27 v29) w47 fun v48 w49 =>
  RUNU Try.prog (pan R) (Instr.storeAt 27 v1 v48) w49 fun w50 =>
  LD Try.prog (Instr.loadAt 27 v1) w50 fun r0 => R (.returned (.tuple #[r0, v46])) w50
abbrev q1 (R : EP) : XP := QX (fun ρ w => LD Try.prog (Instr.loadAt 27 (ρ 0)) w fun r0 => R (.returned (.tuple #[r0, (ρ 1)])) w) (fun ρ w => LD Try.prog (Instr.loadAt 27 (ρ 0)) w fun r0 => R (.returned (.tuple #[r0, (ρ 1)])) w) []
theorem b1_eq (R : EP) (ρ : Env) (w : World) : (b1 R w) = codeP Try.prog (pan R) code (q1 R) ρ w := by kernel_rfl
theorem b1_ok (R : EP) (ρ : Env) (w : World) (h : b1 R w) : codeP Try.prog (pan R) code (q1 R) ρ w := (b1_eq R ρ w).mp h
/-- What is owed for a call. -/
def run (R : EP) (w : World) : Prop := b1 R w
theorem calls (R : EP) (w : World) (h : run R w) : Calls Try.prog id #[] w R :=
  calls_of_ct (f := id) (fn := Try.f90) (c := code) (by kernel_rfl) Try.func90 (by kernel_rfl) (by kernel_rfl) (args := []) (Nat.le_of_ble_eq_true rfl) rfl (b1_ok R (envOf []) w h)
theorem enters : Enters Try.prog id := fun args w => Try.call90 args w
theorem ct {w : World} {S : VP} (h : ∀ R : EP, (∀ v w, S v w → R (.returned v) w) → run R w) : Ct Try.prog id #[] w S :=
  Ct.intro enters fun R hR => calls R w (h R hR)
attribute [irreducible] b1 run
attribute [go_sem] b1 run
end law20_chapter
end Go.Proofs.Ytkacbjhiobnbfaa

