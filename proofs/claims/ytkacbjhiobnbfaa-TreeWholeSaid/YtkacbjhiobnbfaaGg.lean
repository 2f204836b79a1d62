/- Shallow programs, written by a program of ours (gen.py) off the translation; each is tied to the code by the kernel. -/
import Derived.Test.YtkacbjhiobnbfaaGa
set_option linter.unusedVariables false
set_option maxRecDepth 100000
namespace Go.Proofs.Ytkacbjhiobnbfaa
open Go.Px

/-! ### presage/tree.Frontier -/
namespace tree_Frontier
noncomputable def code : Code := bodyOf Try.f34
def b1_1 (R : EP) (v1 v5 : Value) (w6 : World) (_r : Tok R := tok R) : Prop :=
  RUN Try.prog (pan R) (Op.unary .not v5) w6 fun v7 w8 =>
  SPL v7
  (R (.returned (.tuple #[(Go.Value.slice Option.none 0 0), (Go.Value.int Go.IntKind.i64 1)])) w8)
  (RUN Try.prog (pan R) (Instr.loadAt 24 v1) w8 fun v9 w10 =>
  R (.returned (.tuple #[v9, (Go.Value.int Go.IntKind.i64 0)])) w10)
def b1 (R : EP) (x0 x1 : Value) (w : World) (_r : Tok R := tok R) : Prop :=
  RUN Try.prog (pan R) (Instr.alloc 24 true (.tuple #[])) w fun v1 w2 =>
  RUN Try.prog (pan R) (Instr.makeFunc (.func tree_Frontier_1.id) #[] #[v1]) w2 fun v3 w4 =>
  CALL Try.prog (pan R) tree_below.id #[x0, x1, (Go.Value.func (.func tree_left.id) #[] #[]), v3] w4 fun v5 w6 =>
  b1_1 R v1 v5 w6
abbrev q1 (R : EP) : XP := QX (fun ρ w => R (.returned (.tuple #[(ρ 4), (ρ 5)])) w) (fun ρ w => R (.returned (.tuple #[(ρ 4), (ρ 5)])) w) []
theorem b1_eq (R : EP) (ρ : Env) (w : World) : (b1 R (ρ 0) (ρ 1) w) = codeP Try.prog (pan R) code (q1 R) ρ w := by kernel_rfl
theorem b1_ok (R : EP) (ρ : Env) (w : World) (h : b1 R (ρ 0) (ρ 1) w) : codeP Try.prog (pan R) code (q1 R) ρ w := (b1_eq R ρ w).mp h
/-- What is owed for a call. -/
def run (R : EP) (a0 a1 : Value) (w : World) : Prop := b1 R a0 a1 w
theorem calls (R : EP) (a0 a1 : Value) (w : World) (h : run R a0 a1 w) : Calls Try.prog id #[a0, a1] w R :=
  calls_of_tt (f := id) (fn := Try.f34) (c := code) (by kernel_rfl) Try.func34 (by kernel_rfl) (by kernel_rfl) (args := [a0, a1]) (Nat.le_of_ble_eq_true rfl) rfl (b1_ok R (envOf [a0, a1]) w h)
theorem enters : Enters Try.prog id := fun args w => Try.call34 args w
theorem ct {a0 a1 : Value} {w : World} {S : VP} (h : ∀ R : EP, (∀ v w, S v w → R (.returned v) w) → run R a0 a1 w) : Ct Try.prog id #[a0, a1] w S :=
  Ct.intro enters fun R hR => calls R a0 a1 w (h R hR)
attribute [irreducible] b1_1 b1 run
attribute [go_sem] b1_1 b1 run
end tree_Frontier

/-! ### presage/tree.Rightmost -/
namespace tree_Rightmost
noncomputable def code : Code := bodyOf Try.f35
def b1_1 (R : EP) (v1 v5 : Value) (w6 : World) (_r : Tok R := tok R) : Prop :=
  RUN Try.prog (pan R) (Op.unary .not v5) w6 fun v7 w8 =>
  SPL v7
  (R (.returned (.tuple #[(Go.Value.slice Option.none 0 0), (Go.Value.int Go.IntKind.i64 1)])) w8)
  (RUN Try.prog (pan R) (Instr.loadAt 24 v1) w8 fun v9 w10 =>
  R (.returned (.tuple #[v9, (Go.Value.int Go.IntKind.i64 0)])) w10)
def b1 (R : EP) (x0 x1 : Value) (w : World) (_r : Tok R := tok R) : Prop :=
  RUN Try.prog (pan R) (Instr.alloc 24 true (.tuple #[])) w fun v1 w2 =>
  RUN Try.prog (pan R) (Instr.makeFunc (.func tree_Rightmost_1.id) #[] #[v1]) w2 fun v3 w4 =>
  CALL Try.prog (pan R) tree_below.id #[x0, x1, (Go.Value.func (.func tree_right.id) #[] #[]), v3] w4 fun v5 w6 =>
  b1_1 R v1 v5 w6
abbrev q1 (R : EP) : XP := QX (fun ρ w => R (.returned (.tuple #[(ρ 4), (ρ 5)])) w) (fun ρ w => R (.returned (.tuple #[(ρ 4), (ρ 5)])) w) []
theorem b1_eq (R : EP) (ρ : Env) (w : World) : (b1 R (ρ 0) (ρ 1) w) = codeP Try.prog (pan R) code (q1 R) ρ w := by kernel_rfl
theorem b1_ok (R : EP) (ρ : Env) (w : World) (h : b1 R (ρ 0) (ρ 1) w) : codeP Try.prog (pan R) code (q1 R) ρ w := (b1_eq R ρ w).mp h
/-- What is owed for a call. -/
def run (R : EP) (a0 a1 : Value) (w : World) : Prop := b1 R a0 a1 w
theorem calls (R : EP) (a0 a1 : Value) (w : World) (h : run R a0 a1 w) : Calls Try.prog id #[a0, a1] w R :=
  calls_of_tt (f := id) (fn := Try.f35) (c := code) (by kernel_rfl) Try.func35 (by kernel_rfl) (by kernel_rfl) (args := [a0, a1]) (Nat.le_of_ble_eq_true rfl) rfl (b1_ok R (envOf [a0, a1]) w h)
theorem enters : Enters Try.prog id := fun args w => Try.call35 args w
theorem ct {a0 a1 : Value} {w : World} {S : VP} (h : ∀ R : EP, (∀ v w, S v w → R (.returned v) w) → run R a0 a1 w) : Ct Try.prog id #[a0, a1] w S :=
  Ct.intro enters fun R hR => calls R a0 a1 w (h R hR)
attribute [irreducible] b1_1 b1 run
attribute [go_sem] b1_1 b1 run
end tree_Rightmost

/-! ### presage/tree.Derives -/
namespace tree_Derives
noncomputable def code : Code := bodyOf Try.f41
noncomputable abbrev p1 : Code := dropC 1 code
def b3_1 (R : EP) (x3 v7 : Value) (w13 : World) (_r : Tok R := tok R) : Prop :=
  RUN Try.prog (pan R) (Instr.loadAt 119 v7) w13 fun v14 w15 =>
  NILC v14 fun v16 =>
  RUN Try.prog (pan R) (Instr.fieldAt 121 v16 3) w15 fun v17 w18 =>
  RUN Try.prog (pan R) (Instr.loadAt 3 v17) w18 fun v19 w20 =>
  RUN Try.prog (pan R) (Builtin.len_ #[24] 3 #[x3]) w20 fun v21 w22 =>
  RUN Try.prog (pan R) (bins .eql 3 (.tmp 54) (.tmp 56) v19 v21) w22 fun v23 w24 =>
  R (.returned v23) w24
def b3 (R : EP) (x1 x2 x3 x4 : Value) (w : World) (_r : Tok R := tok R) : Prop :=
  RUN Try.prog (pan R) (Instr.loadAt 27 x4) w fun v1 w2 =>
  RUN Try.prog (pan R) (Instr.build 121 #[(0, v1), (1, x1), (2, x3)]) w2 fun v3 w4 =>
  RUN Try.prog (pan R) (Instr.box 121 v3) w4 fun v5 w6 =>
  RUN Try.prog (pan R) (Instr.alloc 119 true (.tuple #[])) w6 fun v7 w8 =>
  RUNU Try.prog (pan R) (Instr.storeAt 119 v7 v5) w8 fun w9 =>
  RUN Try.prog (pan R) (Instr.makeFunc (.func tree_Derives_1.id) #[] #[v7]) w9 fun v10 w11 =>
  CALL Try.prog (pan R) tree_below.id #[x1, x2, (Go.Value.func (.func tree_left.id) #[] #[]), v10] w11 fun v12 w13 =>
  SPL v12
  (b3_1 R x3 v7 w13)
  (R (.returned (Go.Value.bool Bool.false)) w13)
abbrev q1 (R : EP) : XP := QX (fun ρ w => R (.returned (ρ 8)) w) (fun ρ w => R (.returned (ρ 8)) w) []
theorem b3_eq (R : EP) (ρ : Env) (w : World) : (b3 R (ρ 1) (ρ 2) (ρ 3) (ρ 4) w) = codeP Try.prog (pan R) (sndC p1) (q1 R) ρ w := by kernel_rfl
theorem b3_ok (R : EP) (ρ : Env) (w : World) (h : b3 R (ρ 1) (ρ 2) (ρ 3) (ρ 4) w) : codeP Try.prog (pan R) (sndC p1) (q1 R) ρ w := (b3_eq R ρ w).mp h
noncomputable abbrev p2 : Code := dropC 1 (fstC p1)
def b5 (R : EP) (x1 x2 x3 x4 x40 : Value) (w : World) (_r : Tok R := tok R) : Prop :=
  SPL x40
  (R (.returned (Go.Value.bool Bool.false)) w)
  (b3 R x1 x2 x3 x4 w)
abbrev q2 (R : EP) : XP := QX (fun ρ w => b3 R (ρ 1) (ρ 2) (ρ 3) (ρ 4) w) (fun ρ w => R (.returned (ρ 8)) w) []
theorem b5_eq (R : EP) (ρ : Env) (w : World) : (b5 R (ρ 1) (ρ 2) (ρ 3) (ρ 4) (ρ 40) w) = codeP Try.prog (pan R) p2 (q2 R) ρ w := by kernel_rfl
theorem b5_ok (R : EP) (ρ : Env) (w : World) (h : b5 R (ρ 1) (ρ 2) (ρ 3) (ρ 4) (ρ 40) w) : codeP Try.prog (pan R) p2 (q2 R) ρ w := (b5_eq R ρ w).mp h
def b4_1 (R : EP) (x1 x2 x3 x4 : Value) (w3 : World) (_r : Tok R := tok R) : Prop :=
  PUR Try.prog (Instr.indexAt 49 x1 x2) fun v14 =>
  PUR Try.prog (Instr.fieldAt 61 v14 1) fun v15 =>
  LD Try.prog (Instr.loadAt 3 v15) w3 fun v16 =>
  PUR Try.prog (bins .lss 3 (.tmp 38) (.const (Go.Value.int Go.IntKind.i64 0)) v16 (Go.Value.int Go.IntKind.i64 0)) fun v17 =>
  b5 R x1 x2 x3 x4 v17 w3
def b4_2 (R : EP) (x1 x2 x3 x4 : Value) (w3 : World) (_r : Tok R := tok R) : Prop :=
  PUR Try.prog (Instr.indexAt 49 x1 x2) fun v8 =>
  PUR Try.prog (Instr.fieldAt 61 v8 0) fun v9 =>
  LD Try.prog (Instr.loadAt 3 v9) w3 fun v10 =>
  PUR Try.prog (Instr.fieldAt 27 x4 3) fun v11 =>
  LD Try.prog (Instr.loadAt 3 v11) w3 fun v12 =>
  PUR Try.prog (bins .neq 3 (.tmp 28) (.tmp 30) v10 v12) fun v13 =>
  SPL v13
  (b5 R x1 x2 x3 x4 (Go.Value.bool Bool.true) w3)
  (b4_1 R x1 x2 x3 x4 w3)
def b4_3 (R : EP) (x1 x2 x3 x4 : Value) (w3 : World) (_r : Tok R := tok R) : Prop :=
  LD Try.prog (Builtin.len_ #[49] 3 #[x1]) w3 fun v6 =>
  PUR Try.prog (bins .geq 3 (.tmp 18) (.tmp 20) x2 v6) fun v7 =>
  SPL v7
  (b5 R x1 x2 x3 x4 (Go.Value.bool Bool.true) w3)
  (b4_2 R x1 x2 x3 x4 w3)
def b4_4 (R : EP) (x1 x2 x3 x4 v2 : Value) (w3 : World) (_r : Tok R := tok R) : Prop :=
  PUR Try.prog (Op.unary .not v2) fun v4 =>
  SPL v4
  (b5 R x1 x2 x3 x4 (Go.Value.bool Bool.true) w3)
  (PUR Try.prog (bins .lss 3 (.tmp 14) (.const (Go.Value.int Go.IntKind.i64 0)) x2 (Go.Value.int Go.IntKind.i64 0)) fun v5 =>
  SPL v5
  (b5 R x1 x2 x3 x4 (Go.Value.bool Bool.true) w3)
  (b4_3 R x1 x2 x3 x4 w3))
def b4 (R : EP) (x1 x2 x3 x4 : Value) (w : World) (_r : Tok R := tok R) : Prop :=
  LD Try.prog (Instr.loadAt 27 x4) (World.drew w) fun v1 =>
  CALL Try.prog (pan R) gram_Closed.id #[v1] (World.drew w) fun v2 w3 =>
  b4_4 R x1 x2 x3 x4 v2 w3
abbrev q3 (R : EP) : XP := QX (fun ρ w => b5 R (ρ 1) (ρ 2) (ρ 3) (ρ 4) (ρ 40) w) (fun ρ w => R (.returned (ρ 8)) w) []
theorem b4_eq (R : EP) (ρ : Env) (w : World) : (b4 R (ρ 1) (ρ 2) (ρ 3) (ρ 4) w) = codeP Try.prog (pan R) (preC 0 (fstC p1)) (q3 R) ρ w := by kernel_rfl
theorem b4_ok (R : EP) (ρ : Env) (w : World) (h : b4 R (ρ 1) (ρ 2) (ρ 3) (ρ 4) w) : codeP Try.prog (pan R) (fstC p1) (q2 R) ρ w := by
  have e : appC 0 (preC 0 (fstC p1)) (dropC 1 (fstC p1)) = (fstC p1) := by kernel_rfl
  rw [← e]
  exact appQ (fun ρ w => b5 R (ρ 1) (ρ 2) (ρ 3) (ρ 4) (ρ 40) w) 0 ((b4_eq R ρ w).mp h) (fun ρ w h => b5_ok R ρ w h)
theorem k2_ok (R : EP) (ρ : Env) (w : World) (h : b4 R (ρ 1) (ρ 2) (ρ 3) (ρ 4) w) : codeP Try.prog (pan R) p1 (q1 R) ρ w := by
  have e : Code.seq (fstC p1) (sndC p1) = p1 := by kernel_rfl
  rw [← e]
  exact seqQ (fun ρ w => b3 R (ρ 1) (ρ 2) (ρ 3) (ρ 4) w) (b4_ok R ρ w h) (fun ρ w h => b3_ok R ρ w h)
def b1 (R : EP) (x0 x1 x2 x3 : Value) (w : World) (_r : Tok R := tok R) : Prop :=
  RUN Try.prog (pan R) (Instr.box 27 x0) w fun v1 w2 =>
  b4 R x1 x2 x3 v1 w2
abbrev q4 (R : EP) : XP := QX (fun ρ w => b4 R (ρ 1) (ρ 2) (ρ 3) (ρ 4) w) (fun ρ w => R (.returned (ρ 8)) w) []
theorem b1_eq (R : EP) (ρ : Env) (w : World) : (b1 R (ρ 0) (ρ 1) (ρ 2) (ρ 3) w) = codeP Try.prog (pan R) (preC 0 code) (q4 R) ρ w := by kernel_rfl
theorem b1_ok (R : EP) (ρ : Env) (w : World) (h : b1 R (ρ 0) (ρ 1) (ρ 2) (ρ 3) w) : codeP Try.prog (pan R) code (q1 R) ρ w := by
  have e : appC 0 (preC 0 code) (dropC 1 code) = code := by kernel_rfl
  rw [← e]
  exact appQ (fun ρ w => b4 R (ρ 1) (ρ 2) (ρ 3) (ρ 4) w) 0 ((b1_eq R ρ w).mp h) (fun ρ w h => k2_ok R ρ w h)
/-- What is owed for a call. -/
def run (R : EP) (a0 a1 a2 a3 : Value) (w : World) : Prop := b1 R a0 a1 a2 a3 w
theorem calls (R : EP) (a0 a1 a2 a3 : Value) (w : World) (h : run R a0 a1 a2 a3 w) : Calls Try.prog id #[a0, a1, a2, a3] w R :=
  calls_of_t (f := id) (fn := Try.f41) (c := code) (by kernel_rfl) Try.func41 (by kernel_rfl) (by kernel_rfl) (args := [a0, a1, a2, a3]) (Nat.le_of_ble_eq_true rfl) rfl (b1_ok R (envOf [a0, a1, a2, a3]) w h)
theorem enters : Enters Try.prog id := fun args w => Try.call41 args w
theorem ct {a0 a1 a2 a3 : Value} {w : World} {S : VP} (h : ∀ R : EP, (∀ v w, S v w → R (.returned v) w) → run R a0 a1 a2 a3 w) : Ct Try.prog id #[a0, a1, a2, a3] w S :=
  Ct.intro enters fun R hR => calls R a0 a1 a2 a3 w (h R hR)
attribute [irreducible] b3_1 b3 b5 b4_1 b4_2 b4_3 b4_4 b4 b1 run
attribute [go_sem] b3_1 b3 b5 b4_1 b4_2 b4_3 b4_4 b4 b1 run
end tree_Derives

/-! ### presage/tree.Text -/
namespace tree_Text
noncomputable def code : Code := bodyOf Try.f43
noncomputable abbrev p1 : Code := dropC 3 code
def b3_1 (R : EP) (v1 v7 : Value) (w8 : World) (_r : Tok R := tok R) : Prop :=
  RUN Try.prog (pan R) (Op.unary .not v7) w8 fun v9 w10 =>
  SPL v9
  (R (.returned (.tuple #[(Go.Value.string { data := #[] }), (Go.Value.int Go.IntKind.i64 1)])) w10)
  (CALL Try.prog (pan R) strings_Builder_String.id #[v1] w10 fun v11 w12 =>
  R (.returned (.tuple #[v11, (Go.Value.int Go.IntKind.i64 0)])) w12)
def b3 (R : EP) (x1 x2 x8 : Value) (w : World) (_r : Tok R := tok R) : Prop :=
  RUN Try.prog (pan R) (Instr.alloc 100 true (.tuple #[])) w fun v1 w2 =>
  RUN Try.prog (pan R) (Instr.alloc 24 true (.tuple #[])) w2 fun v3 w4 =>
  RUN Try.prog (pan R) (Instr.makeFunc (.func tree_Text_1.id) #[] #[x8, v1, v3]) w4 fun v5 w6 =>
  CALL Try.prog (pan R) tree_below.id #[x1, x2, (Go.Value.func (.func tree_left.id) #[] #[]), v5] w6 fun v7 w8 =>
  b3_1 R v1 v7 w8
abbrev q1 (R : EP) : XP := QX (fun ρ w => R (.returned (.tuple #[(ρ 6), (ρ 7)])) w) (fun ρ w => R (.returned (.tuple #[(ρ 6), (ρ 7)])) w) []
theorem b3_eq (R : EP) (ρ : Env) (w : World) : (b3 R (ρ 1) (ρ 2) (ρ 8) w) = codeP Try.prog (pan R) (sndC p1) (q1 R) ρ w := by kernel_rfl
theorem b3_ok (R : EP) (ρ : Env) (w : World) (h : b3 R (ρ 1) (ρ 2) (ρ 8) w) : codeP Try.prog (pan R) (sndC p1) (q1 R) ρ w := (b3_eq R ρ w).mp h
noncomputable abbrev p2 : Code := dropC 1 (fstC p1)
noncomputable abbrev p3 : Code := loopC (blkC p2)
def b7_1 (R : EP) (C6 : VP) (x8 x25 v3 v5 : Value) (w6 : World) (_r : Tok R := tok R) (_C6 : Tok C6 := tok C6) : Prop :=
  Sem.run Try.prog (Instr.loadAt 23 x8) w6 = .ok v3 w6 ∧ (PUR Try.prog (Instr.extract v5 0) fun v7 =>
  PUR Try.prog (Instr.extract v5 1) fun v8 =>
  PUR Try.prog (Instr.indexAt 23 v3 x25) fun v9 =>
  RUNU Try.prog (pan R) (Instr.storeAt 9 v9 v7) w6 fun w10 =>
  RUN Try.prog (pan R) (bins .add 3 (.tmp 25) (.const (Go.Value.int Go.IntKind.i64 1)) x25 (Go.Value.int Go.IntKind.i64 1)) w10 fun v11 w12 =>
  C6 v11 w12)
def b7_2 (R : EP) (C6 : VP) (x3 x8 x25 : Value) (w2 : World) (_r : Tok R := tok R) (_C6 : Tok C6 := tok C6) : Prop :=
  LD Try.prog (Instr.loadAt 23 x8) (World.drew w2) fun v3 =>
  LD Try.prog (Instr.loadAt 27 x3) (World.drew w2) fun v4 =>
  CALL Try.prog (pan R) show_Symbol.id #[v4, x25] (World.drew w2) fun v5 w6 =>
  b7_1 R C6 x8 x25 v3 v5 w6
def b7 (R : EP) (C6 : VP) (x1 x2 x3 x8 x24 x25 : Value) (w : World) (_r : Tok R := tok R) (_C6 : Tok C6 := tok C6) : Prop :=
  RUN Try.prog (pan R) (bins .lss 3 (.tmp 25) (.tmp 24) x25 x24) w fun v1 w2 =>
  SPL v1
  (b7_2 R C6 x3 x8 x25 w2)
  (b3 R x1 x2 x8 w2)
abbrev q2 (R : EP) (C6 : VP) : XP := QX (fun ρ w => C6 (ρ 25) w) (fun ρ w => R (.returned (.tuple #[(ρ 6), (ρ 7)])) w) [(0, (fun ρ w => b3 R (ρ 1) (ρ 2) (ρ 8) w))]
theorem b7_eq (R : EP) (C6 : VP) (ρ : Env) (w : World) : (b7 R C6 (ρ 1) (ρ 2) (ρ 3) (ρ 8) (ρ 24) (ρ 25) w) = codeP Try.prog (pan R) p3 (q2 R C6) ρ w := by kernel_rfl
theorem b7_ok (R : EP) (C6 : VP) (ρ : Env) (w : World) (h : b7 R C6 (ρ 1) (ρ 2) (ρ 3) (ρ 8) (ρ 24) (ρ 25) w) : codeP Try.prog (pan R) p3 (q2 R C6) ρ w := (b7_eq R C6 ρ w).mp h
def l6 (R : EP) (x1 x2 x3 x8 x24 x25 : Value) (w : World) (_r : Tok R := tok R) : Prop :=
  ∃ (J : VP) (μ : Value → World → Nat), J x25 w ∧ ∀ y25 w0, J y25 w0 → b7 R (fun z25 w1 => J z25 w1 ∧ μ z25 w1 < μ y25 w0) x1 x2 x3 x8 x24 y25 w0
abbrev q3 (R : EP) : XP := QX (fun ρ w => b3 R (ρ 1) (ρ 2) (ρ 8) w) (fun ρ w => R (.returned (.tuple #[(ρ 6), (ρ 7)])) w) [(0, (fun ρ w => b3 R (ρ 1) (ρ 2) (ρ 8) w))]
theorem l6_ok (R : EP) (ρ : Env) (w : World) (h : l6 R (ρ 1) (ρ 2) (ρ 3) (ρ 8) (ρ 24) (ρ 25) w) : codeP Try.prog (pan R) (blkC p2) (q3 R) ρ w := by
  unfold l6 at h
  obtain ⟨J, μ, h0, hr⟩ := h
  have e : Code.loop (loopC (blkC p2)) = (blkC p2) := by kernel_rfl
  rw [← e]
  refine loopQ (fun ρ' w' => J (ρ' 25) w') (fun ρ' w' => μ (ρ' 25) w') h0 fun ρ' w' hA hI => ?_
  have e1 : ρ' 1 = ρ 1 := Agree.at hA 1 (by kernel_rfl)
  have e2 : ρ' 2 = ρ 2 := Agree.at hA 2 (by kernel_rfl)
  have e3 : ρ' 3 = ρ 3 := Agree.at hA 3 (by kernel_rfl)
  have e8 : ρ' 8 = ρ 8 := Agree.at hA 8 (by kernel_rfl)
  have e24 : ρ' 24 = ρ 24 := Agree.at hA 24 (by kernel_rfl)
  have h1 := hr (ρ' 25) w' hI
  rw [← e1, ← e2, ← e3, ← e8, ← e24] at h1
  exact b7_ok R (fun z25 w1 => J z25 w1 ∧ μ z25 w1 < μ (ρ' 25) w') ρ' w' h1
theorem l6_intro (R : EP) (x1 x2 x3 x8 x24 x25 : Value) (w : World) (J : VP) (μ : Value → World → Nat) (h0 : J x25 w)
    (hr : ∀ y25 w0, J y25 w0 → ∀ C6 : VP, (∀ z25 w1, J z25 w1 → μ z25 w1 < μ y25 w0 → C6 z25 w1) → b7 R C6 x1 x2 x3 x8 x24 y25 w0) : l6 R x1 x2 x3 x8 x24 x25 w := by
  unfold l6
  exact ⟨J, μ, h0, fun y25 w0 hJ => hr y25 w0 hJ _ (fun z25 w1 h1 h2 => ⟨h1, h2⟩)⟩
abbrev q4 (R : EP) : XP := QX (fun ρ w => b3 R (ρ 1) (ρ 2) (ρ 8) w) (fun ρ w => R (.returned (.tuple #[(ρ 6), (ρ 7)])) w) []
theorem k5_ok (R : EP) (ρ : Env) (w : World) (h : l6 R (ρ 1) (ρ 2) (ρ 3) (ρ 8) (ρ 24) (ρ 25) w) : codeP Try.prog (pan R) p2 (q4 R) ρ w := by
  have e : Code.block 0 (blkC p2) = p2 := by kernel_rfl
  rw [← e]
  exact blockQ (l6_ok R ρ w h)
def b4 (R : EP) (x1 x2 x3 x8 : Value) (w : World) (_r : Tok R := tok R) : Prop :=
  RUN Try.prog (pan R) (Instr.loadAt 23 x8) w fun v1 w2 =>
  RUN Try.prog (pan R) (Builtin.len_ #[23] 3 #[v1]) w2 fun v3 w4 =>
  l6 R x1 x2 x3 x8 v3 (Go.Value.int Go.IntKind.i64 0) w4
abbrev q5 (R : EP) : XP := QX (fun ρ w => l6 R (ρ 1) (ρ 2) (ρ 3) (ρ 8) (ρ 24) (ρ 25) w) (fun ρ w => R (.returned (.tuple #[(ρ 6), (ρ 7)])) w) []
theorem b4_eq (R : EP) (ρ : Env) (w : World) : (b4 R (ρ 1) (ρ 2) (ρ 3) (ρ 8) w) = codeP Try.prog (pan R) (preC 0 (fstC p1)) (q5 R) ρ w := by kernel_rfl
theorem b4_ok (R : EP) (ρ : Env) (w : World) (h : b4 R (ρ 1) (ρ 2) (ρ 3) (ρ 8) w) : codeP Try.prog (pan R) (fstC p1) (q4 R) ρ w := by
  have e : appC 0 (preC 0 (fstC p1)) (dropC 1 (fstC p1)) = (fstC p1) := by kernel_rfl
  rw [← e]
  exact appQ (fun ρ w => l6 R (ρ 1) (ρ 2) (ρ 3) (ρ 8) (ρ 24) (ρ 25) w) 0 ((b4_eq R ρ w).mp h) (fun ρ w h => k5_ok R ρ w h)
theorem k2_ok (R : EP) (ρ : Env) (w : World) (h : b4 R (ρ 1) (ρ 2) (ρ 3) (ρ 8) w) : codeP Try.prog (pan R) p1 (q1 R) ρ w := by
  have e : Code.seq (fstC p1) (sndC p1) = p1 := by kernel_rfl
  rw [← e]
  exact seqQ (fun ρ w => b3 R (ρ 1) (ρ 2) (ρ 8) w) (b4_ok R ρ w h) (fun ρ w h => b3_ok R ρ w h)
def b1_1 (R : EP) (x1 x2 v1 : Value) (w8 : World) (_r : Tok R := tok R) : Prop :=
  RUN Try.prog (pan R) (Instr.fieldAt 27 v1 0) w8 fun v9 w10 =>
  RUN Try.prog (pan R) (Instr.loadAt 22 v9) w10 fun v11 w12 =>
  RUN Try.prog (pan R) (Builtin.len_ #[22] 3 #[v11]) w12 fun v13 w14 =>
  RUN Try.prog (pan R) (Instr.fieldAt 27 v1 1) w14 fun v15 w16 =>
  RUN Try.prog (pan R) (Instr.loadAt 23 v15) w16 fun v17 w18 =>
  RUN Try.prog (pan R) (Builtin.len_ #[23] 3 #[v17]) w18 fun v19 w20 =>
  RUN Try.prog (pan R) (bins .add 3 (.tmp 17) (.tmp 20) v13 v19) w20 fun v21 w22 =>
  RUN Try.prog (pan R) (Instr.makeSlice 23 v21 v21) w22 fun v23 w24 =>
  RUN Try.prog (pan R) (Instr.alloc 23 true (.tuple #[])) w24 fun v25 w26 =>
  RUNU Try.prog (pan R) (Instr.storeAt 23 v25 v23) w26 fun w27 =>
  b4 R x1 x2 v1 v25 w27
def b1 (R : EP) (x0 x1 x2 : Value) (w : World) (_r : Tok R := tok R) : Prop :=
  RUN Try.prog (pan R) (Instr.box 27 x0) w fun v1 w2 =>
  RUN Try.prog (pan R) (Instr.loadAt 27 v1) w2 fun v3 w4 =>
  CALL Try.prog (pan R) gram_Closed.id #[v3] w4 fun v5 w6 =>
  RUN Try.prog (pan R) (Op.unary .not v5) w6 fun v7 w8 =>
  SPL v7
  (R (.returned (.tuple #[(Go.Value.string { data := #[] }), (Go.Value.int Go.IntKind.i64 1)])) w8)
  (b1_1 R x1 x2 v1 w8)
abbrev q6 (R : EP) : XP := QX (fun ρ w => b4 R (ρ 1) (ρ 2) (ρ 3) (ρ 8) w) (fun ρ w => R (.returned (.tuple #[(ρ 6), (ρ 7)])) w) []
theorem b1_eq (R : EP) (ρ : Env) (w : World) : (b1 R (ρ 0) (ρ 1) (ρ 2) w) = codeP Try.prog (pan R) (preC 2 code) (q6 R) ρ w := by kernel_rfl
theorem b1_ok (R : EP) (ρ : Env) (w : World) (h : b1 R (ρ 0) (ρ 1) (ρ 2) w) : codeP Try.prog (pan R) code (q1 R) ρ w := by
  have e : appC 2 (preC 2 code) (dropC 3 code) = code := by kernel_rfl
  rw [← e]
  exact appQ (fun ρ w => b4 R (ρ 1) (ρ 2) (ρ 3) (ρ 8) w) 2 ((b1_eq R ρ w).mp h) (fun ρ w h => k2_ok R ρ w h)
/-- What is owed for a call. -/
def run (R : EP) (a0 a1 a2 : Value) (w : World) : Prop := b1 R a0 a1 a2 w
theorem calls (R : EP) (a0 a1 a2 : Value) (w : World) (h : run R a0 a1 a2 w) : Calls Try.prog id #[a0, a1, a2] w R :=
  calls_of_tt (f := id) (fn := Try.f43) (c := code) (by kernel_rfl) Try.func43 (by kernel_rfl) (by kernel_rfl) (args := [a0, a1, a2]) (Nat.le_of_ble_eq_true rfl) rfl (b1_ok R (envOf [a0, a1, a2]) w h)
theorem enters : Enters Try.prog id := fun args w => Try.call43 args w
theorem ct {a0 a1 a2 : Value} {w : World} {S : VP} (h : ∀ R : EP, (∀ v w, S v w → R (.returned v) w) → run R a0 a1 a2 w) : Ct Try.prog id #[a0, a1, a2] w S :=
  Ct.intro enters fun R hR => calls R a0 a1 a2 w (h R hR)
attribute [irreducible] b3_1 b3 b7_1 b7_2 b7 l6 b4 b1_1 b1 run
attribute [go_sem] b3_1 b3 b7_1 b7_2 b7 b4 b1_1 b1 run
end tree_Text

/-! ### presage/tree.New -/
namespace tree_New
noncomputable def code : Code := bodyOf Try.f48

def b1 (R : EP) (w : World) (_r : Tok R := tok R) : Prop :=
  RUN Try.prog (pan R) (Instr.build 81 #[]) w fun v1 w2 =>
  RUN Try.prog (pan R) (Instr.box 81 v1) w2 fun v3 w4 =>
  R (.returned v3) w4
abbrev q1 (R : EP) : XP := QX (fun ρ w => R (.returned (ρ 0)) w) (fun ρ w => R (.returned (ρ 0)) w) []
theorem b1_eq (R : EP) (ρ : Env) (w : World) : (b1 R w) = codeP Try.prog (pan R) code (q1 R) ρ w := by kernel_rfl
theorem b1_ok (R : EP) (ρ : Env) (w : World) (h : b1 R w) : codeP Try.prog (pan R) code (q1 R) ρ w := (b1_eq R ρ w).mp h
/-- What is owed for a call. -/
def run (R : EP) (w : World) : Prop := b1 R w
theorem calls (R : EP) (w : World) (h : run R w) : Calls Try.prog id #[] w R :=
  calls_of_t (f := id) (fn := Try.f48) (c := code) (by kernel_rfl) Try.func48 (by kernel_rfl) (by kernel_rfl) (args := []) (Nat.le_of_ble_eq_true rfl) rfl (b1_ok R (envOf []) w h)
theorem enters : Enters Try.prog id := fun args w => Try.call48 args w
theorem ct {w : World} {S : VP} (h : ∀ R : EP, (∀ v w, S v w → R (.returned v) w) → run R w) : Ct Try.prog id #[] w S :=
  Ct.intro enters fun R hR => calls R w (h R hR)
attribute [irreducible] b1 run
attribute [go_sem] b1 run
end tree_New

/-! ### (*presage/tree.Arena).Leaf -/
namespace tree_Arena_Leaf
noncomputable def code : Code := bodyOf Try.f49
noncomputable abbrev p1 : Code := dropC 1 code
def b3_1 (R : EP) (v3 : Value) (w4 : World) (_r : Tok R := tok R) : Prop :=
  RUN Try.prog (pan R) (Instr.extract v3 0) w4 fun v5 w6 =>
  RUN Try.prog (pan R) (Instr.extract v3 1) w6 fun v7 w8 =>
  R (.returned (.tuple #[v5, v7])) w8
def b3 (R : EP) (x0 x1 x2 : Value) (w : World) (_r : Tok R := tok R) : Prop :=
  RUN Try.prog (pan R) (Instr.build 61 #[(0, x1), (1, (Go.Value.int Go.IntKind.i64 (-1))), (2, x2)]) w fun v1 w2 =>
  CALL Try.prog (pan R) tree_Arena_add.id #[x0, v1] w2 fun v3 w4 =>
  b3_1 R v3 w4
abbrev q1 (R : EP) : XP := QX (fun ρ w => R (.returned (.tuple #[(ρ 6), (ρ 7)])) w) (fun ρ w => R (.returned (.tuple #[(ρ 6), (ρ 7)])) w) []
theorem b3_eq (R : EP) (ρ : Env) (w : World) : (b3 R (ρ 0) (ρ 1) (ρ 2) w) = codeP Try.prog (pan R) (sndC p1) (q1 R) ρ w := by kernel_rfl
theorem b3_ok (R : EP) (ρ : Env) (w : World) (h : b3 R (ρ 0) (ρ 1) (ρ 2) w) : codeP Try.prog (pan R) (sndC p1) (q1 R) ρ w := (b3_eq R ρ w).mp h
noncomputable abbrev p2 : Code := dropC 1 (fstC p1)
def b5 (R : EP) (x0 x1 x2 x17 : Value) (w : World) (_r : Tok R := tok R) : Prop :=
  SPL x17
  (R (.returned (.tuple #[(Go.Value.int Go.IntKind.i64 0), (Go.Value.int Go.IntKind.i64 1)])) w)
  (b3 R x0 x1 x2 w)
abbrev q2 (R : EP) : XP := QX (fun ρ w => b3 R (ρ 0) (ρ 1) (ρ 2) w) (fun ρ w => R (.returned (.tuple #[(ρ 6), (ρ 7)])) w) []
theorem b5_eq (R : EP) (ρ : Env) (w : World) : (b5 R (ρ 0) (ρ 1) (ρ 2) (ρ 17) w) = codeP Try.prog (pan R) p2 (q2 R) ρ w := by kernel_rfl
theorem b5_ok (R : EP) (ρ : Env) (w : World) (h : b5 R (ρ 0) (ρ 1) (ρ 2) (ρ 17) w) : codeP Try.prog (pan R) p2 (q2 R) ρ w := (b5_eq R ρ w).mp h
def b4_1 (R : EP) (x0 x1 x2 : Value) (w2 : World) (_r : Tok R := tok R) : Prop :=
  RUN Try.prog (pan R) (bins .lss 3 (.tmp 11) (.const (Go.Value.int Go.IntKind.i64 0)) x1 (Go.Value.int Go.IntKind.i64 0)) w2 fun v3 w4 =>
  SPL v3
  (b5 R x0 x1 x2 (Go.Value.bool Bool.true) w4)
  (RUN Try.prog (pan R) (bins .lss 3 (.tmp 15) (.const (Go.Value.int Go.IntKind.i64 0)) x2 (Go.Value.int Go.IntKind.i64 0)) w4 fun v5 w6 =>
  b5 R x0 x1 x2 v5 w6)
def b4 (R : EP) (x0 x1 x2 : Value) (w : World) (_r : Tok R := tok R) : Prop :=
  RUN Try.prog (pan R) (bins .eql 65 (.tmp 8) (.const (Go.Value.pointer Option.none)) x0 (Go.Value.pointer Option.none)) w fun v1 w2 =>
  SPL v1
  (b5 R x0 x1 x2 (Go.Value.bool Bool.true) w2)
  (b4_1 R x0 x1 x2 w2)
abbrev q3 (R : EP) : XP := QX (fun ρ w => b5 R (ρ 0) (ρ 1) (ρ 2) (ρ 17) w) (fun ρ w => R (.returned (.tuple #[(ρ 6), (ρ 7)])) w) []
theorem b4_eq (R : EP) (ρ : Env) (w : World) : (b4 R (ρ 0) (ρ 1) (ρ 2) w) = codeP Try.prog (pan R) (preC 0 (fstC p1)) (q3 R) ρ w := by kernel_rfl
theorem b4_ok (R : EP) (ρ : Env) (w : World) (h : b4 R (ρ 0) (ρ 1) (ρ 2) w) : codeP Try.prog (pan R) (fstC p1) (q2 R) ρ w := by
  have e : appC 0 (preC 0 (fstC p1)) (dropC 1 (fstC p1)) = (fstC p1) := by kernel_rfl
  rw [← e]
  exact appQ (fun ρ w => b5 R (ρ 0) (ρ 1) (ρ 2) (ρ 17) w) 0 ((b4_eq R ρ w).mp h) (fun ρ w h => b5_ok R ρ w h)
theorem k2_ok (R : EP) (ρ : Env) (w : World) (h : b4 R (ρ 0) (ρ 1) (ρ 2) w) : codeP Try.prog (pan R) p1 (q1 R) ρ w := by
  have e : Code.seq (fstC p1) (sndC p1) = p1 := by kernel_rfl
  rw [← e]
  exact seqQ (fun ρ w => b3 R (ρ 0) (ρ 1) (ρ 2) w) (b4_ok R ρ w h) (fun ρ w h => b3_ok R ρ w h)
def b1 (R : EP) (x0 x1 x2 : Value) (w : World) (_r : Tok R := tok R) : Prop :=
  b4 R x0 x1 x2 w
abbrev q4 (R : EP) : XP := QX (fun ρ w => b4 R (ρ 0) (ρ 1) (ρ 2) w) (fun ρ w => R (.returned (.tuple #[(ρ 6), (ρ 7)])) w) []
theorem b1_eq (R : EP) (ρ : Env) (w : World) : (b1 R (ρ 0) (ρ 1) (ρ 2) w) = codeP Try.prog (pan R) (preC 0 code) (q4 R) ρ w := by kernel_rfl
theorem b1_ok (R : EP) (ρ : Env) (w : World) (h : b1 R (ρ 0) (ρ 1) (ρ 2) w) : codeP Try.prog (pan R) code (q1 R) ρ w := by
  have e : appC 0 (preC 0 code) (dropC 1 code) = code := by kernel_rfl
  rw [← e]
  exact appQ (fun ρ w => b4 R (ρ 0) (ρ 1) (ρ 2) w) 0 ((b1_eq R ρ w).mp h) (fun ρ w h => k2_ok R ρ w h)
/-- What is owed for a call. -/
def run (R : EP) (a0 a1 a2 : Value) (w : World) : Prop := b1 R a0 a1 a2 w
theorem calls (R : EP) (a0 a1 a2 : Value) (w : World) (h : run R a0 a1 a2 w) : Calls Try.prog id #[a0, a1, a2] w R :=
  calls_of_tt (f := id) (fn := Try.f49) (c := code) (by kernel_rfl) Try.func49 (by kernel_rfl) (by kernel_rfl) (args := [a0, a1, a2]) (Nat.le_of_ble_eq_true rfl) rfl (b1_ok R (envOf [a0, a1, a2]) w h)
theorem enters : Enters Try.prog id := fun args w => Try.call49 args w
theorem ct {a0 a1 a2 : Value} {w : World} {S : VP} (h : ∀ R : EP, (∀ v w, S v w → R (.returned v) w) → run R a0 a1 a2 w) : Ct Try.prog id #[a0, a1, a2] w S :=
  Ct.intro enters fun R hR => calls R a0 a1 a2 w (h R hR)
attribute [irreducible] b3_1 b3 b5 b4_1 b4 b1 run
attribute [go_sem] b3_1 b3 b5 b4_1 b4 b1 run
end tree_Arena_Leaf

/-! ### (*presage/tree.Arena).Join -/
namespace tree_Arena_Join
noncomputable def code : Code := bodyOf Try.f51
noncomputable abbrev p1 : Code := dropC 1 code
def b3_1 (R : EP) (v5 : Value) (w6 : World) (_r : Tok R := tok R) : Prop :=
  RUN Try.prog (pan R) (Instr.extract v5 0) w6 fun v7 w8 =>
  RUN Try.prog (pan R) (Instr.extract v5 1) w8 fun v9 w10 =>
  R (.returned (.tuple #[v7, v9])) w10
def b3_2 (R : EP) (x0 x1 x2 v1 : Value) (w2 : World) (_r : Tok R := tok R) : Prop :=
  RUN Try.prog (pan R) (Instr.build 61 #[(0, x1), (1, x2), (3, v1)]) w2 fun v3 w4 =>
  CALL Try.prog (pan R) tree_Arena_add.id #[x0, v3] w4 fun v5 w6 =>
  b3_1 R v5 w6
def b3 (R : EP) (x0 x1 x2 x3 : Value) (w : World) (_r : Tok R := tok R) : Prop :=
  CALL Try.prog (pan R) slices_Clone_int_int.id #[x3] w fun v1 w2 =>
  b3_2 R x0 x1 x2 v1 w2
abbrev q1 (R : EP) : XP := QX (fun ρ w => R (.returned (.tuple #[(ρ 8), (ρ 9)])) w) (fun ρ w => R (.returned (.tuple #[(ρ 8), (ρ 9)])) w) []
theorem b3_eq (R : EP) (ρ : Env) (w : World) : (b3 R (ρ 0) (ρ 1) (ρ 2) (ρ 3) w) = codeP Try.prog (pan R) (sndC p1) (q1 R) ρ w := by kernel_rfl
theorem b3_ok (R : EP) (ρ : Env) (w : World) (h : b3 R (ρ 0) (ρ 1) (ρ 2) (ρ 3) w) : codeP Try.prog (pan R) (sndC p1) (q1 R) ρ w := (b3_eq R ρ w).mp h
noncomputable abbrev p2 : Code := dropC 1 (fstC p1)
def b5 (R : EP) (x0 x1 x2 x3 x25 : Value) (w : World) (_r : Tok R := tok R) : Prop :=
  SPL x25
  (R (.returned (.tuple #[(Go.Value.int Go.IntKind.i64 0), (Go.Value.int Go.IntKind.i64 1)])) w)
  (b3 R x0 x1 x2 x3 w)
abbrev q2 (R : EP) : XP := QX (fun ρ w => b3 R (ρ 0) (ρ 1) (ρ 2) (ρ 3) w) (fun ρ w => R (.returned (.tuple #[(ρ 8), (ρ 9)])) w) []
theorem b5_eq (R : EP) (ρ : Env) (w : World) : (b5 R (ρ 0) (ρ 1) (ρ 2) (ρ 3) (ρ 25) w) = codeP Try.prog (pan R) p2 (q2 R) ρ w := by kernel_rfl
theorem b5_ok (R : EP) (ρ : Env) (w : World) (h : b5 R (ρ 0) (ρ 1) (ρ 2) (ρ 3) (ρ 25) w) : codeP Try.prog (pan R) p2 (q2 R) ρ w := (b5_eq R ρ w).mp h
def b4_1 (R : EP) (x0 x1 x2 x3 : Value) (w6 : World) (_r : Tok R := tok R) : Prop :=
  CALL Try.prog (pan R) tree_Arena_free.id #[x0, x3] w6 fun v7 w8 =>
  RUN Try.prog (pan R) (Op.unary .not v7) w8 fun v9 w10 =>
  b5 R x0 x1 x2 x3 v9 w10
def b4_2 (R : EP) (x0 x1 x2 x3 : Value) (w2 : World) (_r : Tok R := tok R) : Prop :=
  RUN Try.prog (pan R) (bins .lss 3 (.tmp 13) (.const (Go.Value.int Go.IntKind.i64 0)) x1 (Go.Value.int Go.IntKind.i64 0)) w2 fun v3 w4 =>
  SPL v3
  (b5 R x0 x1 x2 x3 (Go.Value.bool Bool.true) w4)
  (RUN Try.prog (pan R) (bins .lss 3 (.tmp 17) (.const (Go.Value.int Go.IntKind.i64 0)) x2 (Go.Value.int Go.IntKind.i64 0)) w4 fun v5 w6 =>
  SPL v5
  (b5 R x0 x1 x2 x3 (Go.Value.bool Bool.true) w6)
  (b4_1 R x0 x1 x2 x3 w6))
def b4 (R : EP) (x0 x1 x2 x3 : Value) (w : World) (_r : Tok R := tok R) : Prop :=
  RUN Try.prog (pan R) (bins .eql 65 (.tmp 10) (.const (Go.Value.pointer Option.none)) x0 (Go.Value.pointer Option.none)) w fun v1 w2 =>
  SPL v1
  (b5 R x0 x1 x2 x3 (Go.Value.bool Bool.true) w2)
  (b4_2 R x0 x1 x2 x3 w2)
abbrev q3 (R : EP) : XP := QX (fun ρ w => b5 R (ρ 0) (ρ 1) (ρ 2) (ρ 3) (ρ 25) w) (fun ρ w => R (.returned (.tuple #[(ρ 8), (ρ 9)])) w) []
theorem b4_eq (R : EP) (ρ : Env) (w : World) : (b4 R (ρ 0) (ρ 1) (ρ 2) (ρ 3) w) = codeP Try.prog (pan R) (preC 0 (fstC p1)) (q3 R) ρ w := by kernel_rfl
theorem b4_ok (R : EP) (ρ : Env) (w : World) (h : b4 R (ρ 0) (ρ 1) (ρ 2) (ρ 3) w) : codeP Try.prog (pan R) (fstC p1) (q2 R) ρ w := by
  have e : appC 0 (preC 0 (fstC p1)) (dropC 1 (fstC p1)) = (fstC p1) := by kernel_rfl
  rw [← e]
  exact appQ (fun ρ w => b5 R (ρ 0) (ρ 1) (ρ 2) (ρ 3) (ρ 25) w) 0 ((b4_eq R ρ w).mp h) (fun ρ w h => b5_ok R ρ w h)
theorem k2_ok (R : EP) (ρ : Env) (w : World) (h : b4 R (ρ 0) (ρ 1) (ρ 2) (ρ 3) w) : codeP Try.prog (pan R) p1 (q1 R) ρ w := by
  have e : Code.seq (fstC p1) (sndC p1) = p1 := by kernel_rfl
  rw [← e]
  exact seqQ (fun ρ w => b3 R (ρ 0) (ρ 1) (ρ 2) (ρ 3) w) (b4_ok R ρ w h) (fun ρ w h => b3_ok R ρ w h)
def b1 (R : EP) (x0 x1 x2 x3 : Value) (w : World) (_r : Tok R := tok R) : Prop :=
  b4 R x0 x1 x2 x3 w
abbrev q4 (R : EP) : XP := QX (fun ρ w => b4 R (ρ 0) (ρ 1) (ρ 2) (ρ 3) w) (fun ρ w => R (.returned (.tuple #[(ρ 8), (ρ 9)])) w) []
theorem b1_eq (R : EP) (ρ : Env) (w : World) : (b1 R (ρ 0) (ρ 1) (ρ 2) (ρ 3) w) = codeP Try.prog (pan R) (preC 0 code) (q4 R) ρ w := by kernel_rfl
theorem b1_ok (R : EP) (ρ : Env) (w : World) (h : b1 R (ρ 0) (ρ 1) (ρ 2) (ρ 3) w) : codeP Try.prog (pan R) code (q1 R) ρ w := by
  have e : appC 0 (preC 0 code) (dropC 1 code) = code := by kernel_rfl
  rw [← e]
  exact appQ (fun ρ w => b4 R (ρ 0) (ρ 1) (ρ 2) (ρ 3) w) 0 ((b1_eq R ρ w).mp h) (fun ρ w h => k2_ok R ρ w h)
/-- What is owed for a call. -/
def run (R : EP) (a0 a1 a2 a3 : Value) (w : World) : Prop := b1 R a0 a1 a2 a3 w
theorem calls (R : EP) (a0 a1 a2 a3 : Value) (w : World) (h : run R a0 a1 a2 a3 w) : Calls Try.prog id #[a0, a1, a2, a3] w R :=
  calls_of_tt (f := id) (fn := Try.f51) (c := code) (by kernel_rfl) Try.func51 (by kernel_rfl) (by kernel_rfl) (args := [a0, a1, a2, a3]) (Nat.le_of_ble_eq_true rfl) rfl (b1_ok R (envOf [a0, a1, a2, a3]) w h)
theorem enters : Enters Try.prog id := fun args w => Try.call51 args w
theorem ct {a0 a1 a2 a3 : Value} {w : World} {S : VP} (h : ∀ R : EP, (∀ v w, S v w → R (.returned v) w) → run R a0 a1 a2 a3 w) : Ct Try.prog id #[a0, a1, a2, a3] w S :=
  Ct.intro enters fun R hR => calls R a0 a1 a2 a3 w (h R hR)
attribute [irreducible] b3_1 b3_2 b3 b5 b4_1 b4_2 b4 b1 run
attribute [go_sem] b3_1 b3_2 b3 b5 b4_1 b4_2 b4 b1 run
end tree_Arena_Join

/-! ### (*presage/tree.Arena).Len -/
namespace tree_Arena_Len
noncomputable def code : Code := bodyOf Try.f53
def b1_1 (R : EP) (x0 : Value) (w2 : World) (_r : Tok R := tok R) : Prop :=
  NILC x0 fun v3 =>
  RUN Try.prog (pan R) (Instr.fieldAt 81 v3 0) w2 fun v4 w5 =>
  RUN Try.prog (pan R) (Instr.loadAt 49 v4) w5 fun v6 w7 =>
  RUN Try.prog (pan R) (Builtin.len_ #[49] 3 #[v6]) w7 fun v8 w9 =>
  R (.returned v8) w9
def b1 (R : EP) (x0 : Value) (w : World) (_r : Tok R := tok R) : Prop :=
  RUN Try.prog (pan R) (bins .eql 65 (.tmp 3) (.const (Go.Value.pointer Option.none)) x0 (Go.Value.pointer Option.none)) w fun v1 w2 =>
  SPL v1
  (R (.returned (Go.Value.int Go.IntKind.i64 0)) w2)
  (b1_1 R x0 w2)
abbrev q1 (R : EP) : XP := QX (fun ρ w => R (.returned (ρ 2)) w) (fun ρ w => R (.returned (ρ 2)) w) []
theorem b1_eq (R : EP) (ρ : Env) (w : World) : (b1 R (ρ 0) w) = codeP Try.prog (pan R) code (q1 R) ρ w := by kernel_rfl
theorem b1_ok (R : EP) (ρ : Env) (w : World) (h : b1 R (ρ 0) w) : codeP Try.prog (pan R) code (q1 R) ρ w := (b1_eq R ρ w).mp h
/-- What is owed for a call. -/
def run (R : EP) (a0 : Value) (w : World) : Prop := b1 R a0 w
theorem calls (R : EP) (a0 : Value) (w : World) (h : run R a0 w) : Calls Try.prog id #[a0] w R :=
  calls_of_t (f := id) (fn := Try.f53) (c := code) (by kernel_rfl) Try.func53 (by kernel_rfl) (by kernel_rfl) (args := [a0]) (Nat.le_of_ble_eq_true rfl) rfl (b1_ok R (envOf [a0]) w h)
theorem enters : Enters Try.prog id := fun args w => Try.call53 args w
theorem ct {a0 : Value} {w : World} {S : VP} (h : ∀ R : EP, (∀ v w, S v w → R (.returned v) w) → run R a0 w) : Ct Try.prog id #[a0] w S :=
  Ct.intro enters fun R hR => calls R a0 w (h R hR)
attribute [irreducible] b1_1 b1 run
attribute [go_sem] b1_1 b1 run
end tree_Arena_Len

/-! ### (*presage/tree.Arena).Nodes -/
namespace tree_Arena_Nodes
noncomputable def code : Code := bodyOf Try.f54
noncomputable abbrev p1 : Code := dropC 3 code
def b3 (R : EP) (x3 : Value) (w : World) (_r : Tok R := tok R) : Prop :=
  R (.returned x3) w
abbrev q1 (R : EP) : XP := QX (fun ρ w => R (.returned (ρ 2)) w) (fun ρ w => R (.returned (ρ 2)) w) []
theorem b3_eq (R : EP) (ρ : Env) (w : World) : (b3 R (ρ 3) w) = codeP Try.prog (pan R) (sndC p1) (q1 R) ρ w := by kernel_rfl
theorem b3_ok (R : EP) (ρ : Env) (w : World) (h : b3 R (ρ 3) w) : codeP Try.prog (pan R) (sndC p1) (q1 R) ρ w := (b3_eq R ρ w).mp h
noncomputable abbrev p2 : Code := dropC 1 (fstC p1)
noncomputable abbrev p3 : Code := loopC (blkC p2)
def b7_1 (R : EP) (C6 : VP) (x3 x14 v9 : Value) (w10 : World) (_r : Tok R := tok R) (_C6 : Tok C6 := tok C6) : Prop :=
  RUN Try.prog (pan R) (Instr.indexAt 49 x3 x14) w10 fun v11 w12 =>
  RUN Try.prog (pan R) (Instr.fieldAt 61 v11 3) w12 fun v13 w14 =>
  RUNU Try.prog (pan R) (Instr.storeAt 24 v13 v9) w14 fun w15 =>
  RUN Try.prog (pan R) (bins .add 3 (.tmp 14) (.const (Go.Value.int Go.IntKind.i64 1)) x14 (Go.Value.int Go.IntKind.i64 1)) w15 fun v16 w17 =>
  C6 v16 w17
def b7_2 (R : EP) (C6 : VP) (x3 x14 : Value) (w2 : World) (_r : Tok R := tok R) (_C6 : Tok C6 := tok C6) : Prop :=
  RUN Try.prog (pan R) (Instr.indexAt 49 x3 x14) w2 fun v3 w4 =>
  RUN Try.prog (pan R) (Instr.fieldAt 61 v3 3) w4 fun v5 w6 =>
  RUN Try.prog (pan R) (Instr.loadAt 24 v5) w6 fun v7 w8 =>
  CALL Try.prog (pan R) slices_Clone_int_int.id #[v7] w8 fun v9 w10 =>
  b7_1 R C6 x3 x14 v9 w10
def b7 (R : EP) (C6 : VP) (x3 x13 x14 : Value) (w : World) (_r : Tok R := tok R) (_C6 : Tok C6 := tok C6) : Prop :=
  RUN Try.prog (pan R) (bins .lss 3 (.tmp 14) (.tmp 13) x14 x13) w fun v1 w2 =>
  SPL v1
  (b7_2 R C6 x3 x14 w2)
  (b3 R x3 w2)
abbrev q2 (R : EP) (C6 : VP) : XP := QX (fun ρ w => C6 (ρ 14) w) (fun ρ w => R (.returned (ρ 2)) w) [(0, (fun ρ w => b3 R (ρ 3) w))]
theorem b7_eq (R : EP) (C6 : VP) (ρ : Env) (w : World) : (b7 R C6 (ρ 3) (ρ 13) (ρ 14) w) = codeP Try.prog (pan R) p3 (q2 R C6) ρ w := by kernel_rfl
theorem b7_ok (R : EP) (C6 : VP) (ρ : Env) (w : World) (h : b7 R C6 (ρ 3) (ρ 13) (ρ 14) w) : codeP Try.prog (pan R) p3 (q2 R C6) ρ w := (b7_eq R C6 ρ w).mp h
def l6 (R : EP) (x3 x13 x14 : Value) (w : World) (_r : Tok R := tok R) : Prop :=
  ∃ (J : VP) (μ : Value → World → Nat), J x14 w ∧ ∀ y14 w0, J y14 w0 → b7 R (fun z14 w1 => J z14 w1 ∧ μ z14 w1 < μ y14 w0) x3 x13 y14 w0
abbrev q3 (R : EP) : XP := QX (fun ρ w => b3 R (ρ 3) w) (fun ρ w => R (.returned (ρ 2)) w) [(0, (fun ρ w => b3 R (ρ 3) w))]
theorem l6_ok (R : EP) (ρ : Env) (w : World) (h : l6 R (ρ 3) (ρ 13) (ρ 14) w) : codeP Try.prog (pan R) (blkC p2) (q3 R) ρ w := by
  unfold l6 at h
  obtain ⟨J, μ, h0, hr⟩ := h
  have e : Code.loop (loopC (blkC p2)) = (blkC p2) := by kernel_rfl
  rw [← e]
  refine loopQ (fun ρ' w' => J (ρ' 14) w') (fun ρ' w' => μ (ρ' 14) w') h0 fun ρ' w' hA hI => ?_
  have e3 : ρ' 3 = ρ 3 := Agree.at hA 3 (by kernel_rfl)
  have e13 : ρ' 13 = ρ 13 := Agree.at hA 13 (by kernel_rfl)
  have h1 := hr (ρ' 14) w' hI
  rw [← e3, ← e13] at h1
  exact b7_ok R (fun z14 w1 => J z14 w1 ∧ μ z14 w1 < μ (ρ' 14) w') ρ' w' h1
theorem l6_intro (R : EP) (x3 x13 x14 : Value) (w : World) (J : VP) (μ : Value → World → Nat) (h0 : J x14 w)
    (hr : ∀ y14 w0, J y14 w0 → ∀ C6 : VP, (∀ z14 w1, J z14 w1 → μ z14 w1 < μ y14 w0 → C6 z14 w1) → b7 R C6 x3 x13 y14 w0) : l6 R x3 x13 x14 w := by
  unfold l6
  exact ⟨J, μ, h0, fun y14 w0 hJ => hr y14 w0 hJ _ (fun z14 w1 h1 h2 => ⟨h1, h2⟩)⟩
abbrev q4 (R : EP) : XP := QX (fun ρ w => b3 R (ρ 3) w) (fun ρ w => R (.returned (ρ 2)) w) []
theorem k5_ok (R : EP) (ρ : Env) (w : World) (h : l6 R (ρ 3) (ρ 13) (ρ 14) w) : codeP Try.prog (pan R) p2 (q4 R) ρ w := by
  have e : Code.block 0 (blkC p2) = p2 := by kernel_rfl
  rw [← e]
  exact blockQ (l6_ok R ρ w h)
def b4 (R : EP) (x3 : Value) (w : World) (_r : Tok R := tok R) : Prop :=
  RUN Try.prog (pan R) (Builtin.len_ #[49] 3 #[x3]) w fun v1 w2 =>
  l6 R x3 v1 (Go.Value.int Go.IntKind.i64 0) w2
abbrev q5 (R : EP) : XP := QX (fun ρ w => l6 R (ρ 3) (ρ 13) (ρ 14) w) (fun ρ w => R (.returned (ρ 2)) w) []
theorem b4_eq (R : EP) (ρ : Env) (w : World) : (b4 R (ρ 3) w) = codeP Try.prog (pan R) (preC 0 (fstC p1)) (q5 R) ρ w := by kernel_rfl
theorem b4_ok (R : EP) (ρ : Env) (w : World) (h : b4 R (ρ 3) w) : codeP Try.prog (pan R) (fstC p1) (q4 R) ρ w := by
  have e : appC 0 (preC 0 (fstC p1)) (dropC 1 (fstC p1)) = (fstC p1) := by kernel_rfl
  rw [← e]
  exact appQ (fun ρ w => l6 R (ρ 3) (ρ 13) (ρ 14) w) 0 ((b4_eq R ρ w).mp h) (fun ρ w h => k5_ok R ρ w h)
theorem k2_ok (R : EP) (ρ : Env) (w : World) (h : b4 R (ρ 3) w) : codeP Try.prog (pan R) p1 (q1 R) ρ w := by
  have e : Code.seq (fstC p1) (sndC p1) = p1 := by kernel_rfl
  rw [← e]
  exact seqQ (fun ρ w => b3 R (ρ 3) w) (b4_ok R ρ w h) (fun ρ w h => b3_ok R ρ w h)
def b1_1 (R : EP) (x0 : Value) (w2 : World) (_r : Tok R := tok R) : Prop :=
  NILC x0 fun v3 =>
  RUN Try.prog (pan R) (Instr.fieldAt 81 v3 0) w2 fun v4 w5 =>
  RUN Try.prog (pan R) (Instr.loadAt 49 v4) w5 fun v6 w7 =>
  CALL Try.prog (pan R) slices_Clone_api_Node_api_Node.id #[v6] w7 fun v8 w9 =>
  b4 R v8 w9
def b1 (R : EP) (x0 : Value) (w : World) (_r : Tok R := tok R) : Prop :=
  RUN Try.prog (pan R) (bins .eql 65 (.tmp 5) (.const (Go.Value.pointer Option.none)) x0 (Go.Value.pointer Option.none)) w fun v1 w2 =>
  SPL v1
  (R (.returned (Go.Value.slice Option.none 0 0)) w2)
  (b1_1 R x0 w2)
abbrev q6 (R : EP) : XP := QX (fun ρ w => b4 R (ρ 3) w) (fun ρ w => R (.returned (ρ 2)) w) []
theorem b1_eq (R : EP) (ρ : Env) (w : World) : (b1 R (ρ 0) w) = codeP Try.prog (pan R) (preC 2 code) (q6 R) ρ w := by kernel_rfl
theorem b1_ok (R : EP) (ρ : Env) (w : World) (h : b1 R (ρ 0) w) : codeP Try.prog (pan R) code (q1 R) ρ w := by
  have e : appC 2 (preC 2 code) (dropC 3 code) = code := by kernel_rfl
  rw [← e]
  exact appQ (fun ρ w => b4 R (ρ 3) w) 2 ((b1_eq R ρ w).mp h) (fun ρ w h => k2_ok R ρ w h)
/-- What is owed for a call. -/
def run (R : EP) (a0 : Value) (w : World) : Prop := b1 R a0 w
theorem calls (R : EP) (a0 : Value) (w : World) (h : run R a0 w) : Calls Try.prog id #[a0] w R :=
  calls_of_t (f := id) (fn := Try.f54) (c := code) (by kernel_rfl) Try.func54 (by kernel_rfl) (by kernel_rfl) (args := [a0]) (Nat.le_of_ble_eq_true rfl) rfl (b1_ok R (envOf [a0]) w h)
theorem enters : Enters Try.prog id := fun args w => Try.call54 args w
theorem ct {a0 : Value} {w : World} {S : VP} (h : ∀ R : EP, (∀ v w, S v w → R (.returned v) w) → run R a0 w) : Ct Try.prog id #[a0] w S :=
  Ct.intro enters fun R hR => calls R a0 w (h R hR)
attribute [irreducible] b3 b7_1 b7_2 b7 l6 b4 b1_1 b1 run
attribute [go_sem] b3 b7_1 b7_2 b7 b4 b1_1 b1 run
end tree_Arena_Nodes

/-! ### presage/tree.below -/
namespace tree_below
noncomputable def code : Code := bodyOf Try.f85
noncomputable abbrev p1 : Code := dropC 1 code
noncomputable abbrev p2 : Code := dropC 2 (sndC p1)

def b5 (R : EP) (w : World) (_r : Tok R := tok R) : Prop :=
  R (.returned (Go.Value.bool Bool.true)) w
abbrev q1 (R : EP) : XP := QX (fun ρ w => R (.returned (ρ 8)) w) (fun ρ w => R (.returned (ρ 8)) w) []
theorem b5_eq (R : EP) (ρ : Env) (w : World) : (b5 R w) = codeP Try.prog (pan R) (sndC p2) (q1 R) ρ w := by kernel_rfl
theorem b5_ok (R : EP) (ρ : Env) (w : World) (h : b5 R w) : codeP Try.prog (pan R) (sndC p2) (q1 R) ρ w := (b5_eq R ρ w).mp h
noncomputable abbrev p3 : Code := blkC (fstC p2)
noncomputable abbrev p4 : Code := dropC 1 (loopC p3)
noncomputable abbrev p5 : Code := dropC 2 (blkC p4)
def b12_1 (R : EP) (C7 : World → Prop) (x9 v7 : Value) (w10 : World) (_r : Tok R := tok R) (_C7 : Tok C7 := tok C7) : Prop :=
  CALL Try.prog (pan R) tree_walk_push.id #[x9, v7] w10 fun v11 w12 =>
  RUN Try.prog (pan R) (Op.unary .not v11) w12 fun v13 w14 =>
  SPL v13
  (R (.returned (Go.Value.bool Bool.false)) w14)
  (C7  w14)

def b12 (R : EP) (C7 : World → Prop) (x0 x2 x9 x10 : Value) (w : World) (_r : Tok R := tok R) (_C7 : Tok C7 := tok C7) : Prop :=
  RUN Try.prog (pan R) (Instr.indexAt 49 x0 x10) w fun v1 w2 =>
  RUN Try.prog (pan R) (Instr.fieldAt 61 v1 3) w2 fun v3 w4 =>
  RUN Try.prog (pan R) (Instr.loadAt 24 v3) w4 fun v5 w6 =>
  CALL Try.prog (pan R) slices_Clone_int_int.id #[v5] w6 fun v7 w8 =>
  CALLY Try.prog (pan R) x2 [v7] w8 fun v9 w10 =>
  b12_1 R C7 x9 v7 w10
abbrev q2 (R : EP) (C7 : World → Prop) : XP := QX (fun ρ w => C7  w) (fun ρ w => R (.returned (ρ 8)) w) [(2, (fun ρ w => C7  w)), (0, (fun ρ w => b5 R  w))]
theorem b12_eq (R : EP) (C7 : World → Prop) (ρ : Env) (w : World) : (b12 R C7 (ρ 0) (ρ 2) (ρ 9) (ρ 10) w) = codeP Try.prog (pan R) (sndC p5) (q2 R C7) ρ w := by kernel_rfl
theorem b12_ok (R : EP) (C7 : World → Prop) (ρ : Env) (w : World) (h : b12 R C7 (ρ 0) (ρ 2) (ρ 9) (ρ 10) w) : codeP Try.prog (pan R) (sndC p5) (q2 R C7) ρ w := (b12_eq R C7 ρ w).mp h
noncomputable abbrev p6 : Code := dropC 1 (fstC p5)

def b14 (R : EP) (C7 : World → Prop) (x0 x2 x9 x10 x75 : Value) (w : World) (_r : Tok R := tok R) (_C7 : Tok C7 := tok C7) : Prop :=
  SPL x75
  (R (.returned (Go.Value.bool Bool.false)) w)
  (b12 R C7 x0 x2 x9 x10 w)
abbrev q3 (R : EP) (C7 : World → Prop) : XP := QX (fun ρ w => b12 R C7 (ρ 0) (ρ 2) (ρ 9) (ρ 10) w) (fun ρ w => R (.returned (ρ 8)) w) [(2, (fun ρ w => C7  w)), (0, (fun ρ w => b5 R  w))]
theorem b14_eq (R : EP) (C7 : World → Prop) (ρ : Env) (w : World) : (b14 R C7 (ρ 0) (ρ 2) (ρ 9) (ρ 10) (ρ 75) w) = codeP Try.prog (pan R) p6 (q3 R C7) ρ w := by kernel_rfl
theorem b14_ok (R : EP) (C7 : World → Prop) (ρ : Env) (w : World) (h : b14 R C7 (ρ 0) (ρ 2) (ρ 9) (ρ 10) (ρ 75) w) : codeP Try.prog (pan R) p6 (q3 R C7) ρ w := (b14_eq R C7 ρ w).mp h
def b13_1 (R : EP) (C7 : World → Prop) (x0 x2 x3 x9 x10 : Value) (w4 : World) (_r : Tok R := tok R) (_C7 : Tok C7 := tok C7) : Prop :=
  RUN Try.prog (pan R) (Instr.indexAt 49 x0 x10) w4 fun v5 w6 =>
  RUN Try.prog (pan R) (Instr.loadAt 61 v5) w6 fun v7 w8 =>
  CALLY Try.prog (pan R) x3 [x10, v7] w8 fun v9 w10 =>
  RUN Try.prog (pan R) (Op.unary .not v9) w10 fun v11 w12 =>
  b14 R C7 x0 x2 x9 x10 v11 w12

def b13 (R : EP) (C7 : World → Prop) (x0 x2 x3 x9 x10 : Value) (w : World) (_r : Tok R := tok R) (_C7 : Tok C7 := tok C7) : Prop :=
  CALL Try.prog (pan R) tree_walk_sound.id #[x9, x10] w fun v1 w2 =>
  RUN Try.prog (pan R) (Op.unary .not v1) w2 fun v3 w4 =>
  SPL v3
  (b14 R C7 x0 x2 x9 x10 (Go.Value.bool Bool.true) w4)
  (b13_1 R C7 x0 x2 x3 x9 x10 w4)
abbrev q4 (R : EP) (C7 : World → Prop) : XP := QX (fun ρ w => b14 R C7 (ρ 0) (ρ 2) (ρ 9) (ρ 10) (ρ 75) w) (fun ρ w => R (.returned (ρ 8)) w) [(2, (fun ρ w => C7  w)), (0, (fun ρ w => b5 R  w))]
theorem b13_eq (R : EP) (C7 : World → Prop) (ρ : Env) (w : World) : (b13 R C7 (ρ 0) (ρ 2) (ρ 3) (ρ 9) (ρ 10) w) = codeP Try.prog (pan R) (preC 0 (fstC p5)) (q4 R C7) ρ w := by kernel_rfl
theorem b13_ok (R : EP) (C7 : World → Prop) (ρ : Env) (w : World) (h : b13 R C7 (ρ 0) (ρ 2) (ρ 3) (ρ 9) (ρ 10) w) : codeP Try.prog (pan R) (fstC p5) (q3 R C7) ρ w := by
  have e : appC 0 (preC 0 (fstC p5)) (dropC 1 (fstC p5)) = (fstC p5) := by kernel_rfl
  rw [← e]
  exact appQ (fun ρ w => b14 R C7 (ρ 0) (ρ 2) (ρ 9) (ρ 10) (ρ 75) w) 0 ((b13_eq R C7 ρ w).mp h) (fun ρ w h => b14_ok R C7 ρ w h)
theorem k11_ok (R : EP) (C7 : World → Prop) (ρ : Env) (w : World) (h : b13 R C7 (ρ 0) (ρ 2) (ρ 3) (ρ 9) (ρ 10) w) : codeP Try.prog (pan R) p5 (q2 R C7) ρ w := by
  have e : Code.seq (fstC p5) (sndC p5) = p5 := by kernel_rfl
  rw [← e]
  exact seqQ (fun ρ w => b12 R C7 (ρ 0) (ρ 2) (ρ 9) (ρ 10) w) (b13_ok R C7 ρ w h) (fun ρ w h => b12_ok R C7 ρ w h)

def b10 (R : EP) (C7 : World → Prop) (x0 x2 x3 x9 : Value) (w : World) (_r : Tok R := tok R) (_C7 : Tok C7 := tok C7) : Prop :=
  NILC x9 fun v1 =>
  PUR Try.prog (Instr.fieldAt 160 v1 2) fun v2 =>
  LD Try.prog (Instr.loadAt 24 v2) (World.drew w) fun v3 =>
  NILC x9 fun v4 =>
  PUR Try.prog (Instr.fieldAt 160 v4 2) fun v5 =>
  LD Try.prog (Instr.loadAt 24 v5) (World.drew w) fun v6 =>
  LD Try.prog (Builtin.len_ #[24] 3 #[v6]) (World.drew w) fun v7 =>
  PUR Try.prog (bins .sub 3 (.tmp 44) (.const (Go.Value.int Go.IntKind.i64 1)) v7 (Go.Value.int Go.IntKind.i64 1)) fun v8 =>
  PUR Try.prog (Instr.indexAt 24 v3 v8) fun v9 =>
  LD Try.prog (Instr.loadAt 3 v9) (World.drew w) fun v10 =>
  NILC x9 fun v11 =>
  PUR Try.prog (Instr.fieldAt 160 v11 2) fun v12 =>
  LD Try.prog (Instr.loadAt 24 v12) (World.drew (World.drew w)) fun v13 =>
  NILC x9 fun v14 =>
  PUR Try.prog (Instr.fieldAt 160 v14 2) fun v15 =>
  LD Try.prog (Instr.loadAt 24 v15) (World.drew (World.drew w)) fun v16 =>
  LD Try.prog (Builtin.len_ #[24] 3 #[v16]) (World.drew (World.drew w)) fun v17 =>
  PUR Try.prog (bins .sub 3 (.tmp 57) (.const (Go.Value.int Go.IntKind.i64 1)) v17 (Go.Value.int Go.IntKind.i64 1)) fun v18 =>
  PUR Try.prog (Instr.sliceAt 24 v13 none (some v18) none) fun v19 =>
  NILC x9 fun v20 =>
  PUR Try.prog (Instr.fieldAt 160 v20 2) fun v21 =>
  RUNU Try.prog (pan R) (Instr.storeAt 24 v21 v19) (World.drew (World.drew w)) fun w22 =>
  b13 R C7 x0 x2 x3 x9 v10 w22
abbrev q5 (R : EP) (C7 : World → Prop) : XP := QX (fun ρ w => b13 R C7 (ρ 0) (ρ 2) (ρ 3) (ρ 9) (ρ 10) w) (fun ρ w => R (.returned (ρ 8)) w) [(2, (fun ρ w => C7  w)), (0, (fun ρ w => b5 R  w))]
theorem b10_eq (R : EP) (C7 : World → Prop) (ρ : Env) (w : World) : (b10 R C7 (ρ 0) (ρ 2) (ρ 3) (ρ 9) w) = codeP Try.prog (pan R) (preC 1 (blkC p4)) (q5 R C7) ρ w := by kernel_rfl
theorem b10_ok (R : EP) (C7 : World → Prop) (ρ : Env) (w : World) (h : b10 R C7 (ρ 0) (ρ 2) (ρ 3) (ρ 9) w) : codeP Try.prog (pan R) (blkC p4) (q2 R C7) ρ w := by
  have e : appC 1 (preC 1 (blkC p4)) (dropC 2 (blkC p4)) = (blkC p4) := by kernel_rfl
  rw [← e]
  exact appQ (fun ρ w => b13 R C7 (ρ 0) (ρ 2) (ρ 3) (ρ 9) (ρ 10) w) 1 ((b10_eq R C7 ρ w).mp h) (fun ρ w h => k11_ok R C7 ρ w h)
abbrev q6 (R : EP) (C7 : World → Prop) : XP := QX (fun ρ w => C7  w) (fun ρ w => R (.returned (ρ 8)) w) [(0, (fun ρ w => b5 R  w))]
theorem k9_ok (R : EP) (C7 : World → Prop) (ρ : Env) (w : World) (h : b10 R C7 (ρ 0) (ρ 2) (ρ 3) (ρ 9) w) : codeP Try.prog (pan R) p4 (q6 R C7) ρ w := by
  have e : Code.block 1 (blkC p4) = p4 := by kernel_rfl
  rw [← e]
  exact blockQ (b10_ok R C7 ρ w h)

def b8 (R : EP) (C7 : World → Prop) (x0 x2 x3 x9 : Value) (w : World) (_r : Tok R := tok R) (_C7 : Tok C7 := tok C7) : Prop :=
  NILC x9 fun v1 =>
  RUN Try.prog (pan R) (Instr.fieldAt 160 v1 2) w fun v2 w3 =>
  RUN Try.prog (pan R) (Instr.loadAt 24 v2) w3 fun v4 w5 =>
  RUN Try.prog (pan R) (Builtin.len_ #[24] 3 #[v4]) w5 fun v6 w7 =>
  RUN Try.prog (pan R) (bins .gtr 3 (.tmp 34) (.const (Go.Value.int Go.IntKind.i64 0)) v6 (Go.Value.int Go.IntKind.i64 0)) w7 fun v8 w9 =>
  SPL v8
  (b10 R C7 x0 x2 x3 x9 w9)
  (b5 R w9)
abbrev q7 (R : EP) (C7 : World → Prop) : XP := QX (fun ρ w => b10 R C7 (ρ 0) (ρ 2) (ρ 3) (ρ 9) w) (fun ρ w => R (.returned (ρ 8)) w) [(0, (fun ρ w => b5 R  w))]
theorem b8_eq (R : EP) (C7 : World → Prop) (ρ : Env) (w : World) : (b8 R C7 (ρ 0) (ρ 2) (ρ 3) (ρ 9) w) = codeP Try.prog (pan R) (preC 0 (loopC p3)) (q7 R C7) ρ w := by kernel_rfl
theorem b8_ok (R : EP) (C7 : World → Prop) (ρ : Env) (w : World) (h : b8 R C7 (ρ 0) (ρ 2) (ρ 3) (ρ 9) w) : codeP Try.prog (pan R) (loopC p3) (q6 R C7) ρ w := by
  have e : appC 0 (preC 0 (loopC p3)) (dropC 1 (loopC p3)) = (loopC p3) := by kernel_rfl
  rw [← e]
  exact appQ (fun ρ w => b10 R C7 (ρ 0) (ρ 2) (ρ 3) (ρ 9) w) 0 ((b8_eq R C7 ρ w).mp h) (fun ρ w h => k9_ok R C7 ρ w h)

def l7 (R : EP) (x0 x2 x3 x9 : Value) (w : World) (_r : Tok R := tok R) : Prop :=
  ∃ (J : World → Prop) (μ : World → Nat), J  w ∧ ∀ w0, J  w0 → b8 R (fun  w1 => J  w1 ∧ μ  w1 < μ  w0) x0 x2 x3 x9 w0
abbrev q8 (R : EP) : XP := QX (fun ρ w => b5 R  w) (fun ρ w => R (.returned (ρ 8)) w) [(0, (fun ρ w => b5 R  w))]
theorem l7_ok (R : EP) (ρ : Env) (w : World) (h : l7 R (ρ 0) (ρ 2) (ρ 3) (ρ 9) w) : codeP Try.prog (pan R) p3 (q8 R) ρ w := by
  unfold l7 at h
  obtain ⟨J, μ, h0, hr⟩ := h
  have e : Code.loop (loopC p3) = p3 := by kernel_rfl
  rw [← e]
  refine loopQ (fun ρ' w' => J  w') (fun ρ' w' => μ  w') h0 fun ρ' w' hA hI => ?_
  have e0 : ρ' 0 = ρ 0 := Agree.at hA 0 (by kernel_rfl)
  have e2 : ρ' 2 = ρ 2 := Agree.at hA 2 (by kernel_rfl)
  have e3 : ρ' 3 = ρ 3 := Agree.at hA 3 (by kernel_rfl)
  have e9 : ρ' 9 = ρ 9 := Agree.at hA 9 (by kernel_rfl)
  have h1 := hr  w' hI
  rw [← e0, ← e2, ← e3, ← e9] at h1
  exact b8_ok R (fun  w1 => J  w1 ∧ μ  w1 < μ  w') ρ' w' h1
theorem l7_intro (R : EP) (x0 x2 x3 x9 : Value) (w : World) (J : World → Prop) (μ : World → Nat) (h0 : J  w)
    (hr : ∀ w0, J  w0 → ∀ C7 : World → Prop, (∀  w1, J  w1 → μ  w1 < μ  w0 → C7  w1) → b8 R C7 x0 x2 x3 x9 w0) : l7 R x0 x2 x3 x9 w := by
  unfold l7
  exact ⟨J, μ, h0, fun  w0 hJ => hr  w0 hJ _ (fun  w1 h1 h2 => ⟨h1, h2⟩)⟩
abbrev q9 (R : EP) : XP := QX (fun ρ w => b5 R  w) (fun ρ w => R (.returned (ρ 8)) w) []
theorem k6_ok (R : EP) (ρ : Env) (w : World) (h : l7 R (ρ 0) (ρ 2) (ρ 3) (ρ 9) w) : codeP Try.prog (pan R) (fstC p2) (q9 R) ρ w := by
  have e : Code.block 0 (blkC (fstC p2)) = (fstC p2) := by kernel_rfl
  rw [← e]
  exact blockQ (l7_ok R ρ w h)
theorem k4_ok (R : EP) (ρ : Env) (w : World) (h : l7 R (ρ 0) (ρ 2) (ρ 3) (ρ 9) w) : codeP Try.prog (pan R) p2 (q1 R) ρ w := by
  have e : Code.seq (fstC p2) (sndC p2) = p2 := by kernel_rfl
  rw [← e]
  exact seqQ (fun ρ w => b5 R  w) (k6_ok R ρ w h) (fun ρ w h => b5_ok R ρ w h)

def b3 (R : EP) (x0 x1 x2 x3 : Value) (w : World) (_r : Tok R := tok R) : Prop :=
  RUN Try.prog (pan R) (Builtin.len_ #[49] 3 #[x0]) w fun v1 w2 =>
  RUN Try.prog (pan R) (Instr.makeSlice 68 v1 v1) w2 fun v3 w4 =>
  RUN Try.prog (pan R) (Instr.build 160 #[(0, x0), (1, v3)]) w4 fun v5 w6 =>
  RUN Try.prog (pan R) (Instr.box 160 v5) w6 fun v7 w8 =>
  RUN Try.prog (pan R) (Instr.buildSlice 24 1 #[(0, x1)]) w8 fun v9 w10 =>
  CALL Try.prog (pan R) tree_walk_push.id #[v7, v9] w10 fun v11 w12 =>
  l7 R x0 x2 x3 v7 w12
abbrev q10 (R : EP) : XP := QX (fun ρ w => l7 R (ρ 0) (ρ 2) (ρ 3) (ρ 9) w) (fun ρ w => R (.returned (ρ 8)) w) []
theorem b3_eq (R : EP) (ρ : Env) (w : World) : (b3 R (ρ 0) (ρ 1) (ρ 2) (ρ 3) w) = codeP Try.prog (pan R) (preC 1 (sndC p1)) (q10 R) ρ w := by kernel_rfl
theorem b3_ok (R : EP) (ρ : Env) (w : World) (h : b3 R (ρ 0) (ρ 1) (ρ 2) (ρ 3) w) : codeP Try.prog (pan R) (sndC p1) (q1 R) ρ w := by
  have e : appC 1 (preC 1 (sndC p1)) (dropC 2 (sndC p1)) = (sndC p1) := by kernel_rfl
  rw [← e]
  exact appQ (fun ρ w => l7 R (ρ 0) (ρ 2) (ρ 3) (ρ 9) w) 1 ((b3_eq R ρ w).mp h) (fun ρ w h => k4_ok R ρ w h)
noncomputable abbrev p7 : Code := dropC 1 (fstC p1)

def b16 (R : EP) (x0 x1 x2 x3 x19 : Value) (w : World) (_r : Tok R := tok R) : Prop :=
  SPL x19
  (R (.returned (Go.Value.bool Bool.false)) w)
  (b3 R x0 x1 x2 x3 w)
abbrev q11 (R : EP) : XP := QX (fun ρ w => b3 R (ρ 0) (ρ 1) (ρ 2) (ρ 3) w) (fun ρ w => R (.returned (ρ 8)) w) []
theorem b16_eq (R : EP) (ρ : Env) (w : World) : (b16 R (ρ 0) (ρ 1) (ρ 2) (ρ 3) (ρ 19) w) = codeP Try.prog (pan R) p7 (q11 R) ρ w := by kernel_rfl
theorem b16_ok (R : EP) (ρ : Env) (w : World) (h : b16 R (ρ 0) (ρ 1) (ρ 2) (ρ 3) (ρ 19) w) : codeP Try.prog (pan R) p7 (q11 R) ρ w := (b16_eq R ρ w).mp h
def b15_1 (R : EP) (x0 x1 x2 x3 : Value) (w2 : World) (_r : Tok R := tok R) : Prop :=
  RUN Try.prog (pan R) (Builtin.len_ #[49] 3 #[x0]) w2 fun v3 w4 =>
  RUN Try.prog (pan R) (bins .geq 3 (.tmp 15) (.tmp 17) x1 v3) w4 fun v5 w6 =>
  b16 R x0 x1 x2 x3 v5 w6

def b15 (R : EP) (x0 x1 x2 x3 : Value) (w : World) (_r : Tok R := tok R) : Prop :=
  RUN Try.prog (pan R) (bins .lss 3 (.tmp 12) (.const (Go.Value.int Go.IntKind.i64 0)) x1 (Go.Value.int Go.IntKind.i64 0)) w fun v1 w2 =>
  SPL v1
  (b16 R x0 x1 x2 x3 (Go.Value.bool Bool.true) w2)
  (b15_1 R x0 x1 x2 x3 w2)
abbrev q12 (R : EP) : XP := QX (fun ρ w => b16 R (ρ 0) (ρ 1) (ρ 2) (ρ 3) (ρ 19) w) (fun ρ w => R (.returned (ρ 8)) w) []
theorem b15_eq (R : EP) (ρ : Env) (w : World) : (b15 R (ρ 0) (ρ 1) (ρ 2) (ρ 3) w) = codeP Try.prog (pan R) (preC 0 (fstC p1)) (q12 R) ρ w := by kernel_rfl
theorem b15_ok (R : EP) (ρ : Env) (w : World) (h : b15 R (ρ 0) (ρ 1) (ρ 2) (ρ 3) w) : codeP Try.prog (pan R) (fstC p1) (q11 R) ρ w := by
  have e : appC 0 (preC 0 (fstC p1)) (dropC 1 (fstC p1)) = (fstC p1) := by kernel_rfl
  rw [← e]
  exact appQ (fun ρ w => b16 R (ρ 0) (ρ 1) (ρ 2) (ρ 3) (ρ 19) w) 0 ((b15_eq R ρ w).mp h) (fun ρ w h => b16_ok R ρ w h)
theorem k2_ok (R : EP) (ρ : Env) (w : World) (h : b15 R (ρ 0) (ρ 1) (ρ 2) (ρ 3) w) : codeP Try.prog (pan R) p1 (q1 R) ρ w := by
  have e : Code.seq (fstC p1) (sndC p1) = p1 := by kernel_rfl
  rw [← e]
  exact seqQ (fun ρ w => b3 R (ρ 0) (ρ 1) (ρ 2) (ρ 3) w) (b15_ok R ρ w h) (fun ρ w h => b3_ok R ρ w h)

def b1 (R : EP) (x0 x1 x2 x3 : Value) (w : World) (_r : Tok R := tok R) : Prop :=
  b15 R x0 x1 x2 x3 w
abbrev q13 (R : EP) : XP := QX (fun ρ w => b15 R (ρ 0) (ρ 1) (ρ 2) (ρ 3) w) (fun ρ w => R (.returned (ρ 8)) w) []
theorem b1_eq (R : EP) (ρ : Env) (w : World) : (b1 R (ρ 0) (ρ 1) (ρ 2) (ρ 3) w) = codeP Try.prog (pan R) (preC 0 code) (q13 R) ρ w := by kernel_rfl
theorem b1_ok (R : EP) (ρ : Env) (w : World) (h : b1 R (ρ 0) (ρ 1) (ρ 2) (ρ 3) w) : codeP Try.prog (pan R) code (q1 R) ρ w := by
  have e : appC 0 (preC 0 code) (dropC 1 code) = code := by kernel_rfl
  rw [← e]
  exact appQ (fun ρ w => b15 R (ρ 0) (ρ 1) (ρ 2) (ρ 3) w) 0 ((b1_eq R ρ w).mp h) (fun ρ w h => k2_ok R ρ w h)
/-- What is owed for a call. -/
def run (R : EP) (a0 a1 a2 a3 : Value) (w : World) : Prop := b1 R a0 a1 a2 a3 w
theorem calls (R : EP) (a0 a1 a2 a3 : Value) (w : World) (h : run R a0 a1 a2 a3 w) : Calls Try.prog id #[a0, a1, a2, a3] w R :=
  calls_of_t (f := id) (fn := Try.f85) (c := code) (by kernel_rfl) Try.func85 (by kernel_rfl) (by kernel_rfl) (args := [a0, a1, a2, a3]) (Nat.le_of_ble_eq_true rfl) rfl (b1_ok R (envOf [a0, a1, a2, a3]) w h)
theorem enters : Enters Try.prog id := fun args w => Try.call85 args w
theorem ct {a0 a1 a2 a3 : Value} {w : World} {S : VP} (h : ∀ R : EP, (∀ v w, S v w → R (.returned v) w) → run R a0 a1 a2 a3 w) : Ct Try.prog id #[a0, a1, a2, a3] w S :=
  Ct.intro enters fun R hR => calls R a0 a1 a2 a3 w (h R hR)
attribute [irreducible] b5 b12_1 b12 b14 b13_1 b13 b10 b8 l7 b3 b16 b15_1 b15 b1 run
attribute [go_sem] b5 b12_1 b12 b14 b13_1 b13 b10 b8 b3 b16 b15_1 b15 b1 run
end tree_below

/-! ### presage/tree.left -/
namespace tree_left
noncomputable def code : Code := bodyOf Try.f86
def b1 (R : EP) (x0 : Value) (w : World) (_r : Tok R := tok R) : Prop :=
  CALL Try.prog (pan R) slices_Reverse_int_int.id #[x0] w fun v1 w2 =>
  R (.returned (.tuple #[])) w2
abbrev q1 (R : EP) : XP := QX (fun ρ w => R (.returned (.tuple #[])) w) (fun ρ w => R (.returned (.tuple #[])) w) []
theorem b1_eq (R : EP) (ρ : Env) (w : World) : (b1 R (ρ 0) w) = codeP Try.prog (pan R) code (q1 R) ρ w := by kernel_rfl
theorem b1_ok (R : EP) (ρ : Env) (w : World) (h : b1 R (ρ 0) w) : codeP Try.prog (pan R) code (q1 R) ρ w := (b1_eq R ρ w).mp h
/-- What is owed for a call. -/
def run (R : EP) (a0 : Value) (w : World) : Prop := b1 R a0 w
theorem calls (R : EP) (a0 : Value) (w : World) (h : run R a0 w) : Calls Try.prog id #[a0] w R :=
  calls_of_0 (f := id) (fn := Try.f86) (c := code) (by kernel_rfl) Try.func86 (by kernel_rfl) (by kernel_rfl) (args := [a0]) (Nat.le_of_ble_eq_true rfl) rfl (b1_ok R (envOf [a0]) w h)
theorem enters : Enters Try.prog id := fun args w => Try.call86 args w
theorem ct {a0 : Value} {w : World} {S : VP} (h : ∀ R : EP, (∀ v w, S v w → R (.returned v) w) → run R a0 w) : Ct Try.prog id #[a0] w S :=
  Ct.intro enters fun R hR => calls R a0 w (h R hR)
attribute [irreducible] b1 run
attribute [go_sem] b1 run
end tree_left

/-! ### presage/tree.Frontier$1 -/
namespace tree_Frontier_1
noncomputable def code : Code := bodyOf Try.f87
def b1_1 (R : EP) (x2 v1 : Value) (w8 : World) (_r : Tok R := tok R) : Prop :=
  RUN Try.prog (pan R) (Instr.loadAt 24 x2) w8 fun v9 w10 =>
  RUN Try.prog (pan R) (Instr.fieldAt 61 v1 0) w10 fun v11 w12 =>
  RUN Try.prog (pan R) (Instr.loadAt 3 v11) w12 fun v13 w14 =>
  RUN Try.prog (pan R) (Instr.buildSlice 24 1 #[(0, v13)]) w14 fun v15 w16 =>
  RUN Try.prog (pan R) (Builtin.append_ #[24, 24] 24 #[v9, v15]) w16 fun v17 w18 =>
  RUNU Try.prog (pan R) (Instr.storeAt 24 x2 v17) w18 fun w19 =>
  R (.returned (Go.Value.bool Bool.true)) w19
def b1 (R : EP) (x1 x2 : Value) (w : World) (_r : Tok R := tok R) : Prop :=
  RUN Try.prog (pan R) (Instr.box 61 x1) w fun v1 w2 =>
  RUN Try.prog (pan R) (Instr.fieldAt 61 v1 1) w2 fun v3 w4 =>
  RUN Try.prog (pan R) (Instr.loadAt 3 v3) w4 fun v5 w6 =>
  RUN Try.prog (pan R) (bins .lss 3 (.tmp 7) (.const (Go.Value.int Go.IntKind.i64 0)) v5 (Go.Value.int Go.IntKind.i64 0)) w6 fun v7 w8 =>
  SPL v7
  (b1_1 R x2 v1 w8)
  (R (.returned (Go.Value.bool Bool.true)) w8)
abbrev q1 (R : EP) : XP := QX (fun ρ w => R (.returned (ρ 5)) w) (fun ρ w => R (.returned (ρ 5)) w) []
theorem b1_eq (R : EP) (ρ : Env) (w : World) : (b1 R (ρ 1) (ρ 2) w) = codeP Try.prog (pan R) code (q1 R) ρ w := by kernel_rfl
theorem b1_ok (R : EP) (ρ : Env) (w : World) (h : b1 R (ρ 1) (ρ 2) w) : codeP Try.prog (pan R) code (q1 R) ρ w := (b1_eq R ρ w).mp h
/-- What is owed for a call. -/
def run (R : EP) (a0 a1 a2 : Value) (w : World) : Prop := b1 R a1 a2 w
theorem calls (R : EP) (a0 a1 a2 : Value) (w : World) (h : run R a0 a1 a2 w) : Calls Try.prog id #[a0, a1, a2] w R :=
  calls_of_t (f := id) (fn := Try.f87) (c := code) (by kernel_rfl) Try.func87 (by kernel_rfl) (by kernel_rfl) (args := [a0, a1, a2]) (Nat.le_of_ble_eq_true rfl) rfl (b1_ok R (envOf [a0, a1, a2]) w h)
theorem enters : Enters Try.prog id := fun args w => Try.call87 args w
theorem ct {a0 a1 a2 : Value} {w : World} {S : VP} (h : ∀ R : EP, (∀ v w, S v w → R (.returned v) w) → run R a0 a1 a2 w) : Ct Try.prog id #[a0, a1, a2] w S :=
  Ct.intro enters fun R hR => calls R a0 a1 a2 w (h R hR)
attribute [irreducible] b1_1 b1 run
attribute [go_sem] b1_1 b1 run
end tree_Frontier_1

/-! ### presage/tree.right -/
namespace tree_right
noncomputable def code : Code := bodyOf Try.f88

def b1 (R : EP) (w : World) (_r : Tok R := tok R) : Prop :=
  R (.returned (.tuple #[])) w
abbrev q1 (R : EP) : XP := QX (fun ρ w => R (.returned (.tuple #[])) w) (fun ρ w => R (.returned (.tuple #[])) w) []
theorem b1_eq (R : EP) (ρ : Env) (w : World) : (b1 R w) = codeP Try.prog (pan R) code (q1 R) ρ w := by kernel_rfl
theorem b1_ok (R : EP) (ρ : Env) (w : World) (h : b1 R w) : codeP Try.prog (pan R) code (q1 R) ρ w := (b1_eq R ρ w).mp h
/-- What is owed for a call. -/
def run (R : EP) (a0 : Value) (w : World) : Prop := b1 R w
theorem calls (R : EP) (a0 : Value) (w : World) (h : run R a0 w) : Calls Try.prog id #[a0] w R :=
  calls_of_0 (f := id) (fn := Try.f88) (c := code) (by kernel_rfl) Try.func88 (by kernel_rfl) (by kernel_rfl) (args := [a0]) (Nat.le_of_ble_eq_true rfl) rfl (b1_ok R (envOf [a0]) w h)
theorem enters : Enters Try.prog id := fun args w => Try.call88 args w
theorem ct {a0 : Value} {w : World} {S : VP} (h : ∀ R : EP, (∀ v w, S v w → R (.returned v) w) → run R a0 w) : Ct Try.prog id #[a0] w S :=
  Ct.intro enters fun R hR => calls R a0 w (h R hR)
attribute [irreducible] b1 run
attribute [go_sem] b1 run
end tree_right

/-! ### presage/tree.Rightmost$1 -/
namespace tree_Rightmost_1
noncomputable def code : Code := bodyOf Try.f89
def b1_1 (R : EP) (x2 v1 : Value) (w8 : World) (_r : Tok R := tok R) : Prop :=
  RUN Try.prog (pan R) (Instr.loadAt 24 x2) w8 fun v9 w10 =>
  RUN Try.prog (pan R) (Instr.fieldAt 61 v1 1) w10 fun v11 w12 =>
  RUN Try.prog (pan R) (Instr.loadAt 3 v11) w12 fun v13 w14 =>
  RUN Try.prog (pan R) (Instr.buildSlice 24 1 #[(0, v13)]) w14 fun v15 w16 =>
  RUN Try.prog (pan R) (Builtin.append_ #[24, 24] 24 #[v9, v15]) w16 fun v17 w18 =>
  RUNU Try.prog (pan R) (Instr.storeAt 24 x2 v17) w18 fun w19 =>
  R (.returned (Go.Value.bool Bool.true)) w19
def b1 (R : EP) (x1 x2 : Value) (w : World) (_r : Tok R := tok R) : Prop :=
  RUN Try.prog (pan R) (Instr.box 61 x1) w fun v1 w2 =>
  RUN Try.prog (pan R) (Instr.fieldAt 61 v1 1) w2 fun v3 w4 =>
  RUN Try.prog (pan R) (Instr.loadAt 3 v3) w4 fun v5 w6 =>
  RUN Try.prog (pan R) (bins .geq 3 (.tmp 7) (.const (Go.Value.int Go.IntKind.i64 0)) v5 (Go.Value.int Go.IntKind.i64 0)) w6 fun v7 w8 =>
  SPL v7
  (b1_1 R x2 v1 w8)
  (R (.returned (Go.Value.bool Bool.true)) w8)
abbrev q1 (R : EP) : XP := QX (fun ρ w => R (.returned (ρ 5)) w) (fun ρ w => R (.returned (ρ 5)) w) []
theorem b1_eq (R : EP) (ρ : Env) (w : World) : (b1 R (ρ 1) (ρ 2) w) = codeP Try.prog (pan R) code (q1 R) ρ w := by kernel_rfl
theorem b1_ok (R : EP) (ρ : Env) (w : World) (h : b1 R (ρ 1) (ρ 2) w) : codeP Try.prog (pan R) code (q1 R) ρ w := (b1_eq R ρ w).mp h
/-- What is owed for a call. -/
def run (R : EP) (a0 a1 a2 : Value) (w : World) : Prop := b1 R a1 a2 w
theorem calls (R : EP) (a0 a1 a2 : Value) (w : World) (h : run R a0 a1 a2 w) : Calls Try.prog id #[a0, a1, a2] w R :=
  calls_of_t (f := id) (fn := Try.f89) (c := code) (by kernel_rfl) Try.func89 (by kernel_rfl) (by kernel_rfl) (args := [a0, a1, a2]) (Nat.le_of_ble_eq_true rfl) rfl (b1_ok R (envOf [a0, a1, a2]) w h)
theorem enters : Enters Try.prog id := fun args w => Try.call89 args w
theorem ct {a0 a1 a2 : Value} {w : World} {S : VP} (h : ∀ R : EP, (∀ v w, S v w → R (.returned v) w) → run R a0 a1 a2 w) : Ct Try.prog id #[a0, a1, a2] w S :=
  Ct.intro enters fun R hR => calls R a0 a1 a2 w (h R hR)
attribute [irreducible] b1_1 b1 run
attribute [go_sem] b1_1 b1 run
end tree_Rightmost_1

/-! ### presage/tree.Derives$1 -/
namespace tree_Derives_1
noncomputable def code : Code := bodyOf Try.f91
def b1_1 (R : EP) (x2 v1 : Value) (w8 : World) (_r : Tok R := tok R) : Prop :=
  RUN Try.prog (pan R) (Instr.loadAt 119 x2) w8 fun v9 w10 =>
  RUN Try.prog (pan R) (Instr.loadAt 61 v1) w10 fun v11 w12 =>
  CALL Try.prog (pan R) tree_proof_leaf.id #[v9, v11] w12 fun v13 w14 =>
  R (.returned v13) w14
def b1_2 (R : EP) (x2 v1 : Value) (w8 : World) (_r : Tok R := tok R) : Prop :=
  RUN Try.prog (pan R) (Instr.loadAt 119 x2) w8 fun v15 w16 =>
  RUN Try.prog (pan R) (Instr.loadAt 61 v1) w16 fun v17 w18 =>
  CALL Try.prog (pan R) tree_proof_joined.id #[v15, v17] w18 fun v19 w20 =>
  R (.returned v19) w20
def b1 (R : EP) (x1 x2 : Value) (w : World) (_r : Tok R := tok R) : Prop :=
  RUN Try.prog (pan R) (Instr.box 61 x1) w fun v1 w2 =>
  RUN Try.prog (pan R) (Instr.fieldAt 61 v1 1) w2 fun v3 w4 =>
  RUN Try.prog (pan R) (Instr.loadAt 3 v3) w4 fun v5 w6 =>
  RUN Try.prog (pan R) (bins .lss 3 (.tmp 7) (.const (Go.Value.int Go.IntKind.i64 0)) v5 (Go.Value.int Go.IntKind.i64 0)) w6 fun v7 w8 =>
  SPL v7
  (b1_1 R x2 v1 w8)
  (b1_2 R x2 v1 w8)
abbrev q1 (R : EP) : XP := QX (fun ρ w => R (.returned (ρ 5)) w) (fun ρ w => R (.returned (ρ 5)) w) []
theorem b1_eq (R : EP) (ρ : Env) (w : World) : (b1 R (ρ 1) (ρ 2) w) = codeP Try.prog (pan R) code (q1 R) ρ w := by kernel_rfl
theorem b1_ok (R : EP) (ρ : Env) (w : World) (h : b1 R (ρ 1) (ρ 2) w) : codeP Try.prog (pan R) code (q1 R) ρ w := (b1_eq R ρ w).mp h
/-- What is owed for a call. -/
def run (R : EP) (a0 a1 a2 : Value) (w : World) : Prop := b1 R a1 a2 w
theorem calls (R : EP) (a0 a1 a2 : Value) (w : World) (h : run R a0 a1 a2 w) : Calls Try.prog id #[a0, a1, a2] w R :=
  calls_of_t (f := id) (fn := Try.f91) (c := code) (by kernel_rfl) Try.func91 (by kernel_rfl) (by kernel_rfl) (args := [a0, a1, a2]) (Nat.le_of_ble_eq_true rfl) rfl (b1_ok R (envOf [a0, a1, a2]) w h)
theorem enters : Enters Try.prog id := fun args w => Try.call91 args w
theorem ct {a0 a1 a2 : Value} {w : World} {S : VP} (h : ∀ R : EP, (∀ v w, S v w → R (.returned v) w) → run R a0 a1 a2 w) : Ct Try.prog id #[a0, a1, a2] w S :=
  Ct.intro enters fun R hR => calls R a0 a1 a2 w (h R hR)
attribute [irreducible] b1_1 b1_2 b1 run
attribute [go_sem] b1_1 b1_2 b1 run
end tree_Derives_1

/-! ### (*presage/tree.proof).leaf -/
namespace tree_proof_leaf
noncomputable def code : Code := bodyOf Try.f92
noncomputable abbrev p1 : Code := dropC 2 code
def b2 (R : EP) (x0 x5 : Value) (w : World) (_r : Tok R := tok R) : Prop :=
  NILC x0 fun v1 =>
  RUN Try.prog (pan R) (Instr.fieldAt 121 v1 3) w fun v2 w3 =>
  RUN Try.prog (pan R) (Instr.loadAt 3 v2) w3 fun v4 w5 =>
  RUN Try.prog (pan R) (bins .add 3 (.tmp 59) (.const (Go.Value.int Go.IntKind.i64 1)) v4 (Go.Value.int Go.IntKind.i64 1)) w5 fun v6 w7 =>
  NILC x0 fun v8 =>
  RUN Try.prog (pan R) (Instr.fieldAt 121 v8 3) w7 fun v9 w10 =>
  RUNU Try.prog (pan R) (Instr.storeAt 3 v9 v6) w10 fun w11 =>
  R (.returned x5) w11
abbrev q1 (R : EP) : XP := QX (fun ρ w => R (.returned (ρ 4)) w) (fun ρ w => R (.returned (ρ 4)) w) []
theorem b2_eq (R : EP) (ρ : Env) (w : World) : (b2 R (ρ 0) (ρ 5) w) = codeP Try.prog (pan R) p1 (q1 R) ρ w := by kernel_rfl
theorem b2_ok (R : EP) (ρ : Env) (w : World) (h : b2 R (ρ 0) (ρ 5) w) : codeP Try.prog (pan R) p1 (q1 R) ρ w := (b2_eq R ρ w).mp h
def b1_1 (R : EP) (x0 v1 : Value) (w2 : World) (_r : Tok R := tok R) : Prop :=
  PUR Try.prog (Instr.fieldAt 61 v1 2) fun v33 =>
  LD Try.prog (Instr.loadAt 3 v33) (World.drew w2) fun v34 =>
  NILC x0 fun v35 =>
  PUR Try.prog (Instr.fieldAt 121 v35 3) fun v36 =>
  LD Try.prog (Instr.loadAt 3 v36) (World.drew w2) fun v37 =>
  PUR Try.prog (bins .eql 3 (.tmp 49) (.tmp 53) v34 v37) fun v38 =>
  b2 R x0 v38 (World.drew w2)
def b1_2 (R : EP) (x0 v1 : Value) (w2 : World) (_r : Tok R := tok R) : Prop :=
  NILC x0 fun v22 =>
  PUR Try.prog (Instr.fieldAt 121 v22 2) fun v23 =>
  LD Try.prog (Instr.loadAt 24 v23) (World.drew w2) fun v24 =>
  NILC x0 fun v25 =>
  PUR Try.prog (Instr.fieldAt 121 v25 3) fun v26 =>
  LD Try.prog (Instr.loadAt 3 v26) (World.drew w2) fun v27 =>
  PUR Try.prog (Instr.indexAt 24 v24 v27) fun v28 =>
  LD Try.prog (Instr.loadAt 3 v28) (World.drew w2) fun v29 =>
  PUR Try.prog (Instr.fieldAt 61 v1 0) fun v30 =>
  LD Try.prog (Instr.loadAt 3 v30) (World.drew w2) fun v31 =>
  PUR Try.prog (bins .eql 3 (.tmp 42) (.tmp 44) v29 v31) fun v32 =>
  SPL v32
  (b1_1 R x0 v1 w2)
  (b2 R x0 (Go.Value.bool Bool.false) (World.drew w2))
def b1_3 (R : EP) (x0 v1 : Value) (w2 : World) (_r : Tok R := tok R) : Prop :=
  NILC x0 fun v14 =>
  PUR Try.prog (Instr.fieldAt 121 v14 3) fun v15 =>
  LD Try.prog (Instr.loadAt 3 v15) (World.drew w2) fun v16 =>
  NILC x0 fun v17 =>
  PUR Try.prog (Instr.fieldAt 121 v17 2) fun v18 =>
  LD Try.prog (Instr.loadAt 24 v18) (World.drew w2) fun v19 =>
  LD Try.prog (Builtin.len_ #[24] 3 #[v19]) (World.drew w2) fun v20 =>
  PUR Try.prog (bins .lss 3 (.tmp 24) (.tmp 29) v16 v20) fun v21 =>
  SPL v21
  (b1_2 R x0 v1 w2)
  (b2 R x0 (Go.Value.bool Bool.false) (World.drew w2))
def b1_4 (R : EP) (x0 v1 : Value) (w2 : World) (_r : Tok R := tok R) : Prop :=
  PUR Try.prog (Instr.fieldAt 61 v1 0) fun v6 =>
  LD Try.prog (Instr.loadAt 3 v6) (World.drew w2) fun v7 =>
  NILC x0 fun v8 =>
  PUR Try.prog (Instr.fieldAt 121 v8 0) fun v9 =>
  PUR Try.prog (Instr.fieldAt 27 v9 0) fun v10 =>
  LD Try.prog (Instr.loadAt 22 v10) (World.drew w2) fun v11 =>
  LD Try.prog (Builtin.len_ #[22] 3 #[v11]) (World.drew w2) fun v12 =>
  PUR Try.prog (bins .lss 3 (.tmp 11) (.tmp 17) v7 v12) fun v13 =>
  SPL v13
  (b1_3 R x0 v1 w2)
  (b2 R x0 (Go.Value.bool Bool.false) (World.drew w2))
def b1 (R : EP) (x0 x1 : Value) (w : World) (_r : Tok R := tok R) : Prop :=
  RUN Try.prog (pan R) (Instr.box 61 x1) w fun v1 w2 =>
  PUR Try.prog (Instr.fieldAt 61 v1 0) fun v3 =>
  LD Try.prog (Instr.loadAt 3 v3) (World.drew w2) fun v4 =>
  PUR Try.prog (bins .lss 3 (.const (Go.Value.int Go.IntKind.i64 0)) (.tmp 7) (Go.Value.int Go.IntKind.i64 0) v4) fun v5 =>
  SPL v5
  (b1_4 R x0 v1 w2)
  (b2 R x0 (Go.Value.bool Bool.false) (World.drew w2))
abbrev q2 (R : EP) : XP := QX (fun ρ w => b2 R (ρ 0) (ρ 5) w) (fun ρ w => R (.returned (ρ 4)) w) []
theorem b1_eq (R : EP) (ρ : Env) (w : World) : (b1 R (ρ 0) (ρ 1) w) = codeP Try.prog (pan R) (preC 1 code) (q2 R) ρ w := by kernel_rfl
theorem b1_ok (R : EP) (ρ : Env) (w : World) (h : b1 R (ρ 0) (ρ 1) w) : codeP Try.prog (pan R) code (q1 R) ρ w := by
  have e : appC 1 (preC 1 code) (dropC 2 code) = code := by kernel_rfl
  rw [← e]
  exact appQ (fun ρ w => b2 R (ρ 0) (ρ 5) w) 1 ((b1_eq R ρ w).mp h) (fun ρ w h => b2_ok R ρ w h)
/-- What is owed for a call. -/
def run (R : EP) (a0 a1 : Value) (w : World) : Prop := b1 R a0 a1 w
theorem calls (R : EP) (a0 a1 : Value) (w : World) (h : run R a0 a1 w) : Calls Try.prog id #[a0, a1] w R :=
  calls_of_t (f := id) (fn := Try.f92) (c := code) (by kernel_rfl) Try.func92 (by kernel_rfl) (by kernel_rfl) (args := [a0, a1]) (Nat.le_of_ble_eq_true rfl) rfl (b1_ok R (envOf [a0, a1]) w h)
theorem enters : Enters Try.prog id := fun args w => Try.call92 args w
theorem ct {a0 a1 : Value} {w : World} {S : VP} (h : ∀ R : EP, (∀ v w, S v w → R (.returned v) w) → run R a0 a1 w) : Ct Try.prog id #[a0, a1] w S :=
  Ct.intro enters fun R hR => calls R a0 a1 w (h R hR)
attribute [irreducible] b2 b1_1 b1_2 b1_3 b1_4 b1 run
attribute [go_sem] b2 b1_1 b1_2 b1_3 b1_4 b1 run
end tree_proof_leaf

/-! ### (*presage/tree.proof).joined -/
namespace tree_proof_joined
noncomputable def code : Code := bodyOf Try.f93
def b1_1 (R : EP) (v1 v3 : Value) (w4 : World) (_r : Tok R := tok R) : Prop :=
  LD Try.prog (Instr.loadAt 119 v1) (World.drew w4) fun v27 =>
  NILC v27 fun v28 =>
  PUR Try.prog (Instr.fieldAt 121 v28 0) fun v29 =>
  PUR Try.prog (Instr.fieldAt 27 v29 4) fun v30 =>
  LD Try.prog (Instr.loadAt 25 v30) (World.drew w4) fun v31 =>
  PUR Try.prog (Instr.fieldAt 61 v3 1) fun v32 =>
  LD Try.prog (Instr.loadAt 3 v32) (World.drew w4) fun v33 =>
  PUR Try.prog (Instr.indexAt 25 v31 v33) fun v34 =>
  PUR Try.prog (Instr.fieldAt 47 v34 1) fun v35 =>
  LD Try.prog (Instr.loadAt 24 v35) (World.drew w4) fun v36 =>
  PUR Try.prog (Instr.fieldAt 61 v3 3) fun v37 =>
  LD Try.prog (Instr.loadAt 24 v37) (World.drew w4) fun v38 =>
  PUR Try.prog (Instr.makeFunc (.func tree_proof_joined_1.id) #[] #[v1]) fun v39 =>
  CALL Try.prog (pan R) slices_EqualFunc_int_int_int_int.id #[v36, v38, v39] (World.drew w4) fun v40 w41 =>
  R (.returned v40) w41
def b1_2 (R : EP) (v1 v3 : Value) (w4 : World) (_r : Tok R := tok R) : Prop :=
  LD Try.prog (Instr.loadAt 119 v1) (World.drew w4) fun v14 =>
  NILC v14 fun v15 =>
  PUR Try.prog (Instr.fieldAt 121 v15 0) fun v16 =>
  PUR Try.prog (Instr.fieldAt 27 v16 4) fun v17 =>
  LD Try.prog (Instr.loadAt 25 v17) (World.drew w4) fun v18 =>
  PUR Try.prog (Instr.fieldAt 61 v3 1) fun v19 =>
  LD Try.prog (Instr.loadAt 3 v19) (World.drew w4) fun v20 =>
  PUR Try.prog (Instr.indexAt 25 v18 v20) fun v21 =>
  PUR Try.prog (Instr.fieldAt 47 v21 0) fun v22 =>
  LD Try.prog (Instr.loadAt 3 v22) (World.drew w4) fun v23 =>
  PUR Try.prog (Instr.fieldAt 61 v3 0) fun v24 =>
  LD Try.prog (Instr.loadAt 3 v24) (World.drew w4) fun v25 =>
  PUR Try.prog (bins .eql 3 (.tmp 24) (.tmp 26) v23 v25) fun v26 =>
  SPL v26
  (b1_1 R v1 v3 w4)
  (R (.returned (Go.Value.bool Bool.false)) (World.drew w4))
def b1 (R : EP) (x0 x1 : Value) (w : World) (_r : Tok R := tok R) : Prop :=
  RUN Try.prog (pan R) (Instr.box 119 x0) w fun v1 w2 =>
  RUN Try.prog (pan R) (Instr.box 61 x1) w2 fun v3 w4 =>
  PUR Try.prog (Instr.fieldAt 61 v3 1) fun v5 =>
  LD Try.prog (Instr.loadAt 3 v5) (World.drew w4) fun v6 =>
  LD Try.prog (Instr.loadAt 119 v1) (World.drew w4) fun v7 =>
  NILC v7 fun v8 =>
  PUR Try.prog (Instr.fieldAt 121 v8 0) fun v9 =>
  PUR Try.prog (Instr.fieldAt 27 v9 4) fun v10 =>
  LD Try.prog (Instr.loadAt 25 v10) (World.drew w4) fun v11 =>
  LD Try.prog (Builtin.len_ #[25] 3 #[v11]) (World.drew w4) fun v12 =>
  PUR Try.prog (bins .lss 3 (.tmp 6) (.tmp 12) v6 v12) fun v13 =>
  SPL v13
  (b1_2 R v1 v3 w4)
  (R (.returned (Go.Value.bool Bool.false)) (World.drew w4))
abbrev q1 (R : EP) : XP := QX (fun ρ w => R (.returned (ρ 4)) w) (fun ρ w => R (.returned (ρ 4)) w) []
theorem b1_eq (R : EP) (ρ : Env) (w : World) : (b1 R (ρ 0) (ρ 1) w) = codeP Try.prog (pan R) code (q1 R) ρ w := by kernel_rfl
theorem b1_ok (R : EP) (ρ : Env) (w : World) (h : b1 R (ρ 0) (ρ 1) w) : codeP Try.prog (pan R) code (q1 R) ρ w := (b1_eq R ρ w).mp h
/-- What is owed for a call. -/
def run (R : EP) (a0 a1 : Value) (w : World) : Prop := b1 R a0 a1 w
theorem calls (R : EP) (a0 a1 : Value) (w : World) (h : run R a0 a1 w) : Calls Try.prog id #[a0, a1] w R :=
  calls_of_t (f := id) (fn := Try.f93) (c := code) (by kernel_rfl) Try.func93 (by kernel_rfl) (by kernel_rfl) (args := [a0, a1]) (Nat.le_of_ble_eq_true rfl) rfl (b1_ok R (envOf [a0, a1]) w h)
theorem enters : Enters Try.prog id := fun args w => Try.call93 args w
theorem ct {a0 a1 : Value} {w : World} {S : VP} (h : ∀ R : EP, (∀ v w, S v w → R (.returned v) w) → run R a0 a1 w) : Ct Try.prog id #[a0, a1] w S :=
  Ct.intro enters fun R hR => calls R a0 a1 w (h R hR)
attribute [irreducible] b1_1 b1_2 b1 run
attribute [go_sem] b1_1 b1_2 b1 run
end tree_proof_joined

/-! ### presage/tree.Text$1 -/
namespace tree_Text_1
noncomputable def code : Code := bodyOf Try.f94
noncomputable abbrev p1 : Code := dropC 2 code
noncomputable abbrev p2 : Code := dropC 2 (sndC p1)

def b5 (R : EP) (w : World) (_r : Tok R := tok R) : Prop :=
  R (.returned (Go.Value.bool Bool.true)) w
abbrev q1 (R : EP) : XP := QX (fun ρ w => R (.returned (ρ 7)) w) (fun ρ w => R (.returned (ρ 7)) w) []
theorem b5_eq (R : EP) (ρ : Env) (w : World) : (b5 R w) = codeP Try.prog (pan R) (sndC p2) (q1 R) ρ w := by kernel_rfl
theorem b5_ok (R : EP) (ρ : Env) (w : World) (h : b5 R w) : codeP Try.prog (pan R) (sndC p2) (q1 R) ρ w := (b5_eq R ρ w).mp h
noncomputable abbrev p3 : Code := blkC (fstC p2)
def b8_1 (R : EP) (C7 : World → Prop) (x4 : Value) (w30 : World) (_r : Tok R := tok R) (_C7 : Tok C7 := tok C7) : Prop :=
  RUN Try.prog (pan R) (Instr.loadAt 24 x4) w30 fun v31 w32 =>
  RUN Try.prog (pan R) (Instr.loadAt 24 x4) w32 fun v33 w34 =>
  RUN Try.prog (pan R) (Builtin.len_ #[24] 3 #[v33]) w34 fun v35 w36 =>
  RUN Try.prog (pan R) (bins .sub 3 (.tmp 65) (.const (Go.Value.int Go.IntKind.i64 1)) v35 (Go.Value.int Go.IntKind.i64 1)) w36 fun v37 w38 =>
  RUN Try.prog (pan R) (Instr.sliceAt 24 v31 none (some v37) none) w38 fun v39 w40 =>
  RUNU Try.prog (pan R) (Instr.storeAt 24 x4 v39) w40 fun w41 =>
  C7  w41
def b8_2 (R : EP) (C7 : World → Prop) (x3 x4 : Value) (w6 : World) (_r : Tok R := tok R) (_C7 : Tok C7 := tok C7) : Prop :=
  RUN Try.prog (pan R) (Instr.loadAt 24 x4) w6 fun v7 w8 =>
  RUN Try.prog (pan R) (Instr.loadAt 24 x4) w8 fun v9 w10 =>
  RUN Try.prog (pan R) (Builtin.len_ #[24] 3 #[v9]) w10 fun v11 w12 =>
  RUN Try.prog (pan R) (bins .sub 3 (.tmp 50) (.const (Go.Value.int Go.IntKind.i64 1)) v11 (Go.Value.int Go.IntKind.i64 1)) w12 fun v13 w14 =>
  RUN Try.prog (pan R) (Instr.indexAt 24 v7 v13) w14 fun v15 w16 =>
  NILC v15 fun v17 =>
  RUN Try.prog (pan R) (Instr.loadAt 3 v17) w16 fun v18 w19 =>
  RUN Try.prog (pan R) (bins .sub 3 (.tmp 55) (.const (Go.Value.int Go.IntKind.i64 1)) v18 (Go.Value.int Go.IntKind.i64 1)) w19 fun v20 w21 =>
  NILC v15 fun v22 =>
  RUNU Try.prog (pan R) (Instr.storeAt 3 v22 v20) w21 fun w23 =>
  NILC v15 fun v24 =>
  RUN Try.prog (pan R) (Instr.loadAt 3 v24) w23 fun v25 w26 =>
  RUN Try.prog (pan R) (bins .gtr 3 (.tmp 60) (.const (Go.Value.int Go.IntKind.i64 0)) v25 (Go.Value.int Go.IntKind.i64 0)) w26 fun v27 w28 =>
  SPL v27
  (b5 R w28)
  (CALL Try.prog (pan R) strings_Builder_WriteString.id #[x3, (Go.Value.string { data := #[41] })] w28 fun v29 w30 =>
  b8_1 R C7 x4 w30)

def b8 (R : EP) (C7 : World → Prop) (x3 x4 : Value) (w : World) (_r : Tok R := tok R) (_C7 : Tok C7 := tok C7) : Prop :=
  RUN Try.prog (pan R) (Instr.loadAt 24 x4) w fun v1 w2 =>
  RUN Try.prog (pan R) (Builtin.len_ #[24] 3 #[v1]) w2 fun v3 w4 =>
  RUN Try.prog (pan R) (bins .gtr 3 (.tmp 46) (.const (Go.Value.int Go.IntKind.i64 0)) v3 (Go.Value.int Go.IntKind.i64 0)) w4 fun v5 w6 =>
  SPL v5
  (b8_2 R C7 x3 x4 w6)
  (b5 R w6)
abbrev q2 (R : EP) (C7 : World → Prop) : XP := QX (fun ρ w => C7  w) (fun ρ w => R (.returned (ρ 7)) w) [(0, (fun ρ w => b5 R  w))]
theorem b8_eq (R : EP) (C7 : World → Prop) (ρ : Env) (w : World) : (b8 R C7 (ρ 3) (ρ 4) w) = codeP Try.prog (pan R) (loopC p3) (q2 R C7) ρ w := by kernel_rfl
theorem b8_ok (R : EP) (C7 : World → Prop) (ρ : Env) (w : World) (h : b8 R C7 (ρ 3) (ρ 4) w) : codeP Try.prog (pan R) (loopC p3) (q2 R C7) ρ w := (b8_eq R C7 ρ w).mp h

def l7 (R : EP) (x3 x4 : Value) (w : World) (_r : Tok R := tok R) : Prop :=
  ∃ (J : World → Prop) (μ : World → Nat), J  w ∧ ∀ w0, J  w0 → b8 R (fun  w1 => J  w1 ∧ μ  w1 < μ  w0) x3 x4 w0
abbrev q3 (R : EP) : XP := QX (fun ρ w => b5 R  w) (fun ρ w => R (.returned (ρ 7)) w) [(0, (fun ρ w => b5 R  w))]
theorem l7_ok (R : EP) (ρ : Env) (w : World) (h : l7 R (ρ 3) (ρ 4) w) : codeP Try.prog (pan R) p3 (q3 R) ρ w := by
  unfold l7 at h
  obtain ⟨J, μ, h0, hr⟩ := h
  have e : Code.loop (loopC p3) = p3 := by kernel_rfl
  rw [← e]
  refine loopQ (fun ρ' w' => J  w') (fun ρ' w' => μ  w') h0 fun ρ' w' hA hI => ?_
  have e3 : ρ' 3 = ρ 3 := Agree.at hA 3 (by kernel_rfl)
  have e4 : ρ' 4 = ρ 4 := Agree.at hA 4 (by kernel_rfl)
  have h1 := hr  w' hI
  rw [← e3, ← e4] at h1
  exact b8_ok R (fun  w1 => J  w1 ∧ μ  w1 < μ  w') ρ' w' h1
theorem l7_intro (R : EP) (x3 x4 : Value) (w : World) (J : World → Prop) (μ : World → Nat) (h0 : J  w)
    (hr : ∀ w0, J  w0 → ∀ C7 : World → Prop, (∀  w1, J  w1 → μ  w1 < μ  w0 → C7  w1) → b8 R C7 x3 x4 w0) : l7 R x3 x4 w := by
  unfold l7
  exact ⟨J, μ, h0, fun  w0 hJ => hr  w0 hJ _ (fun  w1 h1 h2 => ⟨h1, h2⟩)⟩
abbrev q4 (R : EP) : XP := QX (fun ρ w => b5 R  w) (fun ρ w => R (.returned (ρ 7)) w) []
theorem k6_ok (R : EP) (ρ : Env) (w : World) (h : l7 R (ρ 3) (ρ 4) w) : codeP Try.prog (pan R) (fstC p2) (q4 R) ρ w := by
  have e : Code.block 0 (blkC (fstC p2)) = (fstC p2) := by kernel_rfl
  rw [← e]
  exact blockQ (l7_ok R ρ w h)
theorem k4_ok (R : EP) (ρ : Env) (w : World) (h : l7 R (ρ 3) (ρ 4) w) : codeP Try.prog (pan R) p2 (q1 R) ρ w := by
  have e : Code.seq (fstC p2) (sndC p2) = p2 := by kernel_rfl
  rw [← e]
  exact seqQ (fun ρ w => b5 R  w) (k6_ok R ρ w h) (fun ρ w h => b5_ok R ρ w h)
def b3_1 (R : EP) (x3 x4 x6 : Value) (w20 : World) (_r : Tok R := tok R) : Prop :=
  RUN Try.prog (pan R) (Instr.loadAt 24 x4) w20 fun v21 w22 =>
  RUN Try.prog (pan R) (Instr.fieldAt 61 x6 3) w22 fun v23 w24 =>
  RUN Try.prog (pan R) (Instr.loadAt 24 v23) w24 fun v25 w26 =>
  RUN Try.prog (pan R) (Builtin.len_ #[24] 3 #[v25]) w26 fun v27 w28 =>
  RUN Try.prog (pan R) (bins .add 3 (.tmp 41) (.const (Go.Value.int Go.IntKind.i64 1)) v27 (Go.Value.int Go.IntKind.i64 1)) w28 fun v29 w30 =>
  RUN Try.prog (pan R) (Instr.buildSlice 24 1 #[(0, v29)]) w30 fun v31 w32 =>
  RUN Try.prog (pan R) (Builtin.append_ #[24, 24] 24 #[v21, v31]) w32 fun v33 w34 =>
  RUNU Try.prog (pan R) (Instr.storeAt 24 x4 v33) w34 fun w35 =>
  l7 R x3 x4 w35
def b3_2 (R : EP) (x3 x4 x6 : Value) (w12 : World) (_r : Tok R := tok R) : Prop :=
  RUN Try.prog (pan R) (Instr.fieldAt 61 x6 1) w12 fun v13 w14 =>
  RUN Try.prog (pan R) (Instr.loadAt 3 v13) w14 fun v15 w16 =>
  RUN Try.prog (pan R) (bins .geq 3 (.tmp 35) (.const (Go.Value.int Go.IntKind.i64 0)) v15 (Go.Value.int Go.IntKind.i64 0)) w16 fun v17 w18 =>
  SPL v17
  (CALL Try.prog (pan R) strings_Builder_WriteString.id #[x3, (Go.Value.string { data := #[40] })] w18 fun v19 w20 =>
  b3_1 R x3 x4 x6 w20)
  (l7 R x3 x4 w18)

def b3 (R : EP) (x2 x3 x4 x6 : Value) (w : World) (_r : Tok R := tok R) : Prop :=
  RUN Try.prog (pan R) (Instr.loadAt 23 x2) w fun v1 w2 =>
  RUN Try.prog (pan R) (Instr.fieldAt 61 x6 0) w2 fun v3 w4 =>
  RUN Try.prog (pan R) (Instr.loadAt 3 v3) w4 fun v5 w6 =>
  RUN Try.prog (pan R) (Instr.indexAt 23 v1 v5) w6 fun v7 w8 =>
  RUN Try.prog (pan R) (Instr.loadAt 9 v7) w8 fun v9 w10 =>
  CALL Try.prog (pan R) strings_Builder_WriteString.id #[x3, v9] w10 fun v11 w12 =>
  b3_2 R x3 x4 x6 w12
abbrev q5 (R : EP) : XP := QX (fun ρ w => l7 R (ρ 3) (ρ 4) w) (fun ρ w => R (.returned (ρ 7)) w) []
theorem b3_eq (R : EP) (ρ : Env) (w : World) : (b3 R (ρ 2) (ρ 3) (ρ 4) (ρ 6) w) = codeP Try.prog (pan R) (preC 1 (sndC p1)) (q5 R) ρ w := by kernel_rfl
theorem b3_ok (R : EP) (ρ : Env) (w : World) (h : b3 R (ρ 2) (ρ 3) (ρ 4) (ρ 6) w) : codeP Try.prog (pan R) (sndC p1) (q1 R) ρ w := by
  have e : appC 1 (preC 1 (sndC p1)) (dropC 2 (sndC p1)) = (sndC p1) := by kernel_rfl
  rw [← e]
  exact appQ (fun ρ w => l7 R (ρ 3) (ρ 4) w) 1 ((b3_eq R ρ w).mp h) (fun ρ w h => k4_ok R ρ w h)
noncomputable abbrev p4 : Code := dropC 2 (fstC p1)

def b10 (R : EP) (x2 x3 x4 x6 x26 : Value) (w : World) (_r : Tok R := tok R) : Prop :=
  SPL x26
  (CALL Try.prog (pan R) strings_Builder_WriteString.id #[x3, (Go.Value.string { data := #[32] })] w fun v1 w2 =>
  b3 R x2 x3 x4 x6 w2)
  (b3 R x2 x3 x4 x6 w)
abbrev q6 (R : EP) : XP := QX (fun ρ w => b3 R (ρ 2) (ρ 3) (ρ 4) (ρ 6) w) (fun ρ w => R (.returned (ρ 7)) w) []
theorem b10_eq (R : EP) (ρ : Env) (w : World) : (b10 R (ρ 2) (ρ 3) (ρ 4) (ρ 6) (ρ 26) w) = codeP Try.prog (pan R) p4 (q6 R) ρ w := by kernel_rfl
theorem b10_ok (R : EP) (ρ : Env) (w : World) (h : b10 R (ρ 2) (ρ 3) (ρ 4) (ρ 6) (ρ 26) w) : codeP Try.prog (pan R) p4 (q6 R) ρ w := (b10_eq R ρ w).mp h
def b9_1 (R : EP) (x2 x3 x4 x6 v1 : Value) (w8 : World) (_r : Tok R := tok R) : Prop :=
  RUN Try.prog (pan R) (Builtin.len_ #[9] 3 #[v1]) w8 fun v9 w10 =>
  RUN Try.prog (pan R) (bins .sub 3 (.tmp 22) (.const (Go.Value.int Go.IntKind.i64 1)) v9 (Go.Value.int Go.IntKind.i64 1)) w10 fun v11 w12 =>
  RUN Try.prog (pan R) (Instr.index 9 v1 v11) w12 fun v13 w14 =>
  RUN Try.prog (pan R) (bins .neq 5 (.tmp 24) (.const (Go.Value.int Go.IntKind.u8 40)) v13 (Go.Value.int Go.IntKind.u8 40)) w14 fun v15 w16 =>
  b10 R x2 x3 x4 x6 v15 w16
def b9_2 (R : EP) (x2 x3 x4 x6 v1 : Value) (w2 : World) (_r : Tok R := tok R) : Prop :=
  RUN Try.prog (pan R) (Instr.loadAt 24 x4) w2 fun v3 w4 =>
  RUN Try.prog (pan R) (Builtin.len_ #[24] 3 #[v3]) w4 fun v5 w6 =>
  RUN Try.prog (pan R) (bins .gtr 3 (.tmp 17) (.const (Go.Value.int Go.IntKind.i64 0)) v5 (Go.Value.int Go.IntKind.i64 0)) w6 fun v7 w8 =>
  SPL v7
  (b9_1 R x2 x3 x4 x6 v1 w8)
  (b10 R x2 x3 x4 x6 (Go.Value.bool Bool.false) w8)

def b9 (R : EP) (x2 x3 x4 x6 : Value) (w : World) (_r : Tok R := tok R) : Prop :=
  CALL Try.prog (pan R) strings_Builder_String.id #[x3] w fun v1 w2 =>
  b9_2 R x2 x3 x4 x6 v1 w2
abbrev q7 (R : EP) : XP := QX (fun ρ w => b10 R (ρ 2) (ρ 3) (ρ 4) (ρ 6) (ρ 26) w) (fun ρ w => R (.returned (ρ 7)) w) []
theorem b9_eq (R : EP) (ρ : Env) (w : World) : (b9 R (ρ 2) (ρ 3) (ρ 4) (ρ 6) w) = codeP Try.prog (pan R) (preC 1 (fstC p1)) (q7 R) ρ w := by kernel_rfl
theorem b9_ok (R : EP) (ρ : Env) (w : World) (h : b9 R (ρ 2) (ρ 3) (ρ 4) (ρ 6) w) : codeP Try.prog (pan R) (fstC p1) (q6 R) ρ w := by
  have e : appC 1 (preC 1 (fstC p1)) (dropC 2 (fstC p1)) = (fstC p1) := by kernel_rfl
  rw [← e]
  exact appQ (fun ρ w => b10 R (ρ 2) (ρ 3) (ρ 4) (ρ 6) (ρ 26) w) 1 ((b9_eq R ρ w).mp h) (fun ρ w h => b10_ok R ρ w h)
theorem k2_ok (R : EP) (ρ : Env) (w : World) (h : b9 R (ρ 2) (ρ 3) (ρ 4) (ρ 6) w) : codeP Try.prog (pan R) p1 (q1 R) ρ w := by
  have e : Code.seq (fstC p1) (sndC p1) = p1 := by kernel_rfl
  rw [← e]
  exact seqQ (fun ρ w => b3 R (ρ 2) (ρ 3) (ρ 4) (ρ 6) w) (b9_ok R ρ w h) (fun ρ w h => b3_ok R ρ w h)

def b1 (R : EP) (x1 x2 x3 x4 : Value) (w : World) (_r : Tok R := tok R) : Prop :=
  RUN Try.prog (pan R) (Instr.box 61 x1) w fun v1 w2 =>
  RUN Try.prog (pan R) (Instr.fieldAt 61 v1 0) w2 fun v3 w4 =>
  RUN Try.prog (pan R) (Instr.loadAt 3 v3) w4 fun v5 w6 =>
  RUN Try.prog (pan R) (Instr.loadAt 23 x2) w6 fun v7 w8 =>
  RUN Try.prog (pan R) (Builtin.len_ #[23] 3 #[v7]) w8 fun v9 w10 =>
  RUN Try.prog (pan R) (bins .geq 3 (.tmp 11) (.tmp 13) v5 v9) w10 fun v11 w12 =>
  SPL v11
  (R (.returned (Go.Value.bool Bool.false)) w12)
  (b9 R x2 x3 x4 v1 w12)
abbrev q8 (R : EP) : XP := QX (fun ρ w => b9 R (ρ 2) (ρ 3) (ρ 4) (ρ 6) w) (fun ρ w => R (.returned (ρ 7)) w) []
theorem b1_eq (R : EP) (ρ : Env) (w : World) : (b1 R (ρ 1) (ρ 2) (ρ 3) (ρ 4) w) = codeP Try.prog (pan R) (preC 1 code) (q8 R) ρ w := by kernel_rfl
theorem b1_ok (R : EP) (ρ : Env) (w : World) (h : b1 R (ρ 1) (ρ 2) (ρ 3) (ρ 4) w) : codeP Try.prog (pan R) code (q1 R) ρ w := by
  have e : appC 1 (preC 1 code) (dropC 2 code) = code := by kernel_rfl
  rw [← e]
  exact appQ (fun ρ w => b9 R (ρ 2) (ρ 3) (ρ 4) (ρ 6) w) 1 ((b1_eq R ρ w).mp h) (fun ρ w h => k2_ok R ρ w h)
/-- What is owed for a call. -/
def run (R : EP) (a0 a1 a2 a3 a4 : Value) (w : World) : Prop := b1 R a1 a2 a3 a4 w
theorem calls (R : EP) (a0 a1 a2 a3 a4 : Value) (w : World) (h : run R a0 a1 a2 a3 a4 w) : Calls Try.prog id #[a0, a1, a2, a3, a4] w R :=
  calls_of_t (f := id) (fn := Try.f94) (c := code) (by kernel_rfl) Try.func94 (by kernel_rfl) (by kernel_rfl) (args := [a0, a1, a2, a3, a4]) (Nat.le_of_ble_eq_true rfl) rfl (b1_ok R (envOf [a0, a1, a2, a3, a4]) w h)
theorem enters : Enters Try.prog id := fun args w => Try.call94 args w
theorem ct {a0 a1 a2 a3 a4 : Value} {w : World} {S : VP} (h : ∀ R : EP, (∀ v w, S v w → R (.returned v) w) → run R a0 a1 a2 a3 a4 w) : Ct Try.prog id #[a0, a1, a2, a3, a4] w S :=
  Ct.intro enters fun R hR => calls R a0 a1 a2 a3 a4 w (h R hR)
attribute [irreducible] b5 b8_1 b8_2 b8 l7 b3_1 b3_2 b3 b10 b9_1 b9_2 b9 b1 run
attribute [go_sem] b5 b8_1 b8_2 b8 b3_1 b3_2 b3 b10 b9_1 b9_2 b9 b1 run
end tree_Text_1

/-! ### (*presage/tree.Arena).add -/
namespace tree_Arena_add
noncomputable def code : Code := bodyOf Try.f97
def b1 (R : EP) (x0 x1 : Value) (w : World) (_r : Tok R := tok R) : Prop :=
  RUN Try.prog (pan R) (Instr.box 61 x1) w fun v1 w2 =>
  NILC x0 fun v3 =>
  PUR Try.prog (Instr.fieldAt 81 v3 0) fun v4 =>
  LD Try.prog (Instr.loadAt 49 v4) (World.drew w2) fun v5 =>
  LD Try.prog (Instr.loadAt 61 v1) (World.drew w2) fun v6 =>
  RUN Try.prog (pan R) (Instr.buildSlice 49 1 #[(0, v6)]) (World.drew w2) fun v7 w8 =>
  Sem.run Try.prog (Instr.loadAt 49 v4) w8 = .ok v5 w8 ∧ (RUN Try.prog (pan R) (Builtin.append_ #[49, 49] 49 #[v5, v7]) w8 fun v9 w10 =>
  NILC x0 fun v11 =>
  PUR Try.prog (Instr.fieldAt 81 v11 0) fun v12 =>
  RUNU Try.prog (pan R) (Instr.storeAt 49 v12 v9) w10 fun w13 =>
  NILC x0 fun v14 =>
  RUN Try.prog (pan R) (Instr.fieldAt 81 v14 1) w13 fun v15 w16 =>
  RUN Try.prog (pan R) (Instr.loadAt 68 v15) w16 fun v17 w18 =>
  RUN Try.prog (pan R) (Instr.buildSlice 68 1 #[(0, (Go.Value.bool Bool.false))]) w18 fun v19 w20 =>
  RUN Try.prog (pan R) (Builtin.append_ #[68, 68] 68 #[v17, v19]) w20 fun v21 w22 =>
  NILC x0 fun v23 =>
  RUN Try.prog (pan R) (Instr.fieldAt 81 v23 1) w22 fun v24 w25 =>
  RUNU Try.prog (pan R) (Instr.storeAt 68 v24 v21) w25 fun w26 =>
  NILC x0 fun v27 =>
  RUN Try.prog (pan R) (Instr.fieldAt 81 v27 0) w26 fun v28 w29 =>
  RUN Try.prog (pan R) (Instr.loadAt 49 v28) w29 fun v30 w31 =>
  RUN Try.prog (pan R) (Builtin.len_ #[49] 3 #[v30]) w31 fun v32 w33 =>
  RUN Try.prog (pan R) (bins .sub 3 (.tmp 29) (.const (Go.Value.int Go.IntKind.i64 1)) v32 (Go.Value.int Go.IntKind.i64 1)) w33 fun v34 w35 =>
  R (.returned (.tuple #[v34, (Go.Value.int Go.IntKind.i64 0)])) w35)
abbrev q1 (R : EP) : XP := QX (fun ρ w => R (.returned (.tuple #[(ρ 4), (ρ 5)])) w) (fun ρ w => R (.returned (.tuple #[(ρ 4), (ρ 5)])) w) []
theorem b1_eq (R : EP) (ρ : Env) (w : World) : (b1 R (ρ 0) (ρ 1) w) = codeP Try.prog (pan R) code (q1 R) ρ w := by kernel_rfl
theorem b1_ok (R : EP) (ρ : Env) (w : World) (h : b1 R (ρ 0) (ρ 1) w) : codeP Try.prog (pan R) code (q1 R) ρ w := (b1_eq R ρ w).mp h
/-- What is owed for a call. -/
def run (R : EP) (a0 a1 : Value) (w : World) : Prop := b1 R a0 a1 w
theorem calls (R : EP) (a0 a1 : Value) (w : World) (h : run R a0 a1 w) : Calls Try.prog id #[a0, a1] w R :=
  calls_of_tt (f := id) (fn := Try.f97) (c := code) (by kernel_rfl) Try.func97 (by kernel_rfl) (by kernel_rfl) (args := [a0, a1]) (Nat.le_of_ble_eq_true rfl) rfl (b1_ok R (envOf [a0, a1]) w h)
theorem enters : Enters Try.prog id := fun args w => Try.call97 args w
theorem ct {a0 a1 : Value} {w : World} {S : VP} (h : ∀ R : EP, (∀ v w, S v w → R (.returned v) w) → run R a0 a1 w) : Ct Try.prog id #[a0, a1] w S :=
  Ct.intro enters fun R hR => calls R a0 a1 w (h R hR)
attribute [irreducible] b1 run
attribute [go_sem] b1 run
end tree_Arena_add

/-! ### (*presage/tree.Arena).free -/
namespace tree_Arena_free
noncomputable def code : Code := bodyOf Try.f98
noncomputable abbrev p1 : Code := dropC 2 code

def b3 (R : EP) (w : World) (_r : Tok R := tok R) : Prop :=
  R (.returned (Go.Value.bool Bool.true)) w
abbrev q1 (R : EP) : XP := QX (fun ρ w => R (.returned (ρ 4)) w) (fun ρ w => R (.returned (ρ 4)) w) []
theorem b3_eq (R : EP) (ρ : Env) (w : World) : (b3 R w) = codeP Try.prog (pan R) (sndC p1) (q1 R) ρ w := by kernel_rfl
theorem b3_ok (R : EP) (ρ : Env) (w : World) (h : b3 R w) : codeP Try.prog (pan R) (sndC p1) (q1 R) ρ w := (b3_eq R ρ w).mp h
noncomputable abbrev p2 : Code := dropC 1 (fstC p1)
noncomputable abbrev p3 : Code := loopC (blkC p2)
noncomputable abbrev p4 : Code := dropC 2 p3

def b9 (R : EP) (C6 : VP) (x14 : Value) (w : World) (_r : Tok R := tok R) (_C6 : Tok C6 := tok C6) : Prop :=
  RUN Try.prog (pan R) (bins .add 3 (.tmp 14) (.const (Go.Value.int Go.IntKind.i64 1)) x14 (Go.Value.int Go.IntKind.i64 1)) w fun v1 w2 =>
  C6 v1 w2
abbrev q2 (R : EP) (C6 : VP) : XP := QX (fun ρ w => C6 (ρ 14) w) (fun ρ w => R (.returned (ρ 4)) w) [(0, (fun ρ w => b3 R  w))]
theorem b9_eq (R : EP) (C6 : VP) (ρ : Env) (w : World) : (b9 R C6 (ρ 14) w) = codeP Try.prog (pan R) (sndC p4) (q2 R C6) ρ w := by kernel_rfl
theorem b9_ok (R : EP) (C6 : VP) (ρ : Env) (w : World) (h : b9 R C6 (ρ 14) w) : codeP Try.prog (pan R) (sndC p4) (q2 R C6) ρ w := (b9_eq R C6 ρ w).mp h
noncomputable abbrev p5 : Code := blkC (fstC p4)
noncomputable abbrev p6 : Code := dropC 1 p5
def b13 (R : EP) (C6 : VP) (x2 x6 x14 : Value) (w : World) (_r : Tok R := tok R) (_C6 : Tok C6 := tok C6) : Prop :=
  RUN Try.prog (pan R) (Instr.loadAt 65 x2) w fun v1 w2 =>
  NILC v1 fun v3 =>
  RUN Try.prog (pan R) (Instr.fieldAt 81 v3 1) w2 fun v4 w5 =>
  RUN Try.prog (pan R) (Instr.loadAt 68 v4) w5 fun v6 w7 =>
  RUN Try.prog (pan R) (Instr.indexAt 68 v6 x6) w7 fun v8 w9 =>
  RUNU Try.prog (pan R) (Instr.storeAt 4 v8 (Go.Value.bool Bool.true)) w9 fun w10 =>
  b9 R C6 x14 w10
abbrev q3 (R : EP) (C6 : VP) : XP := QX (fun ρ w => b9 R C6 (ρ 14) w) (fun ρ w => R (.returned (ρ 4)) w) [(2, (fun ρ w => b9 R C6 (ρ 14) w)), (0, (fun ρ w => b3 R  w))]
theorem b13_eq (R : EP) (C6 : VP) (ρ : Env) (w : World) : (b13 R C6 (ρ 2) (ρ 6) (ρ 14) w) = codeP Try.prog (pan R) (sndC p6) (q3 R C6) ρ w := by kernel_rfl
theorem b13_ok (R : EP) (C6 : VP) (ρ : Env) (w : World) (h : b13 R C6 (ρ 2) (ρ 6) (ρ 14) w) : codeP Try.prog (pan R) (sndC p6) (q3 R C6) ρ w := (b13_eq R C6 ρ w).mp h
noncomputable abbrev p7 : Code := dropC 1 (fstC p6)
noncomputable abbrev p8 : Code := sndC (thnC p7)

def b17 (R : EP) (C6 : VP) (w : World) (_r : Tok R := tok R) (_C6 : Tok C6 := tok C6) : Prop :=
  R (.returned (Go.Value.bool Bool.false)) w
abbrev q4 (R : EP) (C6 : VP) : XP := QX (fun ρ w => b13 R C6 (ρ 2) (ρ 6) (ρ 14) w) (fun ρ w => R (.returned (ρ 4)) w) [(2, (fun ρ w => b9 R C6 (ρ 14) w)), (0, (fun ρ w => b3 R  w))]
theorem b17_eq (R : EP) (C6 : VP) (ρ : Env) (w : World) : (b17 R C6 w) = codeP Try.prog (pan R) p8 (q4 R C6) ρ w := by kernel_rfl
theorem b17_ok (R : EP) (C6 : VP) (ρ : Env) (w : World) (h : b17 R C6 w) : codeP Try.prog (pan R) p8 (q4 R C6) ρ w := (b17_eq R C6 ρ w).mp h
noncomputable abbrev p9 : Code := fstC (thnC p7)
noncomputable abbrev p10 : Code := dropC 1 p9
noncomputable abbrev p11 : Code := loopC (blkC p10)
def b21_1 (R : EP) (C20 : VP) (x2 x28 x30 : Value) (w2 : World) (_r : Tok R := tok R) (_C20 : Tok C20 := tok C20) : Prop :=
  RUN Try.prog (pan R) (Instr.indexAt 24 x28 x30) w2 fun v3 w4 =>
  RUN Try.prog (pan R) (Instr.loadAt 3 v3) w4 fun v5 w6 =>
  RUN Try.prog (pan R) (Instr.loadAt 65 x2) w6 fun v7 w8 =>
  NILC v7 fun v9 =>
  RUN Try.prog (pan R) (Instr.fieldAt 81 v9 1) w8 fun v10 w11 =>
  RUN Try.prog (pan R) (Instr.loadAt 68 v10) w11 fun v12 w13 =>
  RUN Try.prog (pan R) (Instr.indexAt 68 v12 v5) w13 fun v14 w15 =>
  RUNU Try.prog (pan R) (Instr.storeAt 4 v14 (Go.Value.bool Bool.false)) w15 fun w16 =>
  RUN Try.prog (pan R) (bins .add 3 (.tmp 30) (.const (Go.Value.int Go.IntKind.i64 1)) x30 (Go.Value.int Go.IntKind.i64 1)) w16 fun v17 w18 =>
  C20 v17 w18
def b21 (R : EP) (C6 : VP) (C20 : VP) (x2 x28 x29 x30 : Value) (w : World) (_r : Tok R := tok R) (_C6 : Tok C6 := tok C6) (_C20 : Tok C20 := tok C20) : Prop :=
  RUN Try.prog (pan R) (bins .lss 3 (.tmp 30) (.tmp 29) x30 x29) w fun v1 w2 =>
  SPL v1
  (b21_1 R C20 x2 x28 x30 w2)
  (b17 R C6 w2)
abbrev q5 (R : EP) (C6 : VP) (C20 : VP) : XP := QX (fun ρ w => C20 (ρ 30) w) (fun ρ w => R (.returned (ρ 4)) w) [(4, (fun ρ w => b17 R C6  w)), (2, (fun ρ w => b9 R C6 (ρ 14) w)), (0, (fun ρ w => b3 R  w))]
theorem b21_eq (R : EP) (C6 : VP) (C20 : VP) (ρ : Env) (w : World) : (b21 R C6 C20 (ρ 2) (ρ 28) (ρ 29) (ρ 30) w) = codeP Try.prog (pan R) p11 (q5 R C6 C20) ρ w := by kernel_rfl
theorem b21_ok (R : EP) (C6 : VP) (C20 : VP) (ρ : Env) (w : World) (h : b21 R C6 C20 (ρ 2) (ρ 28) (ρ 29) (ρ 30) w) : codeP Try.prog (pan R) p11 (q5 R C6 C20) ρ w := (b21_eq R C6 C20 ρ w).mp h
def l20 (R : EP) (C6 : VP) (x2 x28 x29 x30 : Value) (w : World) (_r : Tok R := tok R) (_C6 : Tok C6 := tok C6) : Prop :=
  ∃ (J : VP) (μ : Value → World → Nat), J x30 w ∧ ∀ y30 w0, J y30 w0 → b21 R C6 (fun z30 w1 => J z30 w1 ∧ μ z30 w1 < μ y30 w0) x2 x28 x29 y30 w0
abbrev q6 (R : EP) (C6 : VP) : XP := QX (fun ρ w => b17 R C6  w) (fun ρ w => R (.returned (ρ 4)) w) [(4, (fun ρ w => b17 R C6  w)), (2, (fun ρ w => b9 R C6 (ρ 14) w)), (0, (fun ρ w => b3 R  w))]
theorem l20_ok (R : EP) (C6 : VP) (ρ : Env) (w : World) (h : l20 R C6 (ρ 2) (ρ 28) (ρ 29) (ρ 30) w) : codeP Try.prog (pan R) (blkC p10) (q6 R C6) ρ w := by
  unfold l20 at h
  obtain ⟨J, μ, h0, hr⟩ := h
  have e : Code.loop (loopC (blkC p10)) = (blkC p10) := by kernel_rfl
  rw [← e]
  refine loopQ (fun ρ' w' => J (ρ' 30) w') (fun ρ' w' => μ (ρ' 30) w') h0 fun ρ' w' hA hI => ?_
  have e2 : ρ' 2 = ρ 2 := Agree.at hA 2 (by kernel_rfl)
  have e28 : ρ' 28 = ρ 28 := Agree.at hA 28 (by kernel_rfl)
  have e29 : ρ' 29 = ρ 29 := Agree.at hA 29 (by kernel_rfl)
  have h1 := hr (ρ' 30) w' hI
  rw [← e2, ← e28, ← e29] at h1
  exact b21_ok R C6 (fun z30 w1 => J z30 w1 ∧ μ z30 w1 < μ (ρ' 30) w') ρ' w' h1
theorem l20_intro (R : EP) (C6 : VP) (x2 x28 x29 x30 : Value) (w : World) (J : VP) (μ : Value → World → Nat) (h0 : J x30 w)
    (hr : ∀ y30 w0, J y30 w0 → ∀ C20 : VP, (∀ z30 w1, J z30 w1 → μ z30 w1 < μ y30 w0 → C20 z30 w1) → b21 R C6 C20 x2 x28 x29 y30 w0) : l20 R C6 x2 x28 x29 x30 w := by
  unfold l20
  exact ⟨J, μ, h0, fun y30 w0 hJ => hr y30 w0 hJ _ (fun z30 w1 h1 h2 => ⟨h1, h2⟩)⟩
abbrev q7 (R : EP) (C6 : VP) : XP := QX (fun ρ w => b17 R C6  w) (fun ρ w => R (.returned (ρ 4)) w) [(2, (fun ρ w => b9 R C6 (ρ 14) w)), (0, (fun ρ w => b3 R  w))]
theorem k19_ok (R : EP) (C6 : VP) (ρ : Env) (w : World) (h : l20 R C6 (ρ 2) (ρ 28) (ρ 29) (ρ 30) w) : codeP Try.prog (pan R) p10 (q7 R C6) ρ w := by
  have e : Code.block 2 (blkC p10) = p10 := by kernel_rfl
  rw [← e]
  exact blockQ (l20_ok R C6 ρ w h)
def b18 (R : EP) (C6 : VP) (x1 x2 x5 : Value) (w : World) (_r : Tok R := tok R) (_C6 : Tok C6 := tok C6) : Prop :=
  RUN Try.prog (pan R) (Instr.sliceAt 24 x1 none (some x5) none) w fun v1 w2 =>
  RUN Try.prog (pan R) (Builtin.len_ #[24] 3 #[v1]) w2 fun v3 w4 =>
  l20 R C6 x2 v1 v3 (Go.Value.int Go.IntKind.i64 0) w4
abbrev q8 (R : EP) (C6 : VP) : XP := QX (fun ρ w => l20 R C6 (ρ 2) (ρ 28) (ρ 29) (ρ 30) w) (fun ρ w => R (.returned (ρ 4)) w) [(2, (fun ρ w => b9 R C6 (ρ 14) w)), (0, (fun ρ w => b3 R  w))]
theorem b18_eq (R : EP) (C6 : VP) (ρ : Env) (w : World) : (b18 R C6 (ρ 1) (ρ 2) (ρ 5) w) = codeP Try.prog (pan R) (preC 0 p9) (q8 R C6) ρ w := by kernel_rfl
theorem b18_ok (R : EP) (C6 : VP) (ρ : Env) (w : World) (h : b18 R C6 (ρ 1) (ρ 2) (ρ 5) w) : codeP Try.prog (pan R) p9 (q7 R C6) ρ w := by
  have e : appC 0 (preC 0 p9) (dropC 1 p9) = p9 := by kernel_rfl
  rw [← e]
  exact appQ (fun ρ w => l20 R C6 (ρ 2) (ρ 28) (ρ 29) (ρ 30) w) 0 ((b18_eq R C6 ρ w).mp h) (fun ρ w h => k19_ok R C6 ρ w h)
theorem k16_ok (R : EP) (C6 : VP) (ρ : Env) (w : World) (h : b18 R C6 (ρ 1) (ρ 2) (ρ 5) w) : codeP Try.prog (pan R) (thnC p7) (q4 R C6) ρ w := by
  have e : Code.seq (fstC (thnC p7)) (sndC (thnC p7)) = (thnC p7) := by kernel_rfl
  rw [← e]
  exact seqQ (fun ρ w => b17 R C6  w) (b18_ok R C6 ρ w h) (fun ρ w h => b17_ok R C6 ρ w h)
def b22 (R : EP) (C6 : VP) (x2 x6 x14 : Value) (w : World) (_r : Tok R := tok R) (_C6 : Tok C6 := tok C6) : Prop :=
  b13 R C6 x2 x6 x14 w
theorem b22_eq (R : EP) (C6 : VP) (ρ : Env) (w : World) : (b22 R C6 (ρ 2) (ρ 6) (ρ 14) w) = codeP Try.prog (pan R) (elsC p7) (q4 R C6) ρ w := by kernel_rfl
theorem b22_ok (R : EP) (C6 : VP) (ρ : Env) (w : World) (h : b22 R C6 (ρ 2) (ρ 6) (ρ 14) w) : codeP Try.prog (pan R) (elsC p7) (q4 R C6) ρ w := (b22_eq R C6 ρ w).mp h
def b15 (R : EP) (C6 : VP) (x1 x2 x5 x6 x14 x25 : Value) (w : World) (_r : Tok R := tok R) (_C6 : Tok C6 := tok C6) : Prop :=
  SPL x25 (b18 R C6 x1 x2 x5 w) (b22 R C6 x2 x6 x14 w)
theorem b15_ok (R : EP) (C6 : VP) (ρ : Env) (w : World) (h : b15 R C6 (ρ 1) (ρ 2) (ρ 5) (ρ 6) (ρ 14) (ρ 25) w) : codeP Try.prog (pan R) p7 (q4 R C6) ρ w := by
  have e : Code.cond (.tmp 25) (thnC p7) (elsC p7) = p7 := by kernel_rfl
  rw [← e]
  exact condQ' h (fun h => k16_ok R C6 ρ w h) (fun h => b22_ok R C6 ρ w h)
def b14 (R : EP) (C6 : VP) (x1 x2 x5 x6 x14 : Value) (w : World) (_r : Tok R := tok R) (_C6 : Tok C6 := tok C6) : Prop :=
  RUN Try.prog (pan R) (Instr.loadAt 65 x2) w fun v1 w2 =>
  NILC v1 fun v3 =>
  RUN Try.prog (pan R) (Instr.fieldAt 81 v3 1) w2 fun v4 w5 =>
  RUN Try.prog (pan R) (Instr.loadAt 68 v4) w5 fun v6 w7 =>
  RUN Try.prog (pan R) (Instr.indexAt 68 v6 x6) w7 fun v8 w9 =>
  RUN Try.prog (pan R) (Instr.loadAt 4 v8) w9 fun v10 w11 =>
  b15 R C6 x1 x2 x5 x6 x14 v10 w11
abbrev q9 (R : EP) (C6 : VP) : XP := QX (fun ρ w => b15 R C6 (ρ 1) (ρ 2) (ρ 5) (ρ 6) (ρ 14) (ρ 25) w) (fun ρ w => R (.returned (ρ 4)) w) [(2, (fun ρ w => b9 R C6 (ρ 14) w)), (0, (fun ρ w => b3 R  w))]
theorem b14_eq (R : EP) (C6 : VP) (ρ : Env) (w : World) : (b14 R C6 (ρ 1) (ρ 2) (ρ 5) (ρ 6) (ρ 14) w) = codeP Try.prog (pan R) (preC 0 (fstC p6)) (q9 R C6) ρ w := by kernel_rfl
theorem b14_ok (R : EP) (C6 : VP) (ρ : Env) (w : World) (h : b14 R C6 (ρ 1) (ρ 2) (ρ 5) (ρ 6) (ρ 14) w) : codeP Try.prog (pan R) (fstC p6) (q4 R C6) ρ w := by
  have e : appC 0 (preC 0 (fstC p6)) (dropC 1 (fstC p6)) = (fstC p6) := by kernel_rfl
  rw [← e]
  exact appQ (fun ρ w => b15 R C6 (ρ 1) (ρ 2) (ρ 5) (ρ 6) (ρ 14) (ρ 25) w) 0 ((b14_eq R C6 ρ w).mp h) (fun ρ w h => b15_ok R C6 ρ w h)
theorem k12_ok (R : EP) (C6 : VP) (ρ : Env) (w : World) (h : b14 R C6 (ρ 1) (ρ 2) (ρ 5) (ρ 6) (ρ 14) w) : codeP Try.prog (pan R) p6 (q3 R C6) ρ w := by
  have e : Code.seq (fstC p6) (sndC p6) = p6 := by kernel_rfl
  rw [← e]
  exact seqQ (fun ρ w => b13 R C6 (ρ 2) (ρ 6) (ρ 14) w) (b14_ok R C6 ρ w h) (fun ρ w h => b13_ok R C6 ρ w h)
def b11 (R : EP) (C6 : VP) (x1 x2 x12 x14 : Value) (w : World) (_r : Tok R := tok R) (_C6 : Tok C6 := tok C6) : Prop :=
  RUN Try.prog (pan R) (Instr.indexAt 24 x12 x14) w fun v1 w2 =>
  RUN Try.prog (pan R) (Instr.loadAt 3 v1) w2 fun v3 w4 =>
  b14 R C6 x1 x2 x14 v3 x14 w4
abbrev q10 (R : EP) (C6 : VP) : XP := QX (fun ρ w => b14 R C6 (ρ 1) (ρ 2) (ρ 5) (ρ 6) (ρ 14) w) (fun ρ w => R (.returned (ρ 4)) w) [(2, (fun ρ w => b9 R C6 (ρ 14) w)), (0, (fun ρ w => b3 R  w))]
theorem b11_eq (R : EP) (C6 : VP) (ρ : Env) (w : World) : (b11 R C6 (ρ 1) (ρ 2) (ρ 12) (ρ 14) w) = codeP Try.prog (pan R) (preC 0 p5) (q10 R C6) ρ w := by kernel_rfl
theorem b11_ok (R : EP) (C6 : VP) (ρ : Env) (w : World) (h : b11 R C6 (ρ 1) (ρ 2) (ρ 12) (ρ 14) w) : codeP Try.prog (pan R) p5 (q3 R C6) ρ w := by
  have e : appC 0 (preC 0 p5) (dropC 1 p5) = p5 := by kernel_rfl
  rw [← e]
  exact appQ (fun ρ w => b14 R C6 (ρ 1) (ρ 2) (ρ 5) (ρ 6) (ρ 14) w) 0 ((b11_eq R C6 ρ w).mp h) (fun ρ w h => k12_ok R C6 ρ w h)
abbrev q11 (R : EP) (C6 : VP) : XP := QX (fun ρ w => b9 R C6 (ρ 14) w) (fun ρ w => R (.returned (ρ 4)) w) [(0, (fun ρ w => b3 R  w))]
theorem k10_ok (R : EP) (C6 : VP) (ρ : Env) (w : World) (h : b11 R C6 (ρ 1) (ρ 2) (ρ 12) (ρ 14) w) : codeP Try.prog (pan R) (fstC p4) (q11 R C6) ρ w := by
  have e : Code.block 1 (blkC (fstC p4)) = (fstC p4) := by kernel_rfl
  rw [← e]
  exact blockQ (b11_ok R C6 ρ w h)
theorem k8_ok (R : EP) (C6 : VP) (ρ : Env) (w : World) (h : b11 R C6 (ρ 1) (ρ 2) (ρ 12) (ρ 14) w) : codeP Try.prog (pan R) p4 (q2 R C6) ρ w := by
  have e : Code.seq (fstC p4) (sndC p4) = p4 := by kernel_rfl
  rw [← e]
  exact seqQ (fun ρ w => b9 R C6 (ρ 14) w) (k10_ok R C6 ρ w h) (fun ρ w h => b9_ok R C6 ρ w h)
def b7 (R : EP) (C6 : VP) (x1 x2 x12 x13 x14 : Value) (w : World) (_r : Tok R := tok R) (_C6 : Tok C6 := tok C6) : Prop :=
  RUN Try.prog (pan R) (bins .lss 3 (.tmp 14) (.tmp 13) x14 x13) w fun v1 w2 =>
  SPL v1
  (b11 R C6 x1 x2 x12 x14 w2)
  (b3 R w2)
abbrev q12 (R : EP) (C6 : VP) : XP := QX (fun ρ w => b11 R C6 (ρ 1) (ρ 2) (ρ 12) (ρ 14) w) (fun ρ w => R (.returned (ρ 4)) w) [(0, (fun ρ w => b3 R  w))]
theorem b7_eq (R : EP) (C6 : VP) (ρ : Env) (w : World) : (b7 R C6 (ρ 1) (ρ 2) (ρ 12) (ρ 13) (ρ 14) w) = codeP Try.prog (pan R) (preC 1 p3) (q12 R C6) ρ w := by kernel_rfl
theorem b7_ok (R : EP) (C6 : VP) (ρ : Env) (w : World) (h : b7 R C6 (ρ 1) (ρ 2) (ρ 12) (ρ 13) (ρ 14) w) : codeP Try.prog (pan R) p3 (q2 R C6) ρ w := by
  have e : appC 1 (preC 1 p3) (dropC 2 p3) = p3 := by kernel_rfl
  rw [← e]
  exact appQ (fun ρ w => b11 R C6 (ρ 1) (ρ 2) (ρ 12) (ρ 14) w) 1 ((b7_eq R C6 ρ w).mp h) (fun ρ w h => k8_ok R C6 ρ w h)
def l6 (R : EP) (x1 x2 x12 x13 x14 : Value) (w : World) (_r : Tok R := tok R) : Prop :=
  ∃ (J : VP) (μ : Value → World → Nat), J x14 w ∧ ∀ y14 w0, J y14 w0 → b7 R (fun z14 w1 => J z14 w1 ∧ μ z14 w1 < μ y14 w0) x1 x2 x12 x13 y14 w0
abbrev q13 (R : EP) : XP := QX (fun ρ w => b3 R  w) (fun ρ w => R (.returned (ρ 4)) w) [(0, (fun ρ w => b3 R  w))]
theorem l6_ok (R : EP) (ρ : Env) (w : World) (h : l6 R (ρ 1) (ρ 2) (ρ 12) (ρ 13) (ρ 14) w) : codeP Try.prog (pan R) (blkC p2) (q13 R) ρ w := by
  unfold l6 at h
  obtain ⟨J, μ, h0, hr⟩ := h
  have e : Code.loop (loopC (blkC p2)) = (blkC p2) := by kernel_rfl
  rw [← e]
  refine loopQ (fun ρ' w' => J (ρ' 14) w') (fun ρ' w' => μ (ρ' 14) w') h0 fun ρ' w' hA hI => ?_
  have e1 : ρ' 1 = ρ 1 := Agree.at hA 1 (by kernel_rfl)
  have e2 : ρ' 2 = ρ 2 := Agree.at hA 2 (by kernel_rfl)
  have e12 : ρ' 12 = ρ 12 := Agree.at hA 12 (by kernel_rfl)
  have e13 : ρ' 13 = ρ 13 := Agree.at hA 13 (by kernel_rfl)
  have h1 := hr (ρ' 14) w' hI
  rw [← e1, ← e2, ← e12, ← e13] at h1
  exact b7_ok R (fun z14 w1 => J z14 w1 ∧ μ z14 w1 < μ (ρ' 14) w') ρ' w' h1
theorem l6_intro (R : EP) (x1 x2 x12 x13 x14 : Value) (w : World) (J : VP) (μ : Value → World → Nat) (h0 : J x14 w)
    (hr : ∀ y14 w0, J y14 w0 → ∀ C6 : VP, (∀ z14 w1, J z14 w1 → μ z14 w1 < μ y14 w0 → C6 z14 w1) → b7 R C6 x1 x2 x12 x13 y14 w0) : l6 R x1 x2 x12 x13 x14 w := by
  unfold l6
  exact ⟨J, μ, h0, fun y14 w0 hJ => hr y14 w0 hJ _ (fun z14 w1 h1 h2 => ⟨h1, h2⟩)⟩
abbrev q14 (R : EP) : XP := QX (fun ρ w => b3 R  w) (fun ρ w => R (.returned (ρ 4)) w) []
theorem k5_ok (R : EP) (ρ : Env) (w : World) (h : l6 R (ρ 1) (ρ 2) (ρ 12) (ρ 13) (ρ 14) w) : codeP Try.prog (pan R) p2 (q14 R) ρ w := by
  have e : Code.block 0 (blkC p2) = p2 := by kernel_rfl
  rw [← e]
  exact blockQ (l6_ok R ρ w h)
def b4 (R : EP) (x1 x2 : Value) (w : World) (_r : Tok R := tok R) : Prop :=
  RUN Try.prog (pan R) (Builtin.len_ #[24] 3 #[x1]) w fun v1 w2 =>
  l6 R x1 x2 x1 v1 (Go.Value.int Go.IntKind.i64 0) w2
abbrev q15 (R : EP) : XP := QX (fun ρ w => l6 R (ρ 1) (ρ 2) (ρ 12) (ρ 13) (ρ 14) w) (fun ρ w => R (.returned (ρ 4)) w) []
theorem b4_eq (R : EP) (ρ : Env) (w : World) : (b4 R (ρ 1) (ρ 2) w) = codeP Try.prog (pan R) (preC 0 (fstC p1)) (q15 R) ρ w := by kernel_rfl
theorem b4_ok (R : EP) (ρ : Env) (w : World) (h : b4 R (ρ 1) (ρ 2) w) : codeP Try.prog (pan R) (fstC p1) (q14 R) ρ w := by
  have e : appC 0 (preC 0 (fstC p1)) (dropC 1 (fstC p1)) = (fstC p1) := by kernel_rfl
  rw [← e]
  exact appQ (fun ρ w => l6 R (ρ 1) (ρ 2) (ρ 12) (ρ 13) (ρ 14) w) 0 ((b4_eq R ρ w).mp h) (fun ρ w h => k5_ok R ρ w h)
theorem k2_ok (R : EP) (ρ : Env) (w : World) (h : b4 R (ρ 1) (ρ 2) w) : codeP Try.prog (pan R) p1 (q1 R) ρ w := by
  have e : Code.seq (fstC p1) (sndC p1) = p1 := by kernel_rfl
  rw [← e]
  exact seqQ (fun ρ w => b3 R  w) (b4_ok R ρ w h) (fun ρ w h => b3_ok R ρ w h)
def b1 (R : EP) (x0 x1 : Value) (w : World) (_r : Tok R := tok R) : Prop :=
  RUN Try.prog (pan R) (Instr.box 65 x0) w fun v1 w2 =>
  RUN Try.prog (pan R) (Instr.makeFunc (.func tree_Arena_free_1.id) #[] #[v1]) w2 fun v3 w4 =>
  CALL Try.prog (pan R) slices_ContainsFunc_int_int.id #[x1, v3] w4 fun v5 w6 =>
  SPL v5
  (R (.returned (Go.Value.bool Bool.false)) w6)
  (b4 R x1 v1 w6)
abbrev q16 (R : EP) : XP := QX (fun ρ w => b4 R (ρ 1) (ρ 2) w) (fun ρ w => R (.returned (ρ 4)) w) []
theorem b1_eq (R : EP) (ρ : Env) (w : World) : (b1 R (ρ 0) (ρ 1) w) = codeP Try.prog (pan R) (preC 1 code) (q16 R) ρ w := by kernel_rfl
theorem b1_ok (R : EP) (ρ : Env) (w : World) (h : b1 R (ρ 0) (ρ 1) w) : codeP Try.prog (pan R) code (q1 R) ρ w := by
  have e : appC 1 (preC 1 code) (dropC 2 code) = code := by kernel_rfl
  rw [← e]
  exact appQ (fun ρ w => b4 R (ρ 1) (ρ 2) w) 1 ((b1_eq R ρ w).mp h) (fun ρ w h => k2_ok R ρ w h)
/-- What is owed for a call. -/
def run (R : EP) (a0 a1 : Value) (w : World) : Prop := b1 R a0 a1 w
theorem calls (R : EP) (a0 a1 : Value) (w : World) (h : run R a0 a1 w) : Calls Try.prog id #[a0, a1] w R :=
  calls_of_t (f := id) (fn := Try.f98) (c := code) (by kernel_rfl) Try.func98 (by kernel_rfl) (by kernel_rfl) (args := [a0, a1]) (Nat.le_of_ble_eq_true rfl) rfl (b1_ok R (envOf [a0, a1]) w h)
theorem enters : Enters Try.prog id := fun args w => Try.call98 args w
theorem ct {a0 a1 : Value} {w : World} {S : VP} (h : ∀ R : EP, (∀ v w, S v w → R (.returned v) w) → run R a0 a1 w) : Ct Try.prog id #[a0, a1] w S :=
  Ct.intro enters fun R hR => calls R a0 a1 w (h R hR)
attribute [irreducible] b3 b9 b13 b17 b21_1 b21 l20 b18 b22 b15 b14 b11 b7 l6 b4 b1 run
attribute [go_sem] b3 b9 b13 b17 b21_1 b21 b18 b22 b15 b14 b11 b7 b4 b1 run
end tree_Arena_free

/-! ### (*presage/tree.walk).push -/
namespace tree_walk_push
noncomputable def code : Code := bodyOf Try.f127
noncomputable abbrev p1 : Code := dropC 1 code

def b3 (R : EP) (w : World) (_r : Tok R := tok R) : Prop :=
  R (.returned (Go.Value.bool Bool.true)) w
abbrev q1 (R : EP) : XP := QX (fun ρ w => R (.returned (ρ 4)) w) (fun ρ w => R (.returned (ρ 4)) w) []
theorem b3_eq (R : EP) (ρ : Env) (w : World) : (b3 R w) = codeP Try.prog (pan R) (sndC p1) (q1 R) ρ w := by kernel_rfl
theorem b3_ok (R : EP) (ρ : Env) (w : World) (h : b3 R w) : codeP Try.prog (pan R) (sndC p1) (q1 R) ρ w := (b3_eq R ρ w).mp h
noncomputable abbrev p2 : Code := dropC 1 (fstC p1)
noncomputable abbrev p3 : Code := loopC (blkC p2)
def b7_1 (R : EP) (C6 : VP) (x0 x9 v5 : Value) (w15 : World) (_r : Tok R := tok R) (_C6 : Tok C6 := tok C6) : Prop :=
  NILC x0 fun v16 =>
  RUN Try.prog (pan R) (Instr.fieldAt 160 v16 1) w15 fun v17 w18 =>
  RUN Try.prog (pan R) (Instr.loadAt 68 v17) w18 fun v19 w20 =>
  RUN Try.prog (pan R) (Instr.indexAt 68 v19 v5) w20 fun v21 w22 =>
  RUNU Try.prog (pan R) (Instr.storeAt 4 v21 (Go.Value.bool Bool.true)) w22 fun w23 =>
  NILC x0 fun v24 =>
  RUN Try.prog (pan R) (Instr.fieldAt 160 v24 2) w23 fun v25 w26 =>
  RUN Try.prog (pan R) (Instr.loadAt 24 v25) w26 fun v27 w28 =>
  RUN Try.prog (pan R) (Instr.buildSlice 24 1 #[(0, v5)]) w28 fun v29 w30 =>
  RUN Try.prog (pan R) (Builtin.append_ #[24, 24] 24 #[v27, v29]) w30 fun v31 w32 =>
  NILC x0 fun v33 =>
  RUN Try.prog (pan R) (Instr.fieldAt 160 v33 2) w32 fun v34 w35 =>
  RUNU Try.prog (pan R) (Instr.storeAt 24 v34 v31) w35 fun w36 =>
  RUN Try.prog (pan R) (bins .add 3 (.tmp 9) (.const (Go.Value.int Go.IntKind.i64 1)) x9 (Go.Value.int Go.IntKind.i64 1)) w36 fun v37 w38 =>
  C6 v37 w38
def b7_2 (R : EP) (C6 : VP) (x0 x7 x9 : Value) (w2 : World) (_r : Tok R := tok R) (_C6 : Tok C6 := tok C6) : Prop :=
  RUN Try.prog (pan R) (Instr.indexAt 24 x7 x9) w2 fun v3 w4 =>
  RUN Try.prog (pan R) (Instr.loadAt 3 v3) w4 fun v5 w6 =>
  NILC x0 fun v7 =>
  RUN Try.prog (pan R) (Instr.fieldAt 160 v7 1) w6 fun v8 w9 =>
  RUN Try.prog (pan R) (Instr.loadAt 68 v8) w9 fun v10 w11 =>
  RUN Try.prog (pan R) (Instr.indexAt 68 v10 v5) w11 fun v12 w13 =>
  RUN Try.prog (pan R) (Instr.loadAt 4 v12) w13 fun v14 w15 =>
  SPL v14
  (R (.returned (Go.Value.bool Bool.false)) w15)
  (b7_1 R C6 x0 x9 v5 w15)
def b7 (R : EP) (C6 : VP) (x0 x7 x8 x9 : Value) (w : World) (_r : Tok R := tok R) (_C6 : Tok C6 := tok C6) : Prop :=
  RUN Try.prog (pan R) (bins .lss 3 (.tmp 9) (.tmp 8) x9 x8) w fun v1 w2 =>
  SPL v1
  (b7_2 R C6 x0 x7 x9 w2)
  (b3 R w2)
abbrev q2 (R : EP) (C6 : VP) : XP := QX (fun ρ w => C6 (ρ 9) w) (fun ρ w => R (.returned (ρ 4)) w) [(0, (fun ρ w => b3 R  w))]
theorem b7_eq (R : EP) (C6 : VP) (ρ : Env) (w : World) : (b7 R C6 (ρ 0) (ρ 7) (ρ 8) (ρ 9) w) = codeP Try.prog (pan R) p3 (q2 R C6) ρ w := by kernel_rfl
theorem b7_ok (R : EP) (C6 : VP) (ρ : Env) (w : World) (h : b7 R C6 (ρ 0) (ρ 7) (ρ 8) (ρ 9) w) : codeP Try.prog (pan R) p3 (q2 R C6) ρ w := (b7_eq R C6 ρ w).mp h
def l6 (R : EP) (x0 x7 x8 x9 : Value) (w : World) (_r : Tok R := tok R) : Prop :=
  ∃ (J : VP) (μ : Value → World → Nat), J x9 w ∧ ∀ y9 w0, J y9 w0 → b7 R (fun z9 w1 => J z9 w1 ∧ μ z9 w1 < μ y9 w0) x0 x7 x8 y9 w0
abbrev q3 (R : EP) : XP := QX (fun ρ w => b3 R  w) (fun ρ w => R (.returned (ρ 4)) w) [(0, (fun ρ w => b3 R  w))]
theorem l6_ok (R : EP) (ρ : Env) (w : World) (h : l6 R (ρ 0) (ρ 7) (ρ 8) (ρ 9) w) : codeP Try.prog (pan R) (blkC p2) (q3 R) ρ w := by
  unfold l6 at h
  obtain ⟨J, μ, h0, hr⟩ := h
  have e : Code.loop (loopC (blkC p2)) = (blkC p2) := by kernel_rfl
  rw [← e]
  refine loopQ (fun ρ' w' => J (ρ' 9) w') (fun ρ' w' => μ (ρ' 9) w') h0 fun ρ' w' hA hI => ?_
  have e0 : ρ' 0 = ρ 0 := Agree.at hA 0 (by kernel_rfl)
  have e7 : ρ' 7 = ρ 7 := Agree.at hA 7 (by kernel_rfl)
  have e8 : ρ' 8 = ρ 8 := Agree.at hA 8 (by kernel_rfl)
  have h1 := hr (ρ' 9) w' hI
  rw [← e0, ← e7, ← e8] at h1
  exact b7_ok R (fun z9 w1 => J z9 w1 ∧ μ z9 w1 < μ (ρ' 9) w') ρ' w' h1
theorem l6_intro (R : EP) (x0 x7 x8 x9 : Value) (w : World) (J : VP) (μ : Value → World → Nat) (h0 : J x9 w)
    (hr : ∀ y9 w0, J y9 w0 → ∀ C6 : VP, (∀ z9 w1, J z9 w1 → μ z9 w1 < μ y9 w0 → C6 z9 w1) → b7 R C6 x0 x7 x8 y9 w0) : l6 R x0 x7 x8 x9 w := by
  unfold l6
  exact ⟨J, μ, h0, fun y9 w0 hJ => hr y9 w0 hJ _ (fun z9 w1 h1 h2 => ⟨h1, h2⟩)⟩
abbrev q4 (R : EP) : XP := QX (fun ρ w => b3 R  w) (fun ρ w => R (.returned (ρ 4)) w) []
theorem k5_ok (R : EP) (ρ : Env) (w : World) (h : l6 R (ρ 0) (ρ 7) (ρ 8) (ρ 9) w) : codeP Try.prog (pan R) p2 (q4 R) ρ w := by
  have e : Code.block 0 (blkC p2) = p2 := by kernel_rfl
  rw [← e]
  exact blockQ (l6_ok R ρ w h)
def b4 (R : EP) (x0 x1 : Value) (w : World) (_r : Tok R := tok R) : Prop :=
  RUN Try.prog (pan R) (Builtin.len_ #[24] 3 #[x1]) w fun v1 w2 =>
  l6 R x0 x1 v1 (Go.Value.int Go.IntKind.i64 0) w2
abbrev q5 (R : EP) : XP := QX (fun ρ w => l6 R (ρ 0) (ρ 7) (ρ 8) (ρ 9) w) (fun ρ w => R (.returned (ρ 4)) w) []
theorem b4_eq (R : EP) (ρ : Env) (w : World) : (b4 R (ρ 0) (ρ 1) w) = codeP Try.prog (pan R) (preC 0 (fstC p1)) (q5 R) ρ w := by kernel_rfl
theorem b4_ok (R : EP) (ρ : Env) (w : World) (h : b4 R (ρ 0) (ρ 1) w) : codeP Try.prog (pan R) (fstC p1) (q4 R) ρ w := by
  have e : appC 0 (preC 0 (fstC p1)) (dropC 1 (fstC p1)) = (fstC p1) := by kernel_rfl
  rw [← e]
  exact appQ (fun ρ w => l6 R (ρ 0) (ρ 7) (ρ 8) (ρ 9) w) 0 ((b4_eq R ρ w).mp h) (fun ρ w h => k5_ok R ρ w h)
theorem k2_ok (R : EP) (ρ : Env) (w : World) (h : b4 R (ρ 0) (ρ 1) w) : codeP Try.prog (pan R) p1 (q1 R) ρ w := by
  have e : Code.seq (fstC p1) (sndC p1) = p1 := by kernel_rfl
  rw [← e]
  exact seqQ (fun ρ w => b3 R  w) (b4_ok R ρ w h) (fun ρ w h => b3_ok R ρ w h)
def b1 (R : EP) (x0 x1 : Value) (w : World) (_r : Tok R := tok R) : Prop :=
  b4 R x0 x1 w
abbrev q6 (R : EP) : XP := QX (fun ρ w => b4 R (ρ 0) (ρ 1) w) (fun ρ w => R (.returned (ρ 4)) w) []
theorem b1_eq (R : EP) (ρ : Env) (w : World) : (b1 R (ρ 0) (ρ 1) w) = codeP Try.prog (pan R) (preC 0 code) (q6 R) ρ w := by kernel_rfl
theorem b1_ok (R : EP) (ρ : Env) (w : World) (h : b1 R (ρ 0) (ρ 1) w) : codeP Try.prog (pan R) code (q1 R) ρ w := by
  have e : appC 0 (preC 0 code) (dropC 1 code) = code := by kernel_rfl
  rw [← e]
  exact appQ (fun ρ w => b4 R (ρ 0) (ρ 1) w) 0 ((b1_eq R ρ w).mp h) (fun ρ w h => k2_ok R ρ w h)
/-- What is owed for a call. -/
def run (R : EP) (a0 a1 : Value) (w : World) : Prop := b1 R a0 a1 w
theorem calls (R : EP) (a0 a1 : Value) (w : World) (h : run R a0 a1 w) : Calls Try.prog id #[a0, a1] w R :=
  calls_of_t (f := id) (fn := Try.f127) (c := code) (by kernel_rfl) Try.func127 (by kernel_rfl) (by kernel_rfl) (args := [a0, a1]) (Nat.le_of_ble_eq_true rfl) rfl (b1_ok R (envOf [a0, a1]) w h)
theorem enters : Enters Try.prog id := fun args w => Try.call127 args w
theorem ct {a0 a1 : Value} {w : World} {S : VP} (h : ∀ R : EP, (∀ v w, S v w → R (.returned v) w) → run R a0 a1 w) : Ct Try.prog id #[a0, a1] w S :=
  Ct.intro enters fun R hR => calls R a0 a1 w (h R hR)
attribute [irreducible] b3 b7_1 b7_2 b7 l6 b4 b1 run
attribute [go_sem] b3 b7_1 b7_2 b7 b4 b1 run
end tree_walk_push

/-! ### (*presage/tree.walk).sound -/
namespace tree_walk_sound
noncomputable def code : Code := bodyOf Try.f128
def b1_1 (R : EP) (v9 : Value) (w35 : World) (_r : Tok R := tok R) : Prop :=
  RUN Try.prog (pan R) (Instr.fieldAt 61 v9 3) w35 fun v36 w37 =>
  RUN Try.prog (pan R) (Instr.loadAt 24 v36) w37 fun v38 w39 =>
  RUN Try.prog (pan R) (Builtin.len_ #[24] 3 #[v38]) w39 fun v40 w41 =>
  RUN Try.prog (pan R) (bins .eql 3 (.tmp 32) (.const (Go.Value.int Go.IntKind.i64 0)) v40 (Go.Value.int Go.IntKind.i64 0)) w41 fun v42 w43 =>
  R (.returned v42) w43
def b1_2 (R : EP) (v9 : Value) (w29 : World) (_r : Tok R := tok R) : Prop :=
  RUN Try.prog (pan R) (Instr.fieldAt 61 v9 2) w29 fun v30 w31 =>
  RUN Try.prog (pan R) (Instr.loadAt 3 v30) w31 fun v32 w33 =>
  RUN Try.prog (pan R) (bins .geq 3 (.tmp 26) (.const (Go.Value.int Go.IntKind.i64 0)) v32 (Go.Value.int Go.IntKind.i64 0)) w33 fun v34 w35 =>
  SPL v34
  (b1_1 R v9 w35)
  (R (.returned (Go.Value.bool Bool.false)) w35)
def b1_3 (R : EP) (v9 : Value) (w23 : World) (_r : Tok R := tok R) : Prop :=
  RUN Try.prog (pan R) (Instr.fieldAt 61 v9 0) w23 fun v24 w25 =>
  RUN Try.prog (pan R) (Instr.loadAt 3 v24) w25 fun v26 w27 =>
  RUN Try.prog (pan R) (bins .geq 3 (.tmp 21) (.const (Go.Value.int Go.IntKind.i64 0)) v26 (Go.Value.int Go.IntKind.i64 0)) w27 fun v28 w29 =>
  SPL v28
  (b1_2 R v9 w29)
  (R (.returned (Go.Value.bool Bool.false)) w29)
def b1_4 (R : EP) (v9 : Value) (w17 : World) (_r : Tok R := tok R) : Prop :=
  RUN Try.prog (pan R) (Instr.fieldAt 61 v9 1) w17 fun v18 w19 =>
  RUN Try.prog (pan R) (Instr.loadAt 3 v18) w19 fun v20 w21 =>
  RUN Try.prog (pan R) (bins .eql 3 (.tmp 17) (.const (Go.Value.int Go.IntKind.i64 (-1))) v20 (Go.Value.int Go.IntKind.i64 (-1))) w21 fun v22 w23 =>
  SPL v22
  (b1_3 R v9 w23)
  (R (.returned (Go.Value.bool Bool.false)) w23)
def b1_5 (R : EP) (v1 v9 : Value) (w55 : World) (_r : Tok R := tok R) : Prop :=
  RUN Try.prog (pan R) (Instr.fieldAt 61 v9 3) w55 fun v56 w57 =>
  RUN Try.prog (pan R) (Instr.loadAt 24 v56) w57 fun v58 w59 =>
  RUN Try.prog (pan R) (Instr.makeFunc (.func tree_walk_sound_1.id) #[] #[v1]) w59 fun v60 w61 =>
  CALL Try.prog (pan R) slices_ContainsFunc_int_int.id #[v58, v60] w61 fun v62 w63 =>
  RUN Try.prog (pan R) (Op.unary .not v62) w63 fun v64 w65 =>
  R (.returned v64) w65
def b1_6 (R : EP) (v1 v9 : Value) (w49 : World) (_r : Tok R := tok R) : Prop :=
  RUN Try.prog (pan R) (Instr.fieldAt 61 v9 2) w49 fun v50 w51 =>
  RUN Try.prog (pan R) (Instr.loadAt 3 v50) w51 fun v52 w53 =>
  RUN Try.prog (pan R) (bins .eql 3 (.tmp 40) (.const (Go.Value.int Go.IntKind.i64 0)) v52 (Go.Value.int Go.IntKind.i64 0)) w53 fun v54 w55 =>
  SPL v54
  (b1_5 R v1 v9 w55)
  (R (.returned (Go.Value.bool Bool.false)) w55)
def b1_7 (R : EP) (v1 v9 : Value) (w17 : World) (_r : Tok R := tok R) : Prop :=
  RUN Try.prog (pan R) (Instr.fieldAt 61 v9 0) w17 fun v44 w45 =>
  RUN Try.prog (pan R) (Instr.loadAt 3 v44) w45 fun v46 w47 =>
  RUN Try.prog (pan R) (bins .geq 3 (.tmp 36) (.const (Go.Value.int Go.IntKind.i64 0)) v46 (Go.Value.int Go.IntKind.i64 0)) w47 fun v48 w49 =>
  SPL v48
  (b1_6 R v1 v9 w49)
  (R (.returned (Go.Value.bool Bool.false)) w49)
def b1 (R : EP) (x0 x1 : Value) (w : World) (_r : Tok R := tok R) : Prop :=
  RUN Try.prog (pan R) (Instr.box 3 x1) w fun v1 w2 =>
  NILC x0 fun v3 =>
  PUR Try.prog (Instr.fieldAt 160 v3 0) fun v4 =>
  LD Try.prog (Instr.loadAt 49 v4) (World.drew w2) fun v5 =>
  LD Try.prog (Instr.loadAt 3 v1) (World.drew w2) fun v6 =>
  PUR Try.prog (Instr.indexAt 49 v5 v6) fun v7 =>
  LD Try.prog (Instr.loadAt 61 v7) (World.drew w2) fun v8 =>
  RUN Try.prog (pan R) (Instr.alloc 61 true (.tuple #[])) (World.drew w2) fun v9 w10 =>
  Sem.run Try.prog (Instr.loadAt 61 v7) w10 = .ok v8 w10 ∧ (Sem.run Try.prog (Instr.loadAt 3 v1) w10 = .ok v6 w10 ∧ (Sem.run Try.prog (Instr.loadAt 49 v4) w10 = .ok v5 w10 ∧ (RUNU Try.prog (pan R) (Instr.storeAt 61 v9 v8) w10 fun w11 =>
  RUN Try.prog (pan R) (Instr.fieldAt 61 v9 1) w11 fun v12 w13 =>
  RUN Try.prog (pan R) (Instr.loadAt 3 v12) w13 fun v14 w15 =>
  RUN Try.prog (pan R) (bins .lss 3 (.tmp 14) (.const (Go.Value.int Go.IntKind.i64 0)) v14 (Go.Value.int Go.IntKind.i64 0)) w15 fun v16 w17 =>
  SPL v16
  (b1_4 R v9 w17)
  (b1_7 R v1 v9 w17))))
abbrev q1 (R : EP) : XP := QX (fun ρ w => R (.returned (ρ 4)) w) (fun ρ w => R (.returned (ρ 4)) w) []
theorem b1_eq (R : EP) (ρ : Env) (w : World) : (b1 R (ρ 0) (ρ 1) w) = codeP Try.prog (pan R) code (q1 R) ρ w := by kernel_rfl
theorem b1_ok (R : EP) (ρ : Env) (w : World) (h : b1 R (ρ 0) (ρ 1) w) : codeP Try.prog (pan R) code (q1 R) ρ w := (b1_eq R ρ w).mp h
/-- What is owed for a call. -/
def run (R : EP) (a0 a1 : Value) (w : World) : Prop := b1 R a0 a1 w
theorem calls (R : EP) (a0 a1 : Value) (w : World) (h : run R a0 a1 w) : Calls Try.prog id #[a0, a1] w R :=
  calls_of_t (f := id) (fn := Try.f128) (c := code) (by kernel_rfl) Try.func128 (by kernel_rfl) (by kernel_rfl) (args := [a0, a1]) (Nat.le_of_ble_eq_true rfl) rfl (b1_ok R (envOf [a0, a1]) w h)
theorem enters : Enters Try.prog id := fun args w => Try.call128 args w
theorem ct {a0 a1 : Value} {w : World} {S : VP} (h : ∀ R : EP, (∀ v w, S v w → R (.returned v) w) → run R a0 a1 w) : Ct Try.prog id #[a0, a1] w S :=
  Ct.intro enters fun R hR => calls R a0 a1 w (h R hR)
attribute [irreducible] b1_1 b1_2 b1_3 b1_4 b1_5 b1_6 b1_7 b1 run
attribute [go_sem] b1_1 b1_2 b1_3 b1_4 b1_5 b1_6 b1_7 b1 run
end tree_walk_sound

/-! ### (*presage/tree.proof).joined$1 -/
namespace tree_proof_joined_1
noncomputable def code : Code := bodyOf Try.f131
def b1_1 (R : EP) (x0 x1 x2 : Value) (w13 : World) (_r : Tok R := tok R) : Prop :=
  RUN Try.prog (pan R) (Instr.loadAt 119 x2) w13 fun v14 w15 =>
  NILC v14 fun v16 =>
  RUN Try.prog (pan R) (Instr.fieldAt 121 v16 1) w15 fun v17 w18 =>
  RUN Try.prog (pan R) (Instr.loadAt 49 v17) w18 fun v19 w20 =>
  RUN Try.prog (pan R) (Instr.indexAt 49 v19 x1) w20 fun v21 w22 =>
  RUN Try.prog (pan R) (Instr.fieldAt 61 v21 0) w22 fun v23 w24 =>
  RUN Try.prog (pan R) (Instr.loadAt 3 v23) w24 fun v25 w26 =>
  RUN Try.prog (pan R) (bins .eql 3 (.tmp 25) (.tmp 26) v25 x0) w26 fun v27 w28 =>
  R (.returned v27) w28
def b1_2 (R : EP) (x0 x1 x2 : Value) (w2 : World) (_r : Tok R := tok R) : Prop :=
  RUN Try.prog (pan R) (Instr.loadAt 119 x2) w2 fun v3 w4 =>
  NILC v3 fun v5 =>
  RUN Try.prog (pan R) (Instr.fieldAt 121 v5 1) w4 fun v6 w7 =>
  RUN Try.prog (pan R) (Instr.loadAt 49 v6) w7 fun v8 w9 =>
  RUN Try.prog (pan R) (Builtin.len_ #[49] 3 #[v8]) w9 fun v10 w11 =>
  RUN Try.prog (pan R) (bins .lss 3 (.tmp 9) (.tmp 14) x1 v10) w11 fun v12 w13 =>
  SPL v12
  (b1_1 R x0 x1 x2 w13)
  (R (.returned (Go.Value.bool Bool.false)) w13)
def b1 (R : EP) (x0 x1 x2 : Value) (w : World) (_r : Tok R := tok R) : Prop :=
  RUN Try.prog (pan R) (bins .leq 3 (.const (Go.Value.int Go.IntKind.i64 0)) (.tmp 6) (Go.Value.int Go.IntKind.i64 0) x1) w fun v1 w2 =>
  SPL v1
  (b1_2 R x0 x1 x2 w2)
  (R (.returned (Go.Value.bool Bool.false)) w2)
abbrev q1 (R : EP) : XP := QX (fun ρ w => R (.returned (ρ 5)) w) (fun ρ w => R (.returned (ρ 5)) w) []
theorem b1_eq (R : EP) (ρ : Env) (w : World) : (b1 R (ρ 0) (ρ 1) (ρ 2) w) = codeP Try.prog (pan R) code (q1 R) ρ w := by kernel_rfl
theorem b1_ok (R : EP) (ρ : Env) (w : World) (h : b1 R (ρ 0) (ρ 1) (ρ 2) w) : codeP Try.prog (pan R) code (q1 R) ρ w := (b1_eq R ρ w).mp h
/-- What is owed for a call. -/
def run (R : EP) (a0 a1 a2 : Value) (w : World) : Prop := b1 R a0 a1 a2 w
theorem calls (R : EP) (a0 a1 a2 : Value) (w : World) (h : run R a0 a1 a2 w) : Calls Try.prog id #[a0, a1, a2] w R :=
  calls_of_t (f := id) (fn := Try.f131) (c := code) (by kernel_rfl) Try.func131 (by kernel_rfl) (by kernel_rfl) (args := [a0, a1, a2]) (Nat.le_of_ble_eq_true rfl) rfl (b1_ok R (envOf [a0, a1, a2]) w h)
theorem enters : Enters Try.prog id := fun args w => Try.call131 args w
theorem ct {a0 a1 a2 : Value} {w : World} {S : VP} (h : ∀ R : EP, (∀ v w, S v w → R (.returned v) w) → run R a0 a1 a2 w) : Ct Try.prog id #[a0, a1, a2] w S :=
  Ct.intro enters fun R hR => calls R a0 a1 a2 w (h R hR)
attribute [irreducible] b1_1 b1_2 b1 run
attribute [go_sem] b1_1 b1_2 b1 run
end tree_proof_joined_1

/-! ### (*presage/tree.Arena).free$1 -/
namespace tree_Arena_free_1
noncomputable def code : Code := bodyOf Try.f137
def b1_1 (R : EP) (x0 x1 : Value) (w13 : World) (_r : Tok R := tok R) : Prop :=
  RUN Try.prog (pan R) (Instr.loadAt 65 x1) w13 fun v14 w15 =>
  NILC v14 fun v16 =>
  RUN Try.prog (pan R) (Instr.fieldAt 81 v16 1) w15 fun v17 w18 =>
  RUN Try.prog (pan R) (Instr.loadAt 68 v17) w18 fun v19 w20 =>
  RUN Try.prog (pan R) (Instr.indexAt 68 v19 x0) w20 fun v21 w22 =>
  RUN Try.prog (pan R) (Instr.loadAt 4 v21) w22 fun v23 w24 =>
  R (.returned v23) w24
def b1_2 (R : EP) (x0 x1 : Value) (w2 : World) (_r : Tok R := tok R) : Prop :=
  RUN Try.prog (pan R) (Instr.loadAt 65 x1) w2 fun v3 w4 =>
  NILC v3 fun v5 =>
  RUN Try.prog (pan R) (Instr.fieldAt 81 v5 0) w4 fun v6 w7 =>
  RUN Try.prog (pan R) (Instr.loadAt 49 v6) w7 fun v8 w9 =>
  RUN Try.prog (pan R) (Builtin.len_ #[49] 3 #[v8]) w9 fun v10 w11 =>
  RUN Try.prog (pan R) (bins .geq 3 (.tmp 7) (.tmp 12) x0 v10) w11 fun v12 w13 =>
  SPL v12
  (R (.returned (Go.Value.bool Bool.true)) w13)
  (b1_1 R x0 x1 w13)
def b1 (R : EP) (x0 x1 : Value) (w : World) (_r : Tok R := tok R) : Prop :=
  RUN Try.prog (pan R) (bins .lss 3 (.tmp 4) (.const (Go.Value.int Go.IntKind.i64 0)) x0 (Go.Value.int Go.IntKind.i64 0)) w fun v1 w2 =>
  SPL v1
  (R (.returned (Go.Value.bool Bool.true)) w2)
  (b1_2 R x0 x1 w2)
abbrev q1 (R : EP) : XP := QX (fun ρ w => R (.returned (ρ 3)) w) (fun ρ w => R (.returned (ρ 3)) w) []
theorem b1_eq (R : EP) (ρ : Env) (w : World) : (b1 R (ρ 0) (ρ 1) w) = codeP Try.prog (pan R) code (q1 R) ρ w := by kernel_rfl
theorem b1_ok (R : EP) (ρ : Env) (w : World) (h : b1 R (ρ 0) (ρ 1) w) : codeP Try.prog (pan R) code (q1 R) ρ w := (b1_eq R ρ w).mp h
/-- What is owed for a call. -/
def run (R : EP) (a0 a1 : Value) (w : World) : Prop := b1 R a0 a1 w
theorem calls (R : EP) (a0 a1 : Value) (w : World) (h : run R a0 a1 w) : Calls Try.prog id #[a0, a1] w R :=
  calls_of_t (f := id) (fn := Try.f137) (c := code) (by kernel_rfl) Try.func137 (by kernel_rfl) (by kernel_rfl) (args := [a0, a1]) (Nat.le_of_ble_eq_true rfl) rfl (b1_ok R (envOf [a0, a1]) w h)
theorem enters : Enters Try.prog id := fun args w => Try.call137 args w
theorem ct {a0 a1 : Value} {w : World} {S : VP} (h : ∀ R : EP, (∀ v w, S v w → R (.returned v) w) → run R a0 a1 w) : Ct Try.prog id #[a0, a1] w S :=
  Ct.intro enters fun R hR => calls R a0 a1 w (h R hR)
attribute [irreducible] b1_1 b1_2 b1 run
attribute [go_sem] b1_1 b1_2 b1 run
end tree_Arena_free_1

/-! ### (*presage/tree.walk).sound$1 -/
namespace tree_walk_sound_1
noncomputable def code : Code := bodyOf Try.f154
def b1_1 (R : EP) (x0 x1 : Value) (w2 : World) (_r : Tok R := tok R) : Prop :=
  RUN Try.prog (pan R) (Instr.loadAt 3 x1) w2 fun v3 w4 =>
  RUN Try.prog (pan R) (bins .geq 3 (.tmp 7) (.tmp 8) x0 v3) w4 fun v5 w6 =>
  R (.returned v5) w6
def b1 (R : EP) (x0 x1 : Value) (w : World) (_r : Tok R := tok R) : Prop :=
  RUN Try.prog (pan R) (bins .lss 3 (.tmp 4) (.const (Go.Value.int Go.IntKind.i64 0)) x0 (Go.Value.int Go.IntKind.i64 0)) w fun v1 w2 =>
  SPL v1
  (R (.returned (Go.Value.bool Bool.true)) w2)
  (b1_1 R x0 x1 w2)
abbrev q1 (R : EP) : XP := QX (fun ρ w => R (.returned (ρ 3)) w) (fun ρ w => R (.returned (ρ 3)) w) []
theorem b1_eq (R : EP) (ρ : Env) (w : World) : (b1 R (ρ 0) (ρ 1) w) = codeP Try.prog (pan R) code (q1 R) ρ w := by kernel_rfl
theorem b1_ok (R : EP) (ρ : Env) (w : World) (h : b1 R (ρ 0) (ρ 1) w) : codeP Try.prog (pan R) code (q1 R) ρ w := (b1_eq R ρ w).mp h
/-- What is owed for a call. -/
def run (R : EP) (a0 a1 : Value) (w : World) : Prop := b1 R a0 a1 w
theorem calls (R : EP) (a0 a1 : Value) (w : World) (h : run R a0 a1 w) : Calls Try.prog id #[a0, a1] w R :=
  calls_of_t (f := id) (fn := Try.f154) (c := code) (by kernel_rfl) Try.func154 (by kernel_rfl) (by kernel_rfl) (args := [a0, a1]) (Nat.le_of_ble_eq_true rfl) rfl (b1_ok R (envOf [a0, a1]) w h)
theorem enters : Enters Try.prog id := fun args w => Try.call154 args w
theorem ct {a0 a1 : Value} {w : World} {S : VP} (h : ∀ R : EP, (∀ v w, S v w → R (.returned v) w) → run R a0 a1 w) : Ct Try.prog id #[a0, a1] w S :=
  Ct.intro enters fun R hR => calls R a0 a1 w (h R hR)
attribute [irreducible] b1_1 b1 run
attribute [go_sem] b1_1 b1 run
end tree_walk_sound_1
end Go.Proofs.Ytkacbjhiobnbfaa

