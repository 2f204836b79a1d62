/- Shallow programs, written by a program of ours (gen.py) off the translation; each is tied to the code by the kernel. -/
import Derived.Test.YtmhebgebfjnfjaaGa
set_option linter.unusedVariables false
set_option maxRecDepth 100000
namespace Go.Proofs.Ytmhebgebfjnfjaa
open Go.Px

/-! ### presage/presagelaw02.GramPlays -/
namespace law02_GramPlays
noncomputable def code : Code := bodyOf Try.f8
noncomputable abbrev p1 : Code := dropC 3 code
noncomputable abbrev p2 : Code := sndC (sndC p1)
/- x4 x -/
def b4 (R : Ending → World → Prop) (x4 : Value) (w : World) (_r : Tok R := tok R) : Prop :=
  CALL Try.prog (pan R) law02_both_told.id #[x4] w fun v1 w2 =>
  CALL Try.prog (pan R) law02_both_told.id #[x4] w2 fun v3 w4 =>
  SPL v1
  (R (.returned v3) w4)
  (R (.returned (Go.Value.bool Bool.false)) w4)
abbrev q1 (R : Ending → World → Prop) : Exit → Env → World → Prop := QX (fun ρ w => R (.returned (ρ 2)) w) (fun ρ w => R (.returned (ρ 2)) w) []
theorem b4_eq (R : Ending → World → Prop) (ρ : Env) (w : World) : (b4 R (ρ 4) w) = codeP Try.prog (pan R) p2 (q1 R) ρ w := by kernel_rfl
theorem b4_ok (R : Ending → World → Prop) (ρ : Env) (w : World) (h : b4 R (ρ 4) w) : codeP Try.prog (pan R) p2 (q1 R) ρ w := (b4_eq R ρ w).mp h
noncomputable abbrev p3 : Code := fstC (sndC p1)
noncomputable abbrev p4 : Code := dropC 1 p3
noncomputable abbrev p5 : Code := loopC (blkC p4)
def b8_1 (R : Ending → World → Prop) (C7 : Value → World → Prop) (x5 v9 : Value) (w10 : World) (_r : Tok R := tok R) (_C7 : Tok C7 := tok C7) : Prop :=
  RUN Try.prog (pan R) (Op.unary .not v9) w10 fun v11 w12 =>
  SPL v11
  (R (.returned (Go.Value.bool Bool.false)) w12)
  (RUN Try.prog (pan R) (bins .add 3 (.tmp 28) (.const (Go.Value.int Go.IntKind.i64 1)) x5 (Go.Value.int Go.IntKind.i64 1)) w12 fun v13 w14 =>
  C7 v13 w14)
def b8_2 (R : Ending → World → Prop) (C7 : Value → World → Prop) (x0 x4 x5 : Value) (w4 : World) (_r : Tok R := tok R) (_C7 : Tok C7 := tok C7) : Prop :=
  RUN Try.prog (pan R) (Instr.indexAt 61 x0 x5) w4 fun v5 w6 =>
  RUN Try.prog (pan R) (Instr.loadAt 71 v5) w6 fun v7 w8 =>
  CALL Try.prog (pan R) law02_both_does.id #[x4, v7] w8 fun v9 w10 =>
  b8_1 R C7 x5 v9 w10
/- x0 script, x4 x, x5 i -/
def b8 (R : Ending → World → Prop) (C7 : Value → World → Prop) (x0 x4 x5 : Value) (w : World) (_r : Tok R := tok R) (_C7 : Tok C7 := tok C7) : Prop :=
  RUN Try.prog (pan R) (Builtin.len_ #[61] 3 #[x0]) w fun v1 w2 =>
  RUN Try.prog (pan R) (bins .lss 3 (.tmp 24) (.tmp 26) x5 v1) w2 fun v3 w4 =>
  SPL v3
  (b8_2 R C7 x0 x4 x5 w4)
  (b4 R x4 w4)
abbrev q2 (R : Ending → World → Prop) (C7 : Value → World → Prop) : Exit → Env → World → Prop := QX (fun ρ w => C7 (ρ 5) w) (fun ρ w => R (.returned (ρ 2)) w) [(0, (fun ρ w => b4 R (ρ 4) w))]
theorem b8_eq (R : Ending → World → Prop) (C7 : Value → World → Prop) (ρ : Env) (w : World) : (b8 R C7 (ρ 0) (ρ 4) (ρ 5) w) = codeP Try.prog (pan R) p5 (q2 R C7) ρ w := by kernel_rfl
theorem b8_ok (R : Ending → World → Prop) (C7 : Value → World → Prop) (ρ : Env) (w : World) (h : b8 R C7 (ρ 0) (ρ 4) (ρ 5) w) : codeP Try.prog (pan R) p5 (q2 R C7) ρ w := (b8_eq R C7 ρ w).mp h
/- x0 script, x4 x, x5 i -/
def l7 (R : Ending → World → Prop) (x0 x4 x5 : Value) (w : World) (_r : Tok R := tok R) : Prop :=
  ∃ (J : Value → World → Prop) (μ : Value → World → Nat), J x5 w ∧ ∀ y5 w0, J y5 w0 → b8 R (fun z5 w1 => J z5 w1 ∧ μ z5 w1 < μ y5 w0) x0 x4 y5 w0
abbrev q3 (R : Ending → World → Prop) : Exit → Env → World → Prop := QX (fun ρ w => b4 R (ρ 4) w) (fun ρ w => R (.returned (ρ 2)) w) [(0, (fun ρ w => b4 R (ρ 4) w))]
theorem l7_ok (R : Ending → World → Prop) (ρ : Env) (w : World) (h : l7 R (ρ 0) (ρ 4) (ρ 5) w) : codeP Try.prog (pan R) (blkC p4) (q3 R) ρ w := by
  unfold l7 at h
  obtain ⟨J, μ, h0, hr⟩ := h
  have e : Code.loop (loopC (blkC p4)) = (blkC p4) := by kernel_rfl
  rw [← e]
  refine loopQ (fun ρ' w' => J (ρ' 5) w') (fun ρ' w' => μ (ρ' 5) w') h0 fun ρ' w' hA hI => ?_
  have e0 : ρ' 0 = ρ 0 := Agree.at hA 0 (by kernel_rfl)
  have e4 : ρ' 4 = ρ 4 := Agree.at hA 4 (by kernel_rfl)
  have h1 := hr (ρ' 5) w' hI
  rw [← e0, ← e4] at h1
  exact b8_ok R (fun z5 w1 => J z5 w1 ∧ μ z5 w1 < μ (ρ' 5) w') ρ' w' h1
theorem l7_intro (R : Ending → World → Prop) (x0 x4 x5 : Value) (w : World) (J : Value → World → Prop) (μ : Value → World → Nat) (h0 : J x5 w)
    (hr : ∀ y5 w0, J y5 w0 → ∀ C7 : Value → World → Prop, (∀ z5 w1, J z5 w1 → μ z5 w1 < μ y5 w0 → C7 z5 w1) → b8 R C7 x0 x4 y5 w0) : l7 R x0 x4 x5 w := by
  unfold l7
  exact ⟨J, μ, h0, fun y5 w0 hJ => hr y5 w0 hJ _ (fun z5 w1 h1 h2 => ⟨h1, h2⟩)⟩
abbrev q4 (R : Ending → World → Prop) : Exit → Env → World → Prop := QX (fun ρ w => b4 R (ρ 4) w) (fun ρ w => R (.returned (ρ 2)) w) []
theorem k6_ok (R : Ending → World → Prop) (ρ : Env) (w : World) (h : l7 R (ρ 0) (ρ 4) (ρ 5) w) : codeP Try.prog (pan R) p4 (q4 R) ρ w := by
  have e : Code.block 0 (blkC p4) = p4 := by kernel_rfl
  rw [← e]
  exact blockQ (l7_ok R ρ w h)
/- x0 script, x4 x -/
def b5 (R : Ending → World → Prop) (x0 x4 : Value) (w : World) (_r : Tok R := tok R) : Prop :=
  l7 R x0 x4 (Go.Value.int Go.IntKind.i64 0) w
abbrev q5 (R : Ending → World → Prop) : Exit → Env → World → Prop := QX (fun ρ w => l7 R (ρ 0) (ρ 4) (ρ 5) w) (fun ρ w => R (.returned (ρ 2)) w) []
theorem b5_eq (R : Ending → World → Prop) (ρ : Env) (w : World) : (b5 R (ρ 0) (ρ 4) w) = codeP Try.prog (pan R) (preC 0 p3) (q5 R) ρ w := by kernel_rfl
theorem b5_ok (R : Ending → World → Prop) (ρ : Env) (w : World) (h : b5 R (ρ 0) (ρ 4) w) : codeP Try.prog (pan R) p3 (q4 R) ρ w := by
  have e : appC 0 (preC 0 p3) (dropC 1 p3) = p3 := by kernel_rfl
  rw [← e]
  exact appQ (fun ρ w => l7 R (ρ 0) (ρ 4) (ρ 5) w) 0 ((b5_eq R ρ w).mp h) (fun ρ w h => k6_ok R ρ w h)
theorem k3_ok (R : Ending → World → Prop) (ρ : Env) (w : World) (h : b5 R (ρ 0) (ρ 4) w) : codeP Try.prog (pan R) (sndC p1) (q1 R) ρ w := by
  have e : Code.seq (fstC (sndC p1)) (sndC (sndC p1)) = (sndC p1) := by kernel_rfl
  rw [← e]
  exact seqQ (fun ρ w => b4 R (ρ 4) w) (b5_ok R ρ w h) (fun ρ w h => b4_ok R ρ w h)
noncomputable abbrev p6 : Code := dropC 1 (fstC p1)
/- x0 script, x4 x -/
def b10 (R : Ending → World → Prop) (x0 x4 x23 : Value) (w : World) (_r : Tok R := tok R) : Prop :=
  SPL x23
  (R (.returned (Go.Value.bool Bool.false)) w)
  (b5 R x0 x4 w)
abbrev q6 (R : Ending → World → Prop) : Exit → Env → World → Prop := QX (fun ρ w => b5 R (ρ 0) (ρ 4) w) (fun ρ w => R (.returned (ρ 2)) w) []
theorem b10_eq (R : Ending → World → Prop) (ρ : Env) (w : World) : (b10 R (ρ 0) (ρ 4) (ρ 23) w) = codeP Try.prog (pan R) p6 (q6 R) ρ w := by kernel_rfl
theorem b10_ok (R : Ending → World → Prop) (ρ : Env) (w : World) (h : b10 R (ρ 0) (ρ 4) (ρ 23) w) : codeP Try.prog (pan R) p6 (q6 R) ρ w := (b10_eq R ρ w).mp h
def b9_1 (R : Ending → World → Prop) (x0 x4 : Value) (w2 : World) (_r : Tok R := tok R) : Prop :=
  NILC x4 fun v3 =>
  RUN Try.prog (pan R) (Instr.fieldAt 68 v3 0) w2 fun v4 w5 =>
  RUN Try.prog (pan R) (Instr.loadAt 24 v4) w5 fun v6 w7 =>
  RUN Try.prog (pan R) (bins .eql 24 (.tmp 21) (.const (Go.Value.pointer Option.none)) v6 (Go.Value.pointer Option.none)) w7 fun v8 w9 =>
  b10 R x0 x4 v8 w9
/- x0 script, x3 up, x4 x -/
def b9 (R : Ending → World → Prop) (x0 x3 x4 : Value) (w : World) (_r : Tok R := tok R) : Prop :=
  RUN Try.prog (pan R) (Op.unary .not x3) w fun v1 w2 =>
  SPL v1
  (b10 R x0 x4 (Go.Value.bool Bool.true) w2)
  (b9_1 R x0 x4 w2)
abbrev q7 (R : Ending → World → Prop) : Exit → Env → World → Prop := QX (fun ρ w => b10 R (ρ 0) (ρ 4) (ρ 23) w) (fun ρ w => R (.returned (ρ 2)) w) []
theorem b9_eq (R : Ending → World → Prop) (ρ : Env) (w : World) : (b9 R (ρ 0) (ρ 3) (ρ 4) w) = codeP Try.prog (pan R) (preC 0 (fstC p1)) (q7 R) ρ w := by kernel_rfl
theorem b9_ok (R : Ending → World → Prop) (ρ : Env) (w : World) (h : b9 R (ρ 0) (ρ 3) (ρ 4) w) : codeP Try.prog (pan R) (fstC p1) (q6 R) ρ w := by
  have e : appC 0 (preC 0 (fstC p1)) (dropC 1 (fstC p1)) = (fstC p1) := by kernel_rfl
  rw [← e]
  exact appQ (fun ρ w => b10 R (ρ 0) (ρ 4) (ρ 23) w) 0 ((b9_eq R ρ w).mp h) (fun ρ w h => b10_ok R ρ w h)
theorem k2_ok (R : Ending → World → Prop) (ρ : Env) (w : World) (h : b9 R (ρ 0) (ρ 3) (ρ 4) w) : codeP Try.prog (pan R) p1 (q1 R) ρ w := by
  have e : Code.seq (fstC p1) (sndC p1) = p1 := by kernel_rfl
  rw [← e]
  exact seqQ (fun ρ w => b5 R (ρ 0) (ρ 4) w) (b9_ok R ρ w h) (fun ρ w h => k3_ok R ρ w h)
def b1_1 (R : Ending → World → Prop) (x0 v1 v3 : Value) (w4 : World) (_r : Tok R := tok R) : Prop :=
  RUN Try.prog (pan R) (Instr.build 66 #[]) w4 fun v5 w6 =>
  RUN Try.prog (pan R) (Instr.box 66 v5) w6 fun v7 w8 =>
  RUN Try.prog (pan R) (Instr.build 68 #[(0, v3), (1, v7)]) w8 fun v9 w10 =>
  RUN Try.prog (pan R) (Instr.box 68 v9) w10 fun v11 w12 =>
  b9 R x0 v1 v11 w12
/- x0 script -/
def b1 (R : Ending → World → Prop) (x0 : Value) (w : World) (_r : Tok R := tok R) : Prop :=
  CALL Try.prog (pan R) law02_awake.id #[] w fun v1 w2 =>
  CALL Try.prog (pan R) gram_New.id #[] w2 fun v3 w4 =>
  b1_1 R x0 v1 v3 w4
abbrev q8 (R : Ending → World → Prop) : Exit → Env → World → Prop := QX (fun ρ w => b9 R (ρ 0) (ρ 3) (ρ 4) w) (fun ρ w => R (.returned (ρ 2)) w) []
theorem b1_eq (R : Ending → World → Prop) (ρ : Env) (w : World) : (b1 R (ρ 0) w) = codeP Try.prog (pan R) (preC 2 code) (q8 R) ρ w := by kernel_rfl
theorem b1_ok (R : Ending → World → Prop) (ρ : Env) (w : World) (h : b1 R (ρ 0) w) : codeP Try.prog (pan R) code (q1 R) ρ w := by
  have e : appC 2 (preC 2 code) (dropC 3 code) = code := by kernel_rfl
  rw [← e]
  exact appQ (fun ρ w => b9 R (ρ 0) (ρ 3) (ρ 4) w) 2 ((b1_eq R ρ w).mp h) (fun ρ w h => k2_ok R ρ w h)
/-- What is owed for a call. -/
def run (R : Ending → World → Prop) (a0 : Value) (w : World) : Prop := b1 R a0 w
theorem calls (R : Ending → World → Prop) (a0 : Value) (w : World) (h : run R a0 w) : Calls Try.prog id #[a0] w R :=
  calls_of_t (f := id) (fn := Try.f8) (c := code) (by kernel_rfl) Try.func8 (by kernel_rfl) (by kernel_rfl) (args := [a0]) (Nat.le_of_ble_eq_true rfl) rfl (b1_ok R (envOf [a0]) w h)
theorem enters : Enters Try.prog id := fun args w => Try.call8 args w
theorem ct {a0 : Value} {w : World} {S : Value → World → Prop} (h : ∀ R : Ending → World → Prop, (∀ v w, S v w → R (.returned v) w) → run R a0 w) : Ct Try.prog id #[a0] w S :=
  Ct.intro enters fun R hR => calls R a0 w (h R hR)
attribute [irreducible] b4 b8_1 b8_2 b8 l7 b5 b10 b9_1 b9 b1_1 b1 run
attribute [go_sem] b4 b8_1 b8_2 b8 b5 b10 b9_1 b9 b1_1 b1 run
end law02_GramPlays

/-! ### presage/presagelaw02.GramBuilt -/
namespace law02_GramBuilt
noncomputable def code : Code := bodyOf Try.f9
noncomputable abbrev p1 : Code := dropC 3 code
noncomputable abbrev p2 : Code := dropC 1 (sndC p1)
noncomputable abbrev p3 : Code := dropC 4 (sndC p2)
def b7_1 (R : Ending → World → Prop) (x15 : Value) (w2 : World) (_r : Tok R := tok R) : Prop :=
  RUN Try.prog (pan R) (Instr.fieldAt 36 x15 4) w2 fun v3 w4 =>
  RUN Try.prog (pan R) (Instr.loadAt 34 v3) w4 fun v5 w6 =>
  RUN Try.prog (pan R) (Builtin.len_ #[34] 3 #[v5]) w6 fun v7 w8 =>
  RUN Try.prog (pan R) (bins .eql 3 (.tmp 178) (.const (Go.Value.int Go.IntKind.i64 0)) v7 (Go.Value.int Go.IntKind.i64 0)) w8 fun v9 w10 =>
  R (.returned v9) w10

def b7 (R : Ending → World → Prop) (x15 x16 x17 : Value) (w : World) (_r : Tok R := tok R) : Prop :=
  RUN Try.prog (pan R) (bins .eql 22 (.tmp 170) (.const (Go.Value.int Go.IntKind.i64 1)) x16 (Go.Value.int Go.IntKind.i64 1)) w fun v1 w2 =>
  SPL v1
  (SPL x17
  (b7_1 R x15 w2)
  (R (.returned (Go.Value.bool Bool.false)) w2))
  (R (.returned (Go.Value.bool Bool.false)) w2)
abbrev q1 (R : Ending → World → Prop) : Exit → Env → World → Prop := QX (fun ρ w => R (.returned (ρ 2)) w) (fun ρ w => R (.returned (ρ 2)) w) []
theorem b7_eq (R : Ending → World → Prop) (ρ : Env) (w : World) : (b7 R (ρ 15) (ρ 16) (ρ 17) w) = codeP Try.prog (pan R) (sndC p3) (q1 R) ρ w := by kernel_rfl
theorem b7_ok (R : Ending → World → Prop) (ρ : Env) (w : World) (h : b7 R (ρ 15) (ρ 16) (ρ 17) w) : codeP Try.prog (pan R) (sndC p3) (q1 R) ρ w := (b7_eq R ρ w).mp h
noncomputable abbrev p4 : Code := dropC 1 (fstC p3)
noncomputable abbrev p5 : Code := loopC (blkC p4)
noncomputable abbrev p6 : Code := dropC 1 p5

def b13 (R : Ending → World → Prop) (C10 : Value → Value → World → Prop) (x17 x18 : Value) (w : World) (_r : Tok R := tok R) (_C10 : Tok C10 := tok C10) : Prop :=
  RUN Try.prog (pan R) (bins .add 3 (.tmp 147) (.const (Go.Value.int Go.IntKind.i64 1)) x18 (Go.Value.int Go.IntKind.i64 1)) w fun v1 w2 =>
  C10 x17 v1 w2
abbrev q2 (R : Ending → World → Prop) (C10 : Value → Value → World → Prop) : Exit → Env → World → Prop := QX (fun ρ w => C10 (ρ 17) (ρ 18) w) (fun ρ w => R (.returned (ρ 2)) w) [(8, (fun ρ w => b7 R (ρ 15) (ρ 16) (ρ 17) w))]
theorem b13_eq (R : Ending → World → Prop) (C10 : Value → Value → World → Prop) (ρ : Env) (w : World) : (b13 R C10 (ρ 17) (ρ 18) w) = codeP Try.prog (pan R) (sndC p6) (q2 R C10) ρ w := by kernel_rfl
theorem b13_ok (R : Ending → World → Prop) (C10 : Value → Value → World → Prop) (ρ : Env) (w : World) (h : b13 R C10 (ρ 17) (ρ 18) w) : codeP Try.prog (pan R) (sndC p6) (q2 R C10) ρ w := (b13_eq R C10 ρ w).mp h
noncomputable abbrev p7 : Code := blkC (fstC p6)
noncomputable abbrev p8 : Code := dropC 1 p7

def b17 (R : Ending → World → Prop) (C10 : Value → Value → World → Prop) (x17 x18 x19 : Value) (w : World) (_r : Tok R := tok R) (_C10 : Tok C10 := tok C10) : Prop :=
  SPL x17
  (b13 R C10 (Go.Value.bool Bool.true) x18 w)
  (RUN Try.prog (pan R) (Op.unary .not x19) w fun v1 w2 =>
  b13 R C10 v1 x18 w2)
abbrev q3 (R : Ending → World → Prop) (C10 : Value → Value → World → Prop) : Exit → Env → World → Prop := QX (fun ρ w => b13 R C10 (ρ 17) (ρ 18) w) (fun ρ w => R (.returned (ρ 2)) w) [(10, (fun ρ w => b13 R C10 (ρ 17) (ρ 18) w)), (8, (fun ρ w => b7 R (ρ 15) (ρ 16) (ρ 17) w))]
theorem b17_eq (R : Ending → World → Prop) (C10 : Value → Value → World → Prop) (ρ : Env) (w : World) : (b17 R C10 (ρ 17) (ρ 18) (ρ 19) w) = codeP Try.prog (pan R) (sndC p8) (q3 R C10) ρ w := by kernel_rfl
theorem b17_ok (R : Ending → World → Prop) (C10 : Value → Value → World → Prop) (ρ : Env) (w : World) (h : b17 R C10 (ρ 17) (ρ 18) (ρ 19) w) : codeP Try.prog (pan R) (sndC p8) (q3 R C10) ρ w := (b17_eq R C10 ρ w).mp h
noncomputable abbrev p9 : Code := dropC 1 (fstC p8)
noncomputable abbrev p10 : Code := loopC (blkC p9)
noncomputable abbrev p11 : Code := dropC 2 p10

def b22 (R : Ending → World → Prop) (C10 : Value → Value → World → Prop) (C20 : Value → Value → World → Prop) (x19 x20 : Value) (w : World) (_r : Tok R := tok R) (_C10 : Tok C10 := tok C10) (_C20 : Tok C20 := tok C20) : Prop :=
  RUN Try.prog (pan R) (bins .add 3 (.tmp 153) (.const (Go.Value.int Go.IntKind.i64 1)) x20 (Go.Value.int Go.IntKind.i64 1)) w fun v1 w2 =>
  C20 x19 v1 w2
abbrev q4 (R : Ending → World → Prop) (C10 : Value → Value → World → Prop) (C20 : Value → Value → World → Prop) : Exit → Env → World → Prop := QX (fun ρ w => C20 (ρ 19) (ρ 20) w) (fun ρ w => R (.returned (ρ 2)) w) [(12, (fun ρ w => b17 R C10 (ρ 17) (ρ 18) (ρ 19) w)), (10, (fun ρ w => b13 R C10 (ρ 17) (ρ 18) w)), (8, (fun ρ w => b7 R (ρ 15) (ρ 16) (ρ 17) w))]
theorem b22_eq (R : Ending → World → Prop) (C10 : Value → Value → World → Prop) (C20 : Value → Value → World → Prop) (ρ : Env) (w : World) : (b22 R C10 C20 (ρ 19) (ρ 20) w) = codeP Try.prog (pan R) p11 (q4 R C10 C20) ρ w := by kernel_rfl
theorem b22_ok (R : Ending → World → Prop) (C10 : Value → Value → World → Prop) (C20 : Value → Value → World → Prop) (ρ : Env) (w : World) (h : b22 R C10 C20 (ρ 19) (ρ 20) w) : codeP Try.prog (pan R) p11 (q4 R C10 C20) ρ w := (b22_eq R C10 C20 ρ w).mp h
def b21_1 (R : Ending → World → Prop) (C10 : Value → Value → World → Prop) (C20 : Value → Value → World → Prop) (x5 x18 x20 : Value) (w4 : World) (_r : Tok R := tok R) (_C10 : Tok C10 := tok C10) (_C20 : Tok C20 := tok C20) : Prop :=
  RUN Try.prog (pan R) (Instr.indexAt 30 x5 x20) w4 fun v5 w6 =>
  RUN Try.prog (pan R) (Instr.loadAt 3 v5) w6 fun v7 w8 =>
  RUN Try.prog (pan R) (Op.unary .neg x18) w8 fun v9 w10 =>
  RUN Try.prog (pan R) (bins .eql 3 (.tmp 160) (.tmp 162) v7 v9) w10 fun v11 w12 =>
  b22 R C10 C20 v11 x20 w12

def b21 (R : Ending → World → Prop) (C10 : Value → Value → World → Prop) (C20 : Value → Value → World → Prop) (x5 x17 x18 x19 x20 : Value) (w : World) (_r : Tok R := tok R) (_C10 : Tok C10 := tok C10) (_C20 : Tok C20 := tok C20) : Prop :=
  RUN Try.prog (pan R) (Builtin.len_ #[30] 3 #[x5]) w fun v1 w2 =>
  RUN Try.prog (pan R) (bins .lss 3 (.tmp 149) (.tmp 151) x20 v1) w2 fun v3 w4 =>
  SPL v3
  (SPL x19
  (b22 R C10 C20 (Go.Value.bool Bool.true) x20 w4)
  (b21_1 R C10 C20 x5 x18 x20 w4))
  (b17 R C10 x17 x18 x19 w4)
abbrev q5 (R : Ending → World → Prop) (C10 : Value → Value → World → Prop) (C20 : Value → Value → World → Prop) : Exit → Env → World → Prop := QX (fun ρ w => b22 R C10 C20 (ρ 19) (ρ 20) w) (fun ρ w => R (.returned (ρ 2)) w) [(12, (fun ρ w => b17 R C10 (ρ 17) (ρ 18) (ρ 19) w)), (10, (fun ρ w => b13 R C10 (ρ 17) (ρ 18) w)), (8, (fun ρ w => b7 R (ρ 15) (ρ 16) (ρ 17) w))]
theorem b21_eq (R : Ending → World → Prop) (C10 : Value → Value → World → Prop) (C20 : Value → Value → World → Prop) (ρ : Env) (w : World) : (b21 R C10 C20 (ρ 5) (ρ 17) (ρ 18) (ρ 19) (ρ 20) w) = codeP Try.prog (pan R) (preC 1 p10) (q5 R C10 C20) ρ w := by kernel_rfl
theorem b21_ok (R : Ending → World → Prop) (C10 : Value → Value → World → Prop) (C20 : Value → Value → World → Prop) (ρ : Env) (w : World) (h : b21 R C10 C20 (ρ 5) (ρ 17) (ρ 18) (ρ 19) (ρ 20) w) : codeP Try.prog (pan R) p10 (q4 R C10 C20) ρ w := by
  have e : appC 1 (preC 1 p10) (dropC 2 p10) = p10 := by kernel_rfl
  rw [← e]
  exact appQ (fun ρ w => b22 R C10 C20 (ρ 19) (ρ 20) w) 1 ((b21_eq R C10 C20 ρ w).mp h) (fun ρ w h => b22_ok R C10 C20 ρ w h)

def l20 (R : Ending → World → Prop) (C10 : Value → Value → World → Prop) (x5 x17 x18 x19 x20 : Value) (w : World) (_r : Tok R := tok R) (_C10 : Tok C10 := tok C10) : Prop :=
  ∃ (J : Value → Value → World → Prop) (μ : Value → Value → World → Nat), J x19 x20 w ∧ ∀ y19 y20 w0, J y19 y20 w0 → b21 R C10 (fun z19 z20 w1 => J z19 z20 w1 ∧ μ z19 z20 w1 < μ y19 y20 w0) x5 x17 x18 y19 y20 w0
abbrev q6 (R : Ending → World → Prop) (C10 : Value → Value → World → Prop) : Exit → Env → World → Prop := QX (fun ρ w => b17 R C10 (ρ 17) (ρ 18) (ρ 19) w) (fun ρ w => R (.returned (ρ 2)) w) [(12, (fun ρ w => b17 R C10 (ρ 17) (ρ 18) (ρ 19) w)), (10, (fun ρ w => b13 R C10 (ρ 17) (ρ 18) w)), (8, (fun ρ w => b7 R (ρ 15) (ρ 16) (ρ 17) w))]
theorem l20_ok (R : Ending → World → Prop) (C10 : Value → Value → World → Prop) (ρ : Env) (w : World) (h : l20 R C10 (ρ 5) (ρ 17) (ρ 18) (ρ 19) (ρ 20) w) : codeP Try.prog (pan R) (blkC p9) (q6 R C10) ρ w := by
  unfold l20 at h
  obtain ⟨J, μ, h0, hr⟩ := h
  have e : Code.loop (loopC (blkC p9)) = (blkC p9) := by kernel_rfl
  rw [← e]
  refine loopQ (fun ρ' w' => J (ρ' 19) (ρ' 20) w') (fun ρ' w' => μ (ρ' 19) (ρ' 20) w') h0 fun ρ' w' hA hI => ?_
  have e5 : ρ' 5 = ρ 5 := Agree.at hA 5 (by kernel_rfl)
  have e17 : ρ' 17 = ρ 17 := Agree.at hA 17 (by kernel_rfl)
  have e18 : ρ' 18 = ρ 18 := Agree.at hA 18 (by kernel_rfl)
  have h1 := hr (ρ' 19) (ρ' 20) w' hI
  rw [← e5, ← e17, ← e18] at h1
  exact b21_ok R C10 (fun z19 z20 w1 => J z19 z20 w1 ∧ μ z19 z20 w1 < μ (ρ' 19) (ρ' 20) w') ρ' w' h1
theorem l20_intro (R : Ending → World → Prop) (C10 : Value → Value → World → Prop) (x5 x17 x18 x19 x20 : Value) (w : World) (J : Value → Value → World → Prop) (μ : Value → Value → World → Nat) (h0 : J x19 x20 w)
    (hr : ∀ y19 y20 w0, J y19 y20 w0 → ∀ C20 : Value → Value → World → Prop, (∀ z19 z20 w1, J z19 z20 w1 → μ z19 z20 w1 < μ y19 y20 w0 → C20 z19 z20 w1) → b21 R C10 C20 x5 x17 x18 y19 y20 w0) : l20 R C10 x5 x17 x18 x19 x20 w := by
  unfold l20
  exact ⟨J, μ, h0, fun y19 y20 w0 hJ => hr y19 y20 w0 hJ _ (fun z19 z20 w1 h1 h2 => ⟨h1, h2⟩)⟩
abbrev q7 (R : Ending → World → Prop) (C10 : Value → Value → World → Prop) : Exit → Env → World → Prop := QX (fun ρ w => b17 R C10 (ρ 17) (ρ 18) (ρ 19) w) (fun ρ w => R (.returned (ρ 2)) w) [(10, (fun ρ w => b13 R C10 (ρ 17) (ρ 18) w)), (8, (fun ρ w => b7 R (ρ 15) (ρ 16) (ρ 17) w))]
theorem k19_ok (R : Ending → World → Prop) (C10 : Value → Value → World → Prop) (ρ : Env) (w : World) (h : l20 R C10 (ρ 5) (ρ 17) (ρ 18) (ρ 19) (ρ 20) w) : codeP Try.prog (pan R) p9 (q7 R C10) ρ w := by
  have e : Code.block 6 (blkC p9) = p9 := by kernel_rfl
  rw [← e]
  exact blockQ (l20_ok R C10 ρ w h)

def b18 (R : Ending → World → Prop) (C10 : Value → Value → World → Prop) (x5 x17 x18 x19 : Value) (w : World) (_r : Tok R := tok R) (_C10 : Tok C10 := tok C10) : Prop :=
  l20 R C10 x5 x17 x18 x19 (Go.Value.int Go.IntKind.i64 0) w
abbrev q8 (R : Ending → World → Prop) (C10 : Value → Value → World → Prop) : Exit → Env → World → Prop := QX (fun ρ w => l20 R C10 (ρ 5) (ρ 17) (ρ 18) (ρ 19) (ρ 20) w) (fun ρ w => R (.returned (ρ 2)) w) [(10, (fun ρ w => b13 R C10 (ρ 17) (ρ 18) w)), (8, (fun ρ w => b7 R (ρ 15) (ρ 16) (ρ 17) w))]
theorem b18_eq (R : Ending → World → Prop) (C10 : Value → Value → World → Prop) (ρ : Env) (w : World) : (b18 R C10 (ρ 5) (ρ 17) (ρ 18) (ρ 19) w) = codeP Try.prog (pan R) (preC 0 (fstC p8)) (q8 R C10) ρ w := by kernel_rfl
theorem b18_ok (R : Ending → World → Prop) (C10 : Value → Value → World → Prop) (ρ : Env) (w : World) (h : b18 R C10 (ρ 5) (ρ 17) (ρ 18) (ρ 19) w) : codeP Try.prog (pan R) (fstC p8) (q7 R C10) ρ w := by
  have e : appC 0 (preC 0 (fstC p8)) (dropC 1 (fstC p8)) = (fstC p8) := by kernel_rfl
  rw [← e]
  exact appQ (fun ρ w => l20 R C10 (ρ 5) (ρ 17) (ρ 18) (ρ 19) (ρ 20) w) 0 ((b18_eq R C10 ρ w).mp h) (fun ρ w h => k19_ok R C10 ρ w h)
theorem k16_ok (R : Ending → World → Prop) (C10 : Value → Value → World → Prop) (ρ : Env) (w : World) (h : b18 R C10 (ρ 5) (ρ 17) (ρ 18) (ρ 19) w) : codeP Try.prog (pan R) p8 (q3 R C10) ρ w := by
  have e : Code.seq (fstC p8) (sndC p8) = p8 := by kernel_rfl
  rw [← e]
  exact seqQ (fun ρ w => b17 R C10 (ρ 17) (ρ 18) (ρ 19) w) (b18_ok R C10 ρ w h) (fun ρ w h => b17_ok R C10 ρ w h)

def b15 (R : Ending → World → Prop) (C10 : Value → Value → World → Prop) (x5 x17 x18 : Value) (w : World) (_r : Tok R := tok R) (_C10 : Tok C10 := tok C10) : Prop :=
  b18 R C10 x5 x17 x18 (Go.Value.bool Bool.false) w
abbrev q9 (R : Ending → World → Prop) (C10 : Value → Value → World → Prop) : Exit → Env → World → Prop := QX (fun ρ w => b18 R C10 (ρ 5) (ρ 17) (ρ 18) (ρ 19) w) (fun ρ w => R (.returned (ρ 2)) w) [(10, (fun ρ w => b13 R C10 (ρ 17) (ρ 18) w)), (8, (fun ρ w => b7 R (ρ 15) (ρ 16) (ρ 17) w))]
theorem b15_eq (R : Ending → World → Prop) (C10 : Value → Value → World → Prop) (ρ : Env) (w : World) : (b15 R C10 (ρ 5) (ρ 17) (ρ 18) w) = codeP Try.prog (pan R) (preC 0 p7) (q9 R C10) ρ w := by kernel_rfl
theorem b15_ok (R : Ending → World → Prop) (C10 : Value → Value → World → Prop) (ρ : Env) (w : World) (h : b15 R C10 (ρ 5) (ρ 17) (ρ 18) w) : codeP Try.prog (pan R) p7 (q3 R C10) ρ w := by
  have e : appC 0 (preC 0 p7) (dropC 1 p7) = p7 := by kernel_rfl
  rw [← e]
  exact appQ (fun ρ w => b18 R C10 (ρ 5) (ρ 17) (ρ 18) (ρ 19) w) 0 ((b15_eq R C10 ρ w).mp h) (fun ρ w h => k16_ok R C10 ρ w h)
abbrev q10 (R : Ending → World → Prop) (C10 : Value → Value → World → Prop) : Exit → Env → World → Prop := QX (fun ρ w => b13 R C10 (ρ 17) (ρ 18) w) (fun ρ w => R (.returned (ρ 2)) w) [(8, (fun ρ w => b7 R (ρ 15) (ρ 16) (ρ 17) w))]
theorem k14_ok (R : Ending → World → Prop) (C10 : Value → Value → World → Prop) (ρ : Env) (w : World) (h : b15 R C10 (ρ 5) (ρ 17) (ρ 18) w) : codeP Try.prog (pan R) (fstC p6) (q10 R C10) ρ w := by
  have e : Code.block 5 (blkC (fstC p6)) = (fstC p6) := by kernel_rfl
  rw [← e]
  exact blockQ (b15_ok R C10 ρ w h)
theorem k12_ok (R : Ending → World → Prop) (C10 : Value → Value → World → Prop) (ρ : Env) (w : World) (h : b15 R C10 (ρ 5) (ρ 17) (ρ 18) w) : codeP Try.prog (pan R) p6 (q2 R C10) ρ w := by
  have e : Code.seq (fstC p6) (sndC p6) = p6 := by kernel_rfl
  rw [← e]
  exact seqQ (fun ρ w => b13 R C10 (ρ 17) (ρ 18) w) (k14_ok R C10 ρ w h) (fun ρ w h => b13_ok R C10 ρ w h)

def b11 (R : Ending → World → Prop) (C10 : Value → Value → World → Prop) (x5 x12 x15 x16 x17 x18 : Value) (w : World) (_r : Tok R := tok R) (_C10 : Tok C10 := tok C10) : Prop :=
  RUN Try.prog (pan R) (bins .leq 3 (.tmp 144) (.tmp 145) x18 x12) w fun v1 w2 =>
  SPL v1
  (b15 R C10 x5 x17 x18 w2)
  (b7 R x15 x16 x17 w2)
abbrev q11 (R : Ending → World → Prop) (C10 : Value → Value → World → Prop) : Exit → Env → World → Prop := QX (fun ρ w => b15 R C10 (ρ 5) (ρ 17) (ρ 18) w) (fun ρ w => R (.returned (ρ 2)) w) [(8, (fun ρ w => b7 R (ρ 15) (ρ 16) (ρ 17) w))]
theorem b11_eq (R : Ending → World → Prop) (C10 : Value → Value → World → Prop) (ρ : Env) (w : World) : (b11 R C10 (ρ 5) (ρ 12) (ρ 15) (ρ 16) (ρ 17) (ρ 18) w) = codeP Try.prog (pan R) (preC 0 p5) (q11 R C10) ρ w := by kernel_rfl
theorem b11_ok (R : Ending → World → Prop) (C10 : Value → Value → World → Prop) (ρ : Env) (w : World) (h : b11 R C10 (ρ 5) (ρ 12) (ρ 15) (ρ 16) (ρ 17) (ρ 18) w) : codeP Try.prog (pan R) p5 (q2 R C10) ρ w := by
  have e : appC 0 (preC 0 p5) (dropC 1 p5) = p5 := by kernel_rfl
  rw [← e]
  exact appQ (fun ρ w => b15 R C10 (ρ 5) (ρ 17) (ρ 18) w) 0 ((b11_eq R C10 ρ w).mp h) (fun ρ w h => k12_ok R C10 ρ w h)

def l10 (R : Ending → World → Prop) (x5 x12 x15 x16 x17 x18 : Value) (w : World) (_r : Tok R := tok R) : Prop :=
  ∃ (J : Value → Value → World → Prop) (μ : Value → Value → World → Nat), J x17 x18 w ∧ ∀ y17 y18 w0, J y17 y18 w0 → b11 R (fun z17 z18 w1 => J z17 z18 w1 ∧ μ z17 z18 w1 < μ y17 y18 w0) x5 x12 x15 x16 y17 y18 w0
abbrev q12 (R : Ending → World → Prop) : Exit → Env → World → Prop := QX (fun ρ w => b7 R (ρ 15) (ρ 16) (ρ 17) w) (fun ρ w => R (.returned (ρ 2)) w) [(8, (fun ρ w => b7 R (ρ 15) (ρ 16) (ρ 17) w))]
theorem l10_ok (R : Ending → World → Prop) (ρ : Env) (w : World) (h : l10 R (ρ 5) (ρ 12) (ρ 15) (ρ 16) (ρ 17) (ρ 18) w) : codeP Try.prog (pan R) (blkC p4) (q12 R) ρ w := by
  unfold l10 at h
  obtain ⟨J, μ, h0, hr⟩ := h
  have e : Code.loop (loopC (blkC p4)) = (blkC p4) := by kernel_rfl
  rw [← e]
  refine loopQ (fun ρ' w' => J (ρ' 17) (ρ' 18) w') (fun ρ' w' => μ (ρ' 17) (ρ' 18) w') h0 fun ρ' w' hA hI => ?_
  have e5 : ρ' 5 = ρ 5 := Agree.at hA 5 (by kernel_rfl)
  have e12 : ρ' 12 = ρ 12 := Agree.at hA 12 (by kernel_rfl)
  have e15 : ρ' 15 = ρ 15 := Agree.at hA 15 (by kernel_rfl)
  have e16 : ρ' 16 = ρ 16 := Agree.at hA 16 (by kernel_rfl)
  have h1 := hr (ρ' 17) (ρ' 18) w' hI
  rw [← e5, ← e12, ← e15, ← e16] at h1
  exact b11_ok R (fun z17 z18 w1 => J z17 z18 w1 ∧ μ z17 z18 w1 < μ (ρ' 17) (ρ' 18) w') ρ' w' h1
theorem l10_intro (R : Ending → World → Prop) (x5 x12 x15 x16 x17 x18 : Value) (w : World) (J : Value → Value → World → Prop) (μ : Value → Value → World → Nat) (h0 : J x17 x18 w)
    (hr : ∀ y17 y18 w0, J y17 y18 w0 → ∀ C10 : Value → Value → World → Prop, (∀ z17 z18 w1, J z17 z18 w1 → μ z17 z18 w1 < μ y17 y18 w0 → C10 z17 z18 w1) → b11 R C10 x5 x12 x15 x16 y17 y18 w0) : l10 R x5 x12 x15 x16 x17 x18 w := by
  unfold l10
  exact ⟨J, μ, h0, fun y17 y18 w0 hJ => hr y17 y18 w0 hJ _ (fun z17 z18 w1 h1 h2 => ⟨h1, h2⟩)⟩
abbrev q13 (R : Ending → World → Prop) : Exit → Env → World → Prop := QX (fun ρ w => b7 R (ρ 15) (ρ 16) (ρ 17) w) (fun ρ w => R (.returned (ρ 2)) w) []
theorem k9_ok (R : Ending → World → Prop) (ρ : Env) (w : World) (h : l10 R (ρ 5) (ρ 12) (ρ 15) (ρ 16) (ρ 17) (ρ 18) w) : codeP Try.prog (pan R) p4 (q13 R) ρ w := by
  have e : Code.block 4 (blkC p4) = p4 := by kernel_rfl
  rw [← e]
  exact blockQ (l10_ok R ρ w h)

def b8 (R : Ending → World → Prop) (x5 x12 x15 x16 x17 : Value) (w : World) (_r : Tok R := tok R) : Prop :=
  l10 R x5 x12 x15 x16 x17 (Go.Value.int Go.IntKind.i64 1) w
abbrev q14 (R : Ending → World → Prop) : Exit → Env → World → Prop := QX (fun ρ w => l10 R (ρ 5) (ρ 12) (ρ 15) (ρ 16) (ρ 17) (ρ 18) w) (fun ρ w => R (.returned (ρ 2)) w) []
theorem b8_eq (R : Ending → World → Prop) (ρ : Env) (w : World) : (b8 R (ρ 5) (ρ 12) (ρ 15) (ρ 16) (ρ 17) w) = codeP Try.prog (pan R) (preC 0 (fstC p3)) (q14 R) ρ w := by kernel_rfl
theorem b8_ok (R : Ending → World → Prop) (ρ : Env) (w : World) (h : b8 R (ρ 5) (ρ 12) (ρ 15) (ρ 16) (ρ 17) w) : codeP Try.prog (pan R) (fstC p3) (q13 R) ρ w := by
  have e : appC 0 (preC 0 (fstC p3)) (dropC 1 (fstC p3)) = (fstC p3) := by kernel_rfl
  rw [← e]
  exact appQ (fun ρ w => l10 R (ρ 5) (ρ 12) (ρ 15) (ρ 16) (ρ 17) (ρ 18) w) 0 ((b8_eq R ρ w).mp h) (fun ρ w h => k9_ok R ρ w h)
theorem k6_ok (R : Ending → World → Prop) (ρ : Env) (w : World) (h : b8 R (ρ 5) (ρ 12) (ρ 15) (ρ 16) (ρ 17) w) : codeP Try.prog (pan R) p3 (q1 R) ρ w := by
  have e : Code.seq (fstC p3) (sndC p3) = p3 := by kernel_rfl
  rw [← e]
  exact seqQ (fun ρ w => b7 R (ρ 15) (ρ 16) (ρ 17) w) (b8_ok R ρ w h) (fun ρ w h => b7_ok R ρ w h)
def b5_1 (R : Ending → World → Prop) (v14 v27 : Value) (w61 : World) (_r : Tok R := tok R) : Prop :=
  RUN Try.prog (pan R) (Instr.fieldAt 36 v27 4) w61 fun v62 w63 =>
  RUN Try.prog (pan R) (Instr.loadAt 34 v62) w63 fun v64 w65 =>
  RUN Try.prog (pan R) (Builtin.len_ #[34] 3 #[v64]) w65 fun v66 w67 =>
  RUN Try.prog (pan R) (bins .eql 3 (.tmp 138) (.tmp 139) v66 v14) w67 fun v68 w69 =>
  R (.returned v68) w69
def b5_2 (R : Ending → World → Prop) (v12 v14 v27 : Value) (w53 : World) (_r : Tok R := tok R) : Prop :=
  RUN Try.prog (pan R) (Instr.fieldAt 36 v27 2) w53 fun v54 w55 =>
  RUN Try.prog (pan R) (Instr.loadAt 30 v54) w55 fun v56 w57 =>
  RUN Try.prog (pan R) (Builtin.len_ #[30] 3 #[v56]) w57 fun v58 w59 =>
  RUN Try.prog (pan R) (bins .eql 3 (.tmp 131) (.tmp 132) v58 v12) w59 fun v60 w61 =>
  SPL v60
  (b5_1 R v14 v27 w61)
  (R (.returned (Go.Value.bool Bool.false)) w61)
def b5_3 (R : Ending → World → Prop) (v10 v12 v14 v27 : Value) (w45 : World) (_r : Tok R := tok R) : Prop :=
  RUN Try.prog (pan R) (Instr.fieldAt 36 v27 1) w45 fun v46 w47 =>
  RUN Try.prog (pan R) (Instr.loadAt 33 v46) w47 fun v48 w49 =>
  RUN Try.prog (pan R) (Builtin.len_ #[33] 3 #[v48]) w49 fun v50 w51 =>
  RUN Try.prog (pan R) (bins .eql 3 (.tmp 124) (.tmp 125) v50 v10) w51 fun v52 w53 =>
  SPL v52
  (b5_2 R v12 v14 v27 w53)
  (R (.returned (Go.Value.bool Bool.false)) w53)
def b5_4 (R : Ending → World → Prop) (v8 v10 v12 v14 v27 : Value) (w35 : World) (_r : Tok R := tok R) : Prop :=
  RUN Try.prog (pan R) (Instr.fieldAt 36 v27 0) w35 fun v36 w37 =>
  RUN Try.prog (pan R) (Instr.loadAt 32 v36) w37 fun v38 w39 =>
  RUN Try.prog (pan R) (Builtin.len_ #[32] 3 #[v38]) w39 fun v40 w41 =>
  RUN Try.prog (pan R) (bins .add 3 (.tmp 117) (.const (Go.Value.int Go.IntKind.i64 1)) v8 (Go.Value.int Go.IntKind.i64 1)) w41 fun v42 w43 =>
  RUN Try.prog (pan R) (bins .eql 3 (.tmp 116) (.tmp 118) v40 v42) w43 fun v44 w45 =>
  SPL v44
  (b5_3 R v10 v12 v14 v27 w45)
  (R (.returned (Go.Value.bool Bool.false)) w45)
def b5_5 (R : Ending → World → Prop) (v8 v10 v12 v14 v27 : Value) (w31 : World) (_r : Tok R := tok R) : Prop :=
  RUN Try.prog (pan R) (Instr.loadAt 36 v27) w31 fun v32 w33 =>
  CALL Try.prog (pan R) gram_Valid.id #[v32] w33 fun v34 w35 =>
  SPL v34
  (b5_4 R v8 v10 v12 v14 v27 w35)
  (R (.returned (Go.Value.bool Bool.false)) w35)
def b5_6 (R : Ending → World → Prop) (x5 v8 v10 v12 v14 v21 : Value) (w22 : World) (_r : Tok R := tok R) : Prop :=
  RUN Try.prog (pan R) (Instr.extract v21 0) w22 fun v23 w24 =>
  RUN Try.prog (pan R) (Instr.extract v21 1) w24 fun v25 w26 =>
  RUN Try.prog (pan R) (Instr.alloc 36 true (.tuple #[])) w26 fun v27 w28 =>
  RUNU Try.prog (pan R) (Instr.storeAt 36 v27 v23) w28 fun w29 =>
  RUN Try.prog (pan R) (bins .eql 22 (.tmp 109) (.const (Go.Value.int Go.IntKind.i64 0)) v25 (Go.Value.int Go.IntKind.i64 0)) w29 fun v30 w31 =>
  SPL v30
  (b5_5 R v8 v10 v12 v14 v27 w31)
  (RUN Try.prog (pan R) (bins .eql 3 (.tmp 142) (.const (Go.Value.int Go.IntKind.i64 0)) v14 (Go.Value.int Go.IntKind.i64 0)) w31 fun v70 w71 =>
  b8 R x5 v10 v27 v25 v70 w71)
def b5_7 (R : Ending → World → Prop) (x4 x5 v6 : Value) (w7 : World) (_r : Tok R := tok R) : Prop :=
  RUN Try.prog (pan R) (Instr.extract v6 0) w7 fun v8 w9 =>
  RUN Try.prog (pan R) (Instr.extract v6 1) w9 fun v10 w11 =>
  RUN Try.prog (pan R) (Instr.extract v6 2) w11 fun v12 w13 =>
  RUN Try.prog (pan R) (Instr.extract v6 3) w13 fun v14 w15 =>
  NILC x4 fun v16 =>
  RUN Try.prog (pan R) (Instr.fieldAt 68 v16 0) w15 fun v17 w18 =>
  RUN Try.prog (pan R) (Instr.loadAt 24 v17) w18 fun v19 w20 =>
  CALL Try.prog (pan R) gram_Builder_Grammar.id #[v19] w20 fun v21 w22 =>
  b5_6 R x5 v8 v10 v12 v14 v21 w22

def b5 (R : Ending → World → Prop) (x4 x5 : Value) (w : World) (_r : Tok R := tok R) : Prop :=
  NILC x4 fun v1 =>
  RUN Try.prog (pan R) (Instr.fieldAt 68 v1 0) w fun v2 w3 =>
  RUN Try.prog (pan R) (Instr.loadAt 24 v2) w3 fun v4 w5 =>
  CALL Try.prog (pan R) gram_Builder_Sizes.id #[v4] w5 fun v6 w7 =>
  b5_7 R x4 x5 v6 w7
abbrev q15 (R : Ending → World → Prop) : Exit → Env → World → Prop := QX (fun ρ w => b8 R (ρ 5) (ρ 12) (ρ 15) (ρ 16) (ρ 17) w) (fun ρ w => R (.returned (ρ 2)) w) []
theorem b5_eq (R : Ending → World → Prop) (ρ : Env) (w : World) : (b5 R (ρ 4) (ρ 5) w) = codeP Try.prog (pan R) (preC 3 (sndC p2)) (q15 R) ρ w := by kernel_rfl
theorem b5_ok (R : Ending → World → Prop) (ρ : Env) (w : World) (h : b5 R (ρ 4) (ρ 5) w) : codeP Try.prog (pan R) (sndC p2) (q1 R) ρ w := by
  have e : appC 3 (preC 3 (sndC p2)) (dropC 4 (sndC p2)) = (sndC p2) := by kernel_rfl
  rw [← e]
  exact appQ (fun ρ w => b8 R (ρ 5) (ρ 12) (ρ 15) (ρ 16) (ρ 17) w) 3 ((b5_eq R ρ w).mp h) (fun ρ w h => k6_ok R ρ w h)
noncomputable abbrev p12 : Code := dropC 1 (fstC p2)
noncomputable abbrev p13 : Code := loopC (blkC p12)
noncomputable abbrev p14 : Code := dropC 1 p13

def b28 (R : Ending → World → Prop) (C25 : Value → Value → World → Prop) (x5 x6 : Value) (w : World) (_r : Tok R := tok R) (_C25 : Tok C25 := tok C25) : Prop :=
  RUN Try.prog (pan R) (bins .add 3 (.tmp 40) (.const (Go.Value.int Go.IntKind.i64 1)) x6 (Go.Value.int Go.IntKind.i64 1)) w fun v1 w2 =>
  C25 x5 v1 w2
abbrev q16 (R : Ending → World → Prop) (C25 : Value → Value → World → Prop) : Exit → Env → World → Prop := QX (fun ρ w => C25 (ρ 5) (ρ 6) w) (fun ρ w => R (.returned (ρ 2)) w) [(0, (fun ρ w => b5 R (ρ 4) (ρ 5) w))]
theorem b28_eq (R : Ending → World → Prop) (C25 : Value → Value → World → Prop) (ρ : Env) (w : World) : (b28 R C25 (ρ 5) (ρ 6) w) = codeP Try.prog (pan R) (sndC p14) (q16 R C25) ρ w := by kernel_rfl
theorem b28_ok (R : Ending → World → Prop) (C25 : Value → Value → World → Prop) (ρ : Env) (w : World) (h : b28 R C25 (ρ 5) (ρ 6) w) : codeP Try.prog (pan R) (sndC p14) (q16 R C25) ρ w := (b28_eq R C25 ρ w).mp h
noncomputable abbrev p15 : Code := blkC (fstC p14)
noncomputable abbrev p16 : Code := dropC 2 p15
noncomputable abbrev p17 : Code := blkC (sndC p16)
def b34_1 (R : Ending → World → Prop) (C33 : Value → World → Prop) (x0 x5 x6 : Value) (w4 : World) (_r : Tok R := tok R) (_C33 : Tok C33 := tok C33) : Prop :=
  RUN Try.prog (pan R) (Instr.indexAt 61 x0 x6) w4 fun v5 w6 =>
  RUN Try.prog (pan R) (Instr.fieldAt 71 v5 1) w6 fun v7 w8 =>
  RUN Try.prog (pan R) (Instr.loadAt 3 v7) w8 fun v9 w10 =>
  RUN Try.prog (pan R) (Instr.buildSlice 30 1 #[(0, v9)]) w10 fun v11 w12 =>
  RUN Try.prog (pan R) (Builtin.append_ #[30, 30] 30 #[x5, v11]) w12 fun v13 w14 =>
  C33 v13 w14

def b34 (R : Ending → World → Prop) (C25 : Value → Value → World → Prop) (C33 : Value → World → Prop) (x0 x5 x6 x10 : Value) (w : World) (_r : Tok R := tok R) (_C25 : Tok C25 := tok C25) (_C33 : Tok C33 := tok C33) : Prop :=
  RUN Try.prog (pan R) (Builtin.len_ #[30] 3 #[x5]) w fun v1 w2 =>
  RUN Try.prog (pan R) (bins .lss 3 (.tmp 80) (.tmp 81) v1 x10) w2 fun v3 w4 =>
  SPL v3
  (b34_1 R C33 x0 x5 x6 w4)
  (b28 R C25 x5 x6 w4)
abbrev q17 (R : Ending → World → Prop) (C25 : Value → Value → World → Prop) (C33 : Value → World → Prop) : Exit → Env → World → Prop := QX (fun ρ w => C33 (ρ 5) w) (fun ρ w => R (.returned (ρ 2)) w) [(4, (fun ρ w => b28 R C25 (ρ 5) (ρ 6) w)), (2, (fun ρ w => b28 R C25 (ρ 5) (ρ 6) w)), (0, (fun ρ w => b5 R (ρ 4) (ρ 5) w))]
theorem b34_eq (R : Ending → World → Prop) (C25 : Value → Value → World → Prop) (C33 : Value → World → Prop) (ρ : Env) (w : World) : (b34 R C25 C33 (ρ 0) (ρ 5) (ρ 6) (ρ 10) w) = codeP Try.prog (pan R) (loopC p17) (q17 R C25 C33) ρ w := by kernel_rfl
theorem b34_ok (R : Ending → World → Prop) (C25 : Value → Value → World → Prop) (C33 : Value → World → Prop) (ρ : Env) (w : World) (h : b34 R C25 C33 (ρ 0) (ρ 5) (ρ 6) (ρ 10) w) : codeP Try.prog (pan R) (loopC p17) (q17 R C25 C33) ρ w := (b34_eq R C25 C33 ρ w).mp h

def l33 (R : Ending → World → Prop) (C25 : Value → Value → World → Prop) (x0 x5 x6 x10 : Value) (w : World) (_r : Tok R := tok R) (_C25 : Tok C25 := tok C25) : Prop :=
  ∃ (J : Value → World → Prop) (μ : Value → World → Nat), J x5 w ∧ ∀ y5 w0, J y5 w0 → b34 R C25 (fun z5 w1 => J z5 w1 ∧ μ z5 w1 < μ y5 w0) x0 y5 x6 x10 w0
abbrev q18 (R : Ending → World → Prop) (C25 : Value → Value → World → Prop) : Exit → Env → World → Prop := QX (fun ρ w => b28 R C25 (ρ 5) (ρ 6) w) (fun ρ w => R (.returned (ρ 2)) w) [(4, (fun ρ w => b28 R C25 (ρ 5) (ρ 6) w)), (2, (fun ρ w => b28 R C25 (ρ 5) (ρ 6) w)), (0, (fun ρ w => b5 R (ρ 4) (ρ 5) w))]
theorem l33_ok (R : Ending → World → Prop) (C25 : Value → Value → World → Prop) (ρ : Env) (w : World) (h : l33 R C25 (ρ 0) (ρ 5) (ρ 6) (ρ 10) w) : codeP Try.prog (pan R) p17 (q18 R C25) ρ w := by
  unfold l33 at h
  obtain ⟨J, μ, h0, hr⟩ := h
  have e : Code.loop (loopC p17) = p17 := by kernel_rfl
  rw [← e]
  refine loopQ (fun ρ' w' => J (ρ' 5) w') (fun ρ' w' => μ (ρ' 5) w') h0 fun ρ' w' hA hI => ?_
  have e0 : ρ' 0 = ρ 0 := Agree.at hA 0 (by kernel_rfl)
  have e6 : ρ' 6 = ρ 6 := Agree.at hA 6 (by kernel_rfl)
  have e10 : ρ' 10 = ρ 10 := Agree.at hA 10 (by kernel_rfl)
  have h1 := hr (ρ' 5) w' hI
  rw [← e0, ← e6, ← e10] at h1
  exact b34_ok R C25 (fun z5 w1 => J z5 w1 ∧ μ z5 w1 < μ (ρ' 5) w') ρ' w' h1
theorem l33_intro (R : Ending → World → Prop) (C25 : Value → Value → World → Prop) (x0 x5 x6 x10 : Value) (w : World) (J : Value → World → Prop) (μ : Value → World → Nat) (h0 : J x5 w)
    (hr : ∀ y5 w0, J y5 w0 → ∀ C33 : Value → World → Prop, (∀ z5 w1, J z5 w1 → μ z5 w1 < μ y5 w0 → C33 z5 w1) → b34 R C25 C33 x0 y5 x6 x10 w0) : l33 R C25 x0 x5 x6 x10 w := by
  unfold l33
  exact ⟨J, μ, h0, fun y5 w0 hJ => hr y5 w0 hJ _ (fun z5 w1 h1 h2 => ⟨h1, h2⟩)⟩
abbrev q19 (R : Ending → World → Prop) (C25 : Value → Value → World → Prop) : Exit → Env → World → Prop := QX (fun ρ w => b28 R C25 (ρ 5) (ρ 6) w) (fun ρ w => R (.returned (ρ 2)) w) [(2, (fun ρ w => b28 R C25 (ρ 5) (ρ 6) w)), (0, (fun ρ w => b5 R (ρ 4) (ρ 5) w))]
theorem k32_ok (R : Ending → World → Prop) (C25 : Value → Value → World → Prop) (ρ : Env) (w : World) (h : l33 R C25 (ρ 0) (ρ 5) (ρ 6) (ρ 10) w) : codeP Try.prog (pan R) (sndC p16) (q19 R C25) ρ w := by
  have e : Code.block 2 (blkC (sndC p16)) = (sndC p16) := by kernel_rfl
  rw [← e]
  exact blockQ (l33_ok R C25 ρ w h)
noncomputable abbrev p18 : Code := dropC 1 (fstC p16)

def b36 (R : Ending → World → Prop) (C25 : Value → Value → World → Prop) (x0 x5 x6 x10 x78 : Value) (w : World) (_r : Tok R := tok R) (_C25 : Tok C25 := tok C25) : Prop :=
  SPL x78
  (R (.returned (Go.Value.bool Bool.false)) w)
  (l33 R C25 x0 x5 x6 x10 w)
abbrev q20 (R : Ending → World → Prop) (C25 : Value → Value → World → Prop) : Exit → Env → World → Prop := QX (fun ρ w => l33 R C25 (ρ 0) (ρ 5) (ρ 6) (ρ 10) w) (fun ρ w => R (.returned (ρ 2)) w) [(2, (fun ρ w => b28 R C25 (ρ 5) (ρ 6) w)), (0, (fun ρ w => b5 R (ρ 4) (ρ 5) w))]
theorem b36_eq (R : Ending → World → Prop) (C25 : Value → Value → World → Prop) (ρ : Env) (w : World) : (b36 R C25 (ρ 0) (ρ 5) (ρ 6) (ρ 10) (ρ 78) w) = codeP Try.prog (pan R) p18 (q20 R C25) ρ w := by kernel_rfl
theorem b36_ok (R : Ending → World → Prop) (C25 : Value → Value → World → Prop) (ρ : Env) (w : World) (h : b36 R C25 (ρ 0) (ρ 5) (ρ 6) (ρ 10) (ρ 78) w) : codeP Try.prog (pan R) p18 (q20 R C25) ρ w := (b36_eq R C25 ρ w).mp h
def b35_1 (R : Ending → World → Prop) (C25 : Value → Value → World → Prop) (x0 x5 x6 x7 x8 x10 : Value) (w6 : World) (_r : Tok R := tok R) (_C25 : Tok C25 := tok C25) : Prop :=
  RUN Try.prog (pan R) (bins .add 3 (.tmp 70) (.tmp 71) x7 x8) w6 fun v7 w8 =>
  RUN Try.prog (pan R) (bins .gtr 3 (.tmp 72) (.const (Go.Value.int Go.IntKind.i64 64)) v7 (Go.Value.int Go.IntKind.i64 64)) w8 fun v9 w10 =>
  SPL v9
  (b36 R C25 x0 x5 x6 x10 (Go.Value.bool Bool.true) w10)
  (RUN Try.prog (pan R) (bins .gtr 3 (.tmp 76) (.const (Go.Value.int Go.IntKind.i64 96)) x10 (Go.Value.int Go.IntKind.i64 96)) w10 fun v11 w12 =>
  b36 R C25 x0 x5 x6 x10 v11 w12)
def b35_2 (R : Ending → World → Prop) (C25 : Value → Value → World → Prop) (x0 x5 x6 x7 x8 x9 x10 : Value) (w2 : World) (_r : Tok R := tok R) (_C25 : Tok C25 := tok C25) : Prop :=
  RUN Try.prog (pan R) (bins .lss 3 (.tmp 61) (.const (Go.Value.int Go.IntKind.i64 0)) x8 (Go.Value.int Go.IntKind.i64 0)) w2 fun v3 w4 =>
  SPL v3
  (b36 R C25 x0 x5 x6 x10 (Go.Value.bool Bool.true) w4)
  (RUN Try.prog (pan R) (bins .gtr 3 (.tmp 65) (.tmp 66) x9 x7) w4 fun v5 w6 =>
  SPL v5
  (b36 R C25 x0 x5 x6 x10 (Go.Value.bool Bool.true) w6)
  (b35_1 R C25 x0 x5 x6 x7 x8 x10 w6))

def b35 (R : Ending → World → Prop) (C25 : Value → Value → World → Prop) (x0 x5 x6 x7 x8 x9 x10 : Value) (w : World) (_r : Tok R := tok R) (_C25 : Tok C25 := tok C25) : Prop :=
  RUN Try.prog (pan R) (bins .lss 3 (.tmp 58) (.const (Go.Value.int Go.IntKind.i64 0)) x7 (Go.Value.int Go.IntKind.i64 0)) w fun v1 w2 =>
  SPL v1
  (b36 R C25 x0 x5 x6 x10 (Go.Value.bool Bool.true) w2)
  (b35_2 R C25 x0 x5 x6 x7 x8 x9 x10 w2)
abbrev q21 (R : Ending → World → Prop) (C25 : Value → Value → World → Prop) : Exit → Env → World → Prop := QX (fun ρ w => b36 R C25 (ρ 0) (ρ 5) (ρ 6) (ρ 10) (ρ 78) w) (fun ρ w => R (.returned (ρ 2)) w) [(2, (fun ρ w => b28 R C25 (ρ 5) (ρ 6) w)), (0, (fun ρ w => b5 R (ρ 4) (ρ 5) w))]
theorem b35_eq (R : Ending → World → Prop) (C25 : Value → Value → World → Prop) (ρ : Env) (w : World) : (b35 R C25 (ρ 0) (ρ 5) (ρ 6) (ρ 7) (ρ 8) (ρ 9) (ρ 10) w) = codeP Try.prog (pan R) (preC 0 (fstC p16)) (q21 R C25) ρ w := by kernel_rfl
theorem b35_ok (R : Ending → World → Prop) (C25 : Value → Value → World → Prop) (ρ : Env) (w : World) (h : b35 R C25 (ρ 0) (ρ 5) (ρ 6) (ρ 7) (ρ 8) (ρ 9) (ρ 10) w) : codeP Try.prog (pan R) (fstC p16) (q20 R C25) ρ w := by
  have e : appC 0 (preC 0 (fstC p16)) (dropC 1 (fstC p16)) = (fstC p16) := by kernel_rfl
  rw [← e]
  exact appQ (fun ρ w => b36 R C25 (ρ 0) (ρ 5) (ρ 6) (ρ 10) (ρ 78) w) 0 ((b35_eq R C25 ρ w).mp h) (fun ρ w h => b36_ok R C25 ρ w h)
theorem k31_ok (R : Ending → World → Prop) (C25 : Value → Value → World → Prop) (ρ : Env) (w : World) (h : b35 R C25 (ρ 0) (ρ 5) (ρ 6) (ρ 7) (ρ 8) (ρ 9) (ρ 10) w) : codeP Try.prog (pan R) p16 (q19 R C25) ρ w := by
  have e : Code.seq (fstC p16) (sndC p16) = p16 := by kernel_rfl
  rw [← e]
  exact seqQ (fun ρ w => l33 R C25 (ρ 0) (ρ 5) (ρ 6) (ρ 10) w) (b35_ok R C25 ρ w h) (fun ρ w h => k32_ok R C25 ρ w h)
def b30_1 (R : Ending → World → Prop) (C25 : Value → Value → World → Prop) (x0 x5 x6 v12 : Value) (w13 : World) (_r : Tok R := tok R) (_C25 : Tok C25 := tok C25) : Prop :=
  RUN Try.prog (pan R) (Instr.extract v12 0) w13 fun v14 w15 =>
  RUN Try.prog (pan R) (Instr.extract v12 1) w15 fun v16 w17 =>
  RUN Try.prog (pan R) (Instr.extract v12 2) w17 fun v18 w19 =>
  RUN Try.prog (pan R) (Instr.extract v12 3) w19 fun v20 w21 =>
  b35 R C25 x0 x5 x6 v14 v16 v18 v20 w21
def b30_2 (R : Ending → World → Prop) (C25 : Value → Value → World → Prop) (x0 x4 x5 x6 : Value) (w6 : World) (_r : Tok R := tok R) (_C25 : Tok C25 := tok C25) : Prop :=
  NILC x4 fun v7 =>
  RUN Try.prog (pan R) (Instr.fieldAt 68 v7 0) w6 fun v8 w9 =>
  RUN Try.prog (pan R) (Instr.loadAt 24 v8) w9 fun v10 w11 =>
  CALL Try.prog (pan R) gram_Builder_Sizes.id #[v10] w11 fun v12 w13 =>
  b30_1 R C25 x0 x5 x6 v12 w13

def b30 (R : Ending → World → Prop) (C25 : Value → Value → World → Prop) (x0 x4 x5 x6 : Value) (w : World) (_r : Tok R := tok R) (_C25 : Tok C25 := tok C25) : Prop :=
  RUN Try.prog (pan R) (Instr.indexAt 61 x0 x6) w fun v1 w2 =>
  RUN Try.prog (pan R) (Instr.loadAt 71 v1) w2 fun v3 w4 =>
  CALL Try.prog (pan R) law02_both_does.id #[x4, v3] w4 fun v5 w6 =>
  b30_2 R C25 x0 x4 x5 x6 w6
abbrev q22 (R : Ending → World → Prop) (C25 : Value → Value → World → Prop) : Exit → Env → World → Prop := QX (fun ρ w => b35 R C25 (ρ 0) (ρ 5) (ρ 6) (ρ 7) (ρ 8) (ρ 9) (ρ 10) w) (fun ρ w => R (.returned (ρ 2)) w) [(2, (fun ρ w => b28 R C25 (ρ 5) (ρ 6) w)), (0, (fun ρ w => b5 R (ρ 4) (ρ 5) w))]
theorem b30_eq (R : Ending → World → Prop) (C25 : Value → Value → World → Prop) (ρ : Env) (w : World) : (b30 R C25 (ρ 0) (ρ 4) (ρ 5) (ρ 6) w) = codeP Try.prog (pan R) (preC 1 p15) (q22 R C25) ρ w := by kernel_rfl
theorem b30_ok (R : Ending → World → Prop) (C25 : Value → Value → World → Prop) (ρ : Env) (w : World) (h : b30 R C25 (ρ 0) (ρ 4) (ρ 5) (ρ 6) w) : codeP Try.prog (pan R) p15 (q19 R C25) ρ w := by
  have e : appC 1 (preC 1 p15) (dropC 2 p15) = p15 := by kernel_rfl
  rw [← e]
  exact appQ (fun ρ w => b35 R C25 (ρ 0) (ρ 5) (ρ 6) (ρ 7) (ρ 8) (ρ 9) (ρ 10) w) 1 ((b30_eq R C25 ρ w).mp h) (fun ρ w h => k31_ok R C25 ρ w h)
abbrev q23 (R : Ending → World → Prop) (C25 : Value → Value → World → Prop) : Exit → Env → World → Prop := QX (fun ρ w => b28 R C25 (ρ 5) (ρ 6) w) (fun ρ w => R (.returned (ρ 2)) w) [(0, (fun ρ w => b5 R (ρ 4) (ρ 5) w))]
theorem k29_ok (R : Ending → World → Prop) (C25 : Value → Value → World → Prop) (ρ : Env) (w : World) (h : b30 R C25 (ρ 0) (ρ 4) (ρ 5) (ρ 6) w) : codeP Try.prog (pan R) (fstC p14) (q23 R C25) ρ w := by
  have e : Code.block 1 (blkC (fstC p14)) = (fstC p14) := by kernel_rfl
  rw [← e]
  exact blockQ (b30_ok R C25 ρ w h)
theorem k27_ok (R : Ending → World → Prop) (C25 : Value → Value → World → Prop) (ρ : Env) (w : World) (h : b30 R C25 (ρ 0) (ρ 4) (ρ 5) (ρ 6) w) : codeP Try.prog (pan R) p14 (q16 R C25) ρ w := by
  have e : Code.seq (fstC p14) (sndC p14) = p14 := by kernel_rfl
  rw [← e]
  exact seqQ (fun ρ w => b28 R C25 (ρ 5) (ρ 6) w) (k29_ok R C25 ρ w h) (fun ρ w h => b28_ok R C25 ρ w h)

def b26 (R : Ending → World → Prop) (C25 : Value → Value → World → Prop) (x0 x4 x5 x6 : Value) (w : World) (_r : Tok R := tok R) (_C25 : Tok C25 := tok C25) : Prop :=
  RUN Try.prog (pan R) (Builtin.len_ #[61] 3 #[x0]) w fun v1 w2 =>
  RUN Try.prog (pan R) (bins .lss 3 (.tmp 36) (.tmp 38) x6 v1) w2 fun v3 w4 =>
  SPL v3
  (b30 R C25 x0 x4 x5 x6 w4)
  (b5 R x4 x5 w4)
abbrev q24 (R : Ending → World → Prop) (C25 : Value → Value → World → Prop) : Exit → Env → World → Prop := QX (fun ρ w => b30 R C25 (ρ 0) (ρ 4) (ρ 5) (ρ 6) w) (fun ρ w => R (.returned (ρ 2)) w) [(0, (fun ρ w => b5 R (ρ 4) (ρ 5) w))]
theorem b26_eq (R : Ending → World → Prop) (C25 : Value → Value → World → Prop) (ρ : Env) (w : World) : (b26 R C25 (ρ 0) (ρ 4) (ρ 5) (ρ 6) w) = codeP Try.prog (pan R) (preC 0 p13) (q24 R C25) ρ w := by kernel_rfl
theorem b26_ok (R : Ending → World → Prop) (C25 : Value → Value → World → Prop) (ρ : Env) (w : World) (h : b26 R C25 (ρ 0) (ρ 4) (ρ 5) (ρ 6) w) : codeP Try.prog (pan R) p13 (q16 R C25) ρ w := by
  have e : appC 0 (preC 0 p13) (dropC 1 p13) = p13 := by kernel_rfl
  rw [← e]
  exact appQ (fun ρ w => b30 R C25 (ρ 0) (ρ 4) (ρ 5) (ρ 6) w) 0 ((b26_eq R C25 ρ w).mp h) (fun ρ w h => k27_ok R C25 ρ w h)

def l25 (R : Ending → World → Prop) (x0 x4 x5 x6 : Value) (w : World) (_r : Tok R := tok R) : Prop :=
  ∃ (J : Value → Value → World → Prop) (μ : Value → Value → World → Nat), J x5 x6 w ∧ ∀ y5 y6 w0, J y5 y6 w0 → b26 R (fun z5 z6 w1 => J z5 z6 w1 ∧ μ z5 z6 w1 < μ y5 y6 w0) x0 x4 y5 y6 w0
abbrev q25 (R : Ending → World → Prop) : Exit → Env → World → Prop := QX (fun ρ w => b5 R (ρ 4) (ρ 5) w) (fun ρ w => R (.returned (ρ 2)) w) [(0, (fun ρ w => b5 R (ρ 4) (ρ 5) w))]
theorem l25_ok (R : Ending → World → Prop) (ρ : Env) (w : World) (h : l25 R (ρ 0) (ρ 4) (ρ 5) (ρ 6) w) : codeP Try.prog (pan R) (blkC p12) (q25 R) ρ w := by
  unfold l25 at h
  obtain ⟨J, μ, h0, hr⟩ := h
  have e : Code.loop (loopC (blkC p12)) = (blkC p12) := by kernel_rfl
  rw [← e]
  refine loopQ (fun ρ' w' => J (ρ' 5) (ρ' 6) w') (fun ρ' w' => μ (ρ' 5) (ρ' 6) w') h0 fun ρ' w' hA hI => ?_
  have e0 : ρ' 0 = ρ 0 := Agree.at hA 0 (by kernel_rfl)
  have e4 : ρ' 4 = ρ 4 := Agree.at hA 4 (by kernel_rfl)
  have h1 := hr (ρ' 5) (ρ' 6) w' hI
  rw [← e0, ← e4] at h1
  exact b26_ok R (fun z5 z6 w1 => J z5 z6 w1 ∧ μ z5 z6 w1 < μ (ρ' 5) (ρ' 6) w') ρ' w' h1
theorem l25_intro (R : Ending → World → Prop) (x0 x4 x5 x6 : Value) (w : World) (J : Value → Value → World → Prop) (μ : Value → Value → World → Nat) (h0 : J x5 x6 w)
    (hr : ∀ y5 y6 w0, J y5 y6 w0 → ∀ C25 : Value → Value → World → Prop, (∀ z5 z6 w1, J z5 z6 w1 → μ z5 z6 w1 < μ y5 y6 w0 → C25 z5 z6 w1) → b26 R C25 x0 x4 y5 y6 w0) : l25 R x0 x4 x5 x6 w := by
  unfold l25
  exact ⟨J, μ, h0, fun y5 y6 w0 hJ => hr y5 y6 w0 hJ _ (fun z5 z6 w1 h1 h2 => ⟨h1, h2⟩)⟩
abbrev q26 (R : Ending → World → Prop) : Exit → Env → World → Prop := QX (fun ρ w => b5 R (ρ 4) (ρ 5) w) (fun ρ w => R (.returned (ρ 2)) w) []
theorem k24_ok (R : Ending → World → Prop) (ρ : Env) (w : World) (h : l25 R (ρ 0) (ρ 4) (ρ 5) (ρ 6) w) : codeP Try.prog (pan R) p12 (q26 R) ρ w := by
  have e : Code.block 0 (blkC p12) = p12 := by kernel_rfl
  rw [← e]
  exact blockQ (l25_ok R ρ w h)

def b23 (R : Ending → World → Prop) (x0 x4 x5 : Value) (w : World) (_r : Tok R := tok R) : Prop :=
  l25 R x0 x4 x5 (Go.Value.int Go.IntKind.i64 0) w
abbrev q27 (R : Ending → World → Prop) : Exit → Env → World → Prop := QX (fun ρ w => l25 R (ρ 0) (ρ 4) (ρ 5) (ρ 6) w) (fun ρ w => R (.returned (ρ 2)) w) []
theorem b23_eq (R : Ending → World → Prop) (ρ : Env) (w : World) : (b23 R (ρ 0) (ρ 4) (ρ 5) w) = codeP Try.prog (pan R) (preC 0 (fstC p2)) (q27 R) ρ w := by kernel_rfl
theorem b23_ok (R : Ending → World → Prop) (ρ : Env) (w : World) (h : b23 R (ρ 0) (ρ 4) (ρ 5) w) : codeP Try.prog (pan R) (fstC p2) (q26 R) ρ w := by
  have e : appC 0 (preC 0 (fstC p2)) (dropC 1 (fstC p2)) = (fstC p2) := by kernel_rfl
  rw [← e]
  exact appQ (fun ρ w => l25 R (ρ 0) (ρ 4) (ρ 5) (ρ 6) w) 0 ((b23_eq R ρ w).mp h) (fun ρ w h => k24_ok R ρ w h)
theorem k4_ok (R : Ending → World → Prop) (ρ : Env) (w : World) (h : b23 R (ρ 0) (ρ 4) (ρ 5) w) : codeP Try.prog (pan R) p2 (q1 R) ρ w := by
  have e : Code.seq (fstC p2) (sndC p2) = p2 := by kernel_rfl
  rw [← e]
  exact seqQ (fun ρ w => b5 R (ρ 4) (ρ 5) w) (b23_ok R ρ w h) (fun ρ w h => b5_ok R ρ w h)

def b3 (R : Ending → World → Prop) (x0 x4 : Value) (w : World) (_r : Tok R := tok R) : Prop :=
  b23 R x0 x4 (Go.Value.slice Option.none 0 0) w
abbrev q28 (R : Ending → World → Prop) : Exit → Env → World → Prop := QX (fun ρ w => b23 R (ρ 0) (ρ 4) (ρ 5) w) (fun ρ w => R (.returned (ρ 2)) w) []
theorem b3_eq (R : Ending → World → Prop) (ρ : Env) (w : World) : (b3 R (ρ 0) (ρ 4) w) = codeP Try.prog (pan R) (preC 0 (sndC p1)) (q28 R) ρ w := by kernel_rfl
theorem b3_ok (R : Ending → World → Prop) (ρ : Env) (w : World) (h : b3 R (ρ 0) (ρ 4) w) : codeP Try.prog (pan R) (sndC p1) (q1 R) ρ w := by
  have e : appC 0 (preC 0 (sndC p1)) (dropC 1 (sndC p1)) = (sndC p1) := by kernel_rfl
  rw [← e]
  exact appQ (fun ρ w => b23 R (ρ 0) (ρ 4) (ρ 5) w) 0 ((b3_eq R ρ w).mp h) (fun ρ w h => k4_ok R ρ w h)
noncomputable abbrev p19 : Code := dropC 1 (fstC p1)

def b38 (R : Ending → World → Prop) (x0 x4 x35 : Value) (w : World) (_r : Tok R := tok R) : Prop :=
  SPL x35
  (R (.returned (Go.Value.bool Bool.false)) w)
  (b3 R x0 x4 w)
abbrev q29 (R : Ending → World → Prop) : Exit → Env → World → Prop := QX (fun ρ w => b3 R (ρ 0) (ρ 4) w) (fun ρ w => R (.returned (ρ 2)) w) []
theorem b38_eq (R : Ending → World → Prop) (ρ : Env) (w : World) : (b38 R (ρ 0) (ρ 4) (ρ 35) w) = codeP Try.prog (pan R) p19 (q29 R) ρ w := by kernel_rfl
theorem b38_ok (R : Ending → World → Prop) (ρ : Env) (w : World) (h : b38 R (ρ 0) (ρ 4) (ρ 35) w) : codeP Try.prog (pan R) p19 (q29 R) ρ w := (b38_eq R ρ w).mp h
def b37_1 (R : Ending → World → Prop) (x0 x4 : Value) (w2 : World) (_r : Tok R := tok R) : Prop :=
  NILC x4 fun v3 =>
  RUN Try.prog (pan R) (Instr.fieldAt 68 v3 0) w2 fun v4 w5 =>
  RUN Try.prog (pan R) (Instr.loadAt 24 v4) w5 fun v6 w7 =>
  RUN Try.prog (pan R) (bins .eql 24 (.tmp 33) (.const (Go.Value.pointer Option.none)) v6 (Go.Value.pointer Option.none)) w7 fun v8 w9 =>
  b38 R x0 x4 v8 w9

def b37 (R : Ending → World → Prop) (x0 x3 x4 : Value) (w : World) (_r : Tok R := tok R) : Prop :=
  RUN Try.prog (pan R) (Op.unary .not x3) w fun v1 w2 =>
  SPL v1
  (b38 R x0 x4 (Go.Value.bool Bool.true) w2)
  (b37_1 R x0 x4 w2)
abbrev q30 (R : Ending → World → Prop) : Exit → Env → World → Prop := QX (fun ρ w => b38 R (ρ 0) (ρ 4) (ρ 35) w) (fun ρ w => R (.returned (ρ 2)) w) []
theorem b37_eq (R : Ending → World → Prop) (ρ : Env) (w : World) : (b37 R (ρ 0) (ρ 3) (ρ 4) w) = codeP Try.prog (pan R) (preC 0 (fstC p1)) (q30 R) ρ w := by kernel_rfl
theorem b37_ok (R : Ending → World → Prop) (ρ : Env) (w : World) (h : b37 R (ρ 0) (ρ 3) (ρ 4) w) : codeP Try.prog (pan R) (fstC p1) (q29 R) ρ w := by
  have e : appC 0 (preC 0 (fstC p1)) (dropC 1 (fstC p1)) = (fstC p1) := by kernel_rfl
  rw [← e]
  exact appQ (fun ρ w => b38 R (ρ 0) (ρ 4) (ρ 35) w) 0 ((b37_eq R ρ w).mp h) (fun ρ w h => b38_ok R ρ w h)
theorem k2_ok (R : Ending → World → Prop) (ρ : Env) (w : World) (h : b37 R (ρ 0) (ρ 3) (ρ 4) w) : codeP Try.prog (pan R) p1 (q1 R) ρ w := by
  have e : Code.seq (fstC p1) (sndC p1) = p1 := by kernel_rfl
  rw [← e]
  exact seqQ (fun ρ w => b3 R (ρ 0) (ρ 4) w) (b37_ok R ρ w h) (fun ρ w h => b3_ok R ρ w h)
def b1_1 (R : Ending → World → Prop) (x0 v1 v3 : Value) (w4 : World) (_r : Tok R := tok R) : Prop :=
  RUN Try.prog (pan R) (Instr.build 66 #[]) w4 fun v5 w6 =>
  RUN Try.prog (pan R) (Instr.box 66 v5) w6 fun v7 w8 =>
  RUN Try.prog (pan R) (Instr.build 68 #[(0, v3), (1, v7)]) w8 fun v9 w10 =>
  RUN Try.prog (pan R) (Instr.box 68 v9) w10 fun v11 w12 =>
  b37 R x0 v1 v11 w12

def b1 (R : Ending → World → Prop) (x0 : Value) (w : World) (_r : Tok R := tok R) : Prop :=
  CALL Try.prog (pan R) law02_awake.id #[] w fun v1 w2 =>
  CALL Try.prog (pan R) gram_New.id #[] w2 fun v3 w4 =>
  b1_1 R x0 v1 v3 w4
abbrev q31 (R : Ending → World → Prop) : Exit → Env → World → Prop := QX (fun ρ w => b37 R (ρ 0) (ρ 3) (ρ 4) w) (fun ρ w => R (.returned (ρ 2)) w) []
theorem b1_eq (R : Ending → World → Prop) (ρ : Env) (w : World) : (b1 R (ρ 0) w) = codeP Try.prog (pan R) (preC 2 code) (q31 R) ρ w := by kernel_rfl
theorem b1_ok (R : Ending → World → Prop) (ρ : Env) (w : World) (h : b1 R (ρ 0) w) : codeP Try.prog (pan R) code (q1 R) ρ w := by
  have e : appC 2 (preC 2 code) (dropC 3 code) = code := by kernel_rfl
  rw [← e]
  exact appQ (fun ρ w => b37 R (ρ 0) (ρ 3) (ρ 4) w) 2 ((b1_eq R ρ w).mp h) (fun ρ w h => k2_ok R ρ w h)
/-- What is owed for a call. -/
def run (R : Ending → World → Prop) (a0 : Value) (w : World) : Prop := b1 R a0 w
theorem calls (R : Ending → World → Prop) (a0 : Value) (w : World) (h : run R a0 w) : Calls Try.prog id #[a0] w R :=
  calls_of_t (f := id) (fn := Try.f9) (c := code) (by kernel_rfl) Try.func9 (by kernel_rfl) (by kernel_rfl) (args := [a0]) (Nat.le_of_ble_eq_true rfl) rfl (b1_ok R (envOf [a0]) w h)
theorem enters : Enters Try.prog id := fun args w => Try.call9 args w
theorem ct {a0 : Value} {w : World} {S : Value → World → Prop} (h : ∀ R : Ending → World → Prop, (∀ v w, S v w → R (.returned v) w) → run R a0 w) : Ct Try.prog id #[a0] w S :=
  Ct.intro enters fun R hR => calls R a0 w (h R hR)
attribute [irreducible] b7_1 b7 b13 b17 b22 b21_1 b21 l20 b18 b15 b11 l10 b8 b5_1 b5_2 b5_3 b5_4 b5_5 b5_6 b5_7 b5 b28 b34_1 b34 l33 b36 b35_1 b35_2 b35 b30_1 b30_2 b30 b26 l25 b23 b3 b38 b37_1 b37 b1_1 b1 run
attribute [go_sem] b7_1 b7 b13 b17 b22 b21_1 b21 b18 b15 b11 b8 b5_1 b5_2 b5_3 b5_4 b5_5 b5_6 b5_7 b5 b28 b34_1 b34 b36 b35_1 b35_2 b35 b30_1 b30_2 b30 b26 b23 b3 b38 b37_1 b37 b1_1 b1 run
end law02_GramBuilt

/-! ### (*presage/presagelaw02.both).does -/
namespace law02_both_does
noncomputable def code : Code := bodyOf Try.f28
noncomputable abbrev p1 : Code := dropC 3 code
/- x0 x -/
def b3 (R : Ending → World → Prop) (x0 : Value) (w : World) (_r : Tok R := tok R) : Prop :=
  CALL Try.prog (pan R) law02_both_told.id #[x0] w fun v1 w2 =>
  R (.returned v1) w2
abbrev q1 (R : Ending → World → Prop) : Exit → Env → World → Prop := QX (fun ρ w => R (.returned (ρ 4)) w) (fun ρ w => R (.returned (ρ 4)) w) []
theorem b3_eq (R : Ending → World → Prop) (ρ : Env) (w : World) : (b3 R (ρ 0) w) = codeP Try.prog (pan R) (sndC p1) (q1 R) ρ w := by kernel_rfl
theorem b3_ok (R : Ending → World → Prop) (ρ : Env) (w : World) (h : b3 R (ρ 0) w) : codeP Try.prog (pan R) (sndC p1) (q1 R) ρ w := (b3_eq R ρ w).mp h
noncomputable abbrev p2 : Code := dropC 1 (fstC p1)
noncomputable abbrev p3 : Code := dropC 1 (blkC p2)
/- x0 x, x3 o, x5 k -/
def b8 (R : Ending → World → Prop) (x0 x3 x5 : Value) (w : World) (_r : Tok R := tok R) : Prop :=
  RUN Try.prog (pan R) (Instr.loadAt 71 x3) w fun v1 w2 =>
  RUN Try.prog (pan R) (bins .eql 3 (.tmp 21) (.const (Go.Value.int Go.IntKind.i64 0)) x5 (Go.Value.int Go.IntKind.i64 0)) w2 fun v3 w4 =>
  CALL Try.prog (pan R) law02_both_named.id #[x0, v1, v3] w4 fun v5 w6 =>
  R (.returned v5) w6
abbrev q2 (R : Ending → World → Prop) : Exit → Env → World → Prop := QX (fun ρ w => b3 R (ρ 0) w) (fun ρ w => R (.returned (ρ 4)) w) [(0, (fun ρ w => b3 R (ρ 0) w))]
theorem b8_eq (R : Ending → World → Prop) (ρ : Env) (w : World) : (b8 R (ρ 0) (ρ 3) (ρ 5) w) = codeP Try.prog (pan R) (thnC p3) (q2 R) ρ w := by kernel_rfl
theorem b8_ok (R : Ending → World → Prop) (ρ : Env) (w : World) (h : b8 R (ρ 0) (ρ 3) (ρ 5) w) : codeP Try.prog (pan R) (thnC p3) (q2 R) ρ w := (b8_eq R ρ w).mp h
noncomputable abbrev p4 : Code := dropC 1 (elsC p3)
def b10_1 (R : Ending → World → Prop) (x0 x3 x5 : Value) (w : World) (_r : Tok R := tok R) : Prop :=
  RUN Try.prog (pan R) (Instr.loadAt 71 x3) w fun v1 w2 =>
  CALL Try.prog (pan R) law02_both_listed.id #[x0, v1, x5] w2 fun v3 w4 =>
  R (.returned v3) w4
def b10_2 (R : Ending → World → Prop) (x0 x3 v12 : Value) (w13 : World) (_r : Tok R := tok R) : Prop :=
  NILC x0 fun v14 =>
  PUR Try.prog (Instr.fieldAt 68 v14 1) fun v15 =>
  LD Try.prog (Instr.loadAt 63 v15) (World.drew w13) fun v16 =>
  PUR Try.prog (Instr.fieldAt 71 x3 1) fun v17 =>
  LD Try.prog (Instr.loadAt 3 v17) (World.drew w13) fun v18 =>
  CALL Try.prog (pan R) ref02_Builder_Start.id #[v16, v18] (World.drew w13) fun v19 w20 =>
  RUN Try.prog (pan R) (bins .eql 22 (.tmp 48) (.tmp 49) v12 v19) w20 fun v21 w22 =>
  R (.returned v21) w22
def b10_3 (R : Ending → World → Prop) (x0 x3 : Value) (w6 : World) (_r : Tok R := tok R) : Prop :=
  NILC x0 fun v7 =>
  PUR Try.prog (Instr.fieldAt 68 v7 0) fun v8 =>
  LD Try.prog (Instr.loadAt 24 v8) (World.drew w6) fun v9 =>
  PUR Try.prog (Instr.fieldAt 71 x3 1) fun v10 =>
  LD Try.prog (Instr.loadAt 3 v10) (World.drew w6) fun v11 =>
  CALL Try.prog (pan R) gram_Builder_Start.id #[v9, v11] (World.drew w6) fun v12 w13 =>
  b10_2 R x0 x3 v12 w13
/- x0 x, x3 o, x5 k -/
def b10 (R : Ending → World → Prop) (x0 x3 x5 x15 x24 : Value) (w : World) (_r : Tok R := tok R) : Prop :=
  SPL x24
  (b10_1 R x0 x3 x5 w)
  (RUN Try.prog (pan R) (bins .eql 3 (.tmp 15) (.const (Go.Value.int Go.IntKind.i64 5)) x15 (Go.Value.int Go.IntKind.i64 5)) w fun v5 w6 =>
  SPL v5
  (b10_3 R x0 x3 w6)
  (b3 R x0 w6))
theorem b10_eq (R : Ending → World → Prop) (ρ : Env) (w : World) : (b10 R (ρ 0) (ρ 3) (ρ 5) (ρ 15) (ρ 24) w) = codeP Try.prog (pan R) p4 (q2 R) ρ w := by kernel_rfl
theorem b10_ok (R : Ending → World → Prop) (ρ : Env) (w : World) (h : b10 R (ρ 0) (ρ 3) (ρ 5) (ρ 15) (ρ 24) w) : codeP Try.prog (pan R) p4 (q2 R) ρ w := (b10_eq R ρ w).mp h
def b9_1 (R : Ending → World → Prop) (x0 x3 x5 x15 : Value) (w2 : World) (_r : Tok R := tok R) : Prop :=
  RUN Try.prog (pan R) (bins .eql 3 (.tmp 15) (.const (Go.Value.int Go.IntKind.i64 3)) x15 (Go.Value.int Go.IntKind.i64 3)) w2 fun v3 w4 =>
  SPL v3
  (b10 R x0 x3 x5 x15 v3 w4)
  (RUN Try.prog (pan R) (bins .eql 3 (.tmp 15) (.const (Go.Value.int Go.IntKind.i64 4)) x15 (Go.Value.int Go.IntKind.i64 4)) w4 fun v5 w6 =>
  b10 R x0 x3 x5 x15 v5 w6)
/- x0 x, x3 o, x5 k -/
def b9 (R : Ending → World → Prop) (x0 x3 x5 x15 : Value) (w : World) (_r : Tok R := tok R) : Prop :=
  RUN Try.prog (pan R) (bins .eql 3 (.tmp 15) (.const (Go.Value.int Go.IntKind.i64 2)) x15 (Go.Value.int Go.IntKind.i64 2)) w fun v1 w2 =>
  SPL v1
  (b10 R x0 x3 x5 x15 v1 w2)
  (b9_1 R x0 x3 x5 x15 w2)
abbrev q3 (R : Ending → World → Prop) : Exit → Env → World → Prop := QX (fun ρ w => b10 R (ρ 0) (ρ 3) (ρ 5) (ρ 15) (ρ 24) w) (fun ρ w => R (.returned (ρ 4)) w) [(0, (fun ρ w => b3 R (ρ 0) w))]
theorem b9_eq (R : Ending → World → Prop) (ρ : Env) (w : World) : (b9 R (ρ 0) (ρ 3) (ρ 5) (ρ 15) w) = codeP Try.prog (pan R) (preC 0 (elsC p3)) (q3 R) ρ w := by kernel_rfl
theorem b9_ok (R : Ending → World → Prop) (ρ : Env) (w : World) (h : b9 R (ρ 0) (ρ 3) (ρ 5) (ρ 15) w) : codeP Try.prog (pan R) (elsC p3) (q2 R) ρ w := by
  have e : appC 0 (preC 0 (elsC p3)) (dropC 1 (elsC p3)) = (elsC p3) := by kernel_rfl
  rw [← e]
  exact appQ (fun ρ w => b10 R (ρ 0) (ρ 3) (ρ 5) (ρ 15) (ρ 24) w) 0 ((b9_eq R ρ w).mp h) (fun ρ w h => b10_ok R ρ w h)
/- x0 x, x3 o, x5 k -/
def b7 (R : Ending → World → Prop) (x0 x3 x5 x15 x16 : Value) (w : World) (_r : Tok R := tok R) : Prop :=
  SPL x16 (b8 R x0 x3 x5 w) (b9 R x0 x3 x5 x15 w)
theorem b7_ok (R : Ending → World → Prop) (ρ : Env) (w : World) (h : b7 R (ρ 0) (ρ 3) (ρ 5) (ρ 15) (ρ 16) w) : codeP Try.prog (pan R) p3 (q2 R) ρ w := by
  have e : Code.cond (.tmp 16) (thnC p3) (elsC p3) = p3 := by kernel_rfl
  rw [← e]
  exact condQ' h (fun h => b8_ok R ρ w h) (fun h => b9_ok R ρ w h)
/- x0 x, x3 o, x5 k -/
def b6 (R : Ending → World → Prop) (x0 x3 x5 x15 : Value) (w : World) (_r : Tok R := tok R) : Prop :=
  RUN Try.prog (pan R) (bins .eql 3 (.tmp 15) (.const (Go.Value.int Go.IntKind.i64 0)) x15 (Go.Value.int Go.IntKind.i64 0)) w fun v1 w2 =>
  SPL v1
  (b7 R x0 x3 x5 x15 v1 w2)
  (RUN Try.prog (pan R) (bins .eql 3 (.tmp 15) (.const (Go.Value.int Go.IntKind.i64 1)) x15 (Go.Value.int Go.IntKind.i64 1)) w2 fun v3 w4 =>
  b7 R x0 x3 x5 x15 v3 w4)
abbrev q4 (R : Ending → World → Prop) : Exit → Env → World → Prop := QX (fun ρ w => b7 R (ρ 0) (ρ 3) (ρ 5) (ρ 15) (ρ 16) w) (fun ρ w => R (.returned (ρ 4)) w) [(0, (fun ρ w => b3 R (ρ 0) w))]
theorem b6_eq (R : Ending → World → Prop) (ρ : Env) (w : World) : (b6 R (ρ 0) (ρ 3) (ρ 5) (ρ 15) w) = codeP Try.prog (pan R) (preC 0 (blkC p2)) (q4 R) ρ w := by kernel_rfl
theorem b6_ok (R : Ending → World → Prop) (ρ : Env) (w : World) (h : b6 R (ρ 0) (ρ 3) (ρ 5) (ρ 15) w) : codeP Try.prog (pan R) (blkC p2) (q2 R) ρ w := by
  have e : appC 0 (preC 0 (blkC p2)) (dropC 1 (blkC p2)) = (blkC p2) := by kernel_rfl
  rw [← e]
  exact appQ (fun ρ w => b7 R (ρ 0) (ρ 3) (ρ 5) (ρ 15) (ρ 16) w) 0 ((b6_eq R ρ w).mp h) (fun ρ w h => b7_ok R ρ w h)
abbrev q5 (R : Ending → World → Prop) : Exit → Env → World → Prop := QX (fun ρ w => b3 R (ρ 0) w) (fun ρ w => R (.returned (ρ 4)) w) []
theorem k5_ok (R : Ending → World → Prop) (ρ : Env) (w : World) (h : b6 R (ρ 0) (ρ 3) (ρ 5) (ρ 15) w) : codeP Try.prog (pan R) p2 (q5 R) ρ w := by
  have e : Code.block 0 (blkC p2) = p2 := by kernel_rfl
  rw [← e]
  exact blockQ (b6_ok R ρ w h)
/- x0 x, x3 o, x5 k -/
def b4 (R : Ending → World → Prop) (x0 x3 x5 : Value) (w : World) (_r : Tok R := tok R) : Prop :=
  b6 R x0 x3 x5 x5 w
abbrev q6 (R : Ending → World → Prop) : Exit → Env → World → Prop := QX (fun ρ w => b6 R (ρ 0) (ρ 3) (ρ 5) (ρ 15) w) (fun ρ w => R (.returned (ρ 4)) w) []
theorem b4_eq (R : Ending → World → Prop) (ρ : Env) (w : World) : (b4 R (ρ 0) (ρ 3) (ρ 5) w) = codeP Try.prog (pan R) (preC 0 (fstC p1)) (q6 R) ρ w := by kernel_rfl
theorem b4_ok (R : Ending → World → Prop) (ρ : Env) (w : World) (h : b4 R (ρ 0) (ρ 3) (ρ 5) w) : codeP Try.prog (pan R) (fstC p1) (q5 R) ρ w := by
  have e : appC 0 (preC 0 (fstC p1)) (dropC 1 (fstC p1)) = (fstC p1) := by kernel_rfl
  rw [← e]
  exact appQ (fun ρ w => b6 R (ρ 0) (ρ 3) (ρ 5) (ρ 15) w) 0 ((b4_eq R ρ w).mp h) (fun ρ w h => k5_ok R ρ w h)
theorem k2_ok (R : Ending → World → Prop) (ρ : Env) (w : World) (h : b4 R (ρ 0) (ρ 3) (ρ 5) w) : codeP Try.prog (pan R) p1 (q1 R) ρ w := by
  have e : Code.seq (fstC p1) (sndC p1) = p1 := by kernel_rfl
  rw [← e]
  exact seqQ (fun ρ w => b3 R (ρ 0) w) (b4_ok R ρ w h) (fun ρ w h => b3_ok R ρ w h)
/- x0 x, x1 o -/
def b1 (R : Ending → World → Prop) (x0 x1 : Value) (w : World) (_r : Tok R := tok R) : Prop :=
  RUN Try.prog (pan R) (Instr.box 71 x1) w fun v1 w2 =>
  RUN Try.prog (pan R) (Instr.fieldAt 71 v1 0) w2 fun v3 w4 =>
  RUN Try.prog (pan R) (Instr.loadAt 3 v3) w4 fun v5 w6 =>
  RUN Try.prog (pan R) (bins .rem 3 (.tmp 9) (.const (Go.Value.int Go.IntKind.i64 8)) v5 (Go.Value.int Go.IntKind.i64 8)) w6 fun v7 w8 =>
  RUN Try.prog (pan R) (bins .lss 3 (.tmp 11) (.const (Go.Value.int Go.IntKind.i64 0)) v7 (Go.Value.int Go.IntKind.i64 0)) w8 fun v9 w10 =>
  SPL v9
  (RUN Try.prog (pan R) (bins .add 3 (.tmp 13) (.const (Go.Value.int Go.IntKind.i64 8)) v7 (Go.Value.int Go.IntKind.i64 8)) w10 fun v11 w12 =>
  b4 R x0 v1 v11 w12)
  (b4 R x0 v1 v7 w10)
abbrev q7 (R : Ending → World → Prop) : Exit → Env → World → Prop := QX (fun ρ w => b4 R (ρ 0) (ρ 3) (ρ 5) w) (fun ρ w => R (.returned (ρ 4)) w) []
theorem b1_eq (R : Ending → World → Prop) (ρ : Env) (w : World) : (b1 R (ρ 0) (ρ 1) w) = codeP Try.prog (pan R) (preC 2 code) (q7 R) ρ w := by kernel_rfl
theorem b1_ok (R : Ending → World → Prop) (ρ : Env) (w : World) (h : b1 R (ρ 0) (ρ 1) w) : codeP Try.prog (pan R) code (q1 R) ρ w := by
  have e : appC 2 (preC 2 code) (dropC 3 code) = code := by kernel_rfl
  rw [← e]
  exact appQ (fun ρ w => b4 R (ρ 0) (ρ 3) (ρ 5) w) 2 ((b1_eq R ρ w).mp h) (fun ρ w h => k2_ok R ρ w h)
/-- What is owed for a call. -/
def run (R : Ending → World → Prop) (a0 a1 : Value) (w : World) : Prop := b1 R a0 a1 w
theorem calls (R : Ending → World → Prop) (a0 a1 : Value) (w : World) (h : run R a0 a1 w) : Calls Try.prog id #[a0, a1] w R :=
  calls_of_t (f := id) (fn := Try.f28) (c := code) (by kernel_rfl) Try.func28 (by kernel_rfl) (by kernel_rfl) (args := [a0, a1]) (Nat.le_of_ble_eq_true rfl) rfl (b1_ok R (envOf [a0, a1]) w h)
theorem enters : Enters Try.prog id := fun args w => Try.call28 args w
theorem ct {a0 a1 : Value} {w : World} {S : Value → World → Prop} (h : ∀ R : Ending → World → Prop, (∀ v w, S v w → R (.returned v) w) → run R a0 a1 w) : Ct Try.prog id #[a0, a1] w S :=
  Ct.intro enters fun R hR => calls R a0 a1 w (h R hR)
attribute [irreducible] b3 b8 b10_1 b10_2 b10_3 b10 b9_1 b9 b7 b6 b4 b1 run
attribute [go_sem] b3 b8 b10_1 b10_2 b10_3 b10 b9_1 b9 b7 b6 b4 b1 run
end law02_both_does

/-! ### (*presage/presagelaw02.both).told -/
namespace law02_both_told
noncomputable def code : Code := bodyOf Try.f29
noncomputable abbrev p1 : Code := dropC 5 code
noncomputable abbrev p2 : Code := sndC (sndC p1)
def b5_1 (R : Ending → World → Prop) (x0 x6 : Value) (w44 : World) (_r : Tok R := tok R) : Prop :=
  NILC x0 fun v45 =>
  RUN Try.prog (pan R) (Instr.fieldAt 68 v45 1) w44 fun v46 w47 =>
  RUN Try.prog (pan R) (Instr.loadAt 63 v46) w47 fun v48 w49 =>
  NILC v48 fun v50 =>
  RUN Try.prog (pan R) (Instr.fieldAt 66 v50 3) w49 fun v51 w52 =>
  RUN Try.prog (pan R) (Instr.loadAt 64 v51) w52 fun v53 w54 =>
  RUN Try.prog (pan R) (Builtin.len_ #[64] 3 #[v53]) w54 fun v55 w56 =>
  RUN Try.prog (pan R) (bins .eql 3 (.tmp 137) (.tmp 145) x6 v55) w56 fun v57 w58 =>
  R (.returned v57) w58
def b5_2 (R : Ending → World → Prop) (x0 x5 x6 : Value) (w30 : World) (_r : Tok R := tok R) : Prop :=
  NILC x0 fun v31 =>
  RUN Try.prog (pan R) (Instr.fieldAt 68 v31 1) w30 fun v32 w33 =>
  RUN Try.prog (pan R) (Instr.loadAt 63 v32) w33 fun v34 w35 =>
  NILC v34 fun v36 =>
  RUN Try.prog (pan R) (Instr.fieldAt 66 v36 2) w35 fun v37 w38 =>
  RUN Try.prog (pan R) (Instr.loadAt 30 v37) w38 fun v39 w40 =>
  RUN Try.prog (pan R) (Builtin.len_ #[30] 3 #[v39]) w40 fun v41 w42 =>
  RUN Try.prog (pan R) (bins .eql 3 (.tmp 125) (.tmp 133) x5 v41) w42 fun v43 w44 =>
  SPL v43
  (b5_1 R x0 x6 w44)
  (R (.returned (Go.Value.bool Bool.false)) w44)
def b5_3 (R : Ending → World → Prop) (x0 x4 x5 x6 : Value) (w16 : World) (_r : Tok R := tok R) : Prop :=
  NILC x0 fun v17 =>
  RUN Try.prog (pan R) (Instr.fieldAt 68 v17 1) w16 fun v18 w19 =>
  RUN Try.prog (pan R) (Instr.loadAt 63 v18) w19 fun v20 w21 =>
  NILC v20 fun v22 =>
  RUN Try.prog (pan R) (Instr.fieldAt 66 v22 1) w21 fun v23 w24 =>
  RUN Try.prog (pan R) (Instr.loadAt 33 v23) w24 fun v25 w26 =>
  RUN Try.prog (pan R) (Builtin.len_ #[33] 3 #[v25]) w26 fun v27 w28 =>
  RUN Try.prog (pan R) (bins .eql 3 (.tmp 113) (.tmp 121) x4 v27) w28 fun v29 w30 =>
  SPL v29
  (b5_2 R x0 x5 x6 w30)
  (R (.returned (Go.Value.bool Bool.false)) w30)
def b5_4 (R : Ending → World → Prop) (x0 x3 x4 x5 x6 : Value) (w2 : World) (_r : Tok R := tok R) : Prop :=
  NILC x0 fun v3 =>
  RUN Try.prog (pan R) (Instr.fieldAt 68 v3 1) w2 fun v4 w5 =>
  RUN Try.prog (pan R) (Instr.loadAt 63 v4) w5 fun v6 w7 =>
  NILC v6 fun v8 =>
  RUN Try.prog (pan R) (Instr.fieldAt 66 v8 0) w7 fun v9 w10 =>
  RUN Try.prog (pan R) (Instr.loadAt 32 v9) w10 fun v11 w12 =>
  RUN Try.prog (pan R) (Builtin.len_ #[32] 3 #[v11]) w12 fun v13 w14 =>
  RUN Try.prog (pan R) (bins .eql 3 (.tmp 101) (.tmp 109) x3 v13) w14 fun v15 w16 =>
  SPL v15
  (b5_3 R x0 x4 x5 x6 w16)
  (R (.returned (Go.Value.bool Bool.false)) w16)

def b5 (R : Ending → World → Prop) (x0 x3 x4 x5 x6 x8 x10 x11 : Value) (w : World) (_r : Tok R := tok R) : Prop :=
  SPL x11
  (RUN Try.prog (pan R) (bins .eql 22 (.tmp 96) (.tmp 97) x8 x10) w fun v1 w2 =>
  SPL v1
  (b5_4 R x0 x3 x4 x5 x6 w2)
  (R (.returned (Go.Value.bool Bool.false)) w2))
  (R (.returned (Go.Value.bool Bool.false)) w)
abbrev q1 (R : Ending → World → Prop) : Exit → Env → World → Prop := QX (fun ρ w => R (.returned (ρ 2)) w) (fun ρ w => R (.returned (ρ 2)) w) []
theorem b5_eq (R : Ending → World → Prop) (ρ : Env) (w : World) : (b5 R (ρ 0) (ρ 3) (ρ 4) (ρ 5) (ρ 6) (ρ 8) (ρ 10) (ρ 11) w) = codeP Try.prog (pan R) (sndC p2) (q1 R) ρ w := by kernel_rfl
theorem b5_ok (R : Ending → World → Prop) (ρ : Env) (w : World) (h : b5 R (ρ 0) (ρ 3) (ρ 4) (ρ 5) (ρ 6) (ρ 8) (ρ 10) (ρ 11) w) : codeP Try.prog (pan R) (sndC p2) (q1 R) ρ w := (b5_eq R ρ w).mp h
noncomputable abbrev p3 : Code := dropC 1 (fstC p2)
noncomputable abbrev p4 : Code := loopC (blkC p3)
def b9_1 (R : Ending → World → Prop) (C8 : Value → World → Prop) (x7 x15 : Value) (w8 : World) (_r : Tok R := tok R) (_C8 : Tok C8 := tok C8) : Prop :=
  RUN Try.prog (pan R) (Instr.fieldAt 36 x7 2) w8 fun v9 w10 =>
  RUN Try.prog (pan R) (Instr.loadAt 30 v9) w10 fun v11 w12 =>
  RUN Try.prog (pan R) (Instr.indexAt 30 v11 x15) w12 fun v13 w14 =>
  RUNU Try.prog (pan R) (Instr.storeAt 3 v13 (Go.Value.int Go.IntKind.i64 9)) w14 fun w15 =>
  RUN Try.prog (pan R) (bins .add 3 (.tmp 88) (.const (Go.Value.int Go.IntKind.i64 1)) x15 (Go.Value.int Go.IntKind.i64 1)) w15 fun v16 w17 =>
  C8 v16 w17

def b9 (R : Ending → World → Prop) (C8 : Value → World → Prop) (x0 x3 x4 x5 x6 x7 x8 x10 x11 x15 : Value) (w : World) (_r : Tok R := tok R) (_C8 : Tok C8 := tok C8) : Prop :=
  RUN Try.prog (pan R) (Instr.fieldAt 36 x7 2) w fun v1 w2 =>
  RUN Try.prog (pan R) (Instr.loadAt 30 v1) w2 fun v3 w4 =>
  RUN Try.prog (pan R) (Builtin.len_ #[30] 3 #[v3]) w4 fun v5 w6 =>
  RUN Try.prog (pan R) (bins .lss 3 (.tmp 83) (.tmp 86) x15 v5) w6 fun v7 w8 =>
  SPL v7
  (b9_1 R C8 x7 x15 w8)
  (b5 R x0 x3 x4 x5 x6 x8 x10 x11 w8)
abbrev q2 (R : Ending → World → Prop) (C8 : Value → World → Prop) : Exit → Env → World → Prop := QX (fun ρ w => C8 (ρ 15) w) (fun ρ w => R (.returned (ρ 2)) w) [(12, (fun ρ w => b5 R (ρ 0) (ρ 3) (ρ 4) (ρ 5) (ρ 6) (ρ 8) (ρ 10) (ρ 11) w))]
theorem b9_eq (R : Ending → World → Prop) (C8 : Value → World → Prop) (ρ : Env) (w : World) : (b9 R C8 (ρ 0) (ρ 3) (ρ 4) (ρ 5) (ρ 6) (ρ 7) (ρ 8) (ρ 10) (ρ 11) (ρ 15) w) = codeP Try.prog (pan R) p4 (q2 R C8) ρ w := by kernel_rfl
theorem b9_ok (R : Ending → World → Prop) (C8 : Value → World → Prop) (ρ : Env) (w : World) (h : b9 R C8 (ρ 0) (ρ 3) (ρ 4) (ρ 5) (ρ 6) (ρ 7) (ρ 8) (ρ 10) (ρ 11) (ρ 15) w) : codeP Try.prog (pan R) p4 (q2 R C8) ρ w := (b9_eq R C8 ρ w).mp h

def l8 (R : Ending → World → Prop) (x0 x3 x4 x5 x6 x7 x8 x10 x11 x15 : Value) (w : World) (_r : Tok R := tok R) : Prop :=
  ∃ (J : Value → World → Prop) (μ : Value → World → Nat), J x15 w ∧ ∀ y15 w0, J y15 w0 → b9 R (fun z15 w1 => J z15 w1 ∧ μ z15 w1 < μ y15 w0) x0 x3 x4 x5 x6 x7 x8 x10 x11 y15 w0
abbrev q3 (R : Ending → World → Prop) : Exit → Env → World → Prop := QX (fun ρ w => b5 R (ρ 0) (ρ 3) (ρ 4) (ρ 5) (ρ 6) (ρ 8) (ρ 10) (ρ 11) w) (fun ρ w => R (.returned (ρ 2)) w) [(12, (fun ρ w => b5 R (ρ 0) (ρ 3) (ρ 4) (ρ 5) (ρ 6) (ρ 8) (ρ 10) (ρ 11) w))]
theorem l8_ok (R : Ending → World → Prop) (ρ : Env) (w : World) (h : l8 R (ρ 0) (ρ 3) (ρ 4) (ρ 5) (ρ 6) (ρ 7) (ρ 8) (ρ 10) (ρ 11) (ρ 15) w) : codeP Try.prog (pan R) (blkC p3) (q3 R) ρ w := by
  unfold l8 at h
  obtain ⟨J, μ, h0, hr⟩ := h
  have e : Code.loop (loopC (blkC p3)) = (blkC p3) := by kernel_rfl
  rw [← e]
  refine loopQ (fun ρ' w' => J (ρ' 15) w') (fun ρ' w' => μ (ρ' 15) w') h0 fun ρ' w' hA hI => ?_
  have e0 : ρ' 0 = ρ 0 := Agree.at hA 0 (by kernel_rfl)
  have e3 : ρ' 3 = ρ 3 := Agree.at hA 3 (by kernel_rfl)
  have e4 : ρ' 4 = ρ 4 := Agree.at hA 4 (by kernel_rfl)
  have e5 : ρ' 5 = ρ 5 := Agree.at hA 5 (by kernel_rfl)
  have e6 : ρ' 6 = ρ 6 := Agree.at hA 6 (by kernel_rfl)
  have e7 : ρ' 7 = ρ 7 := Agree.at hA 7 (by kernel_rfl)
  have e8 : ρ' 8 = ρ 8 := Agree.at hA 8 (by kernel_rfl)
  have e10 : ρ' 10 = ρ 10 := Agree.at hA 10 (by kernel_rfl)
  have e11 : ρ' 11 = ρ 11 := Agree.at hA 11 (by kernel_rfl)
  have h1 := hr (ρ' 15) w' hI
  rw [← e0, ← e3, ← e4, ← e5, ← e6, ← e7, ← e8, ← e10, ← e11] at h1
  exact b9_ok R (fun z15 w1 => J z15 w1 ∧ μ z15 w1 < μ (ρ' 15) w') ρ' w' h1
theorem l8_intro (R : Ending → World → Prop) (x0 x3 x4 x5 x6 x7 x8 x10 x11 x15 : Value) (w : World) (J : Value → World → Prop) (μ : Value → World → Nat) (h0 : J x15 w)
    (hr : ∀ y15 w0, J y15 w0 → ∀ C8 : Value → World → Prop, (∀ z15 w1, J z15 w1 → μ z15 w1 < μ y15 w0 → C8 z15 w1) → b9 R C8 x0 x3 x4 x5 x6 x7 x8 x10 x11 y15 w0) : l8 R x0 x3 x4 x5 x6 x7 x8 x10 x11 x15 w := by
  unfold l8
  exact ⟨J, μ, h0, fun y15 w0 hJ => hr y15 w0 hJ _ (fun z15 w1 h1 h2 => ⟨h1, h2⟩)⟩
abbrev q4 (R : Ending → World → Prop) : Exit → Env → World → Prop := QX (fun ρ w => b5 R (ρ 0) (ρ 3) (ρ 4) (ρ 5) (ρ 6) (ρ 8) (ρ 10) (ρ 11) w) (fun ρ w => R (.returned (ρ 2)) w) []
theorem k7_ok (R : Ending → World → Prop) (ρ : Env) (w : World) (h : l8 R (ρ 0) (ρ 3) (ρ 4) (ρ 5) (ρ 6) (ρ 7) (ρ 8) (ρ 10) (ρ 11) (ρ 15) w) : codeP Try.prog (pan R) p3 (q4 R) ρ w := by
  have e : Code.block 6 (blkC p3) = p3 := by kernel_rfl
  rw [← e]
  exact blockQ (l8_ok R ρ w h)

def b6 (R : Ending → World → Prop) (x0 x3 x4 x5 x6 x7 x8 x10 x11 : Value) (w : World) (_r : Tok R := tok R) : Prop :=
  l8 R x0 x3 x4 x5 x6 x7 x8 x10 x11 (Go.Value.int Go.IntKind.i64 0) w
abbrev q5 (R : Ending → World → Prop) : Exit → Env → World → Prop := QX (fun ρ w => l8 R (ρ 0) (ρ 3) (ρ 4) (ρ 5) (ρ 6) (ρ 7) (ρ 8) (ρ 10) (ρ 11) (ρ 15) w) (fun ρ w => R (.returned (ρ 2)) w) []
theorem b6_eq (R : Ending → World → Prop) (ρ : Env) (w : World) : (b6 R (ρ 0) (ρ 3) (ρ 4) (ρ 5) (ρ 6) (ρ 7) (ρ 8) (ρ 10) (ρ 11) w) = codeP Try.prog (pan R) (preC 0 (fstC p2)) (q5 R) ρ w := by kernel_rfl
theorem b6_ok (R : Ending → World → Prop) (ρ : Env) (w : World) (h : b6 R (ρ 0) (ρ 3) (ρ 4) (ρ 5) (ρ 6) (ρ 7) (ρ 8) (ρ 10) (ρ 11) w) : codeP Try.prog (pan R) (fstC p2) (q4 R) ρ w := by
  have e : appC 0 (preC 0 (fstC p2)) (dropC 1 (fstC p2)) = (fstC p2) := by kernel_rfl
  rw [← e]
  exact appQ (fun ρ w => l8 R (ρ 0) (ρ 3) (ρ 4) (ρ 5) (ρ 6) (ρ 7) (ρ 8) (ρ 10) (ρ 11) (ρ 15) w) 0 ((b6_eq R ρ w).mp h) (fun ρ w h => k7_ok R ρ w h)
theorem k4_ok (R : Ending → World → Prop) (ρ : Env) (w : World) (h : b6 R (ρ 0) (ρ 3) (ρ 4) (ρ 5) (ρ 6) (ρ 7) (ρ 8) (ρ 10) (ρ 11) w) : codeP Try.prog (pan R) p2 (q1 R) ρ w := by
  have e : Code.seq (fstC p2) (sndC p2) = p2 := by kernel_rfl
  rw [← e]
  exact seqQ (fun ρ w => b5 R (ρ 0) (ρ 3) (ρ 4) (ρ 5) (ρ 6) (ρ 8) (ρ 10) (ρ 11) w) (b6_ok R ρ w h) (fun ρ w h => b5_ok R ρ w h)
noncomputable abbrev p5 : Code := fstC (sndC p1)
noncomputable abbrev p6 : Code := dropC 1 p5
noncomputable abbrev p7 : Code := loopC (blkC p6)
def b13_1 (R : Ending → World → Prop) (C12 : Value → World → Prop) (x7 x14 : Value) (w8 : World) (_r : Tok R := tok R) (_C12 : Tok C12 := tok C12) : Prop :=
  RUN Try.prog (pan R) (Instr.fieldAt 36 x7 0) w8 fun v9 w10 =>
  RUN Try.prog (pan R) (Instr.loadAt 32 v9) w10 fun v11 w12 =>
  RUN Try.prog (pan R) (Instr.indexAt 32 v11 x14) w12 fun v13 w14 =>
  RUN Try.prog (pan R) (Instr.fieldAt 56 v13 0) w14 fun v15 w16 =>
  RUNU Try.prog (pan R) (Instr.storeAt 9 v15 (Go.Value.string { data := #[109, 105, 110, 101] })) w16 fun w17 =>
  RUN Try.prog (pan R) (bins .add 3 (.tmp 76) (.const (Go.Value.int Go.IntKind.i64 1)) x14 (Go.Value.int Go.IntKind.i64 1)) w17 fun v18 w19 =>
  C12 v18 w19

def b13 (R : Ending → World → Prop) (C12 : Value → World → Prop) (x0 x3 x4 x5 x6 x7 x8 x10 x11 x14 : Value) (w : World) (_r : Tok R := tok R) (_C12 : Tok C12 := tok C12) : Prop :=
  RUN Try.prog (pan R) (Instr.fieldAt 36 x7 0) w fun v1 w2 =>
  RUN Try.prog (pan R) (Instr.loadAt 32 v1) w2 fun v3 w4 =>
  RUN Try.prog (pan R) (Builtin.len_ #[32] 3 #[v3]) w4 fun v5 w6 =>
  RUN Try.prog (pan R) (bins .lss 3 (.tmp 71) (.tmp 74) x14 v5) w6 fun v7 w8 =>
  SPL v7
  (b13_1 R C12 x7 x14 w8)
  (b6 R x0 x3 x4 x5 x6 x7 x8 x10 x11 w8)
abbrev q6 (R : Ending → World → Prop) (C12 : Value → World → Prop) : Exit → Env → World → Prop := QX (fun ρ w => C12 (ρ 14) w) (fun ρ w => R (.returned (ρ 2)) w) [(8, (fun ρ w => b6 R (ρ 0) (ρ 3) (ρ 4) (ρ 5) (ρ 6) (ρ 7) (ρ 8) (ρ 10) (ρ 11) w))]
theorem b13_eq (R : Ending → World → Prop) (C12 : Value → World → Prop) (ρ : Env) (w : World) : (b13 R C12 (ρ 0) (ρ 3) (ρ 4) (ρ 5) (ρ 6) (ρ 7) (ρ 8) (ρ 10) (ρ 11) (ρ 14) w) = codeP Try.prog (pan R) p7 (q6 R C12) ρ w := by kernel_rfl
theorem b13_ok (R : Ending → World → Prop) (C12 : Value → World → Prop) (ρ : Env) (w : World) (h : b13 R C12 (ρ 0) (ρ 3) (ρ 4) (ρ 5) (ρ 6) (ρ 7) (ρ 8) (ρ 10) (ρ 11) (ρ 14) w) : codeP Try.prog (pan R) p7 (q6 R C12) ρ w := (b13_eq R C12 ρ w).mp h

def l12 (R : Ending → World → Prop) (x0 x3 x4 x5 x6 x7 x8 x10 x11 x14 : Value) (w : World) (_r : Tok R := tok R) : Prop :=
  ∃ (J : Value → World → Prop) (μ : Value → World → Nat), J x14 w ∧ ∀ y14 w0, J y14 w0 → b13 R (fun z14 w1 => J z14 w1 ∧ μ z14 w1 < μ y14 w0) x0 x3 x4 x5 x6 x7 x8 x10 x11 y14 w0
abbrev q7 (R : Ending → World → Prop) : Exit → Env → World → Prop := QX (fun ρ w => b6 R (ρ 0) (ρ 3) (ρ 4) (ρ 5) (ρ 6) (ρ 7) (ρ 8) (ρ 10) (ρ 11) w) (fun ρ w => R (.returned (ρ 2)) w) [(8, (fun ρ w => b6 R (ρ 0) (ρ 3) (ρ 4) (ρ 5) (ρ 6) (ρ 7) (ρ 8) (ρ 10) (ρ 11) w))]
theorem l12_ok (R : Ending → World → Prop) (ρ : Env) (w : World) (h : l12 R (ρ 0) (ρ 3) (ρ 4) (ρ 5) (ρ 6) (ρ 7) (ρ 8) (ρ 10) (ρ 11) (ρ 14) w) : codeP Try.prog (pan R) (blkC p6) (q7 R) ρ w := by
  unfold l12 at h
  obtain ⟨J, μ, h0, hr⟩ := h
  have e : Code.loop (loopC (blkC p6)) = (blkC p6) := by kernel_rfl
  rw [← e]
  refine loopQ (fun ρ' w' => J (ρ' 14) w') (fun ρ' w' => μ (ρ' 14) w') h0 fun ρ' w' hA hI => ?_
  have e0 : ρ' 0 = ρ 0 := Agree.at hA 0 (by kernel_rfl)
  have e3 : ρ' 3 = ρ 3 := Agree.at hA 3 (by kernel_rfl)
  have e4 : ρ' 4 = ρ 4 := Agree.at hA 4 (by kernel_rfl)
  have e5 : ρ' 5 = ρ 5 := Agree.at hA 5 (by kernel_rfl)
  have e6 : ρ' 6 = ρ 6 := Agree.at hA 6 (by kernel_rfl)
  have e7 : ρ' 7 = ρ 7 := Agree.at hA 7 (by kernel_rfl)
  have e8 : ρ' 8 = ρ 8 := Agree.at hA 8 (by kernel_rfl)
  have e10 : ρ' 10 = ρ 10 := Agree.at hA 10 (by kernel_rfl)
  have e11 : ρ' 11 = ρ 11 := Agree.at hA 11 (by kernel_rfl)
  have h1 := hr (ρ' 14) w' hI
  rw [← e0, ← e3, ← e4, ← e5, ← e6, ← e7, ← e8, ← e10, ← e11] at h1
  exact b13_ok R (fun z14 w1 => J z14 w1 ∧ μ z14 w1 < μ (ρ' 14) w') ρ' w' h1
theorem l12_intro (R : Ending → World → Prop) (x0 x3 x4 x5 x6 x7 x8 x10 x11 x14 : Value) (w : World) (J : Value → World → Prop) (μ : Value → World → Nat) (h0 : J x14 w)
    (hr : ∀ y14 w0, J y14 w0 → ∀ C12 : Value → World → Prop, (∀ z14 w1, J z14 w1 → μ z14 w1 < μ y14 w0 → C12 z14 w1) → b13 R C12 x0 x3 x4 x5 x6 x7 x8 x10 x11 y14 w0) : l12 R x0 x3 x4 x5 x6 x7 x8 x10 x11 x14 w := by
  unfold l12
  exact ⟨J, μ, h0, fun y14 w0 hJ => hr y14 w0 hJ _ (fun z14 w1 h1 h2 => ⟨h1, h2⟩)⟩
abbrev q8 (R : Ending → World → Prop) : Exit → Env → World → Prop := QX (fun ρ w => b6 R (ρ 0) (ρ 3) (ρ 4) (ρ 5) (ρ 6) (ρ 7) (ρ 8) (ρ 10) (ρ 11) w) (fun ρ w => R (.returned (ρ 2)) w) []
theorem k11_ok (R : Ending → World → Prop) (ρ : Env) (w : World) (h : l12 R (ρ 0) (ρ 3) (ρ 4) (ρ 5) (ρ 6) (ρ 7) (ρ 8) (ρ 10) (ρ 11) (ρ 14) w) : codeP Try.prog (pan R) p6 (q8 R) ρ w := by
  have e : Code.block 4 (blkC p6) = p6 := by kernel_rfl
  rw [← e]
  exact blockQ (l12_ok R ρ w h)

def b10 (R : Ending → World → Prop) (x0 x3 x4 x5 x6 x7 x8 x10 x11 : Value) (w : World) (_r : Tok R := tok R) : Prop :=
  l12 R x0 x3 x4 x5 x6 x7 x8 x10 x11 (Go.Value.int Go.IntKind.i64 0) w
abbrev q9 (R : Ending → World → Prop) : Exit → Env → World → Prop := QX (fun ρ w => l12 R (ρ 0) (ρ 3) (ρ 4) (ρ 5) (ρ 6) (ρ 7) (ρ 8) (ρ 10) (ρ 11) (ρ 14) w) (fun ρ w => R (.returned (ρ 2)) w) []
theorem b10_eq (R : Ending → World → Prop) (ρ : Env) (w : World) : (b10 R (ρ 0) (ρ 3) (ρ 4) (ρ 5) (ρ 6) (ρ 7) (ρ 8) (ρ 10) (ρ 11) w) = codeP Try.prog (pan R) (preC 0 p5) (q9 R) ρ w := by kernel_rfl
theorem b10_ok (R : Ending → World → Prop) (ρ : Env) (w : World) (h : b10 R (ρ 0) (ρ 3) (ρ 4) (ρ 5) (ρ 6) (ρ 7) (ρ 8) (ρ 10) (ρ 11) w) : codeP Try.prog (pan R) p5 (q8 R) ρ w := by
  have e : appC 0 (preC 0 p5) (dropC 1 p5) = p5 := by kernel_rfl
  rw [← e]
  exact appQ (fun ρ w => l12 R (ρ 0) (ρ 3) (ρ 4) (ρ 5) (ρ 6) (ρ 7) (ρ 8) (ρ 10) (ρ 11) (ρ 14) w) 0 ((b10_eq R ρ w).mp h) (fun ρ w h => k11_ok R ρ w h)
theorem k3_ok (R : Ending → World → Prop) (ρ : Env) (w : World) (h : b10 R (ρ 0) (ρ 3) (ρ 4) (ρ 5) (ρ 6) (ρ 7) (ρ 8) (ρ 10) (ρ 11) w) : codeP Try.prog (pan R) (sndC p1) (q1 R) ρ w := by
  have e : Code.seq (fstC (sndC p1)) (sndC (sndC p1)) = (sndC p1) := by kernel_rfl
  rw [← e]
  exact seqQ (fun ρ w => b6 R (ρ 0) (ρ 3) (ρ 4) (ρ 5) (ρ 6) (ρ 7) (ρ 8) (ρ 10) (ρ 11) w) (b10_ok R ρ w h) (fun ρ w h => k4_ok R ρ w h)
noncomputable abbrev p8 : Code := dropC 1 (fstC p1)
noncomputable abbrev p9 : Code := loopC (blkC p8)
noncomputable abbrev p10 : Code := dropC 1 p9

def b19 (R : Ending → World → Prop) (C16 : Value → World → Prop) (x12 : Value) (w : World) (_r : Tok R := tok R) (_C16 : Tok C16 := tok C16) : Prop :=
  RUN Try.prog (pan R) (bins .add 3 (.tmp 50) (.const (Go.Value.int Go.IntKind.i64 1)) x12 (Go.Value.int Go.IntKind.i64 1)) w fun v1 w2 =>
  C16 v1 w2
abbrev q10 (R : Ending → World → Prop) (C16 : Value → World → Prop) : Exit → Env → World → Prop := QX (fun ρ w => C16 (ρ 12) w) (fun ρ w => R (.returned (ρ 2)) w) [(0, (fun ρ w => b10 R (ρ 0) (ρ 3) (ρ 4) (ρ 5) (ρ 6) (ρ 7) (ρ 8) (ρ 10) (ρ 11) w))]
theorem b19_eq (R : Ending → World → Prop) (C16 : Value → World → Prop) (ρ : Env) (w : World) : (b19 R C16 (ρ 12) w) = codeP Try.prog (pan R) (sndC p10) (q10 R C16) ρ w := by kernel_rfl
theorem b19_ok (R : Ending → World → Prop) (C16 : Value → World → Prop) (ρ : Env) (w : World) (h : b19 R C16 (ρ 12) w) : codeP Try.prog (pan R) (sndC p10) (q10 R C16) ρ w := (b19_eq R C16 ρ w).mp h
noncomputable abbrev p11 : Code := blkC (fstC p10)
noncomputable abbrev p12 : Code := dropC 1 p11
noncomputable abbrev p13 : Code := loopC (blkC p12)
def b24_1 (R : Ending → World → Prop) (C23 : Value → World → Prop) (x7 x12 x13 : Value) (w14 : World) (_r : Tok R := tok R) (_C23 : Tok C23 := tok C23) : Prop :=
  RUN Try.prog (pan R) (Instr.fieldAt 36 x7 4) w14 fun v15 w16 =>
  RUN Try.prog (pan R) (Instr.loadAt 34 v15) w16 fun v17 w18 =>
  RUN Try.prog (pan R) (Instr.indexAt 34 v17 x12) w18 fun v19 w20 =>
  RUN Try.prog (pan R) (Instr.fieldAt 59 v19 1) w20 fun v21 w22 =>
  RUN Try.prog (pan R) (Instr.loadAt 30 v21) w22 fun v23 w24 =>
  RUN Try.prog (pan R) (Instr.indexAt 30 v23 x13) w24 fun v25 w26 =>
  RUNU Try.prog (pan R) (Instr.storeAt 3 v25 (Go.Value.int Go.IntKind.i64 99)) w26 fun w27 =>
  RUN Try.prog (pan R) (bins .add 3 (.tmp 61) (.const (Go.Value.int Go.IntKind.i64 1)) x13 (Go.Value.int Go.IntKind.i64 1)) w27 fun v28 w29 =>
  C23 v28 w29

def b24 (R : Ending → World → Prop) (C16 : Value → World → Prop) (C23 : Value → World → Prop) (x7 x12 x13 : Value) (w : World) (_r : Tok R := tok R) (_C16 : Tok C16 := tok C16) (_C23 : Tok C23 := tok C23) : Prop :=
  RUN Try.prog (pan R) (Instr.fieldAt 36 x7 4) w fun v1 w2 =>
  RUN Try.prog (pan R) (Instr.loadAt 34 v1) w2 fun v3 w4 =>
  RUN Try.prog (pan R) (Instr.indexAt 34 v3 x12) w4 fun v5 w6 =>
  RUN Try.prog (pan R) (Instr.fieldAt 59 v5 1) w6 fun v7 w8 =>
  RUN Try.prog (pan R) (Instr.loadAt 30 v7) w8 fun v9 w10 =>
  RUN Try.prog (pan R) (Builtin.len_ #[30] 3 #[v9]) w10 fun v11 w12 =>
  RUN Try.prog (pan R) (bins .lss 3 (.tmp 52) (.tmp 59) x13 v11) w12 fun v13 w14 =>
  SPL v13
  (b24_1 R C23 x7 x12 x13 w14)
  (b19 R C16 x12 w14)
abbrev q11 (R : Ending → World → Prop) (C16 : Value → World → Prop) (C23 : Value → World → Prop) : Exit → Env → World → Prop := QX (fun ρ w => C23 (ρ 13) w) (fun ρ w => R (.returned (ρ 2)) w) [(4, (fun ρ w => b19 R C16 (ρ 12) w)), (2, (fun ρ w => b19 R C16 (ρ 12) w)), (0, (fun ρ w => b10 R (ρ 0) (ρ 3) (ρ 4) (ρ 5) (ρ 6) (ρ 7) (ρ 8) (ρ 10) (ρ 11) w))]
theorem b24_eq (R : Ending → World → Prop) (C16 : Value → World → Prop) (C23 : Value → World → Prop) (ρ : Env) (w : World) : (b24 R C16 C23 (ρ 7) (ρ 12) (ρ 13) w) = codeP Try.prog (pan R) p13 (q11 R C16 C23) ρ w := by kernel_rfl
theorem b24_ok (R : Ending → World → Prop) (C16 : Value → World → Prop) (C23 : Value → World → Prop) (ρ : Env) (w : World) (h : b24 R C16 C23 (ρ 7) (ρ 12) (ρ 13) w) : codeP Try.prog (pan R) p13 (q11 R C16 C23) ρ w := (b24_eq R C16 C23 ρ w).mp h

def l23 (R : Ending → World → Prop) (C16 : Value → World → Prop) (x7 x12 x13 : Value) (w : World) (_r : Tok R := tok R) (_C16 : Tok C16 := tok C16) : Prop :=
  ∃ (J : Value → World → Prop) (μ : Value → World → Nat), J x13 w ∧ ∀ y13 w0, J y13 w0 → b24 R C16 (fun z13 w1 => J z13 w1 ∧ μ z13 w1 < μ y13 w0) x7 x12 y13 w0
abbrev q12 (R : Ending → World → Prop) (C16 : Value → World → Prop) : Exit → Env → World → Prop := QX (fun ρ w => b19 R C16 (ρ 12) w) (fun ρ w => R (.returned (ρ 2)) w) [(4, (fun ρ w => b19 R C16 (ρ 12) w)), (2, (fun ρ w => b19 R C16 (ρ 12) w)), (0, (fun ρ w => b10 R (ρ 0) (ρ 3) (ρ 4) (ρ 5) (ρ 6) (ρ 7) (ρ 8) (ρ 10) (ρ 11) w))]
theorem l23_ok (R : Ending → World → Prop) (C16 : Value → World → Prop) (ρ : Env) (w : World) (h : l23 R C16 (ρ 7) (ρ 12) (ρ 13) w) : codeP Try.prog (pan R) (blkC p12) (q12 R C16) ρ w := by
  unfold l23 at h
  obtain ⟨J, μ, h0, hr⟩ := h
  have e : Code.loop (loopC (blkC p12)) = (blkC p12) := by kernel_rfl
  rw [← e]
  refine loopQ (fun ρ' w' => J (ρ' 13) w') (fun ρ' w' => μ (ρ' 13) w') h0 fun ρ' w' hA hI => ?_
  have e7 : ρ' 7 = ρ 7 := Agree.at hA 7 (by kernel_rfl)
  have e12 : ρ' 12 = ρ 12 := Agree.at hA 12 (by kernel_rfl)
  have h1 := hr (ρ' 13) w' hI
  rw [← e7, ← e12] at h1
  exact b24_ok R C16 (fun z13 w1 => J z13 w1 ∧ μ z13 w1 < μ (ρ' 13) w') ρ' w' h1
theorem l23_intro (R : Ending → World → Prop) (C16 : Value → World → Prop) (x7 x12 x13 : Value) (w : World) (J : Value → World → Prop) (μ : Value → World → Nat) (h0 : J x13 w)
    (hr : ∀ y13 w0, J y13 w0 → ∀ C23 : Value → World → Prop, (∀ z13 w1, J z13 w1 → μ z13 w1 < μ y13 w0 → C23 z13 w1) → b24 R C16 C23 x7 x12 y13 w0) : l23 R C16 x7 x12 x13 w := by
  unfold l23
  exact ⟨J, μ, h0, fun y13 w0 hJ => hr y13 w0 hJ _ (fun z13 w1 h1 h2 => ⟨h1, h2⟩)⟩
abbrev q13 (R : Ending → World → Prop) (C16 : Value → World → Prop) : Exit → Env → World → Prop := QX (fun ρ w => b19 R C16 (ρ 12) w) (fun ρ w => R (.returned (ρ 2)) w) [(2, (fun ρ w => b19 R C16 (ρ 12) w)), (0, (fun ρ w => b10 R (ρ 0) (ρ 3) (ρ 4) (ρ 5) (ρ 6) (ρ 7) (ρ 8) (ρ 10) (ρ 11) w))]
theorem k22_ok (R : Ending → World → Prop) (C16 : Value → World → Prop) (ρ : Env) (w : World) (h : l23 R C16 (ρ 7) (ρ 12) (ρ 13) w) : codeP Try.prog (pan R) p12 (q13 R C16) ρ w := by
  have e : Code.block 2 (blkC p12) = p12 := by kernel_rfl
  rw [← e]
  exact blockQ (l23_ok R C16 ρ w h)

def b21 (R : Ending → World → Prop) (C16 : Value → World → Prop) (x7 x12 : Value) (w : World) (_r : Tok R := tok R) (_C16 : Tok C16 := tok C16) : Prop :=
  l23 R C16 x7 x12 (Go.Value.int Go.IntKind.i64 0) w
abbrev q14 (R : Ending → World → Prop) (C16 : Value → World → Prop) : Exit → Env → World → Prop := QX (fun ρ w => l23 R C16 (ρ 7) (ρ 12) (ρ 13) w) (fun ρ w => R (.returned (ρ 2)) w) [(2, (fun ρ w => b19 R C16 (ρ 12) w)), (0, (fun ρ w => b10 R (ρ 0) (ρ 3) (ρ 4) (ρ 5) (ρ 6) (ρ 7) (ρ 8) (ρ 10) (ρ 11) w))]
theorem b21_eq (R : Ending → World → Prop) (C16 : Value → World → Prop) (ρ : Env) (w : World) : (b21 R C16 (ρ 7) (ρ 12) w) = codeP Try.prog (pan R) (preC 0 p11) (q14 R C16) ρ w := by kernel_rfl
theorem b21_ok (R : Ending → World → Prop) (C16 : Value → World → Prop) (ρ : Env) (w : World) (h : b21 R C16 (ρ 7) (ρ 12) w) : codeP Try.prog (pan R) p11 (q13 R C16) ρ w := by
  have e : appC 0 (preC 0 p11) (dropC 1 p11) = p11 := by kernel_rfl
  rw [← e]
  exact appQ (fun ρ w => l23 R C16 (ρ 7) (ρ 12) (ρ 13) w) 0 ((b21_eq R C16 ρ w).mp h) (fun ρ w h => k22_ok R C16 ρ w h)
abbrev q15 (R : Ending → World → Prop) (C16 : Value → World → Prop) : Exit → Env → World → Prop := QX (fun ρ w => b19 R C16 (ρ 12) w) (fun ρ w => R (.returned (ρ 2)) w) [(0, (fun ρ w => b10 R (ρ 0) (ρ 3) (ρ 4) (ρ 5) (ρ 6) (ρ 7) (ρ 8) (ρ 10) (ρ 11) w))]
theorem k20_ok (R : Ending → World → Prop) (C16 : Value → World → Prop) (ρ : Env) (w : World) (h : b21 R C16 (ρ 7) (ρ 12) w) : codeP Try.prog (pan R) (fstC p10) (q15 R C16) ρ w := by
  have e : Code.block 1 (blkC (fstC p10)) = (fstC p10) := by kernel_rfl
  rw [← e]
  exact blockQ (b21_ok R C16 ρ w h)
theorem k18_ok (R : Ending → World → Prop) (C16 : Value → World → Prop) (ρ : Env) (w : World) (h : b21 R C16 (ρ 7) (ρ 12) w) : codeP Try.prog (pan R) p10 (q10 R C16) ρ w := by
  have e : Code.seq (fstC p10) (sndC p10) = p10 := by kernel_rfl
  rw [← e]
  exact seqQ (fun ρ w => b19 R C16 (ρ 12) w) (k20_ok R C16 ρ w h) (fun ρ w h => b19_ok R C16 ρ w h)

def b17 (R : Ending → World → Prop) (C16 : Value → World → Prop) (x0 x3 x4 x5 x6 x7 x8 x10 x11 x12 : Value) (w : World) (_r : Tok R := tok R) (_C16 : Tok C16 := tok C16) : Prop :=
  RUN Try.prog (pan R) (Instr.fieldAt 36 x7 4) w fun v1 w2 =>
  RUN Try.prog (pan R) (Instr.loadAt 34 v1) w2 fun v3 w4 =>
  RUN Try.prog (pan R) (Builtin.len_ #[34] 3 #[v3]) w4 fun v5 w6 =>
  RUN Try.prog (pan R) (bins .lss 3 (.tmp 45) (.tmp 48) x12 v5) w6 fun v7 w8 =>
  SPL v7
  (b21 R C16 x7 x12 w8)
  (b10 R x0 x3 x4 x5 x6 x7 x8 x10 x11 w8)
abbrev q16 (R : Ending → World → Prop) (C16 : Value → World → Prop) : Exit → Env → World → Prop := QX (fun ρ w => b21 R C16 (ρ 7) (ρ 12) w) (fun ρ w => R (.returned (ρ 2)) w) [(0, (fun ρ w => b10 R (ρ 0) (ρ 3) (ρ 4) (ρ 5) (ρ 6) (ρ 7) (ρ 8) (ρ 10) (ρ 11) w))]
theorem b17_eq (R : Ending → World → Prop) (C16 : Value → World → Prop) (ρ : Env) (w : World) : (b17 R C16 (ρ 0) (ρ 3) (ρ 4) (ρ 5) (ρ 6) (ρ 7) (ρ 8) (ρ 10) (ρ 11) (ρ 12) w) = codeP Try.prog (pan R) (preC 0 p9) (q16 R C16) ρ w := by kernel_rfl
theorem b17_ok (R : Ending → World → Prop) (C16 : Value → World → Prop) (ρ : Env) (w : World) (h : b17 R C16 (ρ 0) (ρ 3) (ρ 4) (ρ 5) (ρ 6) (ρ 7) (ρ 8) (ρ 10) (ρ 11) (ρ 12) w) : codeP Try.prog (pan R) p9 (q10 R C16) ρ w := by
  have e : appC 0 (preC 0 p9) (dropC 1 p9) = p9 := by kernel_rfl
  rw [← e]
  exact appQ (fun ρ w => b21 R C16 (ρ 7) (ρ 12) w) 0 ((b17_eq R C16 ρ w).mp h) (fun ρ w h => k18_ok R C16 ρ w h)

def l16 (R : Ending → World → Prop) (x0 x3 x4 x5 x6 x7 x8 x10 x11 x12 : Value) (w : World) (_r : Tok R := tok R) : Prop :=
  ∃ (J : Value → World → Prop) (μ : Value → World → Nat), J x12 w ∧ ∀ y12 w0, J y12 w0 → b17 R (fun z12 w1 => J z12 w1 ∧ μ z12 w1 < μ y12 w0) x0 x3 x4 x5 x6 x7 x8 x10 x11 y12 w0
abbrev q17 (R : Ending → World → Prop) : Exit → Env → World → Prop := QX (fun ρ w => b10 R (ρ 0) (ρ 3) (ρ 4) (ρ 5) (ρ 6) (ρ 7) (ρ 8) (ρ 10) (ρ 11) w) (fun ρ w => R (.returned (ρ 2)) w) [(0, (fun ρ w => b10 R (ρ 0) (ρ 3) (ρ 4) (ρ 5) (ρ 6) (ρ 7) (ρ 8) (ρ 10) (ρ 11) w))]
theorem l16_ok (R : Ending → World → Prop) (ρ : Env) (w : World) (h : l16 R (ρ 0) (ρ 3) (ρ 4) (ρ 5) (ρ 6) (ρ 7) (ρ 8) (ρ 10) (ρ 11) (ρ 12) w) : codeP Try.prog (pan R) (blkC p8) (q17 R) ρ w := by
  unfold l16 at h
  obtain ⟨J, μ, h0, hr⟩ := h
  have e : Code.loop (loopC (blkC p8)) = (blkC p8) := by kernel_rfl
  rw [← e]
  refine loopQ (fun ρ' w' => J (ρ' 12) w') (fun ρ' w' => μ (ρ' 12) w') h0 fun ρ' w' hA hI => ?_
  have e0 : ρ' 0 = ρ 0 := Agree.at hA 0 (by kernel_rfl)
  have e3 : ρ' 3 = ρ 3 := Agree.at hA 3 (by kernel_rfl)
  have e4 : ρ' 4 = ρ 4 := Agree.at hA 4 (by kernel_rfl)
  have e5 : ρ' 5 = ρ 5 := Agree.at hA 5 (by kernel_rfl)
  have e6 : ρ' 6 = ρ 6 := Agree.at hA 6 (by kernel_rfl)
  have e7 : ρ' 7 = ρ 7 := Agree.at hA 7 (by kernel_rfl)
  have e8 : ρ' 8 = ρ 8 := Agree.at hA 8 (by kernel_rfl)
  have e10 : ρ' 10 = ρ 10 := Agree.at hA 10 (by kernel_rfl)
  have e11 : ρ' 11 = ρ 11 := Agree.at hA 11 (by kernel_rfl)
  have h1 := hr (ρ' 12) w' hI
  rw [← e0, ← e3, ← e4, ← e5, ← e6, ← e7, ← e8, ← e10, ← e11] at h1
  exact b17_ok R (fun z12 w1 => J z12 w1 ∧ μ z12 w1 < μ (ρ' 12) w') ρ' w' h1
theorem l16_intro (R : Ending → World → Prop) (x0 x3 x4 x5 x6 x7 x8 x10 x11 x12 : Value) (w : World) (J : Value → World → Prop) (μ : Value → World → Nat) (h0 : J x12 w)
    (hr : ∀ y12 w0, J y12 w0 → ∀ C16 : Value → World → Prop, (∀ z12 w1, J z12 w1 → μ z12 w1 < μ y12 w0 → C16 z12 w1) → b17 R C16 x0 x3 x4 x5 x6 x7 x8 x10 x11 y12 w0) : l16 R x0 x3 x4 x5 x6 x7 x8 x10 x11 x12 w := by
  unfold l16
  exact ⟨J, μ, h0, fun y12 w0 hJ => hr y12 w0 hJ _ (fun z12 w1 h1 h2 => ⟨h1, h2⟩)⟩
abbrev q18 (R : Ending → World → Prop) : Exit → Env → World → Prop := QX (fun ρ w => b10 R (ρ 0) (ρ 3) (ρ 4) (ρ 5) (ρ 6) (ρ 7) (ρ 8) (ρ 10) (ρ 11) w) (fun ρ w => R (.returned (ρ 2)) w) []
theorem k15_ok (R : Ending → World → Prop) (ρ : Env) (w : World) (h : l16 R (ρ 0) (ρ 3) (ρ 4) (ρ 5) (ρ 6) (ρ 7) (ρ 8) (ρ 10) (ρ 11) (ρ 12) w) : codeP Try.prog (pan R) p8 (q18 R) ρ w := by
  have e : Code.block 0 (blkC p8) = p8 := by kernel_rfl
  rw [← e]
  exact blockQ (l16_ok R ρ w h)

def b14 (R : Ending → World → Prop) (x0 x3 x4 x5 x6 x7 x8 x10 x11 : Value) (w : World) (_r : Tok R := tok R) : Prop :=
  l16 R x0 x3 x4 x5 x6 x7 x8 x10 x11 (Go.Value.int Go.IntKind.i64 0) w
abbrev q19 (R : Ending → World → Prop) : Exit → Env → World → Prop := QX (fun ρ w => l16 R (ρ 0) (ρ 3) (ρ 4) (ρ 5) (ρ 6) (ρ 7) (ρ 8) (ρ 10) (ρ 11) (ρ 12) w) (fun ρ w => R (.returned (ρ 2)) w) []
theorem b14_eq (R : Ending → World → Prop) (ρ : Env) (w : World) : (b14 R (ρ 0) (ρ 3) (ρ 4) (ρ 5) (ρ 6) (ρ 7) (ρ 8) (ρ 10) (ρ 11) w) = codeP Try.prog (pan R) (preC 0 (fstC p1)) (q19 R) ρ w := by kernel_rfl
theorem b14_ok (R : Ending → World → Prop) (ρ : Env) (w : World) (h : b14 R (ρ 0) (ρ 3) (ρ 4) (ρ 5) (ρ 6) (ρ 7) (ρ 8) (ρ 10) (ρ 11) w) : codeP Try.prog (pan R) (fstC p1) (q18 R) ρ w := by
  have e : appC 0 (preC 0 (fstC p1)) (dropC 1 (fstC p1)) = (fstC p1) := by kernel_rfl
  rw [← e]
  exact appQ (fun ρ w => l16 R (ρ 0) (ρ 3) (ρ 4) (ρ 5) (ρ 6) (ρ 7) (ρ 8) (ρ 10) (ρ 11) (ρ 12) w) 0 ((b14_eq R ρ w).mp h) (fun ρ w h => k15_ok R ρ w h)
theorem k2_ok (R : Ending → World → Prop) (ρ : Env) (w : World) (h : b14 R (ρ 0) (ρ 3) (ρ 4) (ρ 5) (ρ 6) (ρ 7) (ρ 8) (ρ 10) (ρ 11) w) : codeP Try.prog (pan R) p1 (q1 R) ρ w := by
  have e : Code.seq (fstC p1) (sndC p1) = p1 := by kernel_rfl
  rw [← e]
  exact seqQ (fun ρ w => b10 R (ρ 0) (ρ 3) (ρ 4) (ρ 5) (ρ 6) (ρ 7) (ρ 8) (ρ 10) (ρ 11) w) (b14_ok R ρ w h) (fun ρ w h => k3_ok R ρ w h)
def b1_1 (R : Ending → World → Prop) (x0 v8 v10 v12 v14 v25 v27 v35 : Value) (w36 : World) (_r : Tok R := tok R) : Prop :=
  RUN Try.prog (pan R) (Instr.extract v35 0) w36 fun v37 w38 =>
  RUN Try.prog (pan R) (Instr.extract v35 1) w38 fun v39 w40 =>
  RUN Try.prog (pan R) (Instr.alloc 36 true (.tuple #[])) w40 fun v41 w42 =>
  RUNU Try.prog (pan R) (Instr.storeAt 36 v41 v37) w42 fun w43 =>
  RUN Try.prog (pan R) (Instr.loadAt 36 v27) w43 fun v44 w45 =>
  RUN Try.prog (pan R) (Instr.loadAt 36 v41) w45 fun v46 w47 =>
  CALL Try.prog (pan R) ref02_Same.id #[v44, v46] w47 fun v48 w49 =>
  b14 R x0 v8 v10 v12 v14 v27 v25 v39 v48 w49
def b1_2 (R : Ending → World → Prop) (x0 v8 v10 v12 v14 v21 : Value) (w22 : World) (_r : Tok R := tok R) : Prop :=
  RUN Try.prog (pan R) (Instr.extract v21 0) w22 fun v23 w24 =>
  RUN Try.prog (pan R) (Instr.extract v21 1) w24 fun v25 w26 =>
  RUN Try.prog (pan R) (Instr.alloc 36 true (.tuple #[])) w26 fun v27 w28 =>
  RUNU Try.prog (pan R) (Instr.storeAt 36 v27 v23) w28 fun w29 =>
  NILC x0 fun v30 =>
  RUN Try.prog (pan R) (Instr.fieldAt 68 v30 1) w29 fun v31 w32 =>
  RUN Try.prog (pan R) (Instr.loadAt 63 v31) w32 fun v33 w34 =>
  CALL Try.prog (pan R) ref02_Builder_Grammar.id #[v33] w34 fun v35 w36 =>
  b1_1 R x0 v8 v10 v12 v14 v25 v27 v35 w36
def b1_3 (R : Ending → World → Prop) (x0 v6 : Value) (w7 : World) (_r : Tok R := tok R) : Prop :=
  RUN Try.prog (pan R) (Instr.extract v6 0) w7 fun v8 w9 =>
  RUN Try.prog (pan R) (Instr.extract v6 1) w9 fun v10 w11 =>
  RUN Try.prog (pan R) (Instr.extract v6 2) w11 fun v12 w13 =>
  RUN Try.prog (pan R) (Instr.extract v6 3) w13 fun v14 w15 =>
  NILC x0 fun v16 =>
  RUN Try.prog (pan R) (Instr.fieldAt 68 v16 0) w15 fun v17 w18 =>
  RUN Try.prog (pan R) (Instr.loadAt 24 v17) w18 fun v19 w20 =>
  CALL Try.prog (pan R) gram_Builder_Grammar.id #[v19] w20 fun v21 w22 =>
  b1_2 R x0 v8 v10 v12 v14 v21 w22

def b1 (R : Ending → World → Prop) (x0 : Value) (w : World) (_r : Tok R := tok R) : Prop :=
  NILC x0 fun v1 =>
  RUN Try.prog (pan R) (Instr.fieldAt 68 v1 0) w fun v2 w3 =>
  RUN Try.prog (pan R) (Instr.loadAt 24 v2) w3 fun v4 w5 =>
  CALL Try.prog (pan R) gram_Builder_Sizes.id #[v4] w5 fun v6 w7 =>
  b1_3 R x0 v6 w7
abbrev q20 (R : Ending → World → Prop) : Exit → Env → World → Prop := QX (fun ρ w => b14 R (ρ 0) (ρ 3) (ρ 4) (ρ 5) (ρ 6) (ρ 7) (ρ 8) (ρ 10) (ρ 11) w) (fun ρ w => R (.returned (ρ 2)) w) []
theorem b1_eq (R : Ending → World → Prop) (ρ : Env) (w : World) : (b1 R (ρ 0) w) = codeP Try.prog (pan R) (preC 4 code) (q20 R) ρ w := by kernel_rfl
theorem b1_ok (R : Ending → World → Prop) (ρ : Env) (w : World) (h : b1 R (ρ 0) w) : codeP Try.prog (pan R) code (q1 R) ρ w := by
  have e : appC 4 (preC 4 code) (dropC 5 code) = code := by kernel_rfl
  rw [← e]
  exact appQ (fun ρ w => b14 R (ρ 0) (ρ 3) (ρ 4) (ρ 5) (ρ 6) (ρ 7) (ρ 8) (ρ 10) (ρ 11) w) 4 ((b1_eq R ρ w).mp h) (fun ρ w h => k2_ok R ρ w h)
/-- What is owed for a call. -/
def run (R : Ending → World → Prop) (a0 : Value) (w : World) : Prop := b1 R a0 w
theorem calls (R : Ending → World → Prop) (a0 : Value) (w : World) (h : run R a0 w) : Calls Try.prog id #[a0] w R :=
  calls_of_t (f := id) (fn := Try.f29) (c := code) (by kernel_rfl) Try.func29 (by kernel_rfl) (by kernel_rfl) (args := [a0]) (Nat.le_of_ble_eq_true rfl) rfl (b1_ok R (envOf [a0]) w h)
theorem enters : Enters Try.prog id := fun args w => Try.call29 args w
theorem ct {a0 : Value} {w : World} {S : Value → World → Prop} (h : ∀ R : Ending → World → Prop, (∀ v w, S v w → R (.returned v) w) → run R a0 w) : Ct Try.prog id #[a0] w S :=
  Ct.intro enters fun R hR => calls R a0 w (h R hR)
attribute [irreducible] b5_1 b5_2 b5_3 b5_4 b5 b9_1 b9 l8 b6 b13_1 b13 l12 b10 b19 b24_1 b24 l23 b21 b17 l16 b14 b1_1 b1_2 b1_3 b1 run
attribute [go_sem] b5_1 b5_2 b5_3 b5_4 b5 b9_1 b9 b6 b13_1 b13 b10 b19 b24_1 b24 b21 b17 b14 b1_1 b1_2 b1_3 b1 run
end law02_both_told

/-! ### (*presage/presagelaw02.both).named -/
namespace law02_both_named
noncomputable def code : Code := bodyOf Try.f57
def b1_1 (R : Ending → World → Prop) (v10 v11 v17 : Value) (w18 : World) (_r : Tok R := tok R) : Prop :=
  PUR Try.prog (Instr.extract v17 0) fun v19 =>
  PUR Try.prog (Instr.extract v17 1) fun v20 =>
  RUN Try.prog (pan R) (bins .eql 3 (.tmp 36) (.tmp 37) v10 v19) w18 fun v21 w22 =>
  SPL v21
  (RUN Try.prog (pan R) (bins .eql 22 (.tmp 40) (.tmp 41) v11 v20) w22 fun v23 w24 =>
  R (.returned v23) w24)
  (R (.returned (Go.Value.bool Bool.false)) w22)
def b1_2 (R : Ending → World → Prop) (x0 v1 v8 : Value) (w9 : World) (_r : Tok R := tok R) : Prop :=
  PUR Try.prog (Instr.extract v8 0) fun v10 =>
  PUR Try.prog (Instr.extract v8 1) fun v11 =>
  NILC x0 fun v12 =>
  PUR Try.prog (Instr.fieldAt 68 v12 1) fun v13 =>
  LD Try.prog (Instr.loadAt 63 v13) (World.drew w9) fun v14 =>
  PUR Try.prog (Instr.fieldAt 71 v1 3) fun v15 =>
  LD Try.prog (Instr.loadAt 9 v15) (World.drew w9) fun v16 =>
  CALL Try.prog (pan R) ref02_Builder_Term.id #[v14, v16] (World.drew w9) fun v17 w18 =>
  b1_1 R v10 v11 v17 w18
def b1_3 (R : Ending → World → Prop) (x0 v1 : Value) (w2 : World) (_r : Tok R := tok R) : Prop :=
  NILC x0 fun v3 =>
  PUR Try.prog (Instr.fieldAt 68 v3 0) fun v4 =>
  LD Try.prog (Instr.loadAt 24 v4) (World.drew w2) fun v5 =>
  PUR Try.prog (Instr.fieldAt 71 v1 3) fun v6 =>
  LD Try.prog (Instr.loadAt 9 v6) (World.drew w2) fun v7 =>
  CALL Try.prog (pan R) gram_Builder_Term.id #[v5, v7] (World.drew w2) fun v8 w9 =>
  b1_2 R x0 v1 v8 w9
def b1_4 (R : Ending → World → Prop) (v32 v33 v39 : Value) (w40 : World) (_r : Tok R := tok R) : Prop :=
  PUR Try.prog (Instr.extract v39 0) fun v41 =>
  PUR Try.prog (Instr.extract v39 1) fun v42 =>
  RUN Try.prog (pan R) (bins .eql 3 (.tmp 64) (.tmp 65) v32 v41) w40 fun v43 w44 =>
  SPL v43
  (RUN Try.prog (pan R) (bins .eql 22 (.tmp 68) (.tmp 69) v33 v42) w44 fun v45 w46 =>
  R (.returned v45) w46)
  (R (.returned (Go.Value.bool Bool.false)) w44)
def b1_5 (R : Ending → World → Prop) (x0 v1 v30 : Value) (w31 : World) (_r : Tok R := tok R) : Prop :=
  PUR Try.prog (Instr.extract v30 0) fun v32 =>
  PUR Try.prog (Instr.extract v30 1) fun v33 =>
  NILC x0 fun v34 =>
  PUR Try.prog (Instr.fieldAt 68 v34 1) fun v35 =>
  LD Try.prog (Instr.loadAt 63 v35) (World.drew w31) fun v36 =>
  PUR Try.prog (Instr.fieldAt 71 v1 3) fun v37 =>
  LD Try.prog (Instr.loadAt 9 v37) (World.drew w31) fun v38 =>
  CALL Try.prog (pan R) ref02_Builder_Non.id #[v36, v38] (World.drew w31) fun v39 w40 =>
  b1_4 R v32 v33 v39 w40
def b1_6 (R : Ending → World → Prop) (x0 v1 : Value) (w2 : World) (_r : Tok R := tok R) : Prop :=
  NILC x0 fun v25 =>
  PUR Try.prog (Instr.fieldAt 68 v25 0) fun v26 =>
  LD Try.prog (Instr.loadAt 24 v26) (World.drew w2) fun v27 =>
  PUR Try.prog (Instr.fieldAt 71 v1 3) fun v28 =>
  LD Try.prog (Instr.loadAt 9 v28) (World.drew w2) fun v29 =>
  CALL Try.prog (pan R) gram_Builder_Non.id #[v27, v29] (World.drew w2) fun v30 w31 =>
  b1_5 R x0 v1 v30 w31

def b1 (R : Ending → World → Prop) (x0 x1 x2 : Value) (w : World) (_r : Tok R := tok R) : Prop :=
  RUN Try.prog (pan R) (Instr.box 71 x1) w fun v1 w2 =>
  SPL x2
  (b1_3 R x0 v1 w2)
  (b1_6 R x0 v1 w2)
abbrev q1 (R : Ending → World → Prop) : Exit → Env → World → Prop := QX (fun ρ w => R (.returned (ρ 6)) w) (fun ρ w => R (.returned (ρ 6)) w) []
theorem b1_eq (R : Ending → World → Prop) (ρ : Env) (w : World) : (b1 R (ρ 0) (ρ 1) (ρ 2) w) = codeP Try.prog (pan R) code (q1 R) ρ w := by kernel_rfl
theorem b1_ok (R : Ending → World → Prop) (ρ : Env) (w : World) (h : b1 R (ρ 0) (ρ 1) (ρ 2) w) : codeP Try.prog (pan R) code (q1 R) ρ w := (b1_eq R ρ w).mp h
/-- What is owed for a call. -/
def run (R : Ending → World → Prop) (a0 a1 a2 : Value) (w : World) : Prop := b1 R a0 a1 a2 w
theorem calls (R : Ending → World → Prop) (a0 a1 a2 : Value) (w : World) (h : run R a0 a1 a2 w) : Calls Try.prog id #[a0, a1, a2] w R :=
  calls_of_t (f := id) (fn := Try.f57) (c := code) (by kernel_rfl) Try.func57 (by kernel_rfl) (by kernel_rfl) (args := [a0, a1, a2]) (Nat.le_of_ble_eq_true rfl) rfl (b1_ok R (envOf [a0, a1, a2]) w h)
theorem enters : Enters Try.prog id := fun args w => Try.call57 args w
theorem ct {a0 a1 a2 : Value} {w : World} {S : Value → World → Prop} (h : ∀ R : Ending → World → Prop, (∀ v w, S v w → R (.returned v) w) → run R a0 a1 a2 w) : Ct Try.prog id #[a0, a1, a2] w S :=
  Ct.intro enters fun R hR => calls R a0 a1 a2 w (h R hR)
attribute [irreducible] b1_1 b1_2 b1_3 b1_4 b1_5 b1_6 b1 run
attribute [go_sem] b1_1 b1_2 b1_3 b1_4 b1_5 b1_6 b1 run
end law02_both_named

/-! ### (*presage/presagelaw02.both).listed -/
namespace law02_both_listed
noncomputable def code : Code := bodyOf Try.f58
noncomputable abbrev p1 : Code := dropC 4 code
noncomputable abbrev p2 : Code := dropC 1 p1

def b4 (R : Ending → World → Prop) (x9 x20 : Value) (w : World) (_r : Tok R := tok R) : Prop :=
  SPL x9
  (R (.returned x20) w)
  (R (.returned (Go.Value.bool Bool.false)) w)
abbrev q1 (R : Ending → World → Prop) : Exit → Env → World → Prop := QX (fun ρ w => R (.returned (ρ 6)) w) (fun ρ w => R (.returned (ρ 6)) w) []
theorem b4_eq (R : Ending → World → Prop) (ρ : Env) (w : World) : (b4 R (ρ 9) (ρ 20) w) = codeP Try.prog (pan R) (sndC p2) (q1 R) ρ w := by kernel_rfl
theorem b4_ok (R : Ending → World → Prop) (ρ : Env) (w : World) (h : b4 R (ρ 9) (ρ 20) w) : codeP Try.prog (pan R) (sndC p2) (q1 R) ρ w := (b4_eq R ρ w).mp h
noncomputable abbrev p3 : Code := dropC 1 (fstC p2)
noncomputable abbrev p4 : Code := loopC (blkC p3)
def b8_1 (R : Ending → World → Prop) (C7 : Value → World → Prop) (x7 x21 : Value) (w4 : World) (_r : Tok R := tok R) (_C7 : Tok C7 := tok C7) : Prop :=
  RUN Try.prog (pan R) (Instr.indexAt 30 x7 x21) w4 fun v5 w6 =>
  RUNU Try.prog (pan R) (Instr.storeAt 3 v5 (Go.Value.int Go.IntKind.i64 77)) w6 fun w7 =>
  RUN Try.prog (pan R) (bins .add 3 (.tmp 123) (.const (Go.Value.int Go.IntKind.i64 1)) x21 (Go.Value.int Go.IntKind.i64 1)) w7 fun v8 w9 =>
  C7 v8 w9

def b8 (R : Ending → World → Prop) (C7 : Value → World → Prop) (x7 x9 x20 x21 : Value) (w : World) (_r : Tok R := tok R) (_C7 : Tok C7 := tok C7) : Prop :=
  RUN Try.prog (pan R) (Builtin.len_ #[30] 3 #[x7]) w fun v1 w2 =>
  RUN Try.prog (pan R) (bins .lss 3 (.tmp 119) (.tmp 121) x21 v1) w2 fun v3 w4 =>
  SPL v3
  (b8_1 R C7 x7 x21 w4)
  (b4 R x9 x20 w4)
abbrev q2 (R : Ending → World → Prop) (C7 : Value → World → Prop) : Exit → Env → World → Prop := QX (fun ρ w => C7 (ρ 21) w) (fun ρ w => R (.returned (ρ 6)) w) [(2, (fun ρ w => b4 R (ρ 9) (ρ 20) w))]
theorem b8_eq (R : Ending → World → Prop) (C7 : Value → World → Prop) (ρ : Env) (w : World) : (b8 R C7 (ρ 7) (ρ 9) (ρ 20) (ρ 21) w) = codeP Try.prog (pan R) p4 (q2 R C7) ρ w := by kernel_rfl
theorem b8_ok (R : Ending → World → Prop) (C7 : Value → World → Prop) (ρ : Env) (w : World) (h : b8 R C7 (ρ 7) (ρ 9) (ρ 20) (ρ 21) w) : codeP Try.prog (pan R) p4 (q2 R C7) ρ w := (b8_eq R C7 ρ w).mp h

def l7 (R : Ending → World → Prop) (x7 x9 x20 x21 : Value) (w : World) (_r : Tok R := tok R) : Prop :=
  ∃ (J : Value → World → Prop) (μ : Value → World → Nat), J x21 w ∧ ∀ y21 w0, J y21 w0 → b8 R (fun z21 w1 => J z21 w1 ∧ μ z21 w1 < μ y21 w0) x7 x9 x20 y21 w0
abbrev q3 (R : Ending → World → Prop) : Exit → Env → World → Prop := QX (fun ρ w => b4 R (ρ 9) (ρ 20) w) (fun ρ w => R (.returned (ρ 6)) w) [(2, (fun ρ w => b4 R (ρ 9) (ρ 20) w))]
theorem l7_ok (R : Ending → World → Prop) (ρ : Env) (w : World) (h : l7 R (ρ 7) (ρ 9) (ρ 20) (ρ 21) w) : codeP Try.prog (pan R) (blkC p3) (q3 R) ρ w := by
  unfold l7 at h
  obtain ⟨J, μ, h0, hr⟩ := h
  have e : Code.loop (loopC (blkC p3)) = (blkC p3) := by kernel_rfl
  rw [← e]
  refine loopQ (fun ρ' w' => J (ρ' 21) w') (fun ρ' w' => μ (ρ' 21) w') h0 fun ρ' w' hA hI => ?_
  have e7 : ρ' 7 = ρ 7 := Agree.at hA 7 (by kernel_rfl)
  have e9 : ρ' 9 = ρ 9 := Agree.at hA 9 (by kernel_rfl)
  have e20 : ρ' 20 = ρ 20 := Agree.at hA 20 (by kernel_rfl)
  have h1 := hr (ρ' 21) w' hI
  rw [← e7, ← e9, ← e20] at h1
  exact b8_ok R (fun z21 w1 => J z21 w1 ∧ μ z21 w1 < μ (ρ' 21) w') ρ' w' h1
theorem l7_intro (R : Ending → World → Prop) (x7 x9 x20 x21 : Value) (w : World) (J : Value → World → Prop) (μ : Value → World → Nat) (h0 : J x21 w)
    (hr : ∀ y21 w0, J y21 w0 → ∀ C7 : Value → World → Prop, (∀ z21 w1, J z21 w1 → μ z21 w1 < μ y21 w0 → C7 z21 w1) → b8 R C7 x7 x9 x20 y21 w0) : l7 R x7 x9 x20 x21 w := by
  unfold l7
  exact ⟨J, μ, h0, fun y21 w0 hJ => hr y21 w0 hJ _ (fun z21 w1 h1 h2 => ⟨h1, h2⟩)⟩
abbrev q4 (R : Ending → World → Prop) : Exit → Env → World → Prop := QX (fun ρ w => b4 R (ρ 9) (ρ 20) w) (fun ρ w => R (.returned (ρ 6)) w) []
theorem k6_ok (R : Ending → World → Prop) (ρ : Env) (w : World) (h : l7 R (ρ 7) (ρ 9) (ρ 20) (ρ 21) w) : codeP Try.prog (pan R) p3 (q4 R) ρ w := by
  have e : Code.block 1 (blkC p3) = p3 := by kernel_rfl
  rw [← e]
  exact blockQ (l7_ok R ρ w h)

def b5 (R : Ending → World → Prop) (x7 x9 x20 : Value) (w : World) (_r : Tok R := tok R) : Prop :=
  l7 R x7 x9 x20 (Go.Value.int Go.IntKind.i64 0) w
abbrev q5 (R : Ending → World → Prop) : Exit → Env → World → Prop := QX (fun ρ w => l7 R (ρ 7) (ρ 9) (ρ 20) (ρ 21) w) (fun ρ w => R (.returned (ρ 6)) w) []
theorem b5_eq (R : Ending → World → Prop) (ρ : Env) (w : World) : (b5 R (ρ 7) (ρ 9) (ρ 20) w) = codeP Try.prog (pan R) (preC 0 (fstC p2)) (q5 R) ρ w := by kernel_rfl
theorem b5_ok (R : Ending → World → Prop) (ρ : Env) (w : World) (h : b5 R (ρ 7) (ρ 9) (ρ 20) w) : codeP Try.prog (pan R) (fstC p2) (q4 R) ρ w := by
  have e : appC 0 (preC 0 (fstC p2)) (dropC 1 (fstC p2)) = (fstC p2) := by kernel_rfl
  rw [← e]
  exact appQ (fun ρ w => l7 R (ρ 7) (ρ 9) (ρ 20) (ρ 21) w) 0 ((b5_eq R ρ w).mp h) (fun ρ w h => k6_ok R ρ w h)
theorem k3_ok (R : Ending → World → Prop) (ρ : Env) (w : World) (h : b5 R (ρ 7) (ρ 9) (ρ 20) w) : codeP Try.prog (pan R) p2 (q1 R) ρ w := by
  have e : Code.seq (fstC p2) (sndC p2) = p2 := by kernel_rfl
  rw [← e]
  exact seqQ (fun ρ w => b4 R (ρ 9) (ρ 20) w) (b5_ok R ρ w h) (fun ρ w h => b4_ok R ρ w h)

def b2 (R : Ending → World → Prop) (x4 x7 x8 x9 : Value) (w : World) (_r : Tok R := tok R) : Prop :=
  RUN Try.prog (pan R) (Instr.fieldAt 71 x4 2) w fun v1 w2 =>
  RUN Try.prog (pan R) (Instr.loadAt 30 v1) w2 fun v3 w4 =>
  CALL Try.prog (pan R) ref01_Whole.id #[x8, v3] w4 fun v5 w6 =>
  b5 R x7 x9 v5 w6
abbrev q6 (R : Ending → World → Prop) : Exit → Env → World → Prop := QX (fun ρ w => b5 R (ρ 7) (ρ 9) (ρ 20) w) (fun ρ w => R (.returned (ρ 6)) w) []
theorem b2_eq (R : Ending → World → Prop) (ρ : Env) (w : World) : (b2 R (ρ 4) (ρ 7) (ρ 8) (ρ 9) w) = codeP Try.prog (pan R) (preC 0 p1) (q6 R) ρ w := by kernel_rfl
theorem b2_ok (R : Ending → World → Prop) (ρ : Env) (w : World) (h : b2 R (ρ 4) (ρ 7) (ρ 8) (ρ 9) w) : codeP Try.prog (pan R) p1 (q1 R) ρ w := by
  have e : appC 0 (preC 0 p1) (dropC 1 p1) = p1 := by kernel_rfl
  rw [← e]
  exact appQ (fun ρ w => b5 R (ρ 7) (ρ 9) (ρ 20) w) 0 ((b2_eq R ρ w).mp h) (fun ρ w h => k3_ok R ρ w h)
def b1_1 (R : Ending → World → Prop) (v1 v9 v11 v22 v23 v31 : Value) (w32 : World) (_r : Tok R := tok R) : Prop :=
  PUR Try.prog (Instr.extract v31 0) fun v33 =>
  PUR Try.prog (Instr.extract v31 1) fun v34 =>
  RUN Try.prog (pan R) (bins .eql 3 (.tmp 74) (.tmp 75) v22 v33) w32 fun v35 w36 =>
  SPL v35
  (RUN Try.prog (pan R) (bins .eql 22 (.tmp 78) (.tmp 79) v23 v34) w36 fun v37 w38 =>
  b2 R v1 v9 v11 v37 w38)
  (b2 R v1 v9 v11 (Go.Value.bool Bool.false) w36)
def b1_2 (R : Ending → World → Prop) (x0 v1 v9 v11 v20 : Value) (w21 : World) (_r : Tok R := tok R) : Prop :=
  PUR Try.prog (Instr.extract v20 0) fun v22 =>
  PUR Try.prog (Instr.extract v20 1) fun v23 =>
  NILC x0 fun v24 =>
  PUR Try.prog (Instr.fieldAt 68 v24 1) fun v25 =>
  LD Try.prog (Instr.loadAt 63 v25) (World.drew w21) fun v26 =>
  PUR Try.prog (Instr.fieldAt 71 v1 1) fun v27 =>
  LD Try.prog (Instr.loadAt 3 v27) (World.drew w21) fun v28 =>
  PUR Try.prog (Instr.fieldAt 71 v1 2) fun v29 =>
  LD Try.prog (Instr.loadAt 30 v29) (World.drew w21) fun v30 =>
  CALL Try.prog (pan R) ref02_Builder_Level.id #[v26, v28, v30] (World.drew w21) fun v31 w32 =>
  b1_1 R v1 v9 v11 v22 v23 v31 w32
def b1_3 (R : Ending → World → Prop) (x0 v1 v9 v11 : Value) (w14 : World) (_r : Tok R := tok R) : Prop :=
  NILC x0 fun v15 =>
  PUR Try.prog (Instr.fieldAt 68 v15 0) fun v16 =>
  LD Try.prog (Instr.loadAt 24 v16) (World.drew w14) fun v17 =>
  PUR Try.prog (Instr.fieldAt 71 v1 1) fun v18 =>
  LD Try.prog (Instr.loadAt 3 v18) (World.drew w14) fun v19 =>
  CALL Try.prog (pan R) gram_Builder_Level.id #[v17, v19, v9] (World.drew w14) fun v20 w21 =>
  b1_2 R x0 v1 v9 v11 v20 w21
def b1_4 (R : Ending → World → Prop) (v1 v9 v11 v48 v49 v57 : Value) (w58 : World) (_r : Tok R := tok R) : Prop :=
  PUR Try.prog (Instr.extract v57 0) fun v59 =>
  PUR Try.prog (Instr.extract v57 1) fun v60 =>
  RUN Try.prog (pan R) (bins .eql 3 (.tmp 107) (.tmp 108) v48 v59) w58 fun v61 w62 =>
  SPL v61
  (RUN Try.prog (pan R) (bins .eql 22 (.tmp 111) (.tmp 112) v49 v60) w62 fun v63 w64 =>
  b2 R v1 v9 v11 v63 w64)
  (b2 R v1 v9 v11 (Go.Value.bool Bool.false) w62)
def b1_5 (R : Ending → World → Prop) (x0 v1 v9 v11 v46 : Value) (w47 : World) (_r : Tok R := tok R) : Prop :=
  PUR Try.prog (Instr.extract v46 0) fun v48 =>
  PUR Try.prog (Instr.extract v46 1) fun v49 =>
  NILC x0 fun v50 =>
  PUR Try.prog (Instr.fieldAt 68 v50 1) fun v51 =>
  LD Try.prog (Instr.loadAt 63 v51) (World.drew w47) fun v52 =>
  PUR Try.prog (Instr.fieldAt 71 v1 1) fun v53 =>
  LD Try.prog (Instr.loadAt 3 v53) (World.drew w47) fun v54 =>
  PUR Try.prog (Instr.fieldAt 71 v1 2) fun v55 =>
  LD Try.prog (Instr.loadAt 30 v55) (World.drew w47) fun v56 =>
  CALL Try.prog (pan R) ref02_Builder_Rule.id #[v52, v54, v56] (World.drew w47) fun v57 w58 =>
  b1_4 R v1 v9 v11 v48 v49 v57 w58
def b1_6 (R : Ending → World → Prop) (x0 v1 v9 v11 : Value) (w40 : World) (_r : Tok R := tok R) : Prop :=
  NILC x0 fun v41 =>
  PUR Try.prog (Instr.fieldAt 68 v41 0) fun v42 =>
  LD Try.prog (Instr.loadAt 24 v42) (World.drew w40) fun v43 =>
  PUR Try.prog (Instr.fieldAt 71 v1 1) fun v44 =>
  LD Try.prog (Instr.loadAt 3 v44) (World.drew w40) fun v45 =>
  CALL Try.prog (pan R) gram_Builder_Rule.id #[v43, v45, v9] (World.drew w40) fun v46 w47 =>
  b1_5 R x0 v1 v9 v11 v46 w47
def b1_7 (R : Ending → World → Prop) (x0 v1 v9 v11 v70 : Value) (w71 : World) (_r : Tok R := tok R) : Prop :=
  NILC x0 fun v72 =>
  PUR Try.prog (Instr.fieldAt 68 v72 1) fun v73 =>
  LD Try.prog (Instr.loadAt 63 v73) (World.drew w71) fun v74 =>
  PUR Try.prog (Instr.fieldAt 71 v1 1) fun v75 =>
  LD Try.prog (Instr.loadAt 3 v75) (World.drew w71) fun v76 =>
  PUR Try.prog (Instr.fieldAt 71 v1 2) fun v77 =>
  LD Try.prog (Instr.loadAt 30 v77) (World.drew w71) fun v78 =>
  CALL Try.prog (pan R) ref02_Builder_Grade.id #[v74, v76, v78] (World.drew w71) fun v79 w80 =>
  RUN Try.prog (pan R) (bins .eql 22 (.tmp 46) (.tmp 47) v70 v79) w80 fun v81 w82 =>
  b2 R v1 v9 v11 v81 w82
def b1_8 (R : Ending → World → Prop) (x0 v1 v9 v11 : Value) (w40 : World) (_r : Tok R := tok R) : Prop :=
  NILC x0 fun v65 =>
  PUR Try.prog (Instr.fieldAt 68 v65 0) fun v66 =>
  LD Try.prog (Instr.loadAt 24 v66) (World.drew w40) fun v67 =>
  PUR Try.prog (Instr.fieldAt 71 v1 1) fun v68 =>
  LD Try.prog (Instr.loadAt 3 v68) (World.drew w40) fun v69 =>
  CALL Try.prog (pan R) gram_Builder_Grade.id #[v67, v69, v9] (World.drew w40) fun v70 w71 =>
  b1_7 R x0 v1 v9 v11 v70 w71
def b1_9 (R : Ending → World → Prop) (x0 x2 v1 v7 : Value) (w8 : World) (_r : Tok R := tok R) : Prop :=
  RUN Try.prog (pan R) (Instr.extract v7 0) w8 fun v9 w10 =>
  RUN Try.prog (pan R) (Instr.extract v7 1) w10 fun v11 w12 =>
  RUN Try.prog (pan R) (bins .eql 3 (.tmp 28) (.const (Go.Value.int Go.IntKind.i64 2)) x2 (Go.Value.int Go.IntKind.i64 2)) w12 fun v13 w14 =>
  SPL v13
  (b1_3 R x0 v1 v9 v11 w14)
  (RUN Try.prog (pan R) (bins .eql 3 (.tmp 28) (.const (Go.Value.int Go.IntKind.i64 3)) x2 (Go.Value.int Go.IntKind.i64 3)) w14 fun v39 w40 =>
  SPL v39
  (b1_6 R x0 v1 v9 v11 w40)
  (b1_8 R x0 v1 v9 v11 w40))

def b1 (R : Ending → World → Prop) (x0 x1 x2 : Value) (w : World) (_r : Tok R := tok R) : Prop :=
  RUN Try.prog (pan R) (Instr.box 71 x1) w fun v1 w2 =>
  RUN Try.prog (pan R) (Instr.fieldAt 71 v1 2) w2 fun v3 w4 =>
  RUN Try.prog (pan R) (Instr.loadAt 30 v3) w4 fun v5 w6 =>
  CALL Try.prog (pan R) ref01_Lent.id #[v5] w6 fun v7 w8 =>
  b1_9 R x0 x2 v1 v7 w8
abbrev q7 (R : Ending → World → Prop) : Exit → Env → World → Prop := QX (fun ρ w => b2 R (ρ 4) (ρ 7) (ρ 8) (ρ 9) w) (fun ρ w => R (.returned (ρ 6)) w) []
theorem b1_eq (R : Ending → World → Prop) (ρ : Env) (w : World) : (b1 R (ρ 0) (ρ 1) (ρ 2) w) = codeP Try.prog (pan R) (preC 3 code) (q7 R) ρ w := by kernel_rfl
theorem b1_ok (R : Ending → World → Prop) (ρ : Env) (w : World) (h : b1 R (ρ 0) (ρ 1) (ρ 2) w) : codeP Try.prog (pan R) code (q1 R) ρ w := by
  have e : appC 3 (preC 3 code) (dropC 4 code) = code := by kernel_rfl
  rw [← e]
  exact appQ (fun ρ w => b2 R (ρ 4) (ρ 7) (ρ 8) (ρ 9) w) 3 ((b1_eq R ρ w).mp h) (fun ρ w h => b2_ok R ρ w h)
/-- What is owed for a call. -/
def run (R : Ending → World → Prop) (a0 a1 a2 : Value) (w : World) : Prop := b1 R a0 a1 a2 w
theorem calls (R : Ending → World → Prop) (a0 a1 a2 : Value) (w : World) (h : run R a0 a1 a2 w) : Calls Try.prog id #[a0, a1, a2] w R :=
  calls_of_t (f := id) (fn := Try.f58) (c := code) (by kernel_rfl) Try.func58 (by kernel_rfl) (by kernel_rfl) (args := [a0, a1, a2]) (Nat.le_of_ble_eq_true rfl) rfl (b1_ok R (envOf [a0, a1, a2]) w h)
theorem enters : Enters Try.prog id := fun args w => Try.call58 args w
theorem ct {a0 a1 a2 : Value} {w : World} {S : Value → World → Prop} (h : ∀ R : Ending → World → Prop, (∀ v w, S v w → R (.returned v) w) → run R a0 a1 a2 w) : Ct Try.prog id #[a0, a1, a2] w S :=
  Ct.intro enters fun R hR => calls R a0 a1 a2 w (h R hR)
attribute [irreducible] b4 b8_1 b8 l7 b5 b2 b1_1 b1_2 b1_3 b1_4 b1_5 b1_6 b1_7 b1_8 b1_9 b1 run
attribute [go_sem] b4 b8_1 b8 b5 b2 b1_1 b1_2 b1_3 b1_4 b1_5 b1_6 b1_7 b1_8 b1_9 b1 run
end law02_both_listed
end Go.Proofs.Ytmhebgebfjnfjaa

