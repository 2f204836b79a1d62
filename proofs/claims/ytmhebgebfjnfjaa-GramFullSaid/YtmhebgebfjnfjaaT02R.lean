import Derived.Test.YtmhebgebfjnfjaaT02Ids
/- Shallow programs, written by a program of ours (gen.py) off the translation; each is tied to the code by the kernel. -/
set_option linter.unusedVariables false
set_option maxRecDepth 100000
namespace Go.Proofs.Ytmhebgebfjnfjaa
open Go.Px

/-! ### presage/presageref02.IsTerm -/
namespace ref02_IsTerm
noncomputable def code : Code := bodyOf Try.f90
noncomputable abbrev p1 : Code := dropC 1 code
/- x0 s -/
def b3 (R : Ending → World → Prop) (x0 : Value) (w : World) (_r : Tok R := tok R) : Prop :=
  RUN Try.prog (pan R) (Builtin.len_ #[9] 3 #[x0]) w fun v1 w2 =>
  RUN Try.prog (pan R) (bins .geq 3 (.tmp 27) (.const (Go.Value.int Go.IntKind.i64 1)) v1 (Go.Value.int Go.IntKind.i64 1)) w2 fun v3 w4 =>
  SPL v3
  (RUN Try.prog (pan R) (Builtin.len_ #[9] 3 #[x0]) w4 fun v5 w6 =>
  RUN Try.prog (pan R) (bins .leq 3 (.tmp 31) (.const (Go.Value.int Go.IntKind.i64 16)) v5 (Go.Value.int Go.IntKind.i64 16)) w6 fun v7 w8 =>
  R (.returned v7) w8)
  (R (.returned (Go.Value.bool Bool.false)) w4)
abbrev q1 (R : Ending → World → Prop) : Exit → Env → World → Prop := QX (fun ρ w => R (.returned (ρ 2)) w) (fun ρ w => R (.returned (ρ 2)) w) []
theorem b3_eq (R : Ending → World → Prop) (ρ : Env) (w : World) : (b3 R (ρ 0) w) = codeP Try.prog (pan R) (sndC p1) (q1 R) ρ w := by kernel_rfl
theorem b3_ok (R : Ending → World → Prop) (ρ : Env) (w : World) (h : b3 R (ρ 0) w) : codeP Try.prog (pan R) (sndC p1) (q1 R) ρ w := (b3_eq R ρ w).mp h
noncomputable abbrev p2 : Code := dropC 1 (fstC p1)
noncomputable abbrev p3 : Code := loopC (blkC p2)
noncomputable abbrev p4 : Code := dropC 1 p3
/- x3 i -/
def b9 (R : Ending → World → Prop) (C6 : Value → World → Prop) (x3 : Value) (w : World) (_r : Tok R := tok R) (_C6 : Tok C6 := tok C6) : Prop :=
  RUN Try.prog (pan R) (bins .add 3 (.tmp 8) (.const (Go.Value.int Go.IntKind.i64 1)) x3 (Go.Value.int Go.IntKind.i64 1)) w fun v1 w2 =>
  C6 v1 w2
abbrev q2 (R : Ending → World → Prop) (C6 : Value → World → Prop) : Exit → Env → World → Prop := QX (fun ρ w => C6 (ρ 3) w) (fun ρ w => R (.returned (ρ 2)) w) [(0, (fun ρ w => b3 R (ρ 0) w))]
theorem b9_eq (R : Ending → World → Prop) (C6 : Value → World → Prop) (ρ : Env) (w : World) : (b9 R C6 (ρ 3) w) = codeP Try.prog (pan R) (sndC p4) (q2 R C6) ρ w := by kernel_rfl
theorem b9_ok (R : Ending → World → Prop) (C6 : Value → World → Prop) (ρ : Env) (w : World) (h : b9 R C6 (ρ 3) w) : codeP Try.prog (pan R) (sndC p4) (q2 R C6) ρ w := (b9_eq R C6 ρ w).mp h
noncomputable abbrev p5 : Code := blkC (fstC p4)
noncomputable abbrev p6 : Code := dropC 1 p5
/- x3 i -/
def b12 (R : Ending → World → Prop) (C6 : Value → World → Prop) (x3 x25 : Value) (w : World) (_r : Tok R := tok R) (_C6 : Tok C6 := tok C6) : Prop :=
  SPL x25
  (R (.returned (Go.Value.bool Bool.false)) w)
  (b9 R C6 x3 w)
abbrev q3 (R : Ending → World → Prop) (C6 : Value → World → Prop) : Exit → Env → World → Prop := QX (fun ρ w => b9 R C6 (ρ 3) w) (fun ρ w => R (.returned (ρ 2)) w) [(2, (fun ρ w => b9 R C6 (ρ 3) w)), (0, (fun ρ w => b3 R (ρ 0) w))]
theorem b12_eq (R : Ending → World → Prop) (C6 : Value → World → Prop) (ρ : Env) (w : World) : (b12 R C6 (ρ 3) (ρ 25) w) = codeP Try.prog (pan R) p6 (q3 R C6) ρ w := by kernel_rfl
theorem b12_ok (R : Ending → World → Prop) (C6 : Value → World → Prop) (ρ : Env) (w : World) (h : b12 R C6 (ρ 3) (ρ 25) w) : codeP Try.prog (pan R) p6 (q3 R C6) ρ w := (b12_eq R C6 ρ w).mp h
/- x0 s, x3 i -/
def b11 (R : Ending → World → Prop) (C6 : Value → World → Prop) (x0 x3 : Value) (w : World) (_r : Tok R := tok R) (_C6 : Tok C6 := tok C6) : Prop :=
  RUN Try.prog (pan R) (Instr.index 9 x0 x3) w fun v1 w2 =>
  RUN Try.prog (pan R) (bins .lss 5 (.tmp 12) (.const (Go.Value.int Go.IntKind.u8 32)) v1 (Go.Value.int Go.IntKind.u8 32)) w2 fun v3 w4 =>
  SPL v3
  (b12 R C6 x3 (Go.Value.bool Bool.true) w4)
  (RUN Try.prog (pan R) (Instr.index 9 x0 x3) w4 fun v5 w6 =>
  RUN Try.prog (pan R) (bins .gtr 5 (.tmp 17) (.const (Go.Value.int Go.IntKind.u8 126)) v5 (Go.Value.int Go.IntKind.u8 126)) w6 fun v7 w8 =>
  SPL v7
  (b12 R C6 x3 (Go.Value.bool Bool.true) w8)
  (RUN Try.prog (pan R) (Instr.index 9 x0 x3) w8 fun v9 w10 =>
  RUN Try.prog (pan R) (bins .eql 5 (.tmp 23) (.const (Go.Value.int Go.IntKind.u8 39)) v9 (Go.Value.int Go.IntKind.u8 39)) w10 fun v11 w12 =>
  b12 R C6 x3 v11 w12))
abbrev q4 (R : Ending → World → Prop) (C6 : Value → World → Prop) : Exit → Env → World → Prop := QX (fun ρ w => b12 R C6 (ρ 3) (ρ 25) w) (fun ρ w => R (.returned (ρ 2)) w) [(2, (fun ρ w => b9 R C6 (ρ 3) w)), (0, (fun ρ w => b3 R (ρ 0) w))]
theorem b11_eq (R : Ending → World → Prop) (C6 : Value → World → Prop) (ρ : Env) (w : World) : (b11 R C6 (ρ 0) (ρ 3) w) = codeP Try.prog (pan R) (preC 0 p5) (q4 R C6) ρ w := by kernel_rfl
theorem b11_ok (R : Ending → World → Prop) (C6 : Value → World → Prop) (ρ : Env) (w : World) (h : b11 R C6 (ρ 0) (ρ 3) w) : codeP Try.prog (pan R) p5 (q3 R C6) ρ w := by
  have e : appC 0 (preC 0 p5) (dropC 1 p5) = p5 := by kernel_rfl
  rw [← e]
  exact appQ (fun ρ w => b12 R C6 (ρ 3) (ρ 25) w) 0 ((b11_eq R C6 ρ w).mp h) (fun ρ w h => b12_ok R C6 ρ w h)
abbrev q5 (R : Ending → World → Prop) (C6 : Value → World → Prop) : Exit → Env → World → Prop := QX (fun ρ w => b9 R C6 (ρ 3) w) (fun ρ w => R (.returned (ρ 2)) w) [(0, (fun ρ w => b3 R (ρ 0) w))]
theorem k10_ok (R : Ending → World → Prop) (C6 : Value → World → Prop) (ρ : Env) (w : World) (h : b11 R C6 (ρ 0) (ρ 3) w) : codeP Try.prog (pan R) (fstC p4) (q5 R C6) ρ w := by
  have e : Code.block 1 (blkC (fstC p4)) = (fstC p4) := by kernel_rfl
  rw [← e]
  exact blockQ (b11_ok R C6 ρ w h)
theorem k8_ok (R : Ending → World → Prop) (C6 : Value → World → Prop) (ρ : Env) (w : World) (h : b11 R C6 (ρ 0) (ρ 3) w) : codeP Try.prog (pan R) p4 (q2 R C6) ρ w := by
  have e : Code.seq (fstC p4) (sndC p4) = p4 := by kernel_rfl
  rw [← e]
  exact seqQ (fun ρ w => b9 R C6 (ρ 3) w) (k10_ok R C6 ρ w h) (fun ρ w h => b9_ok R C6 ρ w h)
/- x0 s, x3 i -/
def b7 (R : Ending → World → Prop) (C6 : Value → World → Prop) (x0 x3 : Value) (w : World) (_r : Tok R := tok R) (_C6 : Tok C6 := tok C6) : Prop :=
  RUN Try.prog (pan R) (Builtin.len_ #[9] 3 #[x0]) w fun v1 w2 =>
  RUN Try.prog (pan R) (bins .lss 3 (.tmp 4) (.tmp 6) x3 v1) w2 fun v3 w4 =>
  SPL v3
  (b11 R C6 x0 x3 w4)
  (b3 R x0 w4)
abbrev q6 (R : Ending → World → Prop) (C6 : Value → World → Prop) : Exit → Env → World → Prop := QX (fun ρ w => b11 R C6 (ρ 0) (ρ 3) w) (fun ρ w => R (.returned (ρ 2)) w) [(0, (fun ρ w => b3 R (ρ 0) w))]
theorem b7_eq (R : Ending → World → Prop) (C6 : Value → World → Prop) (ρ : Env) (w : World) : (b7 R C6 (ρ 0) (ρ 3) w) = codeP Try.prog (pan R) (preC 0 p3) (q6 R C6) ρ w := by kernel_rfl
theorem b7_ok (R : Ending → World → Prop) (C6 : Value → World → Prop) (ρ : Env) (w : World) (h : b7 R C6 (ρ 0) (ρ 3) w) : codeP Try.prog (pan R) p3 (q2 R C6) ρ w := by
  have e : appC 0 (preC 0 p3) (dropC 1 p3) = p3 := by kernel_rfl
  rw [← e]
  exact appQ (fun ρ w => b11 R C6 (ρ 0) (ρ 3) w) 0 ((b7_eq R C6 ρ w).mp h) (fun ρ w h => k8_ok R C6 ρ w h)
/- x0 s, x3 i -/
def l6 (R : Ending → World → Prop) (x0 x3 : Value) (w : World) (_r : Tok R := tok R) : Prop :=
  ∃ (J : Value → World → Prop) (μ : Value → World → Nat), J x3 w ∧ ∀ y3 w0, J y3 w0 → b7 R (fun z3 w1 => J z3 w1 ∧ μ z3 w1 < μ y3 w0) x0 y3 w0
abbrev q7 (R : Ending → World → Prop) : Exit → Env → World → Prop := QX (fun ρ w => b3 R (ρ 0) w) (fun ρ w => R (.returned (ρ 2)) w) [(0, (fun ρ w => b3 R (ρ 0) w))]
theorem l6_ok (R : Ending → World → Prop) (ρ : Env) (w : World) (h : l6 R (ρ 0) (ρ 3) w) : codeP Try.prog (pan R) (blkC p2) (q7 R) ρ w := by
  unfold l6 at h
  obtain ⟨J, μ, h0, hr⟩ := h
  have e : Code.loop (loopC (blkC p2)) = (blkC p2) := by kernel_rfl
  rw [← e]
  refine loopQ (fun ρ' w' => J (ρ' 3) w') (fun ρ' w' => μ (ρ' 3) w') h0 fun ρ' w' hA hI => ?_
  have e0 : ρ' 0 = ρ 0 := Agree.at hA 0 (by kernel_rfl)
  have h1 := hr (ρ' 3) w' hI
  rw [← e0] at h1
  exact b7_ok R (fun z3 w1 => J z3 w1 ∧ μ z3 w1 < μ (ρ' 3) w') ρ' w' h1
theorem l6_intro (R : Ending → World → Prop) (x0 x3 : Value) (w : World) (J : Value → World → Prop) (μ : Value → World → Nat) (h0 : J x3 w)
    (hr : ∀ y3 w0, J y3 w0 → ∀ C6 : Value → World → Prop, (∀ z3 w1, J z3 w1 → μ z3 w1 < μ y3 w0 → C6 z3 w1) → b7 R C6 x0 y3 w0) : l6 R x0 x3 w := by
  unfold l6
  exact ⟨J, μ, h0, fun y3 w0 hJ => hr y3 w0 hJ _ (fun z3 w1 h1 h2 => ⟨h1, h2⟩)⟩
abbrev q8 (R : Ending → World → Prop) : Exit → Env → World → Prop := QX (fun ρ w => b3 R (ρ 0) w) (fun ρ w => R (.returned (ρ 2)) w) []
theorem k5_ok (R : Ending → World → Prop) (ρ : Env) (w : World) (h : l6 R (ρ 0) (ρ 3) w) : codeP Try.prog (pan R) p2 (q8 R) ρ w := by
  have e : Code.block 0 (blkC p2) = p2 := by kernel_rfl
  rw [← e]
  exact blockQ (l6_ok R ρ w h)
/- x0 s -/
def b4 (R : Ending → World → Prop) (x0 : Value) (w : World) (_r : Tok R := tok R) : Prop :=
  l6 R x0 (Go.Value.int Go.IntKind.i64 0) w
abbrev q9 (R : Ending → World → Prop) : Exit → Env → World → Prop := QX (fun ρ w => l6 R (ρ 0) (ρ 3) w) (fun ρ w => R (.returned (ρ 2)) w) []
theorem b4_eq (R : Ending → World → Prop) (ρ : Env) (w : World) : (b4 R (ρ 0) w) = codeP Try.prog (pan R) (preC 0 (fstC p1)) (q9 R) ρ w := by kernel_rfl
theorem b4_ok (R : Ending → World → Prop) (ρ : Env) (w : World) (h : b4 R (ρ 0) w) : codeP Try.prog (pan R) (fstC p1) (q8 R) ρ w := by
  have e : appC 0 (preC 0 (fstC p1)) (dropC 1 (fstC p1)) = (fstC p1) := by kernel_rfl
  rw [← e]
  exact appQ (fun ρ w => l6 R (ρ 0) (ρ 3) w) 0 ((b4_eq R ρ w).mp h) (fun ρ w h => k5_ok R ρ w h)
theorem k2_ok (R : Ending → World → Prop) (ρ : Env) (w : World) (h : b4 R (ρ 0) w) : codeP Try.prog (pan R) p1 (q1 R) ρ w := by
  have e : Code.seq (fstC p1) (sndC p1) = p1 := by kernel_rfl
  rw [← e]
  exact seqQ (fun ρ w => b3 R (ρ 0) w) (b4_ok R ρ w h) (fun ρ w h => b3_ok R ρ w h)
/- x0 s -/
def b1 (R : Ending → World → Prop) (x0 : Value) (w : World) (_r : Tok R := tok R) : Prop :=
  b4 R x0 w
abbrev q10 (R : Ending → World → Prop) : Exit → Env → World → Prop := QX (fun ρ w => b4 R (ρ 0) w) (fun ρ w => R (.returned (ρ 2)) w) []
theorem b1_eq (R : Ending → World → Prop) (ρ : Env) (w : World) : (b1 R (ρ 0) w) = codeP Try.prog (pan R) (preC 0 code) (q10 R) ρ w := by kernel_rfl
theorem b1_ok (R : Ending → World → Prop) (ρ : Env) (w : World) (h : b1 R (ρ 0) w) : codeP Try.prog (pan R) code (q1 R) ρ w := by
  have e : appC 0 (preC 0 code) (dropC 1 code) = code := by kernel_rfl
  rw [← e]
  exact appQ (fun ρ w => b4 R (ρ 0) w) 0 ((b1_eq R ρ w).mp h) (fun ρ w h => k2_ok R ρ w h)
/-- What is owed for a call. -/
def run (R : Ending → World → Prop) (a0 : Value) (w : World) : Prop := b1 R a0 w
theorem calls (R : Ending → World → Prop) (a0 : Value) (w : World) (h : run R a0 w) : Calls Try.prog id #[a0] w R :=
  calls_of_t (f := id) (fn := Try.f90) (c := code) (by kernel_rfl) Try.func90 (by kernel_rfl) (by kernel_rfl) (args := [a0]) (Nat.le_of_ble_eq_true rfl) rfl (b1_ok R (envOf [a0]) w h)
theorem enters : Enters Try.prog id := fun args w => Try.call90 args w
theorem ct {a0 : Value} {w : World} {S : Value → World → Prop} (h : ∀ R : Ending → World → Prop, (∀ v w, S v w → R (.returned v) w) → run R a0 w) : Ct Try.prog id #[a0] w S :=
  Ct.intro enters fun R hR => calls R a0 w (h R hR)
attribute [irreducible] b3 b9 b12 b11 b7 l6 b4 b1 run
end ref02_IsTerm

/-! ### presage/presageref02.IsName -/
namespace ref02_IsName
noncomputable def code : Code := bodyOf Try.f91
noncomputable abbrev p1 : Code := dropC 1 code

def b3 (R : Ending → World → Prop) (x0 : Value) (w : World) (_r : Tok R := tok R) : Prop :=
  RUN Try.prog (pan R) (Builtin.len_ #[9] 3 #[x0]) w fun v1 w2 =>
  RUN Try.prog (pan R) (bins .geq 3 (.tmp 61) (.const (Go.Value.int Go.IntKind.i64 1)) v1 (Go.Value.int Go.IntKind.i64 1)) w2 fun v3 w4 =>
  SPL v3
  (RUN Try.prog (pan R) (Builtin.len_ #[9] 3 #[x0]) w4 fun v5 w6 =>
  RUN Try.prog (pan R) (bins .leq 3 (.tmp 65) (.const (Go.Value.int Go.IntKind.i64 16)) v5 (Go.Value.int Go.IntKind.i64 16)) w6 fun v7 w8 =>
  R (.returned v7) w8)
  (R (.returned (Go.Value.bool Bool.false)) w4)
abbrev q1 (R : Ending → World → Prop) : Exit → Env → World → Prop := QX (fun ρ w => R (.returned (ρ 2)) w) (fun ρ w => R (.returned (ρ 2)) w) []
theorem b3_eq (R : Ending → World → Prop) (ρ : Env) (w : World) : (b3 R (ρ 0) w) = codeP Try.prog (pan R) (sndC p1) (q1 R) ρ w := by kernel_rfl
theorem b3_ok (R : Ending → World → Prop) (ρ : Env) (w : World) (h : b3 R (ρ 0) w) : codeP Try.prog (pan R) (sndC p1) (q1 R) ρ w := (b3_eq R ρ w).mp h
noncomputable abbrev p2 : Code := dropC 1 (fstC p1)
noncomputable abbrev p3 : Code := loopC (blkC p2)
noncomputable abbrev p4 : Code := dropC 1 p3

def b9 (R : Ending → World → Prop) (C6 : Value → World → Prop) (x3 : Value) (w : World) (_r : Tok R := tok R) (_C6 : Tok C6 := tok C6) : Prop :=
  RUN Try.prog (pan R) (bins .add 3 (.tmp 10) (.const (Go.Value.int Go.IntKind.i64 1)) x3 (Go.Value.int Go.IntKind.i64 1)) w fun v1 w2 =>
  C6 v1 w2
abbrev q2 (R : Ending → World → Prop) (C6 : Value → World → Prop) : Exit → Env → World → Prop := QX (fun ρ w => C6 (ρ 3) w) (fun ρ w => R (.returned (ρ 2)) w) [(0, (fun ρ w => b3 R (ρ 0) w))]
theorem b9_eq (R : Ending → World → Prop) (C6 : Value → World → Prop) (ρ : Env) (w : World) : (b9 R C6 (ρ 3) w) = codeP Try.prog (pan R) (sndC p4) (q2 R C6) ρ w := by kernel_rfl
theorem b9_ok (R : Ending → World → Prop) (C6 : Value → World → Prop) (ρ : Env) (w : World) (h : b9 R C6 (ρ 3) w) : codeP Try.prog (pan R) (sndC p4) (q2 R C6) ρ w := (b9_eq R C6 ρ w).mp h
noncomputable abbrev p5 : Code := blkC (fstC p4)
noncomputable abbrev p6 : Code := dropC 1 p5
noncomputable abbrev p7 : Code := dropC 1 p6
noncomputable abbrev p8 : Code := dropC 1 p7

def b14 (R : Ending → World → Prop) (C6 : Value → World → Prop) (x3 x59 : Value) (w : World) (_r : Tok R := tok R) (_C6 : Tok C6 := tok C6) : Prop :=
  SPL x59
  (R (.returned (Go.Value.bool Bool.false)) w)
  (b9 R C6 x3 w)
abbrev q3 (R : Ending → World → Prop) (C6 : Value → World → Prop) : Exit → Env → World → Prop := QX (fun ρ w => b9 R C6 (ρ 3) w) (fun ρ w => R (.returned (ρ 2)) w) [(2, (fun ρ w => b9 R C6 (ρ 3) w)), (0, (fun ρ w => b3 R (ρ 0) w))]
theorem b14_eq (R : Ending → World → Prop) (C6 : Value → World → Prop) (ρ : Env) (w : World) : (b14 R C6 (ρ 3) (ρ 59) w) = codeP Try.prog (pan R) p8 (q3 R C6) ρ w := by kernel_rfl
theorem b14_ok (R : Ending → World → Prop) (C6 : Value → World → Prop) (ρ : Env) (w : World) (h : b14 R C6 (ρ 3) (ρ 59) w) : codeP Try.prog (pan R) p8 (q3 R C6) ρ w := (b14_eq R C6 ρ w).mp h

def b13 (R : Ending → World → Prop) (C6 : Value → World → Prop) (x3 x4 x5 : Value) (w : World) (_r : Tok R := tok R) (_C6 : Tok C6 := tok C6) : Prop :=
  RUN Try.prog (pan R) (Op.unary .not x4) w fun v1 w2 =>
  SPL v1
  (RUN Try.prog (pan R) (Op.unary .not x5) w2 fun v3 w4 =>
  b14 R C6 x3 v3 w4)
  (b14 R C6 x3 (Go.Value.bool Bool.false) w2)
abbrev q4 (R : Ending → World → Prop) (C6 : Value → World → Prop) : Exit → Env → World → Prop := QX (fun ρ w => b14 R C6 (ρ 3) (ρ 59) w) (fun ρ w => R (.returned (ρ 2)) w) [(2, (fun ρ w => b9 R C6 (ρ 3) w)), (0, (fun ρ w => b3 R (ρ 0) w))]
theorem b13_eq (R : Ending → World → Prop) (C6 : Value → World → Prop) (ρ : Env) (w : World) : (b13 R C6 (ρ 3) (ρ 4) (ρ 5) w) = codeP Try.prog (pan R) (preC 0 p7) (q4 R C6) ρ w := by kernel_rfl
theorem b13_ok (R : Ending → World → Prop) (C6 : Value → World → Prop) (ρ : Env) (w : World) (h : b13 R C6 (ρ 3) (ρ 4) (ρ 5) w) : codeP Try.prog (pan R) p7 (q3 R C6) ρ w := by
  have e : appC 0 (preC 0 p7) (dropC 1 p7) = p7 := by kernel_rfl
  rw [← e]
  exact appQ (fun ρ w => b14 R C6 (ρ 3) (ρ 59) w) 0 ((b13_eq R C6 ρ w).mp h) (fun ρ w h => b14_ok R C6 ρ w h)

def b12 (R : Ending → World → Prop) (C6 : Value → World → Prop) (x0 x3 x4 : Value) (w : World) (_r : Tok R := tok R) (_C6 : Tok C6 := tok C6) : Prop :=
  RUN Try.prog (pan R) (Instr.index 9 x0 x3) w fun v1 w2 =>
  RUN Try.prog (pan R) (bins .geq 5 (.tmp 42) (.const (Go.Value.int Go.IntKind.u8 48)) v1 (Go.Value.int Go.IntKind.u8 48)) w2 fun v3 w4 =>
  SPL v3
  (RUN Try.prog (pan R) (Instr.index 9 x0 x3) w4 fun v5 w6 =>
  RUN Try.prog (pan R) (bins .leq 5 (.tmp 47) (.const (Go.Value.int Go.IntKind.u8 57)) v5 (Go.Value.int Go.IntKind.u8 57)) w6 fun v7 w8 =>
  SPL v7
  (RUN Try.prog (pan R) (bins .gtr 3 (.tmp 51) (.const (Go.Value.int Go.IntKind.i64 0)) x3 (Go.Value.int Go.IntKind.i64 0)) w8 fun v9 w10 =>
  b13 R C6 x3 x4 v9 w10)
  (b13 R C6 x3 x4 (Go.Value.bool Bool.false) w8))
  (b13 R C6 x3 x4 (Go.Value.bool Bool.false) w4)
abbrev q5 (R : Ending → World → Prop) (C6 : Value → World → Prop) : Exit → Env → World → Prop := QX (fun ρ w => b13 R C6 (ρ 3) (ρ 4) (ρ 5) w) (fun ρ w => R (.returned (ρ 2)) w) [(2, (fun ρ w => b9 R C6 (ρ 3) w)), (0, (fun ρ w => b3 R (ρ 0) w))]
theorem b12_eq (R : Ending → World → Prop) (C6 : Value → World → Prop) (ρ : Env) (w : World) : (b12 R C6 (ρ 0) (ρ 3) (ρ 4) w) = codeP Try.prog (pan R) (preC 0 p6) (q5 R C6) ρ w := by kernel_rfl
theorem b12_ok (R : Ending → World → Prop) (C6 : Value → World → Prop) (ρ : Env) (w : World) (h : b12 R C6 (ρ 0) (ρ 3) (ρ 4) w) : codeP Try.prog (pan R) p6 (q3 R C6) ρ w := by
  have e : appC 0 (preC 0 p6) (dropC 1 p6) = p6 := by kernel_rfl
  rw [← e]
  exact appQ (fun ρ w => b13 R C6 (ρ 3) (ρ 4) (ρ 5) w) 0 ((b12_eq R C6 ρ w).mp h) (fun ρ w h => b13_ok R C6 ρ w h)

def b11 (R : Ending → World → Prop) (C6 : Value → World → Prop) (x0 x3 : Value) (w : World) (_r : Tok R := tok R) (_C6 : Tok C6 := tok C6) : Prop :=
  RUN Try.prog (pan R) (Instr.index 9 x0 x3) w fun v1 w2 =>
  RUN Try.prog (pan R) (bins .geq 5 (.tmp 14) (.const (Go.Value.int Go.IntKind.u8 65)) v1 (Go.Value.int Go.IntKind.u8 65)) w2 fun v3 w4 =>
  SPL v3
  (RUN Try.prog (pan R) (Instr.index 9 x0 x3) w4 fun v5 w6 =>
  RUN Try.prog (pan R) (bins .leq 5 (.tmp 19) (.const (Go.Value.int Go.IntKind.u8 90)) v5 (Go.Value.int Go.IntKind.u8 90)) w6 fun v7 w8 =>
  SPL v7
  (b12 R C6 x0 x3 (Go.Value.bool Bool.true) w8)
  (RUN Try.prog (pan R) (Instr.index 9 x0 x3) w8 fun v9 w10 =>
  RUN Try.prog (pan R) (bins .geq 5 (.tmp 25) (.const (Go.Value.int Go.IntKind.u8 97)) v9 (Go.Value.int Go.IntKind.u8 97)) w10 fun v11 w12 =>
  SPL v11
  (RUN Try.prog (pan R) (Instr.index 9 x0 x3) w12 fun v13 w14 =>
  RUN Try.prog (pan R) (bins .leq 5 (.tmp 30) (.const (Go.Value.int Go.IntKind.u8 122)) v13 (Go.Value.int Go.IntKind.u8 122)) w14 fun v15 w16 =>
  SPL v15
  (b12 R C6 x0 x3 (Go.Value.bool Bool.true) w16)
  (RUN Try.prog (pan R) (Instr.index 9 x0 x3) w16 fun v17 w18 =>
  RUN Try.prog (pan R) (bins .eql 5 (.tmp 37) (.const (Go.Value.int Go.IntKind.u8 95)) v17 (Go.Value.int Go.IntKind.u8 95)) w18 fun v19 w20 =>
  b12 R C6 x0 x3 v19 w20))
  (RUN Try.prog (pan R) (Instr.index 9 x0 x3) w12 fun v21 w22 =>
  RUN Try.prog (pan R) (bins .eql 5 (.tmp 37) (.const (Go.Value.int Go.IntKind.u8 95)) v21 (Go.Value.int Go.IntKind.u8 95)) w22 fun v23 w24 =>
  b12 R C6 x0 x3 v23 w24)))
  (RUN Try.prog (pan R) (Instr.index 9 x0 x3) w4 fun v25 w26 =>
  RUN Try.prog (pan R) (bins .geq 5 (.tmp 25) (.const (Go.Value.int Go.IntKind.u8 97)) v25 (Go.Value.int Go.IntKind.u8 97)) w26 fun v27 w28 =>
  SPL v27
  (RUN Try.prog (pan R) (Instr.index 9 x0 x3) w28 fun v29 w30 =>
  RUN Try.prog (pan R) (bins .leq 5 (.tmp 30) (.const (Go.Value.int Go.IntKind.u8 122)) v29 (Go.Value.int Go.IntKind.u8 122)) w30 fun v31 w32 =>
  SPL v31
  (b12 R C6 x0 x3 (Go.Value.bool Bool.true) w32)
  (RUN Try.prog (pan R) (Instr.index 9 x0 x3) w32 fun v33 w34 =>
  RUN Try.prog (pan R) (bins .eql 5 (.tmp 37) (.const (Go.Value.int Go.IntKind.u8 95)) v33 (Go.Value.int Go.IntKind.u8 95)) w34 fun v35 w36 =>
  b12 R C6 x0 x3 v35 w36))
  (RUN Try.prog (pan R) (Instr.index 9 x0 x3) w28 fun v37 w38 =>
  RUN Try.prog (pan R) (bins .eql 5 (.tmp 37) (.const (Go.Value.int Go.IntKind.u8 95)) v37 (Go.Value.int Go.IntKind.u8 95)) w38 fun v39 w40 =>
  b12 R C6 x0 x3 v39 w40))
abbrev q6 (R : Ending → World → Prop) (C6 : Value → World → Prop) : Exit → Env → World → Prop := QX (fun ρ w => b12 R C6 (ρ 0) (ρ 3) (ρ 4) w) (fun ρ w => R (.returned (ρ 2)) w) [(2, (fun ρ w => b9 R C6 (ρ 3) w)), (0, (fun ρ w => b3 R (ρ 0) w))]
theorem b11_eq (R : Ending → World → Prop) (C6 : Value → World → Prop) (ρ : Env) (w : World) : (b11 R C6 (ρ 0) (ρ 3) w) = codeP Try.prog (pan R) (preC 0 p5) (q6 R C6) ρ w := by kernel_rfl
theorem b11_ok (R : Ending → World → Prop) (C6 : Value → World → Prop) (ρ : Env) (w : World) (h : b11 R C6 (ρ 0) (ρ 3) w) : codeP Try.prog (pan R) p5 (q3 R C6) ρ w := by
  have e : appC 0 (preC 0 p5) (dropC 1 p5) = p5 := by kernel_rfl
  rw [← e]
  exact appQ (fun ρ w => b12 R C6 (ρ 0) (ρ 3) (ρ 4) w) 0 ((b11_eq R C6 ρ w).mp h) (fun ρ w h => b12_ok R C6 ρ w h)
abbrev q7 (R : Ending → World → Prop) (C6 : Value → World → Prop) : Exit → Env → World → Prop := QX (fun ρ w => b9 R C6 (ρ 3) w) (fun ρ w => R (.returned (ρ 2)) w) [(0, (fun ρ w => b3 R (ρ 0) w))]
theorem k10_ok (R : Ending → World → Prop) (C6 : Value → World → Prop) (ρ : Env) (w : World) (h : b11 R C6 (ρ 0) (ρ 3) w) : codeP Try.prog (pan R) (fstC p4) (q7 R C6) ρ w := by
  have e : Code.block 1 (blkC (fstC p4)) = (fstC p4) := by kernel_rfl
  rw [← e]
  exact blockQ (b11_ok R C6 ρ w h)
theorem k8_ok (R : Ending → World → Prop) (C6 : Value → World → Prop) (ρ : Env) (w : World) (h : b11 R C6 (ρ 0) (ρ 3) w) : codeP Try.prog (pan R) p4 (q2 R C6) ρ w := by
  have e : Code.seq (fstC p4) (sndC p4) = p4 := by kernel_rfl
  rw [← e]
  exact seqQ (fun ρ w => b9 R C6 (ρ 3) w) (k10_ok R C6 ρ w h) (fun ρ w h => b9_ok R C6 ρ w h)

def b7 (R : Ending → World → Prop) (C6 : Value → World → Prop) (x0 x3 : Value) (w : World) (_r : Tok R := tok R) (_C6 : Tok C6 := tok C6) : Prop :=
  RUN Try.prog (pan R) (Builtin.len_ #[9] 3 #[x0]) w fun v1 w2 =>
  RUN Try.prog (pan R) (bins .lss 3 (.tmp 6) (.tmp 8) x3 v1) w2 fun v3 w4 =>
  SPL v3
  (b11 R C6 x0 x3 w4)
  (b3 R x0 w4)
abbrev q8 (R : Ending → World → Prop) (C6 : Value → World → Prop) : Exit → Env → World → Prop := QX (fun ρ w => b11 R C6 (ρ 0) (ρ 3) w) (fun ρ w => R (.returned (ρ 2)) w) [(0, (fun ρ w => b3 R (ρ 0) w))]
theorem b7_eq (R : Ending → World → Prop) (C6 : Value → World → Prop) (ρ : Env) (w : World) : (b7 R C6 (ρ 0) (ρ 3) w) = codeP Try.prog (pan R) (preC 0 p3) (q8 R C6) ρ w := by kernel_rfl
theorem b7_ok (R : Ending → World → Prop) (C6 : Value → World → Prop) (ρ : Env) (w : World) (h : b7 R C6 (ρ 0) (ρ 3) w) : codeP Try.prog (pan R) p3 (q2 R C6) ρ w := by
  have e : appC 0 (preC 0 p3) (dropC 1 p3) = p3 := by kernel_rfl
  rw [← e]
  exact appQ (fun ρ w => b11 R C6 (ρ 0) (ρ 3) w) 0 ((b7_eq R C6 ρ w).mp h) (fun ρ w h => k8_ok R C6 ρ w h)

def l6 (R : Ending → World → Prop) (x0 x3 : Value) (w : World) (_r : Tok R := tok R) : Prop :=
  ∃ (J : Value → World → Prop) (μ : Value → World → Nat), J x3 w ∧ ∀ y3 w0, J y3 w0 → b7 R (fun z3 w1 => J z3 w1 ∧ μ z3 w1 < μ y3 w0) x0 y3 w0
abbrev q9 (R : Ending → World → Prop) : Exit → Env → World → Prop := QX (fun ρ w => b3 R (ρ 0) w) (fun ρ w => R (.returned (ρ 2)) w) [(0, (fun ρ w => b3 R (ρ 0) w))]
theorem l6_ok (R : Ending → World → Prop) (ρ : Env) (w : World) (h : l6 R (ρ 0) (ρ 3) w) : codeP Try.prog (pan R) (blkC p2) (q9 R) ρ w := by
  unfold l6 at h
  obtain ⟨J, μ, h0, hr⟩ := h
  have e : Code.loop (loopC (blkC p2)) = (blkC p2) := by kernel_rfl
  rw [← e]
  refine loopQ (fun ρ' w' => J (ρ' 3) w') (fun ρ' w' => μ (ρ' 3) w') h0 fun ρ' w' hA hI => ?_
  have e0 : ρ' 0 = ρ 0 := Agree.at hA 0 (by kernel_rfl)
  have h1 := hr (ρ' 3) w' hI
  rw [← e0] at h1
  exact b7_ok R (fun z3 w1 => J z3 w1 ∧ μ z3 w1 < μ (ρ' 3) w') ρ' w' h1
theorem l6_intro (R : Ending → World → Prop) (x0 x3 : Value) (w : World) (J : Value → World → Prop) (μ : Value → World → Nat) (h0 : J x3 w)
    (hr : ∀ y3 w0, J y3 w0 → ∀ C6 : Value → World → Prop, (∀ z3 w1, J z3 w1 → μ z3 w1 < μ y3 w0 → C6 z3 w1) → b7 R C6 x0 y3 w0) : l6 R x0 x3 w := by
  unfold l6
  exact ⟨J, μ, h0, fun y3 w0 hJ => hr y3 w0 hJ _ (fun z3 w1 h1 h2 => ⟨h1, h2⟩)⟩
abbrev q10 (R : Ending → World → Prop) : Exit → Env → World → Prop := QX (fun ρ w => b3 R (ρ 0) w) (fun ρ w => R (.returned (ρ 2)) w) []
theorem k5_ok (R : Ending → World → Prop) (ρ : Env) (w : World) (h : l6 R (ρ 0) (ρ 3) w) : codeP Try.prog (pan R) p2 (q10 R) ρ w := by
  have e : Code.block 0 (blkC p2) = p2 := by kernel_rfl
  rw [← e]
  exact blockQ (l6_ok R ρ w h)

def b4 (R : Ending → World → Prop) (x0 : Value) (w : World) (_r : Tok R := tok R) : Prop :=
  l6 R x0 (Go.Value.int Go.IntKind.i64 0) w
abbrev q11 (R : Ending → World → Prop) : Exit → Env → World → Prop := QX (fun ρ w => l6 R (ρ 0) (ρ 3) w) (fun ρ w => R (.returned (ρ 2)) w) []
theorem b4_eq (R : Ending → World → Prop) (ρ : Env) (w : World) : (b4 R (ρ 0) w) = codeP Try.prog (pan R) (preC 0 (fstC p1)) (q11 R) ρ w := by kernel_rfl
theorem b4_ok (R : Ending → World → Prop) (ρ : Env) (w : World) (h : b4 R (ρ 0) w) : codeP Try.prog (pan R) (fstC p1) (q10 R) ρ w := by
  have e : appC 0 (preC 0 (fstC p1)) (dropC 1 (fstC p1)) = (fstC p1) := by kernel_rfl
  rw [← e]
  exact appQ (fun ρ w => l6 R (ρ 0) (ρ 3) w) 0 ((b4_eq R ρ w).mp h) (fun ρ w h => k5_ok R ρ w h)
theorem k2_ok (R : Ending → World → Prop) (ρ : Env) (w : World) (h : b4 R (ρ 0) w) : codeP Try.prog (pan R) p1 (q1 R) ρ w := by
  have e : Code.seq (fstC p1) (sndC p1) = p1 := by kernel_rfl
  rw [← e]
  exact seqQ (fun ρ w => b3 R (ρ 0) w) (b4_ok R ρ w h) (fun ρ w h => b3_ok R ρ w h)

def b1 (R : Ending → World → Prop) (x0 : Value) (w : World) (_r : Tok R := tok R) : Prop :=
  b4 R x0 w
abbrev q12 (R : Ending → World → Prop) : Exit → Env → World → Prop := QX (fun ρ w => b4 R (ρ 0) w) (fun ρ w => R (.returned (ρ 2)) w) []
theorem b1_eq (R : Ending → World → Prop) (ρ : Env) (w : World) : (b1 R (ρ 0) w) = codeP Try.prog (pan R) (preC 0 code) (q12 R) ρ w := by kernel_rfl
theorem b1_ok (R : Ending → World → Prop) (ρ : Env) (w : World) (h : b1 R (ρ 0) w) : codeP Try.prog (pan R) code (q1 R) ρ w := by
  have e : appC 0 (preC 0 code) (dropC 1 code) = code := by kernel_rfl
  rw [← e]
  exact appQ (fun ρ w => b4 R (ρ 0) w) 0 ((b1_eq R ρ w).mp h) (fun ρ w h => k2_ok R ρ w h)
/-- What is owed for a call. -/
def run (R : Ending → World → Prop) (a0 : Value) (w : World) : Prop := b1 R a0 w
theorem calls (R : Ending → World → Prop) (a0 : Value) (w : World) (h : run R a0 w) : Calls Try.prog id #[a0] w R :=
  calls_of_t (f := id) (fn := Try.f91) (c := code) (by kernel_rfl) Try.func91 (by kernel_rfl) (by kernel_rfl) (args := [a0]) (Nat.le_of_ble_eq_true rfl) rfl (b1_ok R (envOf [a0]) w h)
theorem enters : Enters Try.prog id := fun args w => Try.call91 args w
theorem ct {a0 : Value} {w : World} {S : Value → World → Prop} (h : ∀ R : Ending → World → Prop, (∀ v w, S v w → R (.returned v) w) → run R a0 w) : Ct Try.prog id #[a0] w S :=
  Ct.intro enters fun R hR => calls R a0 w (h R hR)
attribute [irreducible] b3 b9 b14 b13 b12 b11 b7 l6 b4 b1 run
end ref02_IsName

/-! ### presage/presageref02.SameInts -/
namespace ref02_SameInts
noncomputable def code : Code := bodyOf Try.f50
noncomputable abbrev p1 : Code := dropC 2 code

def b3 (R : Ending → World → Prop) (w : World) (_r : Tok R := tok R) : Prop :=
  R (.returned (Go.Value.bool Bool.true)) w
abbrev q1 (R : Ending → World → Prop) : Exit → Env → World → Prop := QX (fun ρ w => R (.returned (ρ 4)) w) (fun ρ w => R (.returned (ρ 4)) w) []
theorem b3_eq (R : Ending → World → Prop) (ρ : Env) (w : World) : (b3 R w) = codeP Try.prog (pan R) (sndC p1) (q1 R) ρ w := by kernel_rfl
theorem b3_ok (R : Ending → World → Prop) (ρ : Env) (w : World) (h : b3 R w) : codeP Try.prog (pan R) (sndC p1) (q1 R) ρ w := (b3_eq R ρ w).mp h
noncomputable abbrev p2 : Code := dropC 1 (fstC p1)
noncomputable abbrev p3 : Code := loopC (blkC p2)
/- x0 a, x1 b, x5 i -/
def b7 (R : Ending → World → Prop) (C6 : Value → World → Prop) (x0 x1 x5 : Value) (w : World) (_r : Tok R := tok R) (_C6 : Tok C6 := tok C6) : Prop :=
  RUN Try.prog (pan R) (Builtin.len_ #[30] 3 #[x0]) w fun v1 w2 =>
  RUN Try.prog (pan R) (bins .lss 3 (.tmp 11) (.tmp 13) x5 v1) w2 fun v3 w4 =>
  SPL v3
  (PUR Try.prog (Instr.indexAt 30 x0 x5) fun v5 =>
  LD Try.prog (Instr.loadAt 3 v5) (World.drew w4) fun v6 =>
  PUR Try.prog (Instr.indexAt 30 x1 x5) fun v7 =>
  LD Try.prog (Instr.loadAt 3 v7) (World.drew w4) fun v8 =>
  PUR Try.prog (bins .neq 3 (.tmp 20) (.tmp 24) v6 v8) fun v9 =>
  SPL v9
  (R (.returned (Go.Value.bool Bool.false)) (World.drew w4))
  (RUN Try.prog (pan R) (bins .add 3 (.tmp 15) (.const (Go.Value.int Go.IntKind.i64 1)) x5 (Go.Value.int Go.IntKind.i64 1)) (World.drew w4) fun v10 w11 =>
  C6 v10 w11))
  (b3 R w4)
abbrev q2 (R : Ending → World → Prop) (C6 : Value → World → Prop) : Exit → Env → World → Prop := QX (fun ρ w => C6 (ρ 5) w) (fun ρ w => R (.returned (ρ 4)) w) [(0, (fun ρ w => b3 R  w))]
theorem b7_eq (R : Ending → World → Prop) (C6 : Value → World → Prop) (ρ : Env) (w : World) : (b7 R C6 (ρ 0) (ρ 1) (ρ 5) w) = codeP Try.prog (pan R) p3 (q2 R C6) ρ w := by kernel_rfl
theorem b7_ok (R : Ending → World → Prop) (C6 : Value → World → Prop) (ρ : Env) (w : World) (h : b7 R C6 (ρ 0) (ρ 1) (ρ 5) w) : codeP Try.prog (pan R) p3 (q2 R C6) ρ w := (b7_eq R C6 ρ w).mp h
/- x0 a, x1 b, x5 i -/
def l6 (R : Ending → World → Prop) (x0 x1 x5 : Value) (w : World) (_r : Tok R := tok R) : Prop :=
  ∃ (J : Value → World → Prop) (μ : Value → World → Nat), J x5 w ∧ ∀ y5 w0, J y5 w0 → b7 R (fun z5 w1 => J z5 w1 ∧ μ z5 w1 < μ y5 w0) x0 x1 y5 w0
abbrev q3 (R : Ending → World → Prop) : Exit → Env → World → Prop := QX (fun ρ w => b3 R  w) (fun ρ w => R (.returned (ρ 4)) w) [(0, (fun ρ w => b3 R  w))]
theorem l6_ok (R : Ending → World → Prop) (ρ : Env) (w : World) (h : l6 R (ρ 0) (ρ 1) (ρ 5) w) : codeP Try.prog (pan R) (blkC p2) (q3 R) ρ w := by
  unfold l6 at h
  obtain ⟨J, μ, h0, hr⟩ := h
  have e : Code.loop (loopC (blkC p2)) = (blkC p2) := by kernel_rfl
  rw [← e]
  refine loopQ (fun ρ' w' => J (ρ' 5) w') (fun ρ' w' => μ (ρ' 5) w') h0 fun ρ' w' hA hI => ?_
  have e0 : ρ' 0 = ρ 0 := Agree.at hA 0 (by kernel_rfl)
  have e1 : ρ' 1 = ρ 1 := Agree.at hA 1 (by kernel_rfl)
  have h1 := hr (ρ' 5) w' hI
  rw [← e0, ← e1] at h1
  exact b7_ok R (fun z5 w1 => J z5 w1 ∧ μ z5 w1 < μ (ρ' 5) w') ρ' w' h1
theorem l6_intro (R : Ending → World → Prop) (x0 x1 x5 : Value) (w : World) (J : Value → World → Prop) (μ : Value → World → Nat) (h0 : J x5 w)
    (hr : ∀ y5 w0, J y5 w0 → ∀ C6 : Value → World → Prop, (∀ z5 w1, J z5 w1 → μ z5 w1 < μ y5 w0 → C6 z5 w1) → b7 R C6 x0 x1 y5 w0) : l6 R x0 x1 x5 w := by
  unfold l6
  exact ⟨J, μ, h0, fun y5 w0 hJ => hr y5 w0 hJ _ (fun z5 w1 h1 h2 => ⟨h1, h2⟩)⟩
abbrev q4 (R : Ending → World → Prop) : Exit → Env → World → Prop := QX (fun ρ w => b3 R  w) (fun ρ w => R (.returned (ρ 4)) w) []
theorem k5_ok (R : Ending → World → Prop) (ρ : Env) (w : World) (h : l6 R (ρ 0) (ρ 1) (ρ 5) w) : codeP Try.prog (pan R) p2 (q4 R) ρ w := by
  have e : Code.block 0 (blkC p2) = p2 := by kernel_rfl
  rw [← e]
  exact blockQ (l6_ok R ρ w h)
/- x0 a, x1 b -/
def b4 (R : Ending → World → Prop) (x0 x1 : Value) (w : World) (_r : Tok R := tok R) : Prop :=
  l6 R x0 x1 (Go.Value.int Go.IntKind.i64 0) w
abbrev q5 (R : Ending → World → Prop) : Exit → Env → World → Prop := QX (fun ρ w => l6 R (ρ 0) (ρ 1) (ρ 5) w) (fun ρ w => R (.returned (ρ 4)) w) []
theorem b4_eq (R : Ending → World → Prop) (ρ : Env) (w : World) : (b4 R (ρ 0) (ρ 1) w) = codeP Try.prog (pan R) (preC 0 (fstC p1)) (q5 R) ρ w := by kernel_rfl
theorem b4_ok (R : Ending → World → Prop) (ρ : Env) (w : World) (h : b4 R (ρ 0) (ρ 1) w) : codeP Try.prog (pan R) (fstC p1) (q4 R) ρ w := by
  have e : appC 0 (preC 0 (fstC p1)) (dropC 1 (fstC p1)) = (fstC p1) := by kernel_rfl
  rw [← e]
  exact appQ (fun ρ w => l6 R (ρ 0) (ρ 1) (ρ 5) w) 0 ((b4_eq R ρ w).mp h) (fun ρ w h => k5_ok R ρ w h)
theorem k2_ok (R : Ending → World → Prop) (ρ : Env) (w : World) (h : b4 R (ρ 0) (ρ 1) w) : codeP Try.prog (pan R) p1 (q1 R) ρ w := by
  have e : Code.seq (fstC p1) (sndC p1) = p1 := by kernel_rfl
  rw [← e]
  exact seqQ (fun ρ w => b3 R  w) (b4_ok R ρ w h) (fun ρ w h => b3_ok R ρ w h)
/- x0 a, x1 b -/
def b1 (R : Ending → World → Prop) (x0 x1 : Value) (w : World) (_r : Tok R := tok R) : Prop :=
  RUN Try.prog (pan R) (Builtin.len_ #[30] 3 #[x0]) w fun v1 w2 =>
  RUN Try.prog (pan R) (Builtin.len_ #[30] 3 #[x1]) w2 fun v3 w4 =>
  RUN Try.prog (pan R) (bins .neq 3 (.tmp 7) (.tmp 9) v1 v3) w4 fun v5 w6 =>
  SPL v5
  (R (.returned (Go.Value.bool Bool.false)) w6)
  (b4 R x0 x1 w6)
abbrev q6 (R : Ending → World → Prop) : Exit → Env → World → Prop := QX (fun ρ w => b4 R (ρ 0) (ρ 1) w) (fun ρ w => R (.returned (ρ 4)) w) []
theorem b1_eq (R : Ending → World → Prop) (ρ : Env) (w : World) : (b1 R (ρ 0) (ρ 1) w) = codeP Try.prog (pan R) (preC 1 code) (q6 R) ρ w := by kernel_rfl
theorem b1_ok (R : Ending → World → Prop) (ρ : Env) (w : World) (h : b1 R (ρ 0) (ρ 1) w) : codeP Try.prog (pan R) code (q1 R) ρ w := by
  have e : appC 1 (preC 1 code) (dropC 2 code) = code := by kernel_rfl
  rw [← e]
  exact appQ (fun ρ w => b4 R (ρ 0) (ρ 1) w) 1 ((b1_eq R ρ w).mp h) (fun ρ w h => k2_ok R ρ w h)
/-- What is owed for a call. -/
def run (R : Ending → World → Prop) (a0 a1 : Value) (w : World) : Prop := b1 R a0 a1 w
theorem calls (R : Ending → World → Prop) (a0 a1 : Value) (w : World) (h : run R a0 a1 w) : Calls Try.prog id #[a0, a1] w R :=
  calls_of_t (f := id) (fn := Try.f50) (c := code) (by kernel_rfl) Try.func50 (by kernel_rfl) (by kernel_rfl) (args := [a0, a1]) (Nat.le_of_ble_eq_true rfl) rfl (b1_ok R (envOf [a0, a1]) w h)
theorem enters : Enters Try.prog id := fun args w => Try.call50 args w
theorem ct {a0 a1 : Value} {w : World} {S : Value → World → Prop} (h : ∀ R : Ending → World → Prop, (∀ v w, S v w → R (.returned v) w) → run R a0 a1 w) : Ct Try.prog id #[a0, a1] w S :=
  Ct.intro enters fun R hR => calls R a0 a1 w (h R hR)
attribute [irreducible] b3 b7 l6 b4 b1 run
end ref02_SameInts
end Go.Proofs.Ytmhebgebfjnfjaa
