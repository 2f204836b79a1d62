/- Shallow programs, written by a program of ours (gen.py) off the translation; each is tied to the code by the kernel. -/
import Derived.Test.YtkacbjhiobnbfaaGa
set_option linter.unusedVariables false
set_option maxRecDepth 100000
namespace Go.Proofs.Ytkacbjhiobnbfaa
open Go.Px

/-! ### presage/presageref05.Text -/
namespace ref05_Text
noncomputable def code : Code := bodyOf Try.f17
noncomputable abbrev p1 : Code := dropC 4 code
noncomputable abbrev p2 : Code := dropC 1 p1
noncomputable abbrev p3 : Code := dropC 1 (sndC p2)

def b6 (R : Ending → World → Prop) (x4 : Value) (w : World) (_r : Tok R := tok R) : Prop :=
  RUN Try.prog (pan R) (convert 98 9 x4) w fun v1 w2 =>
  R (.returned (.tuple #[v1, (Go.Value.int Go.IntKind.i64 0)])) w2
abbrev q1 (R : Ending → World → Prop) : Exit → Env → World → Prop := QX (fun ρ w => R (.returned (.tuple #[(ρ 2), (ρ 3)])) w) (fun ρ w => R (.returned (.tuple #[(ρ 2), (ρ 3)])) w) []
theorem b6_eq (R : Ending → World → Prop) (ρ : Env) (w : World) : (b6 R (ρ 4) w) = codeP Try.prog (pan R) (sndC p3) (q1 R) ρ w := by kernel_rfl
theorem b6_ok (R : Ending → World → Prop) (ρ : Env) (w : World) (h : b6 R (ρ 4) w) : codeP Try.prog (pan R) (sndC p3) (q1 R) ρ w := (b6_eq R ρ w).mp h
noncomputable abbrev p4 : Code := dropC 1 (fstC p3)
noncomputable abbrev p5 : Code := loopC (blkC p4)
noncomputable abbrev p6 : Code := dropC 1 p5

def b12 (R : Ending → World → Prop) (C9 : Value → Value → World → Prop) (x4 x7 : Value) (w : World) (_r : Tok R := tok R) (_C9 : Tok C9 := tok C9) : Prop :=
  RUN Try.prog (pan R) (bins .add 3 (.tmp 63) (.const (Go.Value.int Go.IntKind.i64 1)) x7 (Go.Value.int Go.IntKind.i64 1)) w fun v1 w2 =>
  C9 x4 v1 w2
abbrev q2 (R : Ending → World → Prop) (C9 : Value → Value → World → Prop) : Exit → Env → World → Prop := QX (fun ρ w => C9 (ρ 4) (ρ 7) w) (fun ρ w => R (.returned (.tuple #[(ρ 2), (ρ 3)])) w) [(4, (fun ρ w => b6 R (ρ 4) w))]
theorem b12_eq (R : Ending → World → Prop) (C9 : Value → Value → World → Prop) (ρ : Env) (w : World) : (b12 R C9 (ρ 4) (ρ 7) w) = codeP Try.prog (pan R) (sndC p6) (q2 R C9) ρ w := by kernel_rfl
theorem b12_ok (R : Ending → World → Prop) (C9 : Value → Value → World → Prop) (ρ : Env) (w : World) (h : b12 R C9 (ρ 4) (ρ 7) w) : codeP Try.prog (pan R) (sndC p6) (q2 R C9) ρ w := (b12_eq R C9 ρ w).mp h
noncomputable abbrev p7 : Code := blkC (fstC p6)
noncomputable abbrev p8 : Code := dropC 4 p7
noncomputable abbrev p9 : Code := sndC (sndC p8)

def b17 (R : Ending → World → Prop) (C9 : Value → Value → World → Prop) (x4 x7 : Value) (w : World) (_r : Tok R := tok R) (_C9 : Tok C9 := tok C9) : Prop :=
  RUN Try.prog (pan R) (Builtin.append_ #[98, 9] 98 #[x4, (Go.Value.string { data := #[32, 59, 10] })]) w fun v1 w2 =>
  RUN Try.prog (pan R) (Builtin.len_ #[98] 3 #[v1]) w2 fun v3 w4 =>
  RUN Try.prog (pan R) (bins .gtr 3 (.tmp 156) (.const (Go.Value.int Go.IntKind.i64 8192)) v3 (Go.Value.int Go.IntKind.i64 8192)) w4 fun v5 w6 =>
  SPL v5
  (R (.returned (.tuple #[(Go.Value.string { data := #[] }), (Go.Value.int Go.IntKind.i64 11)])) w6)
  (b12 R C9 v1 x7 w6)
abbrev q3 (R : Ending → World → Prop) (C9 : Value → Value → World → Prop) : Exit → Env → World → Prop := QX (fun ρ w => b12 R C9 (ρ 4) (ρ 7) w) (fun ρ w => R (.returned (.tuple #[(ρ 2), (ρ 3)])) w) [(6, (fun ρ w => b12 R C9 (ρ 4) (ρ 7) w)), (4, (fun ρ w => b6 R (ρ 4) w))]
theorem b17_eq (R : Ending → World → Prop) (C9 : Value → Value → World → Prop) (ρ : Env) (w : World) : (b17 R C9 (ρ 4) (ρ 7) w) = codeP Try.prog (pan R) p9 (q3 R C9) ρ w := by kernel_rfl
theorem b17_ok (R : Ending → World → Prop) (C9 : Value → Value → World → Prop) (ρ : Env) (w : World) (h : b17 R C9 (ρ 4) (ρ 7) w) : codeP Try.prog (pan R) p9 (q3 R C9) ρ w := (b17_eq R C9 ρ w).mp h
noncomputable abbrev p10 : Code := fstC (sndC p8)
noncomputable abbrev p11 : Code := dropC 1 (blkC p10)

def b21 (R : Ending → World → Prop) (C9 : Value → Value → World → Prop) (x4 x7 : Value) (w : World) (_r : Tok R := tok R) (_C9 : Tok C9 := tok C9) : Prop :=
  b17 R C9 x4 x7 w
abbrev q4 (R : Ending → World → Prop) (C9 : Value → Value → World → Prop) : Exit → Env → World → Prop := QX (fun ρ w => b17 R C9 (ρ 4) (ρ 7) w) (fun ρ w => R (.returned (.tuple #[(ρ 2), (ρ 3)])) w) [(12, (fun ρ w => b17 R C9 (ρ 4) (ρ 7) w)), (6, (fun ρ w => b12 R C9 (ρ 4) (ρ 7) w)), (4, (fun ρ w => b6 R (ρ 4) w))]
theorem b21_eq (R : Ending → World → Prop) (C9 : Value → Value → World → Prop) (ρ : Env) (w : World) : (b21 R C9 (ρ 4) (ρ 7) w) = codeP Try.prog (pan R) (thnC p11) (q4 R C9) ρ w := by kernel_rfl
theorem b21_ok (R : Ending → World → Prop) (C9 : Value → Value → World → Prop) (ρ : Env) (w : World) (h : b21 R C9 (ρ 4) (ρ 7) w) : codeP Try.prog (pan R) (thnC p11) (q4 R C9) ρ w := (b21_eq R C9 ρ w).mp h
noncomputable abbrev p12 : Code := dropC 1 (elsC p11)

def b24 (R : Ending → World → Prop) (C9 : Value → Value → World → Prop) (x4 x7 : Value) (w : World) (_r : Tok R := tok R) (_C9 : Tok C9 := tok C9) : Prop :=
  RUN Try.prog (pan R) (Builtin.append_ #[98, 9] 98 #[x4, (Go.Value.string { data := #[32, 37, 110, 111, 110, 101] })]) w fun v1 w2 =>
  b17 R C9 v1 x7 w2
theorem b24_eq (R : Ending → World → Prop) (C9 : Value → Value → World → Prop) (ρ : Env) (w : World) : (b24 R C9 (ρ 4) (ρ 7) w) = codeP Try.prog (pan R) (thnC p12) (q4 R C9) ρ w := by kernel_rfl
theorem b24_ok (R : Ending → World → Prop) (C9 : Value → Value → World → Prop) (ρ : Env) (w : World) (h : b24 R C9 (ρ 4) (ρ 7) w) : codeP Try.prog (pan R) (thnC p12) (q4 R C9) ρ w := (b24_eq R C9 ρ w).mp h
noncomputable abbrev p13 : Code := dropC 1 (elsC p12)
def b27_1 (R : Ending → World → Prop) (C9 : Value → Value → World → Prop) (x4 x7 v3 : Value) (w4 : World) (_r : Tok R := tok R) (_C9 : Tok C9 := tok C9) : Prop :=
  RUN Try.prog (pan R) (bins .add 9 (.const (Go.Value.string { data := #[32, 37, 112, 114, 101, 99, 32] })) (.tmp 139) (Go.Value.string { data := #[32, 37, 112, 114, 101, 99, 32] }) v3) w4 fun v5 w6 =>
  RUN Try.prog (pan R) (Builtin.append_ #[98, 9] 98 #[x4, v5]) w6 fun v7 w8 =>
  b17 R C9 v7 x7 w8

def b27 (R : Ending → World → Prop) (C9 : Value → Value → World → Prop) (x1 x4 x7 x11 : Value) (w : World) (_r : Tok R := tok R) (_C9 : Tok C9 := tok C9) : Prop :=
  RUN Try.prog (pan R) (Instr.loadAt 27 x1) w fun v1 w2 =>
  CALL Try.prog (pan R) ref05_symbol.id #[v1, x11] w2 fun v3 w4 =>
  b27_1 R C9 x4 x7 v3 w4
theorem b27_eq (R : Ending → World → Prop) (C9 : Value → Value → World → Prop) (ρ : Env) (w : World) : (b27 R C9 (ρ 1) (ρ 4) (ρ 7) (ρ 11) w) = codeP Try.prog (pan R) (sndC p13) (q4 R C9) ρ w := by kernel_rfl
theorem b27_ok (R : Ending → World → Prop) (C9 : Value → Value → World → Prop) (ρ : Env) (w : World) (h : b27 R C9 (ρ 1) (ρ 4) (ρ 7) (ρ 11) w) : codeP Try.prog (pan R) (sndC p13) (q4 R C9) ρ w := (b27_eq R C9 ρ w).mp h
noncomputable abbrev p14 : Code := dropC 1 (fstC p13)
noncomputable abbrev p15 : Code := loopC (blkC p14)
noncomputable abbrev p16 : Code := dropC 2 p15

def b32 (R : Ending → World → Prop) (C9 : Value → Value → World → Prop) (C30 : Value → Value → World → Prop) (x11 x12 : Value) (w : World) (_r : Tok R := tok R) (_C9 : Tok C9 := tok C9) (_C30 : Tok C30 := tok C30) : Prop :=
  RUN Try.prog (pan R) (bins .sub 3 (.tmp 124) (.const (Go.Value.int Go.IntKind.i64 1)) x12 (Go.Value.int Go.IntKind.i64 1)) w fun v1 w2 =>
  C30 x11 v1 w2
abbrev q5 (R : Ending → World → Prop) (C9 : Value → Value → World → Prop) (C30 : Value → Value → World → Prop) : Exit → Env → World → Prop := QX (fun ρ w => C30 (ρ 11) (ρ 12) w) (fun ρ w => R (.returned (.tuple #[(ρ 2), (ρ 3)])) w) [(14, (fun ρ w => b27 R C9 (ρ 1) (ρ 4) (ρ 7) (ρ 11) w)), (12, (fun ρ w => b17 R C9 (ρ 4) (ρ 7) w)), (6, (fun ρ w => b12 R C9 (ρ 4) (ρ 7) w)), (4, (fun ρ w => b6 R (ρ 4) w))]
theorem b32_eq (R : Ending → World → Prop) (C9 : Value → Value → World → Prop) (C30 : Value → Value → World → Prop) (ρ : Env) (w : World) : (b32 R C9 C30 (ρ 11) (ρ 12) w) = codeP Try.prog (pan R) p16 (q5 R C9 C30) ρ w := by kernel_rfl
theorem b32_ok (R : Ending → World → Prop) (C9 : Value → Value → World → Prop) (C30 : Value → Value → World → Prop) (ρ : Env) (w : World) (h : b32 R C9 C30 (ρ 11) (ρ 12) w) : codeP Try.prog (pan R) p16 (q5 R C9 C30) ρ w := (b32_eq R C9 C30 ρ w).mp h
def b31_1 (R : Ending → World → Prop) (C9 : Value → Value → World → Prop) (C30 : Value → Value → World → Prop) (x1 x8 x11 x12 : Value) (w2 : World) (_r : Tok R := tok R) (_C9 : Tok C9 := tok C9) (_C30 : Tok C30 := tok C30) : Prop :=
  PUR Try.prog (Instr.fieldAt 27 x1 0) fun v3 =>
  LD Try.prog (Instr.loadAt 22 v3) (World.drew w2) fun v4 =>
  PUR Try.prog (Instr.indexAt 22 v4 x12) fun v5 =>
  PUR Try.prog (Instr.fieldAt 106 v5 1) fun v6 =>
  LD Try.prog (Instr.loadAt 3 v6) (World.drew w2) fun v7 =>
  PUR Try.prog (Instr.fieldAt 47 x8 2) fun v8 =>
  LD Try.prog (Instr.loadAt 3 v8) (World.drew w2) fun v9 =>
  PUR Try.prog (bins .eql 3 (.tmp 131) (.tmp 133) v7 v9) fun v10 =>
  SPL v10
  (b32 R C9 C30 x12 x12 (World.drew w2))
  (b32 R C9 C30 x11 x12 (World.drew w2))

def b31 (R : Ending → World → Prop) (C9 : Value → Value → World → Prop) (C30 : Value → Value → World → Prop) (x1 x4 x7 x8 x11 x12 : Value) (w : World) (_r : Tok R := tok R) (_C9 : Tok C9 := tok C9) (_C30 : Tok C30 := tok C30) : Prop :=
  RUN Try.prog (pan R) (bins .gtr 3 (.tmp 122) (.const (Go.Value.int Go.IntKind.i64 0)) x12 (Go.Value.int Go.IntKind.i64 0)) w fun v1 w2 =>
  SPL v1
  (b31_1 R C9 C30 x1 x8 x11 x12 w2)
  (b27 R C9 x1 x4 x7 x11 w2)
abbrev q6 (R : Ending → World → Prop) (C9 : Value → Value → World → Prop) (C30 : Value → Value → World → Prop) : Exit → Env → World → Prop := QX (fun ρ w => b32 R C9 C30 (ρ 11) (ρ 12) w) (fun ρ w => R (.returned (.tuple #[(ρ 2), (ρ 3)])) w) [(14, (fun ρ w => b27 R C9 (ρ 1) (ρ 4) (ρ 7) (ρ 11) w)), (12, (fun ρ w => b17 R C9 (ρ 4) (ρ 7) w)), (6, (fun ρ w => b12 R C9 (ρ 4) (ρ 7) w)), (4, (fun ρ w => b6 R (ρ 4) w))]
theorem b31_eq (R : Ending → World → Prop) (C9 : Value → Value → World → Prop) (C30 : Value → Value → World → Prop) (ρ : Env) (w : World) : (b31 R C9 C30 (ρ 1) (ρ 4) (ρ 7) (ρ 8) (ρ 11) (ρ 12) w) = codeP Try.prog (pan R) (preC 1 p15) (q6 R C9 C30) ρ w := by kernel_rfl
theorem b31_ok (R : Ending → World → Prop) (C9 : Value → Value → World → Prop) (C30 : Value → Value → World → Prop) (ρ : Env) (w : World) (h : b31 R C9 C30 (ρ 1) (ρ 4) (ρ 7) (ρ 8) (ρ 11) (ρ 12) w) : codeP Try.prog (pan R) p15 (q5 R C9 C30) ρ w := by
  have e : appC 1 (preC 1 p15) (dropC 2 p15) = p15 := by kernel_rfl
  rw [← e]
  exact appQ (fun ρ w => b32 R C9 C30 (ρ 11) (ρ 12) w) 1 ((b31_eq R C9 C30 ρ w).mp h) (fun ρ w h => b32_ok R C9 C30 ρ w h)

def l30 (R : Ending → World → Prop) (C9 : Value → Value → World → Prop) (x1 x4 x7 x8 x11 x12 : Value) (w : World) (_r : Tok R := tok R) (_C9 : Tok C9 := tok C9) : Prop :=
  ∃ (J : Value → Value → World → Prop) (μ : Value → Value → World → Nat), J x11 x12 w ∧ ∀ y11 y12 w0, J y11 y12 w0 → b31 R C9 (fun z11 z12 w1 => J z11 z12 w1 ∧ μ z11 z12 w1 < μ y11 y12 w0) x1 x4 x7 x8 y11 y12 w0
abbrev q7 (R : Ending → World → Prop) (C9 : Value → Value → World → Prop) : Exit → Env → World → Prop := QX (fun ρ w => b27 R C9 (ρ 1) (ρ 4) (ρ 7) (ρ 11) w) (fun ρ w => R (.returned (.tuple #[(ρ 2), (ρ 3)])) w) [(14, (fun ρ w => b27 R C9 (ρ 1) (ρ 4) (ρ 7) (ρ 11) w)), (12, (fun ρ w => b17 R C9 (ρ 4) (ρ 7) w)), (6, (fun ρ w => b12 R C9 (ρ 4) (ρ 7) w)), (4, (fun ρ w => b6 R (ρ 4) w))]
theorem l30_ok (R : Ending → World → Prop) (C9 : Value → Value → World → Prop) (ρ : Env) (w : World) (h : l30 R C9 (ρ 1) (ρ 4) (ρ 7) (ρ 8) (ρ 11) (ρ 12) w) : codeP Try.prog (pan R) (blkC p14) (q7 R C9) ρ w := by
  unfold l30 at h
  obtain ⟨J, μ, h0, hr⟩ := h
  have e : Code.loop (loopC (blkC p14)) = (blkC p14) := by kernel_rfl
  rw [← e]
  refine loopQ (fun ρ' w' => J (ρ' 11) (ρ' 12) w') (fun ρ' w' => μ (ρ' 11) (ρ' 12) w') h0 fun ρ' w' hA hI => ?_
  have e1 : ρ' 1 = ρ 1 := Agree.at hA 1 (by kernel_rfl)
  have e4 : ρ' 4 = ρ 4 := Agree.at hA 4 (by kernel_rfl)
  have e7 : ρ' 7 = ρ 7 := Agree.at hA 7 (by kernel_rfl)
  have e8 : ρ' 8 = ρ 8 := Agree.at hA 8 (by kernel_rfl)
  have h1 := hr (ρ' 11) (ρ' 12) w' hI
  rw [← e1, ← e4, ← e7, ← e8] at h1
  exact b31_ok R C9 (fun z11 z12 w1 => J z11 z12 w1 ∧ μ z11 z12 w1 < μ (ρ' 11) (ρ' 12) w') ρ' w' h1
theorem l30_intro (R : Ending → World → Prop) (C9 : Value → Value → World → Prop) (x1 x4 x7 x8 x11 x12 : Value) (w : World) (J : Value → Value → World → Prop) (μ : Value → Value → World → Nat) (h0 : J x11 x12 w)
    (hr : ∀ y11 y12 w0, J y11 y12 w0 → ∀ C30 : Value → Value → World → Prop, (∀ z11 z12 w1, J z11 z12 w1 → μ z11 z12 w1 < μ y11 y12 w0 → C30 z11 z12 w1) → b31 R C9 C30 x1 x4 x7 x8 y11 y12 w0) : l30 R C9 x1 x4 x7 x8 x11 x12 w := by
  unfold l30
  exact ⟨J, μ, h0, fun y11 y12 w0 hJ => hr y11 y12 w0 hJ _ (fun z11 z12 w1 h1 h2 => ⟨h1, h2⟩)⟩
abbrev q8 (R : Ending → World → Prop) (C9 : Value → Value → World → Prop) : Exit → Env → World → Prop := QX (fun ρ w => b27 R C9 (ρ 1) (ρ 4) (ρ 7) (ρ 11) w) (fun ρ w => R (.returned (.tuple #[(ρ 2), (ρ 3)])) w) [(12, (fun ρ w => b17 R C9 (ρ 4) (ρ 7) w)), (6, (fun ρ w => b12 R C9 (ρ 4) (ρ 7) w)), (4, (fun ρ w => b6 R (ρ 4) w))]
theorem k29_ok (R : Ending → World → Prop) (C9 : Value → Value → World → Prop) (ρ : Env) (w : World) (h : l30 R C9 (ρ 1) (ρ 4) (ρ 7) (ρ 8) (ρ 11) (ρ 12) w) : codeP Try.prog (pan R) p14 (q8 R C9) ρ w := by
  have e : Code.block 7 (blkC p14) = p14 := by kernel_rfl
  rw [← e]
  exact blockQ (l30_ok R C9 ρ w h)

def b28 (R : Ending → World → Prop) (C9 : Value → Value → World → Prop) (x1 x4 x7 x8 x11 : Value) (w : World) (_r : Tok R := tok R) (_C9 : Tok C9 := tok C9) : Prop :=
  RUN Try.prog (pan R) (Instr.fieldAt 27 x1 0) w fun v1 w2 =>
  RUN Try.prog (pan R) (Instr.loadAt 22 v1) w2 fun v3 w4 =>
  RUN Try.prog (pan R) (Builtin.len_ #[22] 3 #[v3]) w4 fun v5 w6 =>
  RUN Try.prog (pan R) (bins .sub 3 (.tmp 120) (.const (Go.Value.int Go.IntKind.i64 1)) v5 (Go.Value.int Go.IntKind.i64 1)) w6 fun v7 w8 =>
  l30 R C9 x1 x4 x7 x8 x11 v7 w8
abbrev q9 (R : Ending → World → Prop) (C9 : Value → Value → World → Prop) : Exit → Env → World → Prop := QX (fun ρ w => l30 R C9 (ρ 1) (ρ 4) (ρ 7) (ρ 8) (ρ 11) (ρ 12) w) (fun ρ w => R (.returned (.tuple #[(ρ 2), (ρ 3)])) w) [(12, (fun ρ w => b17 R C9 (ρ 4) (ρ 7) w)), (6, (fun ρ w => b12 R C9 (ρ 4) (ρ 7) w)), (4, (fun ρ w => b6 R (ρ 4) w))]
theorem b28_eq (R : Ending → World → Prop) (C9 : Value → Value → World → Prop) (ρ : Env) (w : World) : (b28 R C9 (ρ 1) (ρ 4) (ρ 7) (ρ 8) (ρ 11) w) = codeP Try.prog (pan R) (preC 0 (fstC p13)) (q9 R C9) ρ w := by kernel_rfl
theorem b28_ok (R : Ending → World → Prop) (C9 : Value → Value → World → Prop) (ρ : Env) (w : World) (h : b28 R C9 (ρ 1) (ρ 4) (ρ 7) (ρ 8) (ρ 11) w) : codeP Try.prog (pan R) (fstC p13) (q8 R C9) ρ w := by
  have e : appC 0 (preC 0 (fstC p13)) (dropC 1 (fstC p13)) = (fstC p13) := by kernel_rfl
  rw [← e]
  exact appQ (fun ρ w => l30 R C9 (ρ 1) (ρ 4) (ρ 7) (ρ 8) (ρ 11) (ρ 12) w) 0 ((b28_eq R C9 ρ w).mp h) (fun ρ w h => k29_ok R C9 ρ w h)
theorem k26_ok (R : Ending → World → Prop) (C9 : Value → Value → World → Prop) (ρ : Env) (w : World) (h : b28 R C9 (ρ 1) (ρ 4) (ρ 7) (ρ 8) (ρ 11) w) : codeP Try.prog (pan R) p13 (q4 R C9) ρ w := by
  have e : Code.seq (fstC p13) (sndC p13) = p13 := by kernel_rfl
  rw [← e]
  exact seqQ (fun ρ w => b27 R C9 (ρ 1) (ρ 4) (ρ 7) (ρ 11) w) (b28_ok R C9 ρ w h) (fun ρ w h => b27_ok R C9 ρ w h)

def b25 (R : Ending → World → Prop) (C9 : Value → Value → World → Prop) (x1 x4 x7 x8 : Value) (w : World) (_r : Tok R := tok R) (_C9 : Tok C9 := tok C9) : Prop :=
  b28 R C9 x1 x4 x7 x8 (Go.Value.int Go.IntKind.i64 0) w
abbrev q10 (R : Ending → World → Prop) (C9 : Value → Value → World → Prop) : Exit → Env → World → Prop := QX (fun ρ w => b28 R C9 (ρ 1) (ρ 4) (ρ 7) (ρ 8) (ρ 11) w) (fun ρ w => R (.returned (.tuple #[(ρ 2), (ρ 3)])) w) [(12, (fun ρ w => b17 R C9 (ρ 4) (ρ 7) w)), (6, (fun ρ w => b12 R C9 (ρ 4) (ρ 7) w)), (4, (fun ρ w => b6 R (ρ 4) w))]
theorem b25_eq (R : Ending → World → Prop) (C9 : Value → Value → World → Prop) (ρ : Env) (w : World) : (b25 R C9 (ρ 1) (ρ 4) (ρ 7) (ρ 8) w) = codeP Try.prog (pan R) (preC 0 (elsC p12)) (q10 R C9) ρ w := by kernel_rfl
theorem b25_ok (R : Ending → World → Prop) (C9 : Value → Value → World → Prop) (ρ : Env) (w : World) (h : b25 R C9 (ρ 1) (ρ 4) (ρ 7) (ρ 8) w) : codeP Try.prog (pan R) (elsC p12) (q4 R C9) ρ w := by
  have e : appC 0 (preC 0 (elsC p12)) (dropC 1 (elsC p12)) = (elsC p12) := by kernel_rfl
  rw [← e]
  exact appQ (fun ρ w => b28 R C9 (ρ 1) (ρ 4) (ρ 7) (ρ 8) (ρ 11) w) 0 ((b25_eq R C9 ρ w).mp h) (fun ρ w h => k26_ok R C9 ρ w h)

def b23 (R : Ending → World → Prop) (C9 : Value → Value → World → Prop) (x1 x4 x7 x8 x147 : Value) (w : World) (_r : Tok R := tok R) (_C9 : Tok C9 := tok C9) : Prop :=
  SPL x147 (b24 R C9 x4 x7 w) (b25 R C9 x1 x4 x7 x8 w)
theorem b23_ok (R : Ending → World → Prop) (C9 : Value → Value → World → Prop) (ρ : Env) (w : World) (h : b23 R C9 (ρ 1) (ρ 4) (ρ 7) (ρ 8) (ρ 147) w) : codeP Try.prog (pan R) p12 (q4 R C9) ρ w := by
  have e : Code.cond (.tmp 147) (thnC p12) (elsC p12) = p12 := by kernel_rfl
  rw [← e]
  exact condQ' h (fun h => b24_ok R C9 ρ w h) (fun h => b25_ok R C9 ρ w h)

def b22 (R : Ending → World → Prop) (C9 : Value → Value → World → Prop) (x1 x4 x7 x8 : Value) (w : World) (_r : Tok R := tok R) (_C9 : Tok C9 := tok C9) : Prop :=
  RUN Try.prog (pan R) (Instr.fieldAt 47 x8 2) w fun v1 w2 =>
  RUN Try.prog (pan R) (Instr.loadAt 3 v1) w2 fun v3 w4 =>
  RUN Try.prog (pan R) (bins .eql 3 (.tmp 149) (.const (Go.Value.int Go.IntKind.i64 0)) v3 (Go.Value.int Go.IntKind.i64 0)) w4 fun v5 w6 =>
  b23 R C9 x1 x4 x7 x8 v5 w6
abbrev q11 (R : Ending → World → Prop) (C9 : Value → Value → World → Prop) : Exit → Env → World → Prop := QX (fun ρ w => b23 R C9 (ρ 1) (ρ 4) (ρ 7) (ρ 8) (ρ 147) w) (fun ρ w => R (.returned (.tuple #[(ρ 2), (ρ 3)])) w) [(12, (fun ρ w => b17 R C9 (ρ 4) (ρ 7) w)), (6, (fun ρ w => b12 R C9 (ρ 4) (ρ 7) w)), (4, (fun ρ w => b6 R (ρ 4) w))]
theorem b22_eq (R : Ending → World → Prop) (C9 : Value → Value → World → Prop) (ρ : Env) (w : World) : (b22 R C9 (ρ 1) (ρ 4) (ρ 7) (ρ 8) w) = codeP Try.prog (pan R) (preC 0 (elsC p11)) (q11 R C9) ρ w := by kernel_rfl
theorem b22_ok (R : Ending → World → Prop) (C9 : Value → Value → World → Prop) (ρ : Env) (w : World) (h : b22 R C9 (ρ 1) (ρ 4) (ρ 7) (ρ 8) w) : codeP Try.prog (pan R) (elsC p11) (q4 R C9) ρ w := by
  have e : appC 0 (preC 0 (elsC p11)) (dropC 1 (elsC p11)) = (elsC p11) := by kernel_rfl
  rw [← e]
  exact appQ (fun ρ w => b23 R C9 (ρ 1) (ρ 4) (ρ 7) (ρ 8) (ρ 147) w) 0 ((b22_eq R C9 ρ w).mp h) (fun ρ w h => b23_ok R C9 ρ w h)

def b20 (R : Ending → World → Prop) (C9 : Value → Value → World → Prop) (x1 x4 x7 x8 x142 : Value) (w : World) (_r : Tok R := tok R) (_C9 : Tok C9 := tok C9) : Prop :=
  SPL x142 (b21 R C9 x4 x7 w) (b22 R C9 x1 x4 x7 x8 w)
theorem b20_ok (R : Ending → World → Prop) (C9 : Value → Value → World → Prop) (ρ : Env) (w : World) (h : b20 R C9 (ρ 1) (ρ 4) (ρ 7) (ρ 8) (ρ 142) w) : codeP Try.prog (pan R) p11 (q4 R C9) ρ w := by
  have e : Code.cond (.tmp 142) (thnC p11) (elsC p11) = p11 := by kernel_rfl
  rw [← e]
  exact condQ' h (fun h => b21_ok R C9 ρ w h) (fun h => b22_ok R C9 ρ w h)

def b19 (R : Ending → World → Prop) (C9 : Value → Value → World → Prop) (x1 x4 x7 x8 x9 : Value) (w : World) (_r : Tok R := tok R) (_C9 : Tok C9 := tok C9) : Prop :=
  RUN Try.prog (pan R) (Instr.fieldAt 47 x8 2) w fun v1 w2 =>
  RUN Try.prog (pan R) (Instr.loadAt 3 v1) w2 fun v3 w4 =>
  RUN Try.prog (pan R) (bins .eql 3 (.tmp 144) (.tmp 145) v3 x9) w4 fun v5 w6 =>
  b20 R C9 x1 x4 x7 x8 v5 w6
abbrev q12 (R : Ending → World → Prop) (C9 : Value → Value → World → Prop) : Exit → Env → World → Prop := QX (fun ρ w => b20 R C9 (ρ 1) (ρ 4) (ρ 7) (ρ 8) (ρ 142) w) (fun ρ w => R (.returned (.tuple #[(ρ 2), (ρ 3)])) w) [(12, (fun ρ w => b17 R C9 (ρ 4) (ρ 7) w)), (6, (fun ρ w => b12 R C9 (ρ 4) (ρ 7) w)), (4, (fun ρ w => b6 R (ρ 4) w))]
theorem b19_eq (R : Ending → World → Prop) (C9 : Value → Value → World → Prop) (ρ : Env) (w : World) : (b19 R C9 (ρ 1) (ρ 4) (ρ 7) (ρ 8) (ρ 9) w) = codeP Try.prog (pan R) (preC 0 (blkC p10)) (q12 R C9) ρ w := by kernel_rfl
theorem b19_ok (R : Ending → World → Prop) (C9 : Value → Value → World → Prop) (ρ : Env) (w : World) (h : b19 R C9 (ρ 1) (ρ 4) (ρ 7) (ρ 8) (ρ 9) w) : codeP Try.prog (pan R) (blkC p10) (q4 R C9) ρ w := by
  have e : appC 0 (preC 0 (blkC p10)) (dropC 1 (blkC p10)) = (blkC p10) := by kernel_rfl
  rw [← e]
  exact appQ (fun ρ w => b20 R C9 (ρ 1) (ρ 4) (ρ 7) (ρ 8) (ρ 142) w) 0 ((b19_eq R C9 ρ w).mp h) (fun ρ w h => b20_ok R C9 ρ w h)
abbrev q13 (R : Ending → World → Prop) (C9 : Value → Value → World → Prop) : Exit → Env → World → Prop := QX (fun ρ w => b17 R C9 (ρ 4) (ρ 7) w) (fun ρ w => R (.returned (.tuple #[(ρ 2), (ρ 3)])) w) [(6, (fun ρ w => b12 R C9 (ρ 4) (ρ 7) w)), (4, (fun ρ w => b6 R (ρ 4) w))]
theorem k18_ok (R : Ending → World → Prop) (C9 : Value → Value → World → Prop) (ρ : Env) (w : World) (h : b19 R C9 (ρ 1) (ρ 4) (ρ 7) (ρ 8) (ρ 9) w) : codeP Try.prog (pan R) p10 (q13 R C9) ρ w := by
  have e : Code.block 6 (blkC p10) = p10 := by kernel_rfl
  rw [← e]
  exact blockQ (b19_ok R C9 ρ w h)
theorem k16_ok (R : Ending → World → Prop) (C9 : Value → Value → World → Prop) (ρ : Env) (w : World) (h : b19 R C9 (ρ 1) (ρ 4) (ρ 7) (ρ 8) (ρ 9) w) : codeP Try.prog (pan R) (sndC p8) (q3 R C9) ρ w := by
  have e : Code.seq (fstC (sndC p8)) (sndC (sndC p8)) = (sndC p8) := by kernel_rfl
  rw [← e]
  exact seqQ (fun ρ w => b17 R C9 (ρ 4) (ρ 7) w) (k18_ok R C9 ρ w h) (fun ρ w h => b17_ok R C9 ρ w h)
noncomputable abbrev p17 : Code := dropC 1 (fstC p8)
noncomputable abbrev p18 : Code := loopC (blkC p17)
noncomputable abbrev p19 : Code := dropC 2 p18

def b37 (R : Ending → World → Prop) (C9 : Value → Value → World → Prop) (C35 : Value → Value → Value → World → Prop) (x4 x9 x10 : Value) (w : World) (_r : Tok R := tok R) (_C9 : Tok C9 := tok C9) (_C35 : Tok C35 := tok C35) : Prop :=
  RUN Try.prog (pan R) (bins .add 3 (.tmp 87) (.const (Go.Value.int Go.IntKind.i64 1)) x10 (Go.Value.int Go.IntKind.i64 1)) w fun v1 w2 =>
  C35 x4 x9 v1 w2
abbrev q14 (R : Ending → World → Prop) (C9 : Value → Value → World → Prop) (C35 : Value → Value → Value → World → Prop) : Exit → Env → World → Prop := QX (fun ρ w => C35 (ρ 4) (ρ 9) (ρ 10) w) (fun ρ w => R (.returned (.tuple #[(ρ 2), (ρ 3)])) w) [(8, (fun ρ w => b19 R C9 (ρ 1) (ρ 4) (ρ 7) (ρ 8) (ρ 9) w)), (6, (fun ρ w => b12 R C9 (ρ 4) (ρ 7) w)), (4, (fun ρ w => b6 R (ρ 4) w))]
theorem b37_eq (R : Ending → World → Prop) (C9 : Value → Value → World → Prop) (C35 : Value → Value → Value → World → Prop) (ρ : Env) (w : World) : (b37 R C9 C35 (ρ 4) (ρ 9) (ρ 10) w) = codeP Try.prog (pan R) p19 (q14 R C9 C35) ρ w := by kernel_rfl
theorem b37_ok (R : Ending → World → Prop) (C9 : Value → Value → World → Prop) (C35 : Value → Value → Value → World → Prop) (ρ : Env) (w : World) (h : b37 R C9 C35 (ρ 4) (ρ 9) (ρ 10) w) : codeP Try.prog (pan R) p19 (q14 R C9 C35) ρ w := (b37_eq R C9 C35 ρ w).mp h
def b36_1 (R : Ending → World → Prop) (C9 : Value → Value → World → Prop) (C35 : Value → Value → Value → World → Prop) (x1 x8 x10 v17 : Value) (w18 : World) (_r : Tok R := tok R) (_C9 : Tok C9 := tok C9) (_C35 : Tok C35 := tok C35) : Prop :=
  PUR Try.prog (Instr.fieldAt 27 x1 0) fun v27 =>
  LD Try.prog (Instr.loadAt 22 v27) (World.drew (World.drew w18)) fun v28 =>
  PUR Try.prog (Instr.fieldAt 47 x8 1) fun v29 =>
  LD Try.prog (Instr.loadAt 24 v29) (World.drew (World.drew w18)) fun v30 =>
  PUR Try.prog (Instr.indexAt 24 v30 x10) fun v31 =>
  LD Try.prog (Instr.loadAt 3 v31) (World.drew (World.drew w18)) fun v32 =>
  PUR Try.prog (Instr.indexAt 22 v28 v32) fun v33 =>
  PUR Try.prog (Instr.fieldAt 106 v33 1) fun v34 =>
  LD Try.prog (Instr.loadAt 3 v34) (World.drew (World.drew w18)) fun v35 =>
  b37 R C9 C35 v17 v35 x10 (World.drew (World.drew w18))
def b36_2 (R : Ending → World → Prop) (C9 : Value → Value → World → Prop) (C35 : Value → Value → Value → World → Prop) (x1 x4 x8 x9 x10 v14 : Value) (w15 : World) (_r : Tok R := tok R) (_C9 : Tok C9 := tok C9) (_C35 : Tok C35 := tok C35) : Prop :=
  PUR Try.prog (bins .add 9 (.const (Go.Value.string { data := #[32] })) (.tmp 96) (Go.Value.string { data := #[32] }) v14) fun v16 =>
  RUN Try.prog (pan R) (Builtin.append_ #[98, 9] 98 #[x4, v16]) w15 fun v17 w18 =>
  PUR Try.prog (Instr.fieldAt 47 x8 1) fun v19 =>
  LD Try.prog (Instr.loadAt 24 v19) (World.drew w18) fun v20 =>
  PUR Try.prog (Instr.indexAt 24 v20 x10) fun v21 =>
  LD Try.prog (Instr.loadAt 3 v21) (World.drew w18) fun v22 =>
  PUR Try.prog (Instr.fieldAt 27 x1 0) fun v23 =>
  LD Try.prog (Instr.loadAt 22 v23) (World.drew w18) fun v24 =>
  LD Try.prog (Builtin.len_ #[22] 3 #[v24]) (World.drew w18) fun v25 =>
  PUR Try.prog (bins .lss 3 (.tmp 103) (.tmp 106) v22 v25) fun v26 =>
  SPL v26
  (b36_1 R C9 C35 x1 x8 x10 v17 w18)
  (b37 R C9 C35 v17 x9 x10 (World.drew w18))
def b36_3 (R : Ending → World → Prop) (C9 : Value → Value → World → Prop) (C35 : Value → Value → Value → World → Prop) (x1 x4 x8 x9 x10 : Value) (w8 : World) (_r : Tok R := tok R) (_C9 : Tok C9 := tok C9) (_C35 : Tok C35 := tok C35) : Prop :=
  LD Try.prog (Instr.loadAt 27 x1) (World.drew w8) fun v9 =>
  PUR Try.prog (Instr.fieldAt 47 x8 1) fun v10 =>
  LD Try.prog (Instr.loadAt 24 v10) (World.drew w8) fun v11 =>
  PUR Try.prog (Instr.indexAt 24 v11 x10) fun v12 =>
  LD Try.prog (Instr.loadAt 3 v12) (World.drew w8) fun v13 =>
  CALL Try.prog (pan R) ref05_symbol.id #[v9, v13] (World.drew w8) fun v14 w15 =>
  b36_2 R C9 C35 x1 x4 x8 x9 x10 v14 w15

def b36 (R : Ending → World → Prop) (C9 : Value → Value → World → Prop) (C35 : Value → Value → Value → World → Prop) (x1 x4 x7 x8 x9 x10 : Value) (w : World) (_r : Tok R := tok R) (_C9 : Tok C9 := tok C9) (_C35 : Tok C35 := tok C35) : Prop :=
  RUN Try.prog (pan R) (Instr.fieldAt 47 x8 1) w fun v1 w2 =>
  RUN Try.prog (pan R) (Instr.loadAt 24 v1) w2 fun v3 w4 =>
  RUN Try.prog (pan R) (Builtin.len_ #[24] 3 #[v3]) w4 fun v5 w6 =>
  RUN Try.prog (pan R) (bins .lss 3 (.tmp 82) (.tmp 85) x10 v5) w6 fun v7 w8 =>
  SPL v7
  (b36_3 R C9 C35 x1 x4 x8 x9 x10 w8)
  (b19 R C9 x1 x4 x7 x8 x9 w8)
abbrev q15 (R : Ending → World → Prop) (C9 : Value → Value → World → Prop) (C35 : Value → Value → Value → World → Prop) : Exit → Env → World → Prop := QX (fun ρ w => b37 R C9 C35 (ρ 4) (ρ 9) (ρ 10) w) (fun ρ w => R (.returned (.tuple #[(ρ 2), (ρ 3)])) w) [(8, (fun ρ w => b19 R C9 (ρ 1) (ρ 4) (ρ 7) (ρ 8) (ρ 9) w)), (6, (fun ρ w => b12 R C9 (ρ 4) (ρ 7) w)), (4, (fun ρ w => b6 R (ρ 4) w))]
theorem b36_eq (R : Ending → World → Prop) (C9 : Value → Value → World → Prop) (C35 : Value → Value → Value → World → Prop) (ρ : Env) (w : World) : (b36 R C9 C35 (ρ 1) (ρ 4) (ρ 7) (ρ 8) (ρ 9) (ρ 10) w) = codeP Try.prog (pan R) (preC 1 p18) (q15 R C9 C35) ρ w := by kernel_rfl
theorem b36_ok (R : Ending → World → Prop) (C9 : Value → Value → World → Prop) (C35 : Value → Value → Value → World → Prop) (ρ : Env) (w : World) (h : b36 R C9 C35 (ρ 1) (ρ 4) (ρ 7) (ρ 8) (ρ 9) (ρ 10) w) : codeP Try.prog (pan R) p18 (q14 R C9 C35) ρ w := by
  have e : appC 1 (preC 1 p18) (dropC 2 p18) = p18 := by kernel_rfl
  rw [← e]
  exact appQ (fun ρ w => b37 R C9 C35 (ρ 4) (ρ 9) (ρ 10) w) 1 ((b36_eq R C9 C35 ρ w).mp h) (fun ρ w h => b37_ok R C9 C35 ρ w h)

def l35 (R : Ending → World → Prop) (C9 : Value → Value → World → Prop) (x1 x4 x7 x8 x9 x10 : Value) (w : World) (_r : Tok R := tok R) (_C9 : Tok C9 := tok C9) : Prop :=
  ∃ (J : Value → Value → Value → World → Prop) (μ : Value → Value → Value → World → Nat), J x4 x9 x10 w ∧ ∀ y4 y9 y10 w0, J y4 y9 y10 w0 → b36 R C9 (fun z4 z9 z10 w1 => J z4 z9 z10 w1 ∧ μ z4 z9 z10 w1 < μ y4 y9 y10 w0) x1 y4 x7 x8 y9 y10 w0
abbrev q16 (R : Ending → World → Prop) (C9 : Value → Value → World → Prop) : Exit → Env → World → Prop := QX (fun ρ w => b19 R C9 (ρ 1) (ρ 4) (ρ 7) (ρ 8) (ρ 9) w) (fun ρ w => R (.returned (.tuple #[(ρ 2), (ρ 3)])) w) [(8, (fun ρ w => b19 R C9 (ρ 1) (ρ 4) (ρ 7) (ρ 8) (ρ 9) w)), (6, (fun ρ w => b12 R C9 (ρ 4) (ρ 7) w)), (4, (fun ρ w => b6 R (ρ 4) w))]
theorem l35_ok (R : Ending → World → Prop) (C9 : Value → Value → World → Prop) (ρ : Env) (w : World) (h : l35 R C9 (ρ 1) (ρ 4) (ρ 7) (ρ 8) (ρ 9) (ρ 10) w) : codeP Try.prog (pan R) (blkC p17) (q16 R C9) ρ w := by
  unfold l35 at h
  obtain ⟨J, μ, h0, hr⟩ := h
  have e : Code.loop (loopC (blkC p17)) = (blkC p17) := by kernel_rfl
  rw [← e]
  refine loopQ (fun ρ' w' => J (ρ' 4) (ρ' 9) (ρ' 10) w') (fun ρ' w' => μ (ρ' 4) (ρ' 9) (ρ' 10) w') h0 fun ρ' w' hA hI => ?_
  have e1 : ρ' 1 = ρ 1 := Agree.at hA 1 (by kernel_rfl)
  have e7 : ρ' 7 = ρ 7 := Agree.at hA 7 (by kernel_rfl)
  have e8 : ρ' 8 = ρ 8 := Agree.at hA 8 (by kernel_rfl)
  have h1 := hr (ρ' 4) (ρ' 9) (ρ' 10) w' hI
  rw [← e1, ← e7, ← e8] at h1
  exact b36_ok R C9 (fun z4 z9 z10 w1 => J z4 z9 z10 w1 ∧ μ z4 z9 z10 w1 < μ (ρ' 4) (ρ' 9) (ρ' 10) w') ρ' w' h1
theorem l35_intro (R : Ending → World → Prop) (C9 : Value → Value → World → Prop) (x1 x4 x7 x8 x9 x10 : Value) (w : World) (J : Value → Value → Value → World → Prop) (μ : Value → Value → Value → World → Nat) (h0 : J x4 x9 x10 w)
    (hr : ∀ y4 y9 y10 w0, J y4 y9 y10 w0 → ∀ C35 : Value → Value → Value → World → Prop, (∀ z4 z9 z10 w1, J z4 z9 z10 w1 → μ z4 z9 z10 w1 < μ y4 y9 y10 w0 → C35 z4 z9 z10 w1) → b36 R C9 C35 x1 y4 x7 x8 y9 y10 w0) : l35 R C9 x1 x4 x7 x8 x9 x10 w := by
  unfold l35
  exact ⟨J, μ, h0, fun y4 y9 y10 w0 hJ => hr y4 y9 y10 w0 hJ _ (fun z4 z9 z10 w1 h1 h2 => ⟨h1, h2⟩)⟩
abbrev q17 (R : Ending → World → Prop) (C9 : Value → Value → World → Prop) : Exit → Env → World → Prop := QX (fun ρ w => b19 R C9 (ρ 1) (ρ 4) (ρ 7) (ρ 8) (ρ 9) w) (fun ρ w => R (.returned (.tuple #[(ρ 2), (ρ 3)])) w) [(6, (fun ρ w => b12 R C9 (ρ 4) (ρ 7) w)), (4, (fun ρ w => b6 R (ρ 4) w))]
theorem k34_ok (R : Ending → World → Prop) (C9 : Value → Value → World → Prop) (ρ : Env) (w : World) (h : l35 R C9 (ρ 1) (ρ 4) (ρ 7) (ρ 8) (ρ 9) (ρ 10) w) : codeP Try.prog (pan R) p17 (q17 R C9) ρ w := by
  have e : Code.block 4 (blkC p17) = p17 := by kernel_rfl
  rw [← e]
  exact blockQ (l35_ok R C9 ρ w h)

def b33 (R : Ending → World → Prop) (C9 : Value → Value → World → Prop) (x1 x4 x7 x8 x9 : Value) (w : World) (_r : Tok R := tok R) (_C9 : Tok C9 := tok C9) : Prop :=
  l35 R C9 x1 x4 x7 x8 x9 (Go.Value.int Go.IntKind.i64 0) w
abbrev q18 (R : Ending → World → Prop) (C9 : Value → Value → World → Prop) : Exit → Env → World → Prop := QX (fun ρ w => l35 R C9 (ρ 1) (ρ 4) (ρ 7) (ρ 8) (ρ 9) (ρ 10) w) (fun ρ w => R (.returned (.tuple #[(ρ 2), (ρ 3)])) w) [(6, (fun ρ w => b12 R C9 (ρ 4) (ρ 7) w)), (4, (fun ρ w => b6 R (ρ 4) w))]
theorem b33_eq (R : Ending → World → Prop) (C9 : Value → Value → World → Prop) (ρ : Env) (w : World) : (b33 R C9 (ρ 1) (ρ 4) (ρ 7) (ρ 8) (ρ 9) w) = codeP Try.prog (pan R) (preC 0 (fstC p8)) (q18 R C9) ρ w := by kernel_rfl
theorem b33_ok (R : Ending → World → Prop) (C9 : Value → Value → World → Prop) (ρ : Env) (w : World) (h : b33 R C9 (ρ 1) (ρ 4) (ρ 7) (ρ 8) (ρ 9) w) : codeP Try.prog (pan R) (fstC p8) (q17 R C9) ρ w := by
  have e : appC 0 (preC 0 (fstC p8)) (dropC 1 (fstC p8)) = (fstC p8) := by kernel_rfl
  rw [← e]
  exact appQ (fun ρ w => l35 R C9 (ρ 1) (ρ 4) (ρ 7) (ρ 8) (ρ 9) (ρ 10) w) 0 ((b33_eq R C9 ρ w).mp h) (fun ρ w h => k34_ok R C9 ρ w h)
theorem k15_ok (R : Ending → World → Prop) (C9 : Value → Value → World → Prop) (ρ : Env) (w : World) (h : b33 R C9 (ρ 1) (ρ 4) (ρ 7) (ρ 8) (ρ 9) w) : codeP Try.prog (pan R) p8 (q3 R C9) ρ w := by
  have e : Code.seq (fstC p8) (sndC p8) = p8 := by kernel_rfl
  rw [← e]
  exact seqQ (fun ρ w => b19 R C9 (ρ 1) (ρ 4) (ρ 7) (ρ 8) (ρ 9) w) (b33_ok R C9 ρ w h) (fun ρ w h => k16_ok R C9 ρ w h)
def b14_1 (R : Ending → World → Prop) (C9 : Value → Value → World → Prop) (x1 x4 x7 v9 v28 : Value) (w29 : World) (_r : Tok R := tok R) (_C9 : Tok C9 := tok C9) : Prop :=
  RUN Try.prog (pan R) (bins .add 9 (.tmp 79) (.const (Go.Value.string { data := #[32, 58] })) v28 (Go.Value.string { data := #[32, 58] })) w29 fun v30 w31 =>
  RUN Try.prog (pan R) (Builtin.append_ #[98, 9] 98 #[x4, v30]) w31 fun v32 w33 =>
  b33 R C9 x1 v32 x7 v9 (Go.Value.int Go.IntKind.i64 0) w33
def b14_2 (R : Ending → World → Prop) (C9 : Value → Value → World → Prop) (x1 x4 x7 v9 : Value) (w21 : World) (_r : Tok R := tok R) (_C9 : Tok C9 := tok C9) : Prop :=
  RUN Try.prog (pan R) (Instr.loadAt 27 x1) w21 fun v22 w23 =>
  RUN Try.prog (pan R) (Instr.fieldAt 47 v9 0) w23 fun v24 w25 =>
  RUN Try.prog (pan R) (Instr.loadAt 3 v24) w25 fun v26 w27 =>
  CALL Try.prog (pan R) ref05_symbol.id #[v22, v26] w27 fun v28 w29 =>
  b14_1 R C9 x1 x4 x7 v9 v28 w29

def b14 (R : Ending → World → Prop) (C9 : Value → Value → World → Prop) (x1 x4 x7 : Value) (w : World) (_r : Tok R := tok R) (_C9 : Tok C9 := tok C9) : Prop :=
  RUN Try.prog (pan R) (Instr.fieldAt 27 x1 4) w fun v1 w2 =>
  RUN Try.prog (pan R) (Instr.loadAt 25 v1) w2 fun v3 w4 =>
  RUN Try.prog (pan R) (Instr.indexAt 25 v3 x7) w4 fun v5 w6 =>
  RUN Try.prog (pan R) (Instr.loadAt 47 v5) w6 fun v7 w8 =>
  RUN Try.prog (pan R) (Instr.alloc 47 true (.tuple #[])) w8 fun v9 w10 =>
  RUNU Try.prog (pan R) (Instr.storeAt 47 v9 v7) w10 fun w11 =>
  RUN Try.prog (pan R) (Instr.loadAt 27 x1) w11 fun v12 w13 =>
  RUN Try.prog (pan R) (Instr.fieldAt 47 v9 0) w13 fun v14 w15 =>
  RUN Try.prog (pan R) (Instr.loadAt 3 v14) w15 fun v16 w17 =>
  CALL Try.prog (pan R) ref05_symbol.id #[v12, v16] w17 fun v18 w19 =>
  RUN Try.prog (pan R) (bins .eql 9 (.tmp 73) (.const (Go.Value.string { data := #[36, 115, 116, 97, 114, 116] })) v18 (Go.Value.string { data := #[36, 115, 116, 97, 114, 116] })) w19 fun v20 w21 =>
  SPL v20
  (b12 R C9 x4 x7 w21)
  (b14_2 R C9 x1 x4 x7 v9 w21)
abbrev q19 (R : Ending → World → Prop) (C9 : Value → Value → World → Prop) : Exit → Env → World → Prop := QX (fun ρ w => b33 R C9 (ρ 1) (ρ 4) (ρ 7) (ρ 8) (ρ 9) w) (fun ρ w => R (.returned (.tuple #[(ρ 2), (ρ 3)])) w) [(6, (fun ρ w => b12 R C9 (ρ 4) (ρ 7) w)), (4, (fun ρ w => b6 R (ρ 4) w))]
theorem b14_eq (R : Ending → World → Prop) (C9 : Value → Value → World → Prop) (ρ : Env) (w : World) : (b14 R C9 (ρ 1) (ρ 4) (ρ 7) w) = codeP Try.prog (pan R) (preC 3 p7) (q19 R C9) ρ w := by kernel_rfl
theorem b14_ok (R : Ending → World → Prop) (C9 : Value → Value → World → Prop) (ρ : Env) (w : World) (h : b14 R C9 (ρ 1) (ρ 4) (ρ 7) w) : codeP Try.prog (pan R) p7 (q3 R C9) ρ w := by
  have e : appC 3 (preC 3 p7) (dropC 4 p7) = p7 := by kernel_rfl
  rw [← e]
  exact appQ (fun ρ w => b33 R C9 (ρ 1) (ρ 4) (ρ 7) (ρ 8) (ρ 9) w) 3 ((b14_eq R C9 ρ w).mp h) (fun ρ w h => k15_ok R C9 ρ w h)
abbrev q20 (R : Ending → World → Prop) (C9 : Value → Value → World → Prop) : Exit → Env → World → Prop := QX (fun ρ w => b12 R C9 (ρ 4) (ρ 7) w) (fun ρ w => R (.returned (.tuple #[(ρ 2), (ρ 3)])) w) [(4, (fun ρ w => b6 R (ρ 4) w))]
theorem k13_ok (R : Ending → World → Prop) (C9 : Value → Value → World → Prop) (ρ : Env) (w : World) (h : b14 R C9 (ρ 1) (ρ 4) (ρ 7) w) : codeP Try.prog (pan R) (fstC p6) (q20 R C9) ρ w := by
  have e : Code.block 3 (blkC (fstC p6)) = (fstC p6) := by kernel_rfl
  rw [← e]
  exact blockQ (b14_ok R C9 ρ w h)
theorem k11_ok (R : Ending → World → Prop) (C9 : Value → Value → World → Prop) (ρ : Env) (w : World) (h : b14 R C9 (ρ 1) (ρ 4) (ρ 7) w) : codeP Try.prog (pan R) p6 (q2 R C9) ρ w := by
  have e : Code.seq (fstC p6) (sndC p6) = p6 := by kernel_rfl
  rw [← e]
  exact seqQ (fun ρ w => b12 R C9 (ρ 4) (ρ 7) w) (k13_ok R C9 ρ w h) (fun ρ w h => b12_ok R C9 ρ w h)

def b10 (R : Ending → World → Prop) (C9 : Value → Value → World → Prop) (x1 x4 x7 : Value) (w : World) (_r : Tok R := tok R) (_C9 : Tok C9 := tok C9) : Prop :=
  RUN Try.prog (pan R) (Instr.fieldAt 27 x1 4) w fun v1 w2 =>
  RUN Try.prog (pan R) (Instr.loadAt 25 v1) w2 fun v3 w4 =>
  RUN Try.prog (pan R) (Builtin.len_ #[25] 3 #[v3]) w4 fun v5 w6 =>
  RUN Try.prog (pan R) (bins .lss 3 (.tmp 58) (.tmp 61) x7 v5) w6 fun v7 w8 =>
  SPL v7
  (b14 R C9 x1 x4 x7 w8)
  (b6 R x4 w8)
abbrev q21 (R : Ending → World → Prop) (C9 : Value → Value → World → Prop) : Exit → Env → World → Prop := QX (fun ρ w => b14 R C9 (ρ 1) (ρ 4) (ρ 7) w) (fun ρ w => R (.returned (.tuple #[(ρ 2), (ρ 3)])) w) [(4, (fun ρ w => b6 R (ρ 4) w))]
theorem b10_eq (R : Ending → World → Prop) (C9 : Value → Value → World → Prop) (ρ : Env) (w : World) : (b10 R C9 (ρ 1) (ρ 4) (ρ 7) w) = codeP Try.prog (pan R) (preC 0 p5) (q21 R C9) ρ w := by kernel_rfl
theorem b10_ok (R : Ending → World → Prop) (C9 : Value → Value → World → Prop) (ρ : Env) (w : World) (h : b10 R C9 (ρ 1) (ρ 4) (ρ 7) w) : codeP Try.prog (pan R) p5 (q2 R C9) ρ w := by
  have e : appC 0 (preC 0 p5) (dropC 1 p5) = p5 := by kernel_rfl
  rw [← e]
  exact appQ (fun ρ w => b14 R C9 (ρ 1) (ρ 4) (ρ 7) w) 0 ((b10_eq R C9 ρ w).mp h) (fun ρ w h => k11_ok R C9 ρ w h)

def l9 (R : Ending → World → Prop) (x1 x4 x7 : Value) (w : World) (_r : Tok R := tok R) : Prop :=
  ∃ (J : Value → Value → World → Prop) (μ : Value → Value → World → Nat), J x4 x7 w ∧ ∀ y4 y7 w0, J y4 y7 w0 → b10 R (fun z4 z7 w1 => J z4 z7 w1 ∧ μ z4 z7 w1 < μ y4 y7 w0) x1 y4 y7 w0
abbrev q22 (R : Ending → World → Prop) : Exit → Env → World → Prop := QX (fun ρ w => b6 R (ρ 4) w) (fun ρ w => R (.returned (.tuple #[(ρ 2), (ρ 3)])) w) [(4, (fun ρ w => b6 R (ρ 4) w))]
theorem l9_ok (R : Ending → World → Prop) (ρ : Env) (w : World) (h : l9 R (ρ 1) (ρ 4) (ρ 7) w) : codeP Try.prog (pan R) (blkC p4) (q22 R) ρ w := by
  unfold l9 at h
  obtain ⟨J, μ, h0, hr⟩ := h
  have e : Code.loop (loopC (blkC p4)) = (blkC p4) := by kernel_rfl
  rw [← e]
  refine loopQ (fun ρ' w' => J (ρ' 4) (ρ' 7) w') (fun ρ' w' => μ (ρ' 4) (ρ' 7) w') h0 fun ρ' w' hA hI => ?_
  have e1 : ρ' 1 = ρ 1 := Agree.at hA 1 (by kernel_rfl)
  have h1 := hr (ρ' 4) (ρ' 7) w' hI
  rw [← e1] at h1
  exact b10_ok R (fun z4 z7 w1 => J z4 z7 w1 ∧ μ z4 z7 w1 < μ (ρ' 4) (ρ' 7) w') ρ' w' h1
theorem l9_intro (R : Ending → World → Prop) (x1 x4 x7 : Value) (w : World) (J : Value → Value → World → Prop) (μ : Value → Value → World → Nat) (h0 : J x4 x7 w)
    (hr : ∀ y4 y7 w0, J y4 y7 w0 → ∀ C9 : Value → Value → World → Prop, (∀ z4 z7 w1, J z4 z7 w1 → μ z4 z7 w1 < μ y4 y7 w0 → C9 z4 z7 w1) → b10 R C9 x1 y4 y7 w0) : l9 R x1 x4 x7 w := by
  unfold l9
  exact ⟨J, μ, h0, fun y4 y7 w0 hJ => hr y4 y7 w0 hJ _ (fun z4 z7 w1 h1 h2 => ⟨h1, h2⟩)⟩
abbrev q23 (R : Ending → World → Prop) : Exit → Env → World → Prop := QX (fun ρ w => b6 R (ρ 4) w) (fun ρ w => R (.returned (.tuple #[(ρ 2), (ρ 3)])) w) []
theorem k8_ok (R : Ending → World → Prop) (ρ : Env) (w : World) (h : l9 R (ρ 1) (ρ 4) (ρ 7) w) : codeP Try.prog (pan R) p4 (q23 R) ρ w := by
  have e : Code.block 2 (blkC p4) = p4 := by kernel_rfl
  rw [← e]
  exact blockQ (l9_ok R ρ w h)

def b7 (R : Ending → World → Prop) (x1 x4 : Value) (w : World) (_r : Tok R := tok R) : Prop :=
  l9 R x1 x4 (Go.Value.int Go.IntKind.i64 0) w
abbrev q24 (R : Ending → World → Prop) : Exit → Env → World → Prop := QX (fun ρ w => l9 R (ρ 1) (ρ 4) (ρ 7) w) (fun ρ w => R (.returned (.tuple #[(ρ 2), (ρ 3)])) w) []
theorem b7_eq (R : Ending → World → Prop) (ρ : Env) (w : World) : (b7 R (ρ 1) (ρ 4) w) = codeP Try.prog (pan R) (preC 0 (fstC p3)) (q24 R) ρ w := by kernel_rfl
theorem b7_ok (R : Ending → World → Prop) (ρ : Env) (w : World) (h : b7 R (ρ 1) (ρ 4) w) : codeP Try.prog (pan R) (fstC p3) (q23 R) ρ w := by
  have e : appC 0 (preC 0 (fstC p3)) (dropC 1 (fstC p3)) = (fstC p3) := by kernel_rfl
  rw [← e]
  exact appQ (fun ρ w => l9 R (ρ 1) (ρ 4) (ρ 7) w) 0 ((b7_eq R ρ w).mp h) (fun ρ w h => k8_ok R ρ w h)
theorem k5_ok (R : Ending → World → Prop) (ρ : Env) (w : World) (h : b7 R (ρ 1) (ρ 4) w) : codeP Try.prog (pan R) p3 (q1 R) ρ w := by
  have e : Code.seq (fstC p3) (sndC p3) = p3 := by kernel_rfl
  rw [← e]
  exact seqQ (fun ρ w => b6 R (ρ 4) w) (b7_ok R ρ w h) (fun ρ w h => b6_ok R ρ w h)
def b4_1 (R : Ending → World → Prop) (x1 x4 v7 : Value) (w8 : World) (_r : Tok R := tok R) : Prop :=
  RUN Try.prog (pan R) (bins .add 9 (.const (Go.Value.string { data := #[37, 115, 116, 97, 114, 116, 32] })) (.tmp 54) (Go.Value.string { data := #[37, 115, 116, 97, 114, 116, 32] }) v7) w8 fun v9 w10 =>
  RUN Try.prog (pan R) (bins .add 9 (.tmp 55) (.const (Go.Value.string { data := #[32, 59, 10] })) v9 (Go.Value.string { data := #[32, 59, 10] })) w10 fun v11 w12 =>
  RUN Try.prog (pan R) (Builtin.append_ #[98, 9] 98 #[x4, v11]) w12 fun v13 w14 =>
  b7 R x1 v13 w14

def b4 (R : Ending → World → Prop) (x1 x4 : Value) (w : World) (_r : Tok R := tok R) : Prop :=
  RUN Try.prog (pan R) (Instr.loadAt 27 x1) w fun v1 w2 =>
  RUN Try.prog (pan R) (Instr.fieldAt 27 x1 3) w2 fun v3 w4 =>
  RUN Try.prog (pan R) (Instr.loadAt 3 v3) w4 fun v5 w6 =>
  CALL Try.prog (pan R) ref05_symbol.id #[v1, v5] w6 fun v7 w8 =>
  b4_1 R x1 x4 v7 w8
abbrev q25 (R : Ending → World → Prop) : Exit → Env → World → Prop := QX (fun ρ w => b7 R (ρ 1) (ρ 4) w) (fun ρ w => R (.returned (.tuple #[(ρ 2), (ρ 3)])) w) []
theorem b4_eq (R : Ending → World → Prop) (ρ : Env) (w : World) : (b4 R (ρ 1) (ρ 4) w) = codeP Try.prog (pan R) (preC 0 (sndC p2)) (q25 R) ρ w := by kernel_rfl
theorem b4_ok (R : Ending → World → Prop) (ρ : Env) (w : World) (h : b4 R (ρ 1) (ρ 4) w) : codeP Try.prog (pan R) (sndC p2) (q1 R) ρ w := by
  have e : appC 0 (preC 0 (sndC p2)) (dropC 1 (sndC p2)) = (sndC p2) := by kernel_rfl
  rw [← e]
  exact appQ (fun ρ w => b7 R (ρ 1) (ρ 4) w) 0 ((b4_eq R ρ w).mp h) (fun ρ w h => k5_ok R ρ w h)
noncomputable abbrev p20 : Code := dropC 1 (fstC p2)
noncomputable abbrev p21 : Code := loopC (blkC p20)
def b41_1 (R : Ending → World → Prop) (C40 : Value → Value → World → Prop) (x4 x6 v9 v10 v11 v12 v13 v14 v17 : Value) (w18 : World) (_r : Tok R := tok R) (_C40 : Tok C40 := tok C40) : Prop :=
  Sem.run Try.prog (Instr.loadAt 9 v13) w18 = .ok v14 w18 ∧ (Sem.run Try.prog (Instr.loadAt 3 v11) w18 = .ok v12 w18 ∧ (Sem.run Try.prog (Instr.loadAt 24 v9) w18 = .ok v10 w18 ∧ (PUR Try.prog (bins .add 9 (.tmp 42) (.tmp 46) v14 v17) fun v19 =>
  PUR Try.prog (bins .add 9 (.tmp 47) (.const (Go.Value.string { data := #[32, 59, 10] })) v19 (Go.Value.string { data := #[32, 59, 10] })) fun v20 =>
  RUN Try.prog (pan R) (Builtin.append_ #[98, 9] 98 #[x4, v20]) w18 fun v21 w22 =>
  RUN Try.prog (pan R) (bins .add 3 (.tmp 32) (.const (Go.Value.int Go.IntKind.i64 1)) x6 (Go.Value.int Go.IntKind.i64 1)) w22 fun v23 w24 =>
  C40 v21 v23 w24)))
def b41_2 (R : Ending → World → Prop) (C40 : Value → Value → World → Prop) (x1 x4 x5 x6 : Value) (w8 : World) (_r : Tok R := tok R) (_C40 : Tok C40 := tok C40) : Prop :=
  PUR Try.prog (Instr.fieldAt 27 x1 2) fun v9 =>
  LD Try.prog (Instr.loadAt 24 v9) (World.drew w8) fun v10 =>
  PUR Try.prog (Instr.indexAt 24 v10 x6) fun v11 =>
  LD Try.prog (Instr.loadAt 3 v11) (World.drew w8) fun v12 =>
  PUR Try.prog (Instr.indexAt 23 x5 v12) fun v13 =>
  LD Try.prog (Instr.loadAt 9 v13) (World.drew w8) fun v14 =>
  LD Try.prog (Instr.loadAt 27 x1) (World.drew w8) fun v15 =>
  PUR Try.prog (bins .add 3 (.tmp 44) (.const (Go.Value.int Go.IntKind.i64 1)) x6 (Go.Value.int Go.IntKind.i64 1)) fun v16 =>
  CALL Try.prog (pan R) ref05_terms.id #[v15, v16] (World.drew w8) fun v17 w18 =>
  b41_1 R C40 x4 x6 v9 v10 v11 v12 v13 v14 v17 w18

def b41 (R : Ending → World → Prop) (C40 : Value → Value → World → Prop) (x1 x4 x5 x6 : Value) (w : World) (_r : Tok R := tok R) (_C40 : Tok C40 := tok C40) : Prop :=
  RUN Try.prog (pan R) (Instr.fieldAt 27 x1 2) w fun v1 w2 =>
  RUN Try.prog (pan R) (Instr.loadAt 24 v1) w2 fun v3 w4 =>
  RUN Try.prog (pan R) (Builtin.len_ #[24] 3 #[v3]) w4 fun v5 w6 =>
  RUN Try.prog (pan R) (bins .lss 3 (.tmp 27) (.tmp 30) x6 v5) w6 fun v7 w8 =>
  SPL v7
  (b41_2 R C40 x1 x4 x5 x6 w8)
  (b4 R x1 x4 w8)
abbrev q26 (R : Ending → World → Prop) (C40 : Value → Value → World → Prop) : Exit → Env → World → Prop := QX (fun ρ w => C40 (ρ 4) (ρ 6) w) (fun ρ w => R (.returned (.tuple #[(ρ 2), (ρ 3)])) w) [(0, (fun ρ w => b4 R (ρ 1) (ρ 4) w))]
theorem b41_eq (R : Ending → World → Prop) (C40 : Value → Value → World → Prop) (ρ : Env) (w : World) : (b41 R C40 (ρ 1) (ρ 4) (ρ 5) (ρ 6) w) = codeP Try.prog (pan R) p21 (q26 R C40) ρ w := by kernel_rfl
theorem b41_ok (R : Ending → World → Prop) (C40 : Value → Value → World → Prop) (ρ : Env) (w : World) (h : b41 R C40 (ρ 1) (ρ 4) (ρ 5) (ρ 6) w) : codeP Try.prog (pan R) p21 (q26 R C40) ρ w := (b41_eq R C40 ρ w).mp h

def l40 (R : Ending → World → Prop) (x1 x4 x5 x6 : Value) (w : World) (_r : Tok R := tok R) : Prop :=
  ∃ (J : Value → Value → World → Prop) (μ : Value → Value → World → Nat), J x4 x6 w ∧ ∀ y4 y6 w0, J y4 y6 w0 → b41 R (fun z4 z6 w1 => J z4 z6 w1 ∧ μ z4 z6 w1 < μ y4 y6 w0) x1 y4 x5 y6 w0
abbrev q27 (R : Ending → World → Prop) : Exit → Env → World → Prop := QX (fun ρ w => b4 R (ρ 1) (ρ 4) w) (fun ρ w => R (.returned (.tuple #[(ρ 2), (ρ 3)])) w) [(0, (fun ρ w => b4 R (ρ 1) (ρ 4) w))]
theorem l40_ok (R : Ending → World → Prop) (ρ : Env) (w : World) (h : l40 R (ρ 1) (ρ 4) (ρ 5) (ρ 6) w) : codeP Try.prog (pan R) (blkC p20) (q27 R) ρ w := by
  unfold l40 at h
  obtain ⟨J, μ, h0, hr⟩ := h
  have e : Code.loop (loopC (blkC p20)) = (blkC p20) := by kernel_rfl
  rw [← e]
  refine loopQ (fun ρ' w' => J (ρ' 4) (ρ' 6) w') (fun ρ' w' => μ (ρ' 4) (ρ' 6) w') h0 fun ρ' w' hA hI => ?_
  have e1 : ρ' 1 = ρ 1 := Agree.at hA 1 (by kernel_rfl)
  have e5 : ρ' 5 = ρ 5 := Agree.at hA 5 (by kernel_rfl)
  have h1 := hr (ρ' 4) (ρ' 6) w' hI
  rw [← e1, ← e5] at h1
  exact b41_ok R (fun z4 z6 w1 => J z4 z6 w1 ∧ μ z4 z6 w1 < μ (ρ' 4) (ρ' 6) w') ρ' w' h1
theorem l40_intro (R : Ending → World → Prop) (x1 x4 x5 x6 : Value) (w : World) (J : Value → Value → World → Prop) (μ : Value → Value → World → Nat) (h0 : J x4 x6 w)
    (hr : ∀ y4 y6 w0, J y4 y6 w0 → ∀ C40 : Value → Value → World → Prop, (∀ z4 z6 w1, J z4 z6 w1 → μ z4 z6 w1 < μ y4 y6 w0 → C40 z4 z6 w1) → b41 R C40 x1 y4 x5 y6 w0) : l40 R x1 x4 x5 x6 w := by
  unfold l40
  exact ⟨J, μ, h0, fun y4 y6 w0 hJ => hr y4 y6 w0 hJ _ (fun z4 z6 w1 h1 h2 => ⟨h1, h2⟩)⟩
abbrev q28 (R : Ending → World → Prop) : Exit → Env → World → Prop := QX (fun ρ w => b4 R (ρ 1) (ρ 4) w) (fun ρ w => R (.returned (.tuple #[(ρ 2), (ρ 3)])) w) []
theorem k39_ok (R : Ending → World → Prop) (ρ : Env) (w : World) (h : l40 R (ρ 1) (ρ 4) (ρ 5) (ρ 6) w) : codeP Try.prog (pan R) p20 (q28 R) ρ w := by
  have e : Code.block 0 (blkC p20) = p20 := by kernel_rfl
  rw [← e]
  exact blockQ (l40_ok R ρ w h)

def b38 (R : Ending → World → Prop) (x1 x4 x5 : Value) (w : World) (_r : Tok R := tok R) : Prop :=
  l40 R x1 x4 x5 (Go.Value.int Go.IntKind.i64 0) w
abbrev q29 (R : Ending → World → Prop) : Exit → Env → World → Prop := QX (fun ρ w => l40 R (ρ 1) (ρ 4) (ρ 5) (ρ 6) w) (fun ρ w => R (.returned (.tuple #[(ρ 2), (ρ 3)])) w) []
theorem b38_eq (R : Ending → World → Prop) (ρ : Env) (w : World) : (b38 R (ρ 1) (ρ 4) (ρ 5) w) = codeP Try.prog (pan R) (preC 0 (fstC p2)) (q29 R) ρ w := by kernel_rfl
theorem b38_ok (R : Ending → World → Prop) (ρ : Env) (w : World) (h : b38 R (ρ 1) (ρ 4) (ρ 5) w) : codeP Try.prog (pan R) (fstC p2) (q28 R) ρ w := by
  have e : appC 0 (preC 0 (fstC p2)) (dropC 1 (fstC p2)) = (fstC p2) := by kernel_rfl
  rw [← e]
  exact appQ (fun ρ w => l40 R (ρ 1) (ρ 4) (ρ 5) (ρ 6) w) 0 ((b38_eq R ρ w).mp h) (fun ρ w h => k39_ok R ρ w h)
theorem k3_ok (R : Ending → World → Prop) (ρ : Env) (w : World) (h : b38 R (ρ 1) (ρ 4) (ρ 5) w) : codeP Try.prog (pan R) p2 (q1 R) ρ w := by
  have e : Code.seq (fstC p2) (sndC p2) = p2 := by kernel_rfl
  rw [← e]
  exact seqQ (fun ρ w => b4 R (ρ 1) (ρ 4) w) (b38_ok R ρ w h) (fun ρ w h => b4_ok R ρ w h)

def b2 (R : Ending → World → Prop) (x1 x4 : Value) (w : World) (_r : Tok R := tok R) : Prop :=
  RUN Try.prog (pan R) (Instr.buildSlice 23 4 #[(0, (Go.Value.string { data := #[] })), (1, (Go.Value.string { data := #[37, 108, 101, 102, 116] })), (2, (Go.Value.string { data := #[37, 114, 105, 103, 104, 116] })), (3, (Go.Value.string { data := #[37, 110, 111, 110, 97, 115, 115, 111, 99] }))]) w fun v1 w2 =>
  b38 R x1 x4 v1 w2
abbrev q30 (R : Ending → World → Prop) : Exit → Env → World → Prop := QX (fun ρ w => b38 R (ρ 1) (ρ 4) (ρ 5) w) (fun ρ w => R (.returned (.tuple #[(ρ 2), (ρ 3)])) w) []
theorem b2_eq (R : Ending → World → Prop) (ρ : Env) (w : World) : (b2 R (ρ 1) (ρ 4) w) = codeP Try.prog (pan R) (preC 0 p1) (q30 R) ρ w := by kernel_rfl
theorem b2_ok (R : Ending → World → Prop) (ρ : Env) (w : World) (h : b2 R (ρ 1) (ρ 4) w) : codeP Try.prog (pan R) p1 (q1 R) ρ w := by
  have e : appC 0 (preC 0 p1) (dropC 1 p1) = p1 := by kernel_rfl
  rw [← e]
  exact appQ (fun ρ w => b38 R (ρ 1) (ρ 4) (ρ 5) w) 0 ((b2_eq R ρ w).mp h) (fun ρ w h => k3_ok R ρ w h)
def b1_1 (R : Ending → World → Prop) (v1 v19 : Value) (w20 : World) (_r : Tok R := tok R) : Prop :=
  RUN Try.prog (pan R) (bins .add 9 (.const (Go.Value.string { data := #[37, 116, 111, 107, 101, 110] })) (.tmp 22) (Go.Value.string { data := #[37, 116, 111, 107, 101, 110] }) v19) w20 fun v21 w22 =>
  RUN Try.prog (pan R) (bins .add 9 (.tmp 23) (.const (Go.Value.string { data := #[32, 59, 10] })) v21 (Go.Value.string { data := #[32, 59, 10] })) w22 fun v23 w24 =>
  RUN Try.prog (pan R) (Builtin.append_ #[98, 9] 98 #[(Go.Value.slice Option.none 0 0), v23]) w24 fun v25 w26 =>
  b2 R v1 v25 w26
def b1_2 (R : Ending → World → Prop) (v1 : Value) (w16 : World) (_r : Tok R := tok R) : Prop :=
  RUN Try.prog (pan R) (Instr.loadAt 27 v1) w16 fun v17 w18 =>
  CALL Try.prog (pan R) ref05_terms.id #[v17, (Go.Value.int Go.IntKind.i64 (-1))] w18 fun v19 w20 =>
  b1_1 R v1 v19 w20
def b1_3 (R : Ending → World → Prop) (v1 : Value) (w8 : World) (_r : Tok R := tok R) : Prop :=
  RUN Try.prog (pan R) (Instr.fieldAt 27 v1 0) w8 fun v9 w10 =>
  RUN Try.prog (pan R) (Instr.loadAt 22 v9) w10 fun v11 w12 =>
  RUN Try.prog (pan R) (Builtin.len_ #[22] 3 #[v11]) w12 fun v13 w14 =>
  RUN Try.prog (pan R) (bins .gtr 3 (.tmp 18) (.const (Go.Value.int Go.IntKind.i64 1)) v13 (Go.Value.int Go.IntKind.i64 1)) w14 fun v15 w16 =>
  SPL v15
  (b1_2 R v1 w16)
  (b2 R v1 (Go.Value.slice Option.none 0 0) w16)

def b1 (R : Ending → World → Prop) (x0 : Value) (w : World) (_r : Tok R := tok R) : Prop :=
  RUN Try.prog (pan R) (Instr.box 27 x0) w fun v1 w2 =>
  RUN Try.prog (pan R) (Instr.loadAt 27 v1) w2 fun v3 w4 =>
  CALL Try.prog (pan R) ref05_Either.id #[v3] w4 fun v5 w6 =>
  RUN Try.prog (pan R) (Op.unary .not v5) w6 fun v7 w8 =>
  SPL v7
  (R (.returned (.tuple #[(Go.Value.string { data := #[] }), (Go.Value.int Go.IntKind.i64 1)])) w8)
  (b1_3 R v1 w8)
abbrev q31 (R : Ending → World → Prop) : Exit → Env → World → Prop := QX (fun ρ w => b2 R (ρ 1) (ρ 4) w) (fun ρ w => R (.returned (.tuple #[(ρ 2), (ρ 3)])) w) []
theorem b1_eq (R : Ending → World → Prop) (ρ : Env) (w : World) : (b1 R (ρ 0) w) = codeP Try.prog (pan R) (preC 3 code) (q31 R) ρ w := by kernel_rfl
theorem b1_ok (R : Ending → World → Prop) (ρ : Env) (w : World) (h : b1 R (ρ 0) w) : codeP Try.prog (pan R) code (q1 R) ρ w := by
  have e : appC 3 (preC 3 code) (dropC 4 code) = code := by kernel_rfl
  rw [← e]
  exact appQ (fun ρ w => b2 R (ρ 1) (ρ 4) w) 3 ((b1_eq R ρ w).mp h) (fun ρ w h => b2_ok R ρ w h)
/-- What is owed for a call. -/
def run (R : Ending → World → Prop) (a0 : Value) (w : World) : Prop := b1 R a0 w
theorem calls (R : Ending → World → Prop) (a0 : Value) (w : World) (h : run R a0 w) : Calls Try.prog id #[a0] w R :=
  calls_of_tt (f := id) (fn := Try.f17) (c := code) (by kernel_rfl) Try.func17 (by kernel_rfl) (by kernel_rfl) (args := [a0]) (Nat.le_of_ble_eq_true rfl) rfl (b1_ok R (envOf [a0]) w h)
theorem enters : Enters Try.prog id := fun args w => Try.call17 args w
theorem ct {a0 : Value} {w : World} {S : Value → World → Prop} (h : ∀ R : Ending → World → Prop, (∀ v w, S v w → R (.returned v) w) → run R a0 w) : Ct Try.prog id #[a0] w S :=
  Ct.intro enters fun R hR => calls R a0 w (h R hR)
attribute [irreducible] b6 b12 b17 b21 b24 b27_1 b27 b32 b31_1 b31 l30 b28 b25 b23 b22 b20 b19 b37 b36_1 b36_2 b36_3 b36 l35 b33 b14_1 b14_2 b14 b10 l9 b7 b4_1 b4 b41_1 b41_2 b41 l40 b38 b2 b1_1 b1_2 b1_3 b1 run
attribute [go_sem] b6 b12 b17 b21 b24 b27_1 b27 b32 b31_1 b31 b28 b25 b23 b22 b20 b19 b37 b36_1 b36_2 b36_3 b36 b33 b14_1 b14_2 b14 b10 b7 b4_1 b4 b41_1 b41_2 b41 b38 b2 b1_1 b1_2 b1_3 b1 run
end ref05_Text

/-! ### presage/presageref05.Row -/
namespace ref05_Row
noncomputable def code : Code := bodyOf Try.f23
noncomputable abbrev p1 : Code := dropC 2 code
noncomputable abbrev p2 : Code := dropC 1 (sndC p1)
/- x7 out -/
def b5 (R : Ending → World → Prop) (x7 : Value) (w : World) (_r : Tok R := tok R) : Prop :=
  RUN Try.prog (pan R) (convert 98 9 x7) w fun v1 w2 =>
  R (.returned (.tuple #[v1, (Go.Value.int Go.IntKind.i64 0)])) w2
abbrev q1 (R : Ending → World → Prop) : Exit → Env → World → Prop := QX (fun ρ w => R (.returned (.tuple #[(ρ 4), (ρ 5)])) w) (fun ρ w => R (.returned (.tuple #[(ρ 4), (ρ 5)])) w) []
theorem b5_eq (R : Ending → World → Prop) (ρ : Env) (w : World) : (b5 R (ρ 7) w) = codeP Try.prog (pan R) (sndC p2) (q1 R) ρ w := by kernel_rfl
theorem b5_ok (R : Ending → World → Prop) (ρ : Env) (w : World) (h : b5 R (ρ 7) w) : codeP Try.prog (pan R) (sndC p2) (q1 R) ρ w := (b5_eq R ρ w).mp h
noncomputable abbrev p3 : Code := dropC 1 (fstC p2)
noncomputable abbrev p4 : Code := loopC (blkC p3)
noncomputable abbrev p5 : Code := dropC 1 p4
/- x7 out, x8 i -/
def b11 (R : Ending → World → Prop) (C8 : Value → Value → World → Prop) (x7 x8 : Value) (w : World) (_r : Tok R := tok R) (_C8 : Tok C8 := tok C8) : Prop :=
  RUN Try.prog (pan R) (bins .add 3 (.tmp 41) (.const (Go.Value.int Go.IntKind.i64 1)) x8 (Go.Value.int Go.IntKind.i64 1)) w fun v1 w2 =>
  C8 x7 v1 w2
abbrev q2 (R : Ending → World → Prop) (C8 : Value → Value → World → Prop) : Exit → Env → World → Prop := QX (fun ρ w => C8 (ρ 7) (ρ 8) w) (fun ρ w => R (.returned (.tuple #[(ρ 4), (ρ 5)])) w) [(4, (fun ρ w => b5 R (ρ 7) w))]
theorem b11_eq (R : Ending → World → Prop) (C8 : Value → Value → World → Prop) (ρ : Env) (w : World) : (b11 R C8 (ρ 7) (ρ 8) w) = codeP Try.prog (pan R) (sndC p5) (q2 R C8) ρ w := by kernel_rfl
theorem b11_ok (R : Ending → World → Prop) (C8 : Value → Value → World → Prop) (ρ : Env) (w : World) (h : b11 R C8 (ρ 7) (ρ 8) w) : codeP Try.prog (pan R) (sndC p5) (q2 R C8) ρ w := (b11_eq R C8 ρ w).mp h
noncomputable abbrev p6 : Code := blkC (fstC p5)
noncomputable abbrev p7 : Code := dropC 1 p6
/- x1 syms, x2 g, x7 out, x8 i -/
def b14 (R : Ending → World → Prop) (C8 : Value → Value → World → Prop) (x1 x2 x7 x8 : Value) (w : World) (_r : Tok R := tok R) (_C8 : Tok C8 := tok C8) : Prop :=
  LD Try.prog (Instr.loadAt 27 x2) (World.drew w) fun v1 =>
  PUR Try.prog (Instr.indexAt 24 x1 x8) fun v2 =>
  LD Try.prog (Instr.loadAt 3 v2) (World.drew w) fun v3 =>
  CALL Try.prog (pan R) ref05_symbol.id #[v1, v3] (World.drew w) fun v4 w5 =>
  RUN Try.prog (pan R) (Builtin.append_ #[98, 9] 98 #[x7, v4]) w5 fun v6 w7 =>
  b11 R C8 v6 x8 w7
abbrev q3 (R : Ending → World → Prop) (C8 : Value → Value → World → Prop) : Exit → Env → World → Prop := QX (fun ρ w => b11 R C8 (ρ 7) (ρ 8) w) (fun ρ w => R (.returned (.tuple #[(ρ 4), (ρ 5)])) w) [(6, (fun ρ w => b11 R C8 (ρ 7) (ρ 8) w)), (4, (fun ρ w => b5 R (ρ 7) w))]
theorem b14_eq (R : Ending → World → Prop) (C8 : Value → Value → World → Prop) (ρ : Env) (w : World) : (b14 R C8 (ρ 1) (ρ 2) (ρ 7) (ρ 8) w) = codeP Try.prog (pan R) p7 (q3 R C8) ρ w := by kernel_rfl
theorem b14_ok (R : Ending → World → Prop) (C8 : Value → Value → World → Prop) (ρ : Env) (w : World) (h : b14 R C8 (ρ 1) (ρ 2) (ρ 7) (ρ 8) w) : codeP Try.prog (pan R) p7 (q3 R C8) ρ w := (b14_eq R C8 ρ w).mp h
def b13_1 (R : Ending → World → Prop) (C8 : Value → Value → World → Prop) (x1 x2 x7 x8 : Value) (w2 : World) (_r : Tok R := tok R) (_C8 : Tok C8 := tok C8) : Prop :=
  RUN Try.prog (pan R) (Instr.buildSlice 98 1 #[(0, (Go.Value.int Go.IntKind.u8 32))]) w2 fun v3 w4 =>
  RUN Try.prog (pan R) (Builtin.append_ #[98, 98] 98 #[x7, v3]) w4 fun v5 w6 =>
  b14 R C8 x1 x2 v5 x8 w6
/- x1 syms, x2 g, x7 out, x8 i -/
def b13 (R : Ending → World → Prop) (C8 : Value → Value → World → Prop) (x1 x2 x7 x8 : Value) (w : World) (_r : Tok R := tok R) (_C8 : Tok C8 := tok C8) : Prop :=
  RUN Try.prog (pan R) (bins .gtr 3 (.tmp 43) (.const (Go.Value.int Go.IntKind.i64 0)) x8 (Go.Value.int Go.IntKind.i64 0)) w fun v1 w2 =>
  SPL v1
  (b13_1 R C8 x1 x2 x7 x8 w2)
  (b14 R C8 x1 x2 x7 x8 w2)
abbrev q4 (R : Ending → World → Prop) (C8 : Value → Value → World → Prop) : Exit → Env → World → Prop := QX (fun ρ w => b14 R C8 (ρ 1) (ρ 2) (ρ 7) (ρ 8) w) (fun ρ w => R (.returned (.tuple #[(ρ 4), (ρ 5)])) w) [(6, (fun ρ w => b11 R C8 (ρ 7) (ρ 8) w)), (4, (fun ρ w => b5 R (ρ 7) w))]
theorem b13_eq (R : Ending → World → Prop) (C8 : Value → Value → World → Prop) (ρ : Env) (w : World) : (b13 R C8 (ρ 1) (ρ 2) (ρ 7) (ρ 8) w) = codeP Try.prog (pan R) (preC 0 p6) (q4 R C8) ρ w := by kernel_rfl
theorem b13_ok (R : Ending → World → Prop) (C8 : Value → Value → World → Prop) (ρ : Env) (w : World) (h : b13 R C8 (ρ 1) (ρ 2) (ρ 7) (ρ 8) w) : codeP Try.prog (pan R) p6 (q3 R C8) ρ w := by
  have e : appC 0 (preC 0 p6) (dropC 1 p6) = p6 := by kernel_rfl
  rw [← e]
  exact appQ (fun ρ w => b14 R C8 (ρ 1) (ρ 2) (ρ 7) (ρ 8) w) 0 ((b13_eq R C8 ρ w).mp h) (fun ρ w h => b14_ok R C8 ρ w h)
abbrev q5 (R : Ending → World → Prop) (C8 : Value → Value → World → Prop) : Exit → Env → World → Prop := QX (fun ρ w => b11 R C8 (ρ 7) (ρ 8) w) (fun ρ w => R (.returned (.tuple #[(ρ 4), (ρ 5)])) w) [(4, (fun ρ w => b5 R (ρ 7) w))]
theorem k12_ok (R : Ending → World → Prop) (C8 : Value → Value → World → Prop) (ρ : Env) (w : World) (h : b13 R C8 (ρ 1) (ρ 2) (ρ 7) (ρ 8) w) : codeP Try.prog (pan R) (fstC p5) (q5 R C8) ρ w := by
  have e : Code.block 3 (blkC (fstC p5)) = (fstC p5) := by kernel_rfl
  rw [← e]
  exact blockQ (b13_ok R C8 ρ w h)
theorem k10_ok (R : Ending → World → Prop) (C8 : Value → Value → World → Prop) (ρ : Env) (w : World) (h : b13 R C8 (ρ 1) (ρ 2) (ρ 7) (ρ 8) w) : codeP Try.prog (pan R) p5 (q2 R C8) ρ w := by
  have e : Code.seq (fstC p5) (sndC p5) = p5 := by kernel_rfl
  rw [← e]
  exact seqQ (fun ρ w => b11 R C8 (ρ 7) (ρ 8) w) (k12_ok R C8 ρ w h) (fun ρ w h => b11_ok R C8 ρ w h)
/- x1 syms, x2 g, x7 out, x8 i -/
def b9 (R : Ending → World → Prop) (C8 : Value → Value → World → Prop) (x1 x2 x7 x8 : Value) (w : World) (_r : Tok R := tok R) (_C8 : Tok C8 := tok C8) : Prop :=
  RUN Try.prog (pan R) (Builtin.len_ #[24] 3 #[x1]) w fun v1 w2 =>
  RUN Try.prog (pan R) (bins .lss 3 (.tmp 37) (.tmp 39) x8 v1) w2 fun v3 w4 =>
  SPL v3
  (b13 R C8 x1 x2 x7 x8 w4)
  (b5 R x7 w4)
abbrev q6 (R : Ending → World → Prop) (C8 : Value → Value → World → Prop) : Exit → Env → World → Prop := QX (fun ρ w => b13 R C8 (ρ 1) (ρ 2) (ρ 7) (ρ 8) w) (fun ρ w => R (.returned (.tuple #[(ρ 4), (ρ 5)])) w) [(4, (fun ρ w => b5 R (ρ 7) w))]
theorem b9_eq (R : Ending → World → Prop) (C8 : Value → Value → World → Prop) (ρ : Env) (w : World) : (b9 R C8 (ρ 1) (ρ 2) (ρ 7) (ρ 8) w) = codeP Try.prog (pan R) (preC 0 p4) (q6 R C8) ρ w := by kernel_rfl
theorem b9_ok (R : Ending → World → Prop) (C8 : Value → Value → World → Prop) (ρ : Env) (w : World) (h : b9 R C8 (ρ 1) (ρ 2) (ρ 7) (ρ 8) w) : codeP Try.prog (pan R) p4 (q2 R C8) ρ w := by
  have e : appC 0 (preC 0 p4) (dropC 1 p4) = p4 := by kernel_rfl
  rw [← e]
  exact appQ (fun ρ w => b13 R C8 (ρ 1) (ρ 2) (ρ 7) (ρ 8) w) 0 ((b9_eq R C8 ρ w).mp h) (fun ρ w h => k10_ok R C8 ρ w h)
/- x1 syms, x2 g, x7 out, x8 i -/
def l8 (R : Ending → World → Prop) (x1 x2 x7 x8 : Value) (w : World) (_r : Tok R := tok R) : Prop :=
  ∃ (J : Value → Value → World → Prop) (μ : Value → Value → World → Nat), J x7 x8 w ∧ ∀ y7 y8 w0, J y7 y8 w0 → b9 R (fun z7 z8 w1 => J z7 z8 w1 ∧ μ z7 z8 w1 < μ y7 y8 w0) x1 x2 y7 y8 w0
abbrev q7 (R : Ending → World → Prop) : Exit → Env → World → Prop := QX (fun ρ w => b5 R (ρ 7) w) (fun ρ w => R (.returned (.tuple #[(ρ 4), (ρ 5)])) w) [(4, (fun ρ w => b5 R (ρ 7) w))]
theorem l8_ok (R : Ending → World → Prop) (ρ : Env) (w : World) (h : l8 R (ρ 1) (ρ 2) (ρ 7) (ρ 8) w) : codeP Try.prog (pan R) (blkC p3) (q7 R) ρ w := by
  unfold l8 at h
  obtain ⟨J, μ, h0, hr⟩ := h
  have e : Code.loop (loopC (blkC p3)) = (blkC p3) := by kernel_rfl
  rw [← e]
  refine loopQ (fun ρ' w' => J (ρ' 7) (ρ' 8) w') (fun ρ' w' => μ (ρ' 7) (ρ' 8) w') h0 fun ρ' w' hA hI => ?_
  have e1 : ρ' 1 = ρ 1 := Agree.at hA 1 (by kernel_rfl)
  have e2 : ρ' 2 = ρ 2 := Agree.at hA 2 (by kernel_rfl)
  have h1 := hr (ρ' 7) (ρ' 8) w' hI
  rw [← e1, ← e2] at h1
  exact b9_ok R (fun z7 z8 w1 => J z7 z8 w1 ∧ μ z7 z8 w1 < μ (ρ' 7) (ρ' 8) w') ρ' w' h1
theorem l8_intro (R : Ending → World → Prop) (x1 x2 x7 x8 : Value) (w : World) (J : Value → Value → World → Prop) (μ : Value → Value → World → Nat) (h0 : J x7 x8 w)
    (hr : ∀ y7 y8 w0, J y7 y8 w0 → ∀ C8 : Value → Value → World → Prop, (∀ z7 z8 w1, J z7 z8 w1 → μ z7 z8 w1 < μ y7 y8 w0 → C8 z7 z8 w1) → b9 R C8 x1 x2 y7 y8 w0) : l8 R x1 x2 x7 x8 w := by
  unfold l8
  exact ⟨J, μ, h0, fun y7 y8 w0 hJ => hr y7 y8 w0 hJ _ (fun z7 z8 w1 h1 h2 => ⟨h1, h2⟩)⟩
abbrev q8 (R : Ending → World → Prop) : Exit → Env → World → Prop := QX (fun ρ w => b5 R (ρ 7) w) (fun ρ w => R (.returned (.tuple #[(ρ 4), (ρ 5)])) w) []
theorem k7_ok (R : Ending → World → Prop) (ρ : Env) (w : World) (h : l8 R (ρ 1) (ρ 2) (ρ 7) (ρ 8) w) : codeP Try.prog (pan R) p3 (q8 R) ρ w := by
  have e : Code.block 2 (blkC p3) = p3 := by kernel_rfl
  rw [← e]
  exact blockQ (l8_ok R ρ w h)
/- x1 syms, x2 g, x7 out -/
def b6 (R : Ending → World → Prop) (x1 x2 x7 : Value) (w : World) (_r : Tok R := tok R) : Prop :=
  l8 R x1 x2 x7 (Go.Value.int Go.IntKind.i64 0) w
abbrev q9 (R : Ending → World → Prop) : Exit → Env → World → Prop := QX (fun ρ w => l8 R (ρ 1) (ρ 2) (ρ 7) (ρ 8) w) (fun ρ w => R (.returned (.tuple #[(ρ 4), (ρ 5)])) w) []
theorem b6_eq (R : Ending → World → Prop) (ρ : Env) (w : World) : (b6 R (ρ 1) (ρ 2) (ρ 7) w) = codeP Try.prog (pan R) (preC 0 (fstC p2)) (q9 R) ρ w := by kernel_rfl
theorem b6_ok (R : Ending → World → Prop) (ρ : Env) (w : World) (h : b6 R (ρ 1) (ρ 2) (ρ 7) w) : codeP Try.prog (pan R) (fstC p2) (q8 R) ρ w := by
  have e : appC 0 (preC 0 (fstC p2)) (dropC 1 (fstC p2)) = (fstC p2) := by kernel_rfl
  rw [← e]
  exact appQ (fun ρ w => l8 R (ρ 1) (ρ 2) (ρ 7) (ρ 8) w) 0 ((b6_eq R ρ w).mp h) (fun ρ w h => k7_ok R ρ w h)
theorem k4_ok (R : Ending → World → Prop) (ρ : Env) (w : World) (h : b6 R (ρ 1) (ρ 2) (ρ 7) w) : codeP Try.prog (pan R) p2 (q1 R) ρ w := by
  have e : Code.seq (fstC p2) (sndC p2) = p2 := by kernel_rfl
  rw [← e]
  exact seqQ (fun ρ w => b5 R (ρ 7) w) (b6_ok R ρ w h) (fun ρ w h => b5_ok R ρ w h)
/- x1 syms, x2 g -/
def b3 (R : Ending → World → Prop) (x1 x2 : Value) (w : World) (_r : Tok R := tok R) : Prop :=
  b6 R x1 x2 (Go.Value.slice Option.none 0 0) w
abbrev q10 (R : Ending → World → Prop) : Exit → Env → World → Prop := QX (fun ρ w => b6 R (ρ 1) (ρ 2) (ρ 7) w) (fun ρ w => R (.returned (.tuple #[(ρ 4), (ρ 5)])) w) []
theorem b3_eq (R : Ending → World → Prop) (ρ : Env) (w : World) : (b3 R (ρ 1) (ρ 2) w) = codeP Try.prog (pan R) (preC 0 (sndC p1)) (q10 R) ρ w := by kernel_rfl
theorem b3_ok (R : Ending → World → Prop) (ρ : Env) (w : World) (h : b3 R (ρ 1) (ρ 2) w) : codeP Try.prog (pan R) (sndC p1) (q1 R) ρ w := by
  have e : appC 0 (preC 0 (sndC p1)) (dropC 1 (sndC p1)) = (sndC p1) := by kernel_rfl
  rw [← e]
  exact appQ (fun ρ w => b6 R (ρ 1) (ρ 2) (ρ 7) w) 0 ((b3_eq R ρ w).mp h) (fun ρ w h => k4_ok R ρ w h)
noncomputable abbrev p8 : Code := dropC 1 (fstC p1)
noncomputable abbrev p9 : Code := loopC (blkC p8)
noncomputable abbrev p10 : Code := dropC 1 p9
/- x6 i -/
def b20 (R : Ending → World → Prop) (C17 : Value → World → Prop) (x6 : Value) (w : World) (_r : Tok R := tok R) (_C17 : Tok C17 := tok C17) : Prop :=
  RUN Try.prog (pan R) (bins .add 3 (.tmp 16) (.const (Go.Value.int Go.IntKind.i64 1)) x6 (Go.Value.int Go.IntKind.i64 1)) w fun v1 w2 =>
  C17 v1 w2
abbrev q11 (R : Ending → World → Prop) (C17 : Value → World → Prop) : Exit → Env → World → Prop := QX (fun ρ w => C17 (ρ 6) w) (fun ρ w => R (.returned (.tuple #[(ρ 4), (ρ 5)])) w) [(0, (fun ρ w => b3 R (ρ 1) (ρ 2) w))]
theorem b20_eq (R : Ending → World → Prop) (C17 : Value → World → Prop) (ρ : Env) (w : World) : (b20 R C17 (ρ 6) w) = codeP Try.prog (pan R) (sndC p10) (q11 R C17) ρ w := by kernel_rfl
theorem b20_ok (R : Ending → World → Prop) (C17 : Value → World → Prop) (ρ : Env) (w : World) (h : b20 R C17 (ρ 6) w) : codeP Try.prog (pan R) (sndC p10) (q11 R C17) ρ w := (b20_eq R C17 ρ w).mp h
noncomputable abbrev p11 : Code := blkC (fstC p10)
noncomputable abbrev p12 : Code := dropC 1 p11
/- x6 i -/
def b23 (R : Ending → World → Prop) (C17 : Value → World → Prop) (x6 x36 : Value) (w : World) (_r : Tok R := tok R) (_C17 : Tok C17 := tok C17) : Prop :=
  SPL x36
  (R (.returned (.tuple #[(Go.Value.string { data := #[] }), (Go.Value.int Go.IntKind.i64 1)])) w)
  (b20 R C17 x6 w)
abbrev q12 (R : Ending → World → Prop) (C17 : Value → World → Prop) : Exit → Env → World → Prop := QX (fun ρ w => b20 R C17 (ρ 6) w) (fun ρ w => R (.returned (.tuple #[(ρ 4), (ρ 5)])) w) [(2, (fun ρ w => b20 R C17 (ρ 6) w)), (0, (fun ρ w => b3 R (ρ 1) (ρ 2) w))]
theorem b23_eq (R : Ending → World → Prop) (C17 : Value → World → Prop) (ρ : Env) (w : World) : (b23 R C17 (ρ 6) (ρ 36) w) = codeP Try.prog (pan R) p12 (q12 R C17) ρ w := by kernel_rfl
theorem b23_ok (R : Ending → World → Prop) (C17 : Value → World → Prop) (ρ : Env) (w : World) (h : b23 R C17 (ρ 6) (ρ 36) w) : codeP Try.prog (pan R) p12 (q12 R C17) ρ w := (b23_eq R C17 ρ w).mp h
def b22_1 (R : Ending → World → Prop) (C17 : Value → World → Prop) (x1 x2 x6 : Value) (w : World) (_r : Tok R := tok R) (_C17 : Tok C17 := tok C17) : Prop :=
  PUR Try.prog (Instr.indexAt 24 x1 x6) fun v4 =>
  LD Try.prog (Instr.loadAt 3 v4) (World.drew w) fun v5 =>
  PUR Try.prog (Instr.fieldAt 27 x2 0) fun v6 =>
  LD Try.prog (Instr.loadAt 22 v6) (World.drew w) fun v7 =>
  LD Try.prog (Builtin.len_ #[22] 3 #[v7]) (World.drew w) fun v8 =>
  PUR Try.prog (Instr.fieldAt 27 x2 1) fun v9 =>
  LD Try.prog (Instr.loadAt 23 v9) (World.drew w) fun v10 =>
  LD Try.prog (Builtin.len_ #[23] 3 #[v10]) (World.drew w) fun v11 =>
  PUR Try.prog (bins .add 3 (.tmp 30) (.tmp 33) v8 v11) fun v12 =>
  PUR Try.prog (bins .geq 3 (.tmp 27) (.tmp 34) v5 v12) fun v13 =>
  b23 R C17 x6 v13 (World.drew w)
/- x1 syms, x2 g, x6 i -/
def b22 (R : Ending → World → Prop) (C17 : Value → World → Prop) (x1 x2 x6 : Value) (w : World) (_r : Tok R := tok R) (_C17 : Tok C17 := tok C17) : Prop :=
  PUR Try.prog (Instr.indexAt 24 x1 x6) fun v1 =>
  LD Try.prog (Instr.loadAt 3 v1) (World.drew w) fun v2 =>
  PUR Try.prog (bins .lss 3 (.tmp 21) (.const (Go.Value.int Go.IntKind.i64 0)) v2 (Go.Value.int Go.IntKind.i64 0)) fun v3 =>
  SPL v3
  (b23 R C17 x6 (Go.Value.bool Bool.true) (World.drew w))
  (b22_1 R C17 x1 x2 x6 w)
abbrev q13 (R : Ending → World → Prop) (C17 : Value → World → Prop) : Exit → Env → World → Prop := QX (fun ρ w => b23 R C17 (ρ 6) (ρ 36) w) (fun ρ w => R (.returned (.tuple #[(ρ 4), (ρ 5)])) w) [(2, (fun ρ w => b20 R C17 (ρ 6) w)), (0, (fun ρ w => b3 R (ρ 1) (ρ 2) w))]
theorem b22_eq (R : Ending → World → Prop) (C17 : Value → World → Prop) (ρ : Env) (w : World) : (b22 R C17 (ρ 1) (ρ 2) (ρ 6) w) = codeP Try.prog (pan R) (preC 0 p11) (q13 R C17) ρ w := by kernel_rfl
theorem b22_ok (R : Ending → World → Prop) (C17 : Value → World → Prop) (ρ : Env) (w : World) (h : b22 R C17 (ρ 1) (ρ 2) (ρ 6) w) : codeP Try.prog (pan R) p11 (q12 R C17) ρ w := by
  have e : appC 0 (preC 0 p11) (dropC 1 p11) = p11 := by kernel_rfl
  rw [← e]
  exact appQ (fun ρ w => b23 R C17 (ρ 6) (ρ 36) w) 0 ((b22_eq R C17 ρ w).mp h) (fun ρ w h => b23_ok R C17 ρ w h)
abbrev q14 (R : Ending → World → Prop) (C17 : Value → World → Prop) : Exit → Env → World → Prop := QX (fun ρ w => b20 R C17 (ρ 6) w) (fun ρ w => R (.returned (.tuple #[(ρ 4), (ρ 5)])) w) [(0, (fun ρ w => b3 R (ρ 1) (ρ 2) w))]
theorem k21_ok (R : Ending → World → Prop) (C17 : Value → World → Prop) (ρ : Env) (w : World) (h : b22 R C17 (ρ 1) (ρ 2) (ρ 6) w) : codeP Try.prog (pan R) (fstC p10) (q14 R C17) ρ w := by
  have e : Code.block 1 (blkC (fstC p10)) = (fstC p10) := by kernel_rfl
  rw [← e]
  exact blockQ (b22_ok R C17 ρ w h)
theorem k19_ok (R : Ending → World → Prop) (C17 : Value → World → Prop) (ρ : Env) (w : World) (h : b22 R C17 (ρ 1) (ρ 2) (ρ 6) w) : codeP Try.prog (pan R) p10 (q11 R C17) ρ w := by
  have e : Code.seq (fstC p10) (sndC p10) = p10 := by kernel_rfl
  rw [← e]
  exact seqQ (fun ρ w => b20 R C17 (ρ 6) w) (k21_ok R C17 ρ w h) (fun ρ w h => b20_ok R C17 ρ w h)
/- x1 syms, x2 g, x6 i -/
def b18 (R : Ending → World → Prop) (C17 : Value → World → Prop) (x1 x2 x6 : Value) (w : World) (_r : Tok R := tok R) (_C17 : Tok C17 := tok C17) : Prop :=
  RUN Try.prog (pan R) (Builtin.len_ #[24] 3 #[x1]) w fun v1 w2 =>
  RUN Try.prog (pan R) (bins .lss 3 (.tmp 12) (.tmp 14) x6 v1) w2 fun v3 w4 =>
  SPL v3
  (b22 R C17 x1 x2 x6 w4)
  (b3 R x1 x2 w4)
abbrev q15 (R : Ending → World → Prop) (C17 : Value → World → Prop) : Exit → Env → World → Prop := QX (fun ρ w => b22 R C17 (ρ 1) (ρ 2) (ρ 6) w) (fun ρ w => R (.returned (.tuple #[(ρ 4), (ρ 5)])) w) [(0, (fun ρ w => b3 R (ρ 1) (ρ 2) w))]
theorem b18_eq (R : Ending → World → Prop) (C17 : Value → World → Prop) (ρ : Env) (w : World) : (b18 R C17 (ρ 1) (ρ 2) (ρ 6) w) = codeP Try.prog (pan R) (preC 0 p9) (q15 R C17) ρ w := by kernel_rfl
theorem b18_ok (R : Ending → World → Prop) (C17 : Value → World → Prop) (ρ : Env) (w : World) (h : b18 R C17 (ρ 1) (ρ 2) (ρ 6) w) : codeP Try.prog (pan R) p9 (q11 R C17) ρ w := by
  have e : appC 0 (preC 0 p9) (dropC 1 p9) = p9 := by kernel_rfl
  rw [← e]
  exact appQ (fun ρ w => b22 R C17 (ρ 1) (ρ 2) (ρ 6) w) 0 ((b18_eq R C17 ρ w).mp h) (fun ρ w h => k19_ok R C17 ρ w h)
/- x1 syms, x2 g, x6 i -/
def l17 (R : Ending → World → Prop) (x1 x2 x6 : Value) (w : World) (_r : Tok R := tok R) : Prop :=
  ∃ (J : Value → World → Prop) (μ : Value → World → Nat), J x6 w ∧ ∀ y6 w0, J y6 w0 → b18 R (fun z6 w1 => J z6 w1 ∧ μ z6 w1 < μ y6 w0) x1 x2 y6 w0
abbrev q16 (R : Ending → World → Prop) : Exit → Env → World → Prop := QX (fun ρ w => b3 R (ρ 1) (ρ 2) w) (fun ρ w => R (.returned (.tuple #[(ρ 4), (ρ 5)])) w) [(0, (fun ρ w => b3 R (ρ 1) (ρ 2) w))]
theorem l17_ok (R : Ending → World → Prop) (ρ : Env) (w : World) (h : l17 R (ρ 1) (ρ 2) (ρ 6) w) : codeP Try.prog (pan R) (blkC p8) (q16 R) ρ w := by
  unfold l17 at h
  obtain ⟨J, μ, h0, hr⟩ := h
  have e : Code.loop (loopC (blkC p8)) = (blkC p8) := by kernel_rfl
  rw [← e]
  refine loopQ (fun ρ' w' => J (ρ' 6) w') (fun ρ' w' => μ (ρ' 6) w') h0 fun ρ' w' hA hI => ?_
  have e1 : ρ' 1 = ρ 1 := Agree.at hA 1 (by kernel_rfl)
  have e2 : ρ' 2 = ρ 2 := Agree.at hA 2 (by kernel_rfl)
  have h1 := hr (ρ' 6) w' hI
  rw [← e1, ← e2] at h1
  exact b18_ok R (fun z6 w1 => J z6 w1 ∧ μ z6 w1 < μ (ρ' 6) w') ρ' w' h1
theorem l17_intro (R : Ending → World → Prop) (x1 x2 x6 : Value) (w : World) (J : Value → World → Prop) (μ : Value → World → Nat) (h0 : J x6 w)
    (hr : ∀ y6 w0, J y6 w0 → ∀ C17 : Value → World → Prop, (∀ z6 w1, J z6 w1 → μ z6 w1 < μ y6 w0 → C17 z6 w1) → b18 R C17 x1 x2 y6 w0) : l17 R x1 x2 x6 w := by
  unfold l17
  exact ⟨J, μ, h0, fun y6 w0 hJ => hr y6 w0 hJ _ (fun z6 w1 h1 h2 => ⟨h1, h2⟩)⟩
abbrev q17 (R : Ending → World → Prop) : Exit → Env → World → Prop := QX (fun ρ w => b3 R (ρ 1) (ρ 2) w) (fun ρ w => R (.returned (.tuple #[(ρ 4), (ρ 5)])) w) []
theorem k16_ok (R : Ending → World → Prop) (ρ : Env) (w : World) (h : l17 R (ρ 1) (ρ 2) (ρ 6) w) : codeP Try.prog (pan R) p8 (q17 R) ρ w := by
  have e : Code.block 0 (blkC p8) = p8 := by kernel_rfl
  rw [← e]
  exact blockQ (l17_ok R ρ w h)
/- x1 syms, x2 g -/
def b15 (R : Ending → World → Prop) (x1 x2 : Value) (w : World) (_r : Tok R := tok R) : Prop :=
  l17 R x1 x2 (Go.Value.int Go.IntKind.i64 0) w
abbrev q18 (R : Ending → World → Prop) : Exit → Env → World → Prop := QX (fun ρ w => l17 R (ρ 1) (ρ 2) (ρ 6) w) (fun ρ w => R (.returned (.tuple #[(ρ 4), (ρ 5)])) w) []
theorem b15_eq (R : Ending → World → Prop) (ρ : Env) (w : World) : (b15 R (ρ 1) (ρ 2) w) = codeP Try.prog (pan R) (preC 0 (fstC p1)) (q18 R) ρ w := by kernel_rfl
theorem b15_ok (R : Ending → World → Prop) (ρ : Env) (w : World) (h : b15 R (ρ 1) (ρ 2) w) : codeP Try.prog (pan R) (fstC p1) (q17 R) ρ w := by
  have e : appC 0 (preC 0 (fstC p1)) (dropC 1 (fstC p1)) = (fstC p1) := by kernel_rfl
  rw [← e]
  exact appQ (fun ρ w => l17 R (ρ 1) (ρ 2) (ρ 6) w) 0 ((b15_eq R ρ w).mp h) (fun ρ w h => k16_ok R ρ w h)
theorem k2_ok (R : Ending → World → Prop) (ρ : Env) (w : World) (h : b15 R (ρ 1) (ρ 2) w) : codeP Try.prog (pan R) p1 (q1 R) ρ w := by
  have e : Code.seq (fstC p1) (sndC p1) = p1 := by kernel_rfl
  rw [← e]
  exact seqQ (fun ρ w => b3 R (ρ 1) (ρ 2) w) (b15_ok R ρ w h) (fun ρ w h => b3_ok R ρ w h)
/- x0 g, x1 syms -/
def b1 (R : Ending → World → Prop) (x0 x1 : Value) (w : World) (_r : Tok R := tok R) : Prop :=
  RUN Try.prog (pan R) (Instr.box 27 x0) w fun v1 w2 =>
  RUN Try.prog (pan R) (Instr.loadAt 27 v1) w2 fun v3 w4 =>
  CALL Try.prog (pan R) ref05_Either.id #[v3] w4 fun v5 w6 =>
  RUN Try.prog (pan R) (Op.unary .not v5) w6 fun v7 w8 =>
  SPL v7
  (R (.returned (.tuple #[(Go.Value.string { data := #[] }), (Go.Value.int Go.IntKind.i64 1)])) w8)
  (b15 R x1 v1 w8)
abbrev q19 (R : Ending → World → Prop) : Exit → Env → World → Prop := QX (fun ρ w => b15 R (ρ 1) (ρ 2) w) (fun ρ w => R (.returned (.tuple #[(ρ 4), (ρ 5)])) w) []
theorem b1_eq (R : Ending → World → Prop) (ρ : Env) (w : World) : (b1 R (ρ 0) (ρ 1) w) = codeP Try.prog (pan R) (preC 1 code) (q19 R) ρ w := by kernel_rfl
theorem b1_ok (R : Ending → World → Prop) (ρ : Env) (w : World) (h : b1 R (ρ 0) (ρ 1) w) : codeP Try.prog (pan R) code (q1 R) ρ w := by
  have e : appC 1 (preC 1 code) (dropC 2 code) = code := by kernel_rfl
  rw [← e]
  exact appQ (fun ρ w => b15 R (ρ 1) (ρ 2) w) 1 ((b1_eq R ρ w).mp h) (fun ρ w h => k2_ok R ρ w h)
/-- What is owed for a call. -/
def run (R : Ending → World → Prop) (a0 a1 : Value) (w : World) : Prop := b1 R a0 a1 w
theorem calls (R : Ending → World → Prop) (a0 a1 : Value) (w : World) (h : run R a0 a1 w) : Calls Try.prog id #[a0, a1] w R :=
  calls_of_tt (f := id) (fn := Try.f23) (c := code) (by kernel_rfl) Try.func23 (by kernel_rfl) (by kernel_rfl) (args := [a0, a1]) (Nat.le_of_ble_eq_true rfl) rfl (b1_ok R (envOf [a0, a1]) w h)
theorem enters : Enters Try.prog id := fun args w => Try.call23 args w
theorem ct {a0 a1 : Value} {w : World} {S : Value → World → Prop} (h : ∀ R : Ending → World → Prop, (∀ v w, S v w → R (.returned v) w) → run R a0 a1 w) : Ct Try.prog id #[a0, a1] w S :=
  Ct.intro enters fun R hR => calls R a0 a1 w (h R hR)
attribute [irreducible] b5 b11 b14 b13_1 b13 b9 l8 b6 b3 b20 b23 b22_1 b22 b18 l17 b15 b1 run
attribute [go_sem] b5 b11 b14 b13_1 b13 b9 b6 b3 b20 b23 b22_1 b22 b18 b15 b1 run
end ref05_Row

/-! ### presage/presageref05.Symbol -/
namespace ref05_Symbol
noncomputable def code : Code := bodyOf Try.f26
noncomputable abbrev p1 : Code := dropC 1 code
/- x1 s, x2 g -/
def b3 (R : Ending → World → Prop) (x1 x2 : Value) (w : World) (_r : Tok R := tok R) : Prop :=
  RUN Try.prog (pan R) (Instr.loadAt 27 x2) w fun v1 w2 =>
  CALL Try.prog (pan R) ref05_symbol.id #[v1, x1] w2 fun v3 w4 =>
  R (.returned (.tuple #[v3, (Go.Value.int Go.IntKind.i64 0)])) w4
abbrev q1 (R : Ending → World → Prop) : Exit → Env → World → Prop := QX (fun ρ w => R (.returned (.tuple #[(ρ 4), (ρ 5)])) w) (fun ρ w => R (.returned (.tuple #[(ρ 4), (ρ 5)])) w) []
theorem b3_eq (R : Ending → World → Prop) (ρ : Env) (w : World) : (b3 R (ρ 1) (ρ 2) w) = codeP Try.prog (pan R) (sndC p1) (q1 R) ρ w := by kernel_rfl
theorem b3_ok (R : Ending → World → Prop) (ρ : Env) (w : World) (h : b3 R (ρ 1) (ρ 2) w) : codeP Try.prog (pan R) (sndC p1) (q1 R) ρ w := (b3_eq R ρ w).mp h
noncomputable abbrev p2 : Code := dropC 1 (fstC p1)
/- x1 s, x2 g -/
def b5 (R : Ending → World → Prop) (x1 x2 x23 : Value) (w : World) (_r : Tok R := tok R) : Prop :=
  SPL x23
  (R (.returned (.tuple #[(Go.Value.string { data := #[] }), (Go.Value.int Go.IntKind.i64 1)])) w)
  (b3 R x1 x2 w)
abbrev q2 (R : Ending → World → Prop) : Exit → Env → World → Prop := QX (fun ρ w => b3 R (ρ 1) (ρ 2) w) (fun ρ w => R (.returned (.tuple #[(ρ 4), (ρ 5)])) w) []
theorem b5_eq (R : Ending → World → Prop) (ρ : Env) (w : World) : (b5 R (ρ 1) (ρ 2) (ρ 23) w) = codeP Try.prog (pan R) p2 (q2 R) ρ w := by kernel_rfl
theorem b5_ok (R : Ending → World → Prop) (ρ : Env) (w : World) (h : b5 R (ρ 1) (ρ 2) (ρ 23) w) : codeP Try.prog (pan R) p2 (q2 R) ρ w := (b5_eq R ρ w).mp h
def b4_1 (R : Ending → World → Prop) (x1 x2 : Value) (w8 : World) (_r : Tok R := tok R) : Prop :=
  RUN Try.prog (pan R) (Instr.fieldAt 27 x2 0) w8 fun v9 w10 =>
  RUN Try.prog (pan R) (Instr.loadAt 22 v9) w10 fun v11 w12 =>
  RUN Try.prog (pan R) (Builtin.len_ #[22] 3 #[v11]) w12 fun v13 w14 =>
  RUN Try.prog (pan R) (Instr.fieldAt 27 x2 1) w14 fun v15 w16 =>
  RUN Try.prog (pan R) (Instr.loadAt 23 v15) w16 fun v17 w18 =>
  RUN Try.prog (pan R) (Builtin.len_ #[23] 3 #[v17]) w18 fun v19 w20 =>
  RUN Try.prog (pan R) (bins .add 3 (.tmp 17) (.tmp 20) v13 v19) w20 fun v21 w22 =>
  RUN Try.prog (pan R) (bins .geq 3 (.tmp 14) (.tmp 21) x1 v21) w22 fun v23 w24 =>
  b5 R x1 x2 v23 w24
def b4_2 (R : Ending → World → Prop) (x1 x2 v3 : Value) (w4 : World) (_r : Tok R := tok R) : Prop :=
  RUN Try.prog (pan R) (Op.unary .not v3) w4 fun v5 w6 =>
  SPL v5
  (b5 R x1 x2 (Go.Value.bool Bool.true) w6)
  (RUN Try.prog (pan R) (bins .lss 3 (.tmp 10) (.const (Go.Value.int Go.IntKind.i64 0)) x1 (Go.Value.int Go.IntKind.i64 0)) w6 fun v7 w8 =>
  SPL v7
  (b5 R x1 x2 (Go.Value.bool Bool.true) w8)
  (b4_1 R x1 x2 w8))
/- x1 s, x2 g -/
def b4 (R : Ending → World → Prop) (x1 x2 : Value) (w : World) (_r : Tok R := tok R) : Prop :=
  RUN Try.prog (pan R) (Instr.loadAt 27 x2) w fun v1 w2 =>
  CALL Try.prog (pan R) ref05_Either.id #[v1] w2 fun v3 w4 =>
  b4_2 R x1 x2 v3 w4
abbrev q3 (R : Ending → World → Prop) : Exit → Env → World → Prop := QX (fun ρ w => b5 R (ρ 1) (ρ 2) (ρ 23) w) (fun ρ w => R (.returned (.tuple #[(ρ 4), (ρ 5)])) w) []
theorem b4_eq (R : Ending → World → Prop) (ρ : Env) (w : World) : (b4 R (ρ 1) (ρ 2) w) = codeP Try.prog (pan R) (preC 0 (fstC p1)) (q3 R) ρ w := by kernel_rfl
theorem b4_ok (R : Ending → World → Prop) (ρ : Env) (w : World) (h : b4 R (ρ 1) (ρ 2) w) : codeP Try.prog (pan R) (fstC p1) (q2 R) ρ w := by
  have e : appC 0 (preC 0 (fstC p1)) (dropC 1 (fstC p1)) = (fstC p1) := by kernel_rfl
  rw [← e]
  exact appQ (fun ρ w => b5 R (ρ 1) (ρ 2) (ρ 23) w) 0 ((b4_eq R ρ w).mp h) (fun ρ w h => b5_ok R ρ w h)
theorem k2_ok (R : Ending → World → Prop) (ρ : Env) (w : World) (h : b4 R (ρ 1) (ρ 2) w) : codeP Try.prog (pan R) p1 (q1 R) ρ w := by
  have e : Code.seq (fstC p1) (sndC p1) = p1 := by kernel_rfl
  rw [← e]
  exact seqQ (fun ρ w => b3 R (ρ 1) (ρ 2) w) (b4_ok R ρ w h) (fun ρ w h => b3_ok R ρ w h)
/- x0 g, x1 s -/
def b1 (R : Ending → World → Prop) (x0 x1 : Value) (w : World) (_r : Tok R := tok R) : Prop :=
  RUN Try.prog (pan R) (Instr.box 27 x0) w fun v1 w2 =>
  b4 R x1 v1 w2
abbrev q4 (R : Ending → World → Prop) : Exit → Env → World → Prop := QX (fun ρ w => b4 R (ρ 1) (ρ 2) w) (fun ρ w => R (.returned (.tuple #[(ρ 4), (ρ 5)])) w) []
theorem b1_eq (R : Ending → World → Prop) (ρ : Env) (w : World) : (b1 R (ρ 0) (ρ 1) w) = codeP Try.prog (pan R) (preC 0 code) (q4 R) ρ w := by kernel_rfl
theorem b1_ok (R : Ending → World → Prop) (ρ : Env) (w : World) (h : b1 R (ρ 0) (ρ 1) w) : codeP Try.prog (pan R) code (q1 R) ρ w := by
  have e : appC 0 (preC 0 code) (dropC 1 code) = code := by kernel_rfl
  rw [← e]
  exact appQ (fun ρ w => b4 R (ρ 1) (ρ 2) w) 0 ((b1_eq R ρ w).mp h) (fun ρ w h => k2_ok R ρ w h)
/-- What is owed for a call. -/
def run (R : Ending → World → Prop) (a0 a1 : Value) (w : World) : Prop := b1 R a0 a1 w
theorem calls (R : Ending → World → Prop) (a0 a1 : Value) (w : World) (h : run R a0 a1 w) : Calls Try.prog id #[a0, a1] w R :=
  calls_of_tt (f := id) (fn := Try.f26) (c := code) (by kernel_rfl) Try.func26 (by kernel_rfl) (by kernel_rfl) (args := [a0, a1]) (Nat.le_of_ble_eq_true rfl) rfl (b1_ok R (envOf [a0, a1]) w h)
theorem enters : Enters Try.prog id := fun args w => Try.call26 args w
theorem ct {a0 a1 : Value} {w : World} {S : Value → World → Prop} (h : ∀ R : Ending → World → Prop, (∀ v w, S v w → R (.returned v) w) → run R a0 a1 w) : Ct Try.prog id #[a0, a1] w S :=
  Ct.intro enters fun R hR => calls R a0 a1 w (h R hR)
attribute [irreducible] b3 b5 b4_1 b4_2 b4 b1 run
attribute [go_sem] b3 b5 b4_1 b4_2 b4 b1 run
end ref05_Symbol

/-! ### presage/presageref05.Prod -/
namespace ref05_Prod
noncomputable def code : Code := bodyOf Try.f28
noncomputable abbrev p1 : Code := dropC 1 code
/- x1 prod, x2 g -/
def b3 (R : Ending → World → Prop) (x1 x2 : Value) (w : World) (_r : Tok R := tok R) : Prop :=
  LD Try.prog (Instr.loadAt 27 x2) (World.drew w) fun v1 =>
  PUR Try.prog (Instr.fieldAt 27 x2 4) fun v2 =>
  LD Try.prog (Instr.loadAt 25 v2) (World.drew w) fun v3 =>
  PUR Try.prog (Instr.indexAt 25 v3 x1) fun v4 =>
  LD Try.prog (Instr.loadAt 47 v4) (World.drew w) fun v5 =>
  CALL Try.prog (pan R) ref05_dotted.id #[v1, v5, (Go.Value.int Go.IntKind.i64 (-1))] (World.drew w) fun v6 w7 =>
  R (.returned (.tuple #[v6, (Go.Value.int Go.IntKind.i64 0)])) w7
abbrev q1 (R : Ending → World → Prop) : Exit → Env → World → Prop := QX (fun ρ w => R (.returned (.tuple #[(ρ 4), (ρ 5)])) w) (fun ρ w => R (.returned (.tuple #[(ρ 4), (ρ 5)])) w) []
theorem b3_eq (R : Ending → World → Prop) (ρ : Env) (w : World) : (b3 R (ρ 1) (ρ 2) w) = codeP Try.prog (pan R) (sndC p1) (q1 R) ρ w := by kernel_rfl
theorem b3_ok (R : Ending → World → Prop) (ρ : Env) (w : World) (h : b3 R (ρ 1) (ρ 2) w) : codeP Try.prog (pan R) (sndC p1) (q1 R) ρ w := (b3_eq R ρ w).mp h
noncomputable abbrev p2 : Code := dropC 1 (fstC p1)
/- x1 prod, x2 g -/
def b5 (R : Ending → World → Prop) (x1 x2 x19 : Value) (w : World) (_r : Tok R := tok R) : Prop :=
  SPL x19
  (R (.returned (.tuple #[(Go.Value.string { data := #[] }), (Go.Value.int Go.IntKind.i64 1)])) w)
  (b3 R x1 x2 w)
abbrev q2 (R : Ending → World → Prop) : Exit → Env → World → Prop := QX (fun ρ w => b3 R (ρ 1) (ρ 2) w) (fun ρ w => R (.returned (.tuple #[(ρ 4), (ρ 5)])) w) []
theorem b5_eq (R : Ending → World → Prop) (ρ : Env) (w : World) : (b5 R (ρ 1) (ρ 2) (ρ 19) w) = codeP Try.prog (pan R) p2 (q2 R) ρ w := by kernel_rfl
theorem b5_ok (R : Ending → World → Prop) (ρ : Env) (w : World) (h : b5 R (ρ 1) (ρ 2) (ρ 19) w) : codeP Try.prog (pan R) p2 (q2 R) ρ w := (b5_eq R ρ w).mp h
def b4_1 (R : Ending → World → Prop) (x1 x2 : Value) (w8 : World) (_r : Tok R := tok R) : Prop :=
  RUN Try.prog (pan R) (Instr.fieldAt 27 x2 4) w8 fun v9 w10 =>
  RUN Try.prog (pan R) (Instr.loadAt 25 v9) w10 fun v11 w12 =>
  RUN Try.prog (pan R) (Builtin.len_ #[25] 3 #[v11]) w12 fun v13 w14 =>
  RUN Try.prog (pan R) (bins .geq 3 (.tmp 14) (.tmp 17) x1 v13) w14 fun v15 w16 =>
  b5 R x1 x2 v15 w16
def b4_2 (R : Ending → World → Prop) (x1 x2 v3 : Value) (w4 : World) (_r : Tok R := tok R) : Prop :=
  RUN Try.prog (pan R) (Op.unary .not v3) w4 fun v5 w6 =>
  SPL v5
  (b5 R x1 x2 (Go.Value.bool Bool.true) w6)
  (RUN Try.prog (pan R) (bins .lss 3 (.tmp 10) (.const (Go.Value.int Go.IntKind.i64 0)) x1 (Go.Value.int Go.IntKind.i64 0)) w6 fun v7 w8 =>
  SPL v7
  (b5 R x1 x2 (Go.Value.bool Bool.true) w8)
  (b4_1 R x1 x2 w8))
/- x1 prod, x2 g -/
def b4 (R : Ending → World → Prop) (x1 x2 : Value) (w : World) (_r : Tok R := tok R) : Prop :=
  RUN Try.prog (pan R) (Instr.loadAt 27 x2) w fun v1 w2 =>
  CALL Try.prog (pan R) ref05_Either.id #[v1] w2 fun v3 w4 =>
  b4_2 R x1 x2 v3 w4
abbrev q3 (R : Ending → World → Prop) : Exit → Env → World → Prop := QX (fun ρ w => b5 R (ρ 1) (ρ 2) (ρ 19) w) (fun ρ w => R (.returned (.tuple #[(ρ 4), (ρ 5)])) w) []
theorem b4_eq (R : Ending → World → Prop) (ρ : Env) (w : World) : (b4 R (ρ 1) (ρ 2) w) = codeP Try.prog (pan R) (preC 0 (fstC p1)) (q3 R) ρ w := by kernel_rfl
theorem b4_ok (R : Ending → World → Prop) (ρ : Env) (w : World) (h : b4 R (ρ 1) (ρ 2) w) : codeP Try.prog (pan R) (fstC p1) (q2 R) ρ w := by
  have e : appC 0 (preC 0 (fstC p1)) (dropC 1 (fstC p1)) = (fstC p1) := by kernel_rfl
  rw [← e]
  exact appQ (fun ρ w => b5 R (ρ 1) (ρ 2) (ρ 19) w) 0 ((b4_eq R ρ w).mp h) (fun ρ w h => b5_ok R ρ w h)
theorem k2_ok (R : Ending → World → Prop) (ρ : Env) (w : World) (h : b4 R (ρ 1) (ρ 2) w) : codeP Try.prog (pan R) p1 (q1 R) ρ w := by
  have e : Code.seq (fstC p1) (sndC p1) = p1 := by kernel_rfl
  rw [← e]
  exact seqQ (fun ρ w => b3 R (ρ 1) (ρ 2) w) (b4_ok R ρ w h) (fun ρ w h => b3_ok R ρ w h)
/- x0 g, x1 prod -/
def b1 (R : Ending → World → Prop) (x0 x1 : Value) (w : World) (_r : Tok R := tok R) : Prop :=
  RUN Try.prog (pan R) (Instr.box 27 x0) w fun v1 w2 =>
  b4 R x1 v1 w2
abbrev q4 (R : Ending → World → Prop) : Exit → Env → World → Prop := QX (fun ρ w => b4 R (ρ 1) (ρ 2) w) (fun ρ w => R (.returned (.tuple #[(ρ 4), (ρ 5)])) w) []
theorem b1_eq (R : Ending → World → Prop) (ρ : Env) (w : World) : (b1 R (ρ 0) (ρ 1) w) = codeP Try.prog (pan R) (preC 0 code) (q4 R) ρ w := by kernel_rfl
theorem b1_ok (R : Ending → World → Prop) (ρ : Env) (w : World) (h : b1 R (ρ 0) (ρ 1) w) : codeP Try.prog (pan R) code (q1 R) ρ w := by
  have e : appC 0 (preC 0 code) (dropC 1 code) = code := by kernel_rfl
  rw [← e]
  exact appQ (fun ρ w => b4 R (ρ 1) (ρ 2) w) 0 ((b1_eq R ρ w).mp h) (fun ρ w h => k2_ok R ρ w h)
/-- What is owed for a call. -/
def run (R : Ending → World → Prop) (a0 a1 : Value) (w : World) : Prop := b1 R a0 a1 w
theorem calls (R : Ending → World → Prop) (a0 a1 : Value) (w : World) (h : run R a0 a1 w) : Calls Try.prog id #[a0, a1] w R :=
  calls_of_tt (f := id) (fn := Try.f28) (c := code) (by kernel_rfl) Try.func28 (by kernel_rfl) (by kernel_rfl) (args := [a0, a1]) (Nat.le_of_ble_eq_true rfl) rfl (b1_ok R (envOf [a0, a1]) w h)
theorem enters : Enters Try.prog id := fun args w => Try.call28 args w
theorem ct {a0 a1 : Value} {w : World} {S : Value → World → Prop} (h : ∀ R : Ending → World → Prop, (∀ v w, S v w → R (.returned v) w) → run R a0 a1 w) : Ct Try.prog id #[a0, a1] w S :=
  Ct.intro enters fun R hR => calls R a0 a1 w (h R hR)
attribute [irreducible] b3 b5 b4_1 b4_2 b4 b1 run
attribute [go_sem] b3 b5 b4_1 b4_2 b4 b1 run
end ref05_Prod

/-! ### presage/presageref05.Item -/
namespace ref05_Item
noncomputable def code : Code := bodyOf Try.f30
noncomputable abbrev p1 : Code := dropC 1 code
/- x2 g, x3 x -/
def b3 (R : Ending → World → Prop) (x2 x3 : Value) (w : World) (_r : Tok R := tok R) : Prop :=
  LD Try.prog (Instr.loadAt 27 x2) (World.drew w) fun v1 =>
  PUR Try.prog (Instr.fieldAt 27 x2 4) fun v2 =>
  LD Try.prog (Instr.loadAt 25 v2) (World.drew w) fun v3 =>
  PUR Try.prog (Instr.fieldAt 36 x3 0) fun v4 =>
  LD Try.prog (Instr.loadAt 3 v4) (World.drew w) fun v5 =>
  PUR Try.prog (Instr.indexAt 25 v3 v5) fun v6 =>
  LD Try.prog (Instr.loadAt 47 v6) (World.drew w) fun v7 =>
  PUR Try.prog (Instr.fieldAt 36 x3 1) fun v8 =>
  LD Try.prog (Instr.loadAt 3 v8) (World.drew w) fun v9 =>
  CALL Try.prog (pan R) ref05_dotted.id #[v1, v7, v9] (World.drew w) fun v10 w11 =>
  R (.returned (.tuple #[v10, (Go.Value.int Go.IntKind.i64 0)])) w11
abbrev q1 (R : Ending → World → Prop) : Exit → Env → World → Prop := QX (fun ρ w => R (.returned (.tuple #[(ρ 4), (ρ 5)])) w) (fun ρ w => R (.returned (.tuple #[(ρ 4), (ρ 5)])) w) []
theorem b3_eq (R : Ending → World → Prop) (ρ : Env) (w : World) : (b3 R (ρ 2) (ρ 3) w) = codeP Try.prog (pan R) (sndC p1) (q1 R) ρ w := by kernel_rfl
theorem b3_ok (R : Ending → World → Prop) (ρ : Env) (w : World) (h : b3 R (ρ 2) (ρ 3) w) : codeP Try.prog (pan R) (sndC p1) (q1 R) ρ w := (b3_eq R ρ w).mp h
noncomputable abbrev p2 : Code := dropC 1 (fstC p1)
/- x2 g, x3 x -/
def b5 (R : Ending → World → Prop) (x2 x3 x39 : Value) (w : World) (_r : Tok R := tok R) : Prop :=
  SPL x39
  (R (.returned (.tuple #[(Go.Value.string { data := #[] }), (Go.Value.int Go.IntKind.i64 1)])) w)
  (b3 R x2 x3 w)
abbrev q2 (R : Ending → World → Prop) : Exit → Env → World → Prop := QX (fun ρ w => b3 R (ρ 2) (ρ 3) w) (fun ρ w => R (.returned (.tuple #[(ρ 4), (ρ 5)])) w) []
theorem b5_eq (R : Ending → World → Prop) (ρ : Env) (w : World) : (b5 R (ρ 2) (ρ 3) (ρ 39) w) = codeP Try.prog (pan R) p2 (q2 R) ρ w := by kernel_rfl
theorem b5_ok (R : Ending → World → Prop) (ρ : Env) (w : World) (h : b5 R (ρ 2) (ρ 3) (ρ 39) w) : codeP Try.prog (pan R) p2 (q2 R) ρ w := (b5_eq R ρ w).mp h
def b4_1 (R : Ending → World → Prop) (x2 x3 : Value) (w3 : World) (_r : Tok R := tok R) : Prop :=
  PUR Try.prog (Instr.fieldAt 36 x3 1) fun v17 =>
  LD Try.prog (Instr.loadAt 3 v17) w3 fun v18 =>
  PUR Try.prog (Instr.fieldAt 27 x2 4) fun v19 =>
  LD Try.prog (Instr.loadAt 25 v19) w3 fun v20 =>
  PUR Try.prog (Instr.fieldAt 36 x3 0) fun v21 =>
  LD Try.prog (Instr.loadAt 3 v21) w3 fun v22 =>
  PUR Try.prog (Instr.indexAt 25 v20 v22) fun v23 =>
  PUR Try.prog (Instr.fieldAt 47 v23 1) fun v24 =>
  LD Try.prog (Instr.loadAt 24 v24) w3 fun v25 =>
  LD Try.prog (Builtin.len_ #[24] 3 #[v25]) w3 fun v26 =>
  PUR Try.prog (bins .gtr 3 (.tmp 29) (.tmp 37) v18 v26) fun v27 =>
  b5 R x2 x3 v27 w3
def b4_2 (R : Ending → World → Prop) (x2 x3 : Value) (w3 : World) (_r : Tok R := tok R) : Prop :=
  PUR Try.prog (Instr.fieldAt 36 x3 1) fun v14 =>
  LD Try.prog (Instr.loadAt 3 v14) w3 fun v15 =>
  PUR Try.prog (bins .lss 3 (.tmp 24) (.const (Go.Value.int Go.IntKind.i64 0)) v15 (Go.Value.int Go.IntKind.i64 0)) fun v16 =>
  SPL v16
  (b5 R x2 x3 (Go.Value.bool Bool.true) w3)
  (b4_1 R x2 x3 w3)
def b4_3 (R : Ending → World → Prop) (x2 x3 : Value) (w3 : World) (_r : Tok R := tok R) : Prop :=
  PUR Try.prog (Instr.fieldAt 36 x3 0) fun v8 =>
  LD Try.prog (Instr.loadAt 3 v8) w3 fun v9 =>
  PUR Try.prog (Instr.fieldAt 27 x2 4) fun v10 =>
  LD Try.prog (Instr.loadAt 25 v10) w3 fun v11 =>
  LD Try.prog (Builtin.len_ #[25] 3 #[v11]) w3 fun v12 =>
  PUR Try.prog (bins .geq 3 (.tmp 16) (.tmp 19) v9 v12) fun v13 =>
  SPL v13
  (b5 R x2 x3 (Go.Value.bool Bool.true) w3)
  (b4_2 R x2 x3 w3)
def b4_4 (R : Ending → World → Prop) (x2 x3 : Value) (w3 : World) (_r : Tok R := tok R) : Prop :=
  PUR Try.prog (Instr.fieldAt 36 x3 0) fun v5 =>
  LD Try.prog (Instr.loadAt 3 v5) w3 fun v6 =>
  PUR Try.prog (bins .lss 3 (.tmp 11) (.const (Go.Value.int Go.IntKind.i64 0)) v6 (Go.Value.int Go.IntKind.i64 0)) fun v7 =>
  SPL v7
  (b5 R x2 x3 (Go.Value.bool Bool.true) w3)
  (b4_3 R x2 x3 w3)
/- x2 g, x3 x -/
def b4 (R : Ending → World → Prop) (x2 x3 : Value) (w : World) (_r : Tok R := tok R) : Prop :=
  LD Try.prog (Instr.loadAt 27 x2) (World.drew w) fun v1 =>
  CALL Try.prog (pan R) ref05_Either.id #[v1] (World.drew w) fun v2 w3 =>
  PUR Try.prog (Op.unary .not v2) fun v4 =>
  SPL v4
  (b5 R x2 x3 (Go.Value.bool Bool.true) w3)
  (b4_4 R x2 x3 w3)
abbrev q3 (R : Ending → World → Prop) : Exit → Env → World → Prop := QX (fun ρ w => b5 R (ρ 2) (ρ 3) (ρ 39) w) (fun ρ w => R (.returned (.tuple #[(ρ 4), (ρ 5)])) w) []
theorem b4_eq (R : Ending → World → Prop) (ρ : Env) (w : World) : (b4 R (ρ 2) (ρ 3) w) = codeP Try.prog (pan R) (preC 0 (fstC p1)) (q3 R) ρ w := by kernel_rfl
theorem b4_ok (R : Ending → World → Prop) (ρ : Env) (w : World) (h : b4 R (ρ 2) (ρ 3) w) : codeP Try.prog (pan R) (fstC p1) (q2 R) ρ w := by
  have e : appC 0 (preC 0 (fstC p1)) (dropC 1 (fstC p1)) = (fstC p1) := by kernel_rfl
  rw [← e]
  exact appQ (fun ρ w => b5 R (ρ 2) (ρ 3) (ρ 39) w) 0 ((b4_eq R ρ w).mp h) (fun ρ w h => b5_ok R ρ w h)
theorem k2_ok (R : Ending → World → Prop) (ρ : Env) (w : World) (h : b4 R (ρ 2) (ρ 3) w) : codeP Try.prog (pan R) p1 (q1 R) ρ w := by
  have e : Code.seq (fstC p1) (sndC p1) = p1 := by kernel_rfl
  rw [← e]
  exact seqQ (fun ρ w => b3 R (ρ 2) (ρ 3) w) (b4_ok R ρ w h) (fun ρ w h => b3_ok R ρ w h)
/- x0 g, x1 x -/
def b1 (R : Ending → World → Prop) (x0 x1 : Value) (w : World) (_r : Tok R := tok R) : Prop :=
  RUN Try.prog (pan R) (Instr.box 27 x0) w fun v1 w2 =>
  RUN Try.prog (pan R) (Instr.box 36 x1) w2 fun v3 w4 =>
  b4 R v1 v3 w4
abbrev q4 (R : Ending → World → Prop) : Exit → Env → World → Prop := QX (fun ρ w => b4 R (ρ 2) (ρ 3) w) (fun ρ w => R (.returned (.tuple #[(ρ 4), (ρ 5)])) w) []
theorem b1_eq (R : Ending → World → Prop) (ρ : Env) (w : World) : (b1 R (ρ 0) (ρ 1) w) = codeP Try.prog (pan R) (preC 0 code) (q4 R) ρ w := by kernel_rfl
theorem b1_ok (R : Ending → World → Prop) (ρ : Env) (w : World) (h : b1 R (ρ 0) (ρ 1) w) : codeP Try.prog (pan R) code (q1 R) ρ w := by
  have e : appC 0 (preC 0 code) (dropC 1 code) = code := by kernel_rfl
  rw [← e]
  exact appQ (fun ρ w => b4 R (ρ 2) (ρ 3) w) 0 ((b1_eq R ρ w).mp h) (fun ρ w h => k2_ok R ρ w h)
/-- What is owed for a call. -/
def run (R : Ending → World → Prop) (a0 a1 : Value) (w : World) : Prop := b1 R a0 a1 w
theorem calls (R : Ending → World → Prop) (a0 a1 : Value) (w : World) (h : run R a0 a1 w) : Calls Try.prog id #[a0, a1] w R :=
  calls_of_tt (f := id) (fn := Try.f30) (c := code) (by kernel_rfl) Try.func30 (by kernel_rfl) (by kernel_rfl) (args := [a0, a1]) (Nat.le_of_ble_eq_true rfl) rfl (b1_ok R (envOf [a0, a1]) w h)
theorem enters : Enters Try.prog id := fun args w => Try.call30 args w
theorem ct {a0 a1 : Value} {w : World} {S : Value → World → Prop} (h : ∀ R : Ending → World → Prop, (∀ v w, S v w → R (.returned v) w) → run R a0 a1 w) : Ct Try.prog id #[a0, a1] w S :=
  Ct.intro enters fun R hR => calls R a0 a1 w (h R hR)
attribute [irreducible] b3 b5 b4_1 b4_2 b4_3 b4_4 b4 b1 run
attribute [go_sem] b3 b5 b4_1 b4_2 b4_3 b4_4 b4 b1 run
end ref05_Item

/-! ### presage/presageref05.Either -/
namespace ref05_Either
noncomputable def code : Code := bodyOf Try.f31
def b1_1 (R : Ending → World → Prop) (v1 : Value) (w6 : World) (_r : Tok R := tok R) : Prop :=
  RUN Try.prog (pan R) (Instr.loadAt 27 v1) w6 fun v7 w8 =>
  CALL Try.prog (pan R) ref02_Closed.id #[v7] w8 fun v9 w10 =>
  R (.returned v9) w10
/- x0 g -/
def b1 (R : Ending → World → Prop) (x0 : Value) (w : World) (_r : Tok R := tok R) : Prop :=
  RUN Try.prog (pan R) (Instr.box 27 x0) w fun v1 w2 =>
  RUN Try.prog (pan R) (Instr.loadAt 27 v1) w2 fun v3 w4 =>
  CALL Try.prog (pan R) ref02_Valid.id #[v3] w4 fun v5 w6 =>
  SPL v5
  (R (.returned (Go.Value.bool Bool.true)) w6)
  (b1_1 R v1 w6)
abbrev q1 (R : Ending → World → Prop) : Exit → Env → World → Prop := QX (fun ρ w => R (.returned (ρ 2)) w) (fun ρ w => R (.returned (ρ 2)) w) []
theorem b1_eq (R : Ending → World → Prop) (ρ : Env) (w : World) : (b1 R (ρ 0) w) = codeP Try.prog (pan R) code (q1 R) ρ w := by kernel_rfl
theorem b1_ok (R : Ending → World → Prop) (ρ : Env) (w : World) (h : b1 R (ρ 0) w) : codeP Try.prog (pan R) code (q1 R) ρ w := (b1_eq R ρ w).mp h
/-- What is owed for a call. -/
def run (R : Ending → World → Prop) (a0 : Value) (w : World) : Prop := b1 R a0 w
theorem calls (R : Ending → World → Prop) (a0 : Value) (w : World) (h : run R a0 w) : Calls Try.prog id #[a0] w R :=
  calls_of_t (f := id) (fn := Try.f31) (c := code) (by kernel_rfl) Try.func31 (by kernel_rfl) (by kernel_rfl) (args := [a0]) (Nat.le_of_ble_eq_true rfl) rfl (b1_ok R (envOf [a0]) w h)
theorem enters : Enters Try.prog id := fun args w => Try.call31 args w
theorem ct {a0 : Value} {w : World} {S : Value → World → Prop} (h : ∀ R : Ending → World → Prop, (∀ v w, S v w → R (.returned v) w) → run R a0 w) : Ct Try.prog id #[a0] w S :=
  Ct.intro enters fun R hR => calls R a0 w (h R hR)
attribute [irreducible] b1_1 b1 run
attribute [go_sem] b1_1 b1 run
end ref05_Either

/-! ### presage/presageref05.terms -/
namespace ref05_terms
noncomputable def code : Code := bodyOf Try.f73
noncomputable abbrev p1 : Code := dropC 2 code
/- x5 s -/
def b3 (R : Ending → World → Prop) (x5 : Value) (w : World) (_r : Tok R := tok R) : Prop :=
  R (.returned x5) w
abbrev q1 (R : Ending → World → Prop) : Exit → Env → World → Prop := QX (fun ρ w => R (.returned (ρ 4)) w) (fun ρ w => R (.returned (ρ 4)) w) []
theorem b3_eq (R : Ending → World → Prop) (ρ : Env) (w : World) : (b3 R (ρ 5) w) = codeP Try.prog (pan R) (sndC p1) (q1 R) ρ w := by kernel_rfl
theorem b3_ok (R : Ending → World → Prop) (ρ : Env) (w : World) (h : b3 R (ρ 5) w) : codeP Try.prog (pan R) (sndC p1) (q1 R) ρ w := (b3_eq R ρ w).mp h
noncomputable abbrev p2 : Code := dropC 1 (fstC p1)
noncomputable abbrev p3 : Code := loopC (blkC p2)
noncomputable abbrev p4 : Code := dropC 1 p3
/- x5 s, x6 i -/
def b9 (R : Ending → World → Prop) (C6 : Value → Value → World → Prop) (x5 x6 : Value) (w : World) (_r : Tok R := tok R) (_C6 : Tok C6 := tok C6) : Prop :=
  RUN Try.prog (pan R) (bins .add 3 (.tmp 12) (.const (Go.Value.int Go.IntKind.i64 1)) x6 (Go.Value.int Go.IntKind.i64 1)) w fun v1 w2 =>
  C6 x5 v1 w2
abbrev q2 (R : Ending → World → Prop) (C6 : Value → Value → World → Prop) : Exit → Env → World → Prop := QX (fun ρ w => C6 (ρ 5) (ρ 6) w) (fun ρ w => R (.returned (ρ 4)) w) [(0, (fun ρ w => b3 R (ρ 5) w))]
theorem b9_eq (R : Ending → World → Prop) (C6 : Value → Value → World → Prop) (ρ : Env) (w : World) : (b9 R C6 (ρ 5) (ρ 6) w) = codeP Try.prog (pan R) (sndC p4) (q2 R C6) ρ w := by kernel_rfl
theorem b9_ok (R : Ending → World → Prop) (C6 : Value → Value → World → Prop) (ρ : Env) (w : World) (h : b9 R C6 (ρ 5) (ρ 6) w) : codeP Try.prog (pan R) (sndC p4) (q2 R C6) ρ w := (b9_eq R C6 ρ w).mp h
noncomputable abbrev p5 : Code := blkC (fstC p4)
noncomputable abbrev p6 : Code := dropC 1 p5
def b12_1 (R : Ending → World → Prop) (C6 : Value → Value → World → Prop) (x2 x5 x6 : Value) (w : World) (_r : Tok R := tok R) (_C6 : Tok C6 := tok C6) : Prop :=
  RUN Try.prog (pan R) (bins .add 9 (.tmp 26) (.const (Go.Value.string { data := #[32] })) x5 (Go.Value.string { data := #[32] })) w fun v1 w2 =>
  RUN Try.prog (pan R) (Instr.loadAt 27 x2) w2 fun v3 w4 =>
  CALL Try.prog (pan R) ref05_symbol.id #[v3, x6] w4 fun v5 w6 =>
  RUN Try.prog (pan R) (bins .add 9 (.tmp 27) (.tmp 30) v1 v5) w6 fun v7 w8 =>
  b9 R C6 v7 x6 w8
/- x2 g, x5 s, x6 i -/
def b12 (R : Ending → World → Prop) (C6 : Value → Value → World → Prop) (x2 x5 x6 x25 : Value) (w : World) (_r : Tok R := tok R) (_C6 : Tok C6 := tok C6) : Prop :=
  SPL x25
  (b12_1 R C6 x2 x5 x6 w)
  (b9 R C6 x5 x6 w)
abbrev q3 (R : Ending → World → Prop) (C6 : Value → Value → World → Prop) : Exit → Env → World → Prop := QX (fun ρ w => b9 R C6 (ρ 5) (ρ 6) w) (fun ρ w => R (.returned (ρ 4)) w) [(2, (fun ρ w => b9 R C6 (ρ 5) (ρ 6) w)), (0, (fun ρ w => b3 R (ρ 5) w))]
theorem b12_eq (R : Ending → World → Prop) (C6 : Value → Value → World → Prop) (ρ : Env) (w : World) : (b12 R C6 (ρ 2) (ρ 5) (ρ 6) (ρ 25) w) = codeP Try.prog (pan R) p6 (q3 R C6) ρ w := by kernel_rfl
theorem b12_ok (R : Ending → World → Prop) (C6 : Value → Value → World → Prop) (ρ : Env) (w : World) (h : b12 R C6 (ρ 2) (ρ 5) (ρ 6) (ρ 25) w) : codeP Try.prog (pan R) p6 (q3 R C6) ρ w := (b12_eq R C6 ρ w).mp h
def b11_1 (R : Ending → World → Prop) (C6 : Value → Value → World → Prop) (x1 x2 x5 x6 : Value) (w2 : World) (_r : Tok R := tok R) (_C6 : Tok C6 := tok C6) : Prop :=
  RUN Try.prog (pan R) (Instr.fieldAt 27 x2 0) w2 fun v3 w4 =>
  RUN Try.prog (pan R) (Instr.loadAt 22 v3) w4 fun v5 w6 =>
  RUN Try.prog (pan R) (Instr.indexAt 22 v5 x6) w6 fun v7 w8 =>
  RUN Try.prog (pan R) (Instr.fieldAt 106 v7 1) w8 fun v9 w10 =>
  RUN Try.prog (pan R) (Instr.loadAt 3 v9) w10 fun v11 w12 =>
  RUN Try.prog (pan R) (bins .eql 3 (.tmp 22) (.tmp 23) v11 x1) w12 fun v13 w14 =>
  b12 R C6 x2 x5 x6 v13 w14
/- x1 level, x2 g, x5 s, x6 i -/
def b11 (R : Ending → World → Prop) (C6 : Value → Value → World → Prop) (x1 x2 x5 x6 : Value) (w : World) (_r : Tok R := tok R) (_C6 : Tok C6 := tok C6) : Prop :=
  RUN Try.prog (pan R) (bins .lss 3 (.tmp 14) (.const (Go.Value.int Go.IntKind.i64 0)) x1 (Go.Value.int Go.IntKind.i64 0)) w fun v1 w2 =>
  SPL v1
  (b12 R C6 x2 x5 x6 (Go.Value.bool Bool.true) w2)
  (b11_1 R C6 x1 x2 x5 x6 w2)
abbrev q4 (R : Ending → World → Prop) (C6 : Value → Value → World → Prop) : Exit → Env → World → Prop := QX (fun ρ w => b12 R C6 (ρ 2) (ρ 5) (ρ 6) (ρ 25) w) (fun ρ w => R (.returned (ρ 4)) w) [(2, (fun ρ w => b9 R C6 (ρ 5) (ρ 6) w)), (0, (fun ρ w => b3 R (ρ 5) w))]
theorem b11_eq (R : Ending → World → Prop) (C6 : Value → Value → World → Prop) (ρ : Env) (w : World) : (b11 R C6 (ρ 1) (ρ 2) (ρ 5) (ρ 6) w) = codeP Try.prog (pan R) (preC 0 p5) (q4 R C6) ρ w := by kernel_rfl
theorem b11_ok (R : Ending → World → Prop) (C6 : Value → Value → World → Prop) (ρ : Env) (w : World) (h : b11 R C6 (ρ 1) (ρ 2) (ρ 5) (ρ 6) w) : codeP Try.prog (pan R) p5 (q3 R C6) ρ w := by
  have e : appC 0 (preC 0 p5) (dropC 1 p5) = p5 := by kernel_rfl
  rw [← e]
  exact appQ (fun ρ w => b12 R C6 (ρ 2) (ρ 5) (ρ 6) (ρ 25) w) 0 ((b11_eq R C6 ρ w).mp h) (fun ρ w h => b12_ok R C6 ρ w h)
abbrev q5 (R : Ending → World → Prop) (C6 : Value → Value → World → Prop) : Exit → Env → World → Prop := QX (fun ρ w => b9 R C6 (ρ 5) (ρ 6) w) (fun ρ w => R (.returned (ρ 4)) w) [(0, (fun ρ w => b3 R (ρ 5) w))]
theorem k10_ok (R : Ending → World → Prop) (C6 : Value → Value → World → Prop) (ρ : Env) (w : World) (h : b11 R C6 (ρ 1) (ρ 2) (ρ 5) (ρ 6) w) : codeP Try.prog (pan R) (fstC p4) (q5 R C6) ρ w := by
  have e : Code.block 1 (blkC (fstC p4)) = (fstC p4) := by kernel_rfl
  rw [← e]
  exact blockQ (b11_ok R C6 ρ w h)
theorem k8_ok (R : Ending → World → Prop) (C6 : Value → Value → World → Prop) (ρ : Env) (w : World) (h : b11 R C6 (ρ 1) (ρ 2) (ρ 5) (ρ 6) w) : codeP Try.prog (pan R) p4 (q2 R C6) ρ w := by
  have e : Code.seq (fstC p4) (sndC p4) = p4 := by kernel_rfl
  rw [← e]
  exact seqQ (fun ρ w => b9 R C6 (ρ 5) (ρ 6) w) (k10_ok R C6 ρ w h) (fun ρ w h => b9_ok R C6 ρ w h)
/- x1 level, x2 g, x5 s, x6 i -/
def b7 (R : Ending → World → Prop) (C6 : Value → Value → World → Prop) (x1 x2 x5 x6 : Value) (w : World) (_r : Tok R := tok R) (_C6 : Tok C6 := tok C6) : Prop :=
  RUN Try.prog (pan R) (Instr.fieldAt 27 x2 0) w fun v1 w2 =>
  RUN Try.prog (pan R) (Instr.loadAt 22 v1) w2 fun v3 w4 =>
  RUN Try.prog (pan R) (Builtin.len_ #[22] 3 #[v3]) w4 fun v5 w6 =>
  RUN Try.prog (pan R) (bins .lss 3 (.tmp 7) (.tmp 10) x6 v5) w6 fun v7 w8 =>
  SPL v7
  (b11 R C6 x1 x2 x5 x6 w8)
  (b3 R x5 w8)
abbrev q6 (R : Ending → World → Prop) (C6 : Value → Value → World → Prop) : Exit → Env → World → Prop := QX (fun ρ w => b11 R C6 (ρ 1) (ρ 2) (ρ 5) (ρ 6) w) (fun ρ w => R (.returned (ρ 4)) w) [(0, (fun ρ w => b3 R (ρ 5) w))]
theorem b7_eq (R : Ending → World → Prop) (C6 : Value → Value → World → Prop) (ρ : Env) (w : World) : (b7 R C6 (ρ 1) (ρ 2) (ρ 5) (ρ 6) w) = codeP Try.prog (pan R) (preC 0 p3) (q6 R C6) ρ w := by kernel_rfl
theorem b7_ok (R : Ending → World → Prop) (C6 : Value → Value → World → Prop) (ρ : Env) (w : World) (h : b7 R C6 (ρ 1) (ρ 2) (ρ 5) (ρ 6) w) : codeP Try.prog (pan R) p3 (q2 R C6) ρ w := by
  have e : appC 0 (preC 0 p3) (dropC 1 p3) = p3 := by kernel_rfl
  rw [← e]
  exact appQ (fun ρ w => b11 R C6 (ρ 1) (ρ 2) (ρ 5) (ρ 6) w) 0 ((b7_eq R C6 ρ w).mp h) (fun ρ w h => k8_ok R C6 ρ w h)
/- x1 level, x2 g, x5 s, x6 i -/
def l6 (R : Ending → World → Prop) (x1 x2 x5 x6 : Value) (w : World) (_r : Tok R := tok R) : Prop :=
  ∃ (J : Value → Value → World → Prop) (μ : Value → Value → World → Nat), J x5 x6 w ∧ ∀ y5 y6 w0, J y5 y6 w0 → b7 R (fun z5 z6 w1 => J z5 z6 w1 ∧ μ z5 z6 w1 < μ y5 y6 w0) x1 x2 y5 y6 w0
abbrev q7 (R : Ending → World → Prop) : Exit → Env → World → Prop := QX (fun ρ w => b3 R (ρ 5) w) (fun ρ w => R (.returned (ρ 4)) w) [(0, (fun ρ w => b3 R (ρ 5) w))]
theorem l6_ok (R : Ending → World → Prop) (ρ : Env) (w : World) (h : l6 R (ρ 1) (ρ 2) (ρ 5) (ρ 6) w) : codeP Try.prog (pan R) (blkC p2) (q7 R) ρ w := by
  unfold l6 at h
  obtain ⟨J, μ, h0, hr⟩ := h
  have e : Code.loop (loopC (blkC p2)) = (blkC p2) := by kernel_rfl
  rw [← e]
  refine loopQ (fun ρ' w' => J (ρ' 5) (ρ' 6) w') (fun ρ' w' => μ (ρ' 5) (ρ' 6) w') h0 fun ρ' w' hA hI => ?_
  have e1 : ρ' 1 = ρ 1 := Agree.at hA 1 (by kernel_rfl)
  have e2 : ρ' 2 = ρ 2 := Agree.at hA 2 (by kernel_rfl)
  have h1 := hr (ρ' 5) (ρ' 6) w' hI
  rw [← e1, ← e2] at h1
  exact b7_ok R (fun z5 z6 w1 => J z5 z6 w1 ∧ μ z5 z6 w1 < μ (ρ' 5) (ρ' 6) w') ρ' w' h1
theorem l6_intro (R : Ending → World → Prop) (x1 x2 x5 x6 : Value) (w : World) (J : Value → Value → World → Prop) (μ : Value → Value → World → Nat) (h0 : J x5 x6 w)
    (hr : ∀ y5 y6 w0, J y5 y6 w0 → ∀ C6 : Value → Value → World → Prop, (∀ z5 z6 w1, J z5 z6 w1 → μ z5 z6 w1 < μ y5 y6 w0 → C6 z5 z6 w1) → b7 R C6 x1 x2 y5 y6 w0) : l6 R x1 x2 x5 x6 w := by
  unfold l6
  exact ⟨J, μ, h0, fun y5 y6 w0 hJ => hr y5 y6 w0 hJ _ (fun z5 z6 w1 h1 h2 => ⟨h1, h2⟩)⟩
abbrev q8 (R : Ending → World → Prop) : Exit → Env → World → Prop := QX (fun ρ w => b3 R (ρ 5) w) (fun ρ w => R (.returned (ρ 4)) w) []
theorem k5_ok (R : Ending → World → Prop) (ρ : Env) (w : World) (h : l6 R (ρ 1) (ρ 2) (ρ 5) (ρ 6) w) : codeP Try.prog (pan R) p2 (q8 R) ρ w := by
  have e : Code.block 0 (blkC p2) = p2 := by kernel_rfl
  rw [← e]
  exact blockQ (l6_ok R ρ w h)
/- x1 level, x2 g, x5 s -/
def b4 (R : Ending → World → Prop) (x1 x2 x5 : Value) (w : World) (_r : Tok R := tok R) : Prop :=
  l6 R x1 x2 x5 (Go.Value.int Go.IntKind.i64 1) w
abbrev q9 (R : Ending → World → Prop) : Exit → Env → World → Prop := QX (fun ρ w => l6 R (ρ 1) (ρ 2) (ρ 5) (ρ 6) w) (fun ρ w => R (.returned (ρ 4)) w) []
theorem b4_eq (R : Ending → World → Prop) (ρ : Env) (w : World) : (b4 R (ρ 1) (ρ 2) (ρ 5) w) = codeP Try.prog (pan R) (preC 0 (fstC p1)) (q9 R) ρ w := by kernel_rfl
theorem b4_ok (R : Ending → World → Prop) (ρ : Env) (w : World) (h : b4 R (ρ 1) (ρ 2) (ρ 5) w) : codeP Try.prog (pan R) (fstC p1) (q8 R) ρ w := by
  have e : appC 0 (preC 0 (fstC p1)) (dropC 1 (fstC p1)) = (fstC p1) := by kernel_rfl
  rw [← e]
  exact appQ (fun ρ w => l6 R (ρ 1) (ρ 2) (ρ 5) (ρ 6) w) 0 ((b4_eq R ρ w).mp h) (fun ρ w h => k5_ok R ρ w h)
theorem k2_ok (R : Ending → World → Prop) (ρ : Env) (w : World) (h : b4 R (ρ 1) (ρ 2) (ρ 5) w) : codeP Try.prog (pan R) p1 (q1 R) ρ w := by
  have e : Code.seq (fstC p1) (sndC p1) = p1 := by kernel_rfl
  rw [← e]
  exact seqQ (fun ρ w => b3 R (ρ 5) w) (b4_ok R ρ w h) (fun ρ w h => b3_ok R ρ w h)
/- x0 g, x1 level -/
def b1 (R : Ending → World → Prop) (x0 x1 : Value) (w : World) (_r : Tok R := tok R) : Prop :=
  RUN Try.prog (pan R) (Instr.box 27 x0) w fun v1 w2 =>
  b4 R x1 v1 (Go.Value.string { data := #[] }) w2
abbrev q10 (R : Ending → World → Prop) : Exit → Env → World → Prop := QX (fun ρ w => b4 R (ρ 1) (ρ 2) (ρ 5) w) (fun ρ w => R (.returned (ρ 4)) w) []
theorem b1_eq (R : Ending → World → Prop) (ρ : Env) (w : World) : (b1 R (ρ 0) (ρ 1) w) = codeP Try.prog (pan R) (preC 1 code) (q10 R) ρ w := by kernel_rfl
theorem b1_ok (R : Ending → World → Prop) (ρ : Env) (w : World) (h : b1 R (ρ 0) (ρ 1) w) : codeP Try.prog (pan R) code (q1 R) ρ w := by
  have e : appC 1 (preC 1 code) (dropC 2 code) = code := by kernel_rfl
  rw [← e]
  exact appQ (fun ρ w => b4 R (ρ 1) (ρ 2) (ρ 5) w) 1 ((b1_eq R ρ w).mp h) (fun ρ w h => k2_ok R ρ w h)
/-- What is owed for a call. -/
def run (R : Ending → World → Prop) (a0 a1 : Value) (w : World) : Prop := b1 R a0 a1 w
theorem calls (R : Ending → World → Prop) (a0 a1 : Value) (w : World) (h : run R a0 a1 w) : Calls Try.prog id #[a0, a1] w R :=
  calls_of_t (f := id) (fn := Try.f73) (c := code) (by kernel_rfl) Try.func73 (by kernel_rfl) (by kernel_rfl) (args := [a0, a1]) (Nat.le_of_ble_eq_true rfl) rfl (b1_ok R (envOf [a0, a1]) w h)
theorem enters : Enters Try.prog id := fun args w => Try.call73 args w
theorem ct {a0 a1 : Value} {w : World} {S : Value → World → Prop} (h : ∀ R : Ending → World → Prop, (∀ v w, S v w → R (.returned v) w) → run R a0 a1 w) : Ct Try.prog id #[a0, a1] w S :=
  Ct.intro enters fun R hR => calls R a0 a1 w (h R hR)
attribute [irreducible] b3 b9 b12_1 b12 b11_1 b11 b7 l6 b4 b1 run
attribute [go_sem] b3 b9 b12_1 b12 b11_1 b11 b7 b4 b1 run
end ref05_terms

/-! ### presage/presageref05.symbol -/
namespace ref05_symbol
noncomputable def code : Code := bodyOf Try.f74
def b1_1 (R : Ending → World → Prop) (x1 v1 : Value) (w12 : World) (_r : Tok R := tok R) : Prop :=
  RUN Try.prog (pan R) (Instr.fieldAt 27 v1 0) w12 fun v13 w14 =>
  RUN Try.prog (pan R) (Instr.loadAt 22 v13) w14 fun v15 w16 =>
  RUN Try.prog (pan R) (Instr.indexAt 22 v15 x1) w16 fun v17 w18 =>
  RUN Try.prog (pan R) (Instr.fieldAt 106 v17 0) w18 fun v19 w20 =>
  RUN Try.prog (pan R) (Instr.loadAt 9 v19) w20 fun v21 w22 =>
  RUN Try.prog (pan R) (bins .add 9 (.const (Go.Value.string { data := #[39] })) (.tmp 19) (Go.Value.string { data := #[39] }) v21) w22 fun v23 w24 =>
  RUN Try.prog (pan R) (bins .add 9 (.tmp 20) (.const (Go.Value.string { data := #[39] })) v23 (Go.Value.string { data := #[39] })) w24 fun v25 w26 =>
  R (.returned v25) w26
def b1_2 (R : Ending → World → Prop) (x1 v1 : Value) (w44 : World) (_r : Tok R := tok R) : Prop :=
  RUN Try.prog (pan R) (Instr.fieldAt 27 v1 1) w44 fun v45 w46 =>
  RUN Try.prog (pan R) (Instr.loadAt 23 v45) w46 fun v47 w48 =>
  RUN Try.prog (pan R) (Instr.fieldAt 27 v1 0) w48 fun v49 w50 =>
  RUN Try.prog (pan R) (Instr.loadAt 22 v49) w50 fun v51 w52 =>
  RUN Try.prog (pan R) (Builtin.len_ #[22] 3 #[v51]) w52 fun v53 w54 =>
  RUN Try.prog (pan R) (bins .sub 3 (.tmp 35) (.tmp 38) x1 v53) w54 fun v55 w56 =>
  RUN Try.prog (pan R) (Instr.indexAt 23 v47 v55) w56 fun v57 w58 =>
  RUN Try.prog (pan R) (Instr.loadAt 9 v57) w58 fun v59 w60 =>
  R (.returned v59) w60
def b1_3 (R : Ending → World → Prop) (x1 v1 : Value) (w12 : World) (_r : Tok R := tok R) : Prop :=
  RUN Try.prog (pan R) (Instr.fieldAt 27 v1 1) w12 fun v27 w28 =>
  RUN Try.prog (pan R) (Instr.loadAt 23 v27) w28 fun v29 w30 =>
  RUN Try.prog (pan R) (Instr.fieldAt 27 v1 0) w30 fun v31 w32 =>
  RUN Try.prog (pan R) (Instr.loadAt 22 v31) w32 fun v33 w34 =>
  RUN Try.prog (pan R) (Builtin.len_ #[22] 3 #[v33]) w34 fun v35 w36 =>
  RUN Try.prog (pan R) (bins .sub 3 (.tmp 25) (.tmp 28) x1 v35) w36 fun v37 w38 =>
  RUN Try.prog (pan R) (Instr.indexAt 23 v29 v37) w38 fun v39 w40 =>
  RUN Try.prog (pan R) (Instr.loadAt 9 v39) w40 fun v41 w42 =>
  RUN Try.prog (pan R) (bins .eql 9 (.tmp 31) (.const (Go.Value.string { data := #[] })) v41 (Go.Value.string { data := #[] })) w42 fun v43 w44 =>
  SPL v43
  (R (.returned (Go.Value.string { data := #[36, 115, 116, 97, 114, 116] })) w44)
  (b1_2 R x1 v1 w44)
def b1_4 (R : Ending → World → Prop) (x1 v1 : Value) (w4 : World) (_r : Tok R := tok R) : Prop :=
  RUN Try.prog (pan R) (Instr.fieldAt 27 v1 0) w4 fun v5 w6 =>
  RUN Try.prog (pan R) (Instr.loadAt 22 v5) w6 fun v7 w8 =>
  RUN Try.prog (pan R) (Builtin.len_ #[22] 3 #[v7]) w8 fun v9 w10 =>
  RUN Try.prog (pan R) (bins .lss 3 (.tmp 9) (.tmp 12) x1 v9) w10 fun v11 w12 =>
  SPL v11
  (b1_1 R x1 v1 w12)
  (b1_3 R x1 v1 w12)
/- x0 g, x1 s -/
def b1 (R : Ending → World → Prop) (x0 x1 : Value) (w : World) (_r : Tok R := tok R) : Prop :=
  RUN Try.prog (pan R) (Instr.box 27 x0) w fun v1 w2 =>
  RUN Try.prog (pan R) (bins .eql 3 (.tmp 6) (.const (Go.Value.int Go.IntKind.i64 0)) x1 (Go.Value.int Go.IntKind.i64 0)) w2 fun v3 w4 =>
  SPL v3
  (R (.returned (Go.Value.string { data := #[36, 101, 110, 100] })) w4)
  (b1_4 R x1 v1 w4)
abbrev q1 (R : Ending → World → Prop) : Exit → Env → World → Prop := QX (fun ρ w => R (.returned (ρ 4)) w) (fun ρ w => R (.returned (ρ 4)) w) []
theorem b1_eq (R : Ending → World → Prop) (ρ : Env) (w : World) : (b1 R (ρ 0) (ρ 1) w) = codeP Try.prog (pan R) code (q1 R) ρ w := by kernel_rfl
theorem b1_ok (R : Ending → World → Prop) (ρ : Env) (w : World) (h : b1 R (ρ 0) (ρ 1) w) : codeP Try.prog (pan R) code (q1 R) ρ w := (b1_eq R ρ w).mp h
/-- What is owed for a call. -/
def run (R : Ending → World → Prop) (a0 a1 : Value) (w : World) : Prop := b1 R a0 a1 w
theorem calls (R : Ending → World → Prop) (a0 a1 : Value) (w : World) (h : run R a0 a1 w) : Calls Try.prog id #[a0, a1] w R :=
  calls_of_t (f := id) (fn := Try.f74) (c := code) (by kernel_rfl) Try.func74 (by kernel_rfl) (by kernel_rfl) (args := [a0, a1]) (Nat.le_of_ble_eq_true rfl) rfl (b1_ok R (envOf [a0, a1]) w h)
theorem enters : Enters Try.prog id := fun args w => Try.call74 args w
theorem ct {a0 a1 : Value} {w : World} {S : Value → World → Prop} (h : ∀ R : Ending → World → Prop, (∀ v w, S v w → R (.returned v) w) → run R a0 a1 w) : Ct Try.prog id #[a0, a1] w S :=
  Ct.intro enters fun R hR => calls R a0 a1 w (h R hR)
attribute [irreducible] b1_1 b1_2 b1_3 b1_4 b1 run
attribute [go_sem] b1_1 b1_2 b1_3 b1_4 b1 run
end ref05_symbol

/-! ### presage/presageref05.dotted -/
namespace ref05_dotted
noncomputable def code : Code := bodyOf Try.f84
noncomputable abbrev p1 : Code := dropC 2 code
/- x7 out -/
def b3 (R : Ending → World → Prop) (x7 : Value) (w : World) (_r : Tok R := tok R) : Prop :=
  RUN Try.prog (pan R) (convert 98 9 x7) w fun v1 w2 =>
  R (.returned v1) w2
abbrev q1 (R : Ending → World → Prop) : Exit → Env → World → Prop := QX (fun ρ w => R (.returned (ρ 6)) w) (fun ρ w => R (.returned (ρ 6)) w) []
theorem b3_eq (R : Ending → World → Prop) (ρ : Env) (w : World) : (b3 R (ρ 7) w) = codeP Try.prog (pan R) (sndC p1) (q1 R) ρ w := by kernel_rfl
theorem b3_ok (R : Ending → World → Prop) (ρ : Env) (w : World) (h : b3 R (ρ 7) w) : codeP Try.prog (pan R) (sndC p1) (q1 R) ρ w := (b3_eq R ρ w).mp h
noncomputable abbrev p2 : Code := dropC 1 (fstC p1)
noncomputable abbrev p3 : Code := loopC (blkC p2)
noncomputable abbrev p4 : Code := dropC 1 p3
/- x7 out, x8 i -/
def b9 (R : Ending → World → Prop) (C6 : Value → Value → World → Prop) (x7 x8 : Value) (w : World) (_r : Tok R := tok R) (_C6 : Tok C6 := tok C6) : Prop :=
  RUN Try.prog (pan R) (bins .add 3 (.tmp 20) (.const (Go.Value.int Go.IntKind.i64 1)) x8 (Go.Value.int Go.IntKind.i64 1)) w fun v1 w2 =>
  C6 x7 v1 w2
abbrev q2 (R : Ending → World → Prop) (C6 : Value → Value → World → Prop) : Exit → Env → World → Prop := QX (fun ρ w => C6 (ρ 7) (ρ 8) w) (fun ρ w => R (.returned (ρ 6)) w) [(0, (fun ρ w => b3 R (ρ 7) w))]
theorem b9_eq (R : Ending → World → Prop) (C6 : Value → Value → World → Prop) (ρ : Env) (w : World) : (b9 R C6 (ρ 7) (ρ 8) w) = codeP Try.prog (pan R) (sndC p4) (q2 R C6) ρ w := by kernel_rfl
theorem b9_ok (R : Ending → World → Prop) (C6 : Value → Value → World → Prop) (ρ : Env) (w : World) (h : b9 R C6 (ρ 7) (ρ 8) w) : codeP Try.prog (pan R) (sndC p4) (q2 R C6) ρ w := (b9_eq R C6 ρ w).mp h
noncomputable abbrev p5 : Code := blkC (fstC p4)
noncomputable abbrev p6 : Code := dropC 1 p5
def b12_1 (R : Ending → World → Prop) (C6 : Value → Value → World → Prop) (x7 x8 v14 : Value) (w15 : World) (_r : Tok R := tok R) (_C6 : Tok C6 := tok C6) : Prop :=
  PUR Try.prog (bins .add 9 (.const (Go.Value.string { data := #[32] })) (.tmp 39) (Go.Value.string { data := #[32] }) v14) fun v16 =>
  RUN Try.prog (pan R) (Builtin.append_ #[98, 9] 98 #[x7, v16]) w15 fun v17 w18 =>
  b9 R C6 v17 x8 w18
def b12_2 (R : Ending → World → Prop) (C6 : Value → Value → World → Prop) (x3 x4 x7 x8 : Value) (w8 : World) (_r : Tok R := tok R) (_C6 : Tok C6 := tok C6) : Prop :=
  LD Try.prog (Instr.loadAt 27 x3) (World.drew w8) fun v9 =>
  PUR Try.prog (Instr.fieldAt 47 x4 1) fun v10 =>
  LD Try.prog (Instr.loadAt 24 v10) (World.drew w8) fun v11 =>
  PUR Try.prog (Instr.indexAt 24 v11 x8) fun v12 =>
  LD Try.prog (Instr.loadAt 3 v12) (World.drew w8) fun v13 =>
  CALL Try.prog (pan R) ref05_symbol.id #[v9, v13] (World.drew w8) fun v14 w15 =>
  b12_1 R C6 x7 x8 v14 w15
/- x3 g, x4 p, x7 out, x8 i -/
def b12 (R : Ending → World → Prop) (C6 : Value → Value → World → Prop) (x3 x4 x7 x8 : Value) (w : World) (_r : Tok R := tok R) (_C6 : Tok C6 := tok C6) : Prop :=
  RUN Try.prog (pan R) (Instr.fieldAt 47 x4 1) w fun v1 w2 =>
  RUN Try.prog (pan R) (Instr.loadAt 24 v1) w2 fun v3 w4 =>
  RUN Try.prog (pan R) (Builtin.len_ #[24] 3 #[v3]) w4 fun v5 w6 =>
  RUN Try.prog (pan R) (bins .lss 3 (.tmp 27) (.tmp 30) x8 v5) w6 fun v7 w8 =>
  SPL v7
  (b12_2 R C6 x3 x4 x7 x8 w8)
  (b9 R C6 x7 x8 w8)
abbrev q3 (R : Ending → World → Prop) (C6 : Value → Value → World → Prop) : Exit → Env → World → Prop := QX (fun ρ w => b9 R C6 (ρ 7) (ρ 8) w) (fun ρ w => R (.returned (ρ 6)) w) [(2, (fun ρ w => b9 R C6 (ρ 7) (ρ 8) w)), (0, (fun ρ w => b3 R (ρ 7) w))]
theorem b12_eq (R : Ending → World → Prop) (C6 : Value → Value → World → Prop) (ρ : Env) (w : World) : (b12 R C6 (ρ 3) (ρ 4) (ρ 7) (ρ 8) w) = codeP Try.prog (pan R) p6 (q3 R C6) ρ w := by kernel_rfl
theorem b12_ok (R : Ending → World → Prop) (C6 : Value → Value → World → Prop) (ρ : Env) (w : World) (h : b12 R C6 (ρ 3) (ρ 4) (ρ 7) (ρ 8) w) : codeP Try.prog (pan R) p6 (q3 R C6) ρ w := (b12_eq R C6 ρ w).mp h
/- x2 dot, x3 g, x4 p, x7 out, x8 i -/
def b11 (R : Ending → World → Prop) (C6 : Value → Value → World → Prop) (x2 x3 x4 x7 x8 : Value) (w : World) (_r : Tok R := tok R) (_C6 : Tok C6 := tok C6) : Prop :=
  RUN Try.prog (pan R) (bins .eql 3 (.tmp 22) (.tmp 23) x8 x2) w fun v1 w2 =>
  SPL v1
  (RUN Try.prog (pan R) (Builtin.append_ #[98, 9] 98 #[x7, (Go.Value.string { data := #[32, 46] })]) w2 fun v3 w4 =>
  b12 R C6 x3 x4 v3 x8 w4)
  (b12 R C6 x3 x4 x7 x8 w2)
abbrev q4 (R : Ending → World → Prop) (C6 : Value → Value → World → Prop) : Exit → Env → World → Prop := QX (fun ρ w => b12 R C6 (ρ 3) (ρ 4) (ρ 7) (ρ 8) w) (fun ρ w => R (.returned (ρ 6)) w) [(2, (fun ρ w => b9 R C6 (ρ 7) (ρ 8) w)), (0, (fun ρ w => b3 R (ρ 7) w))]
theorem b11_eq (R : Ending → World → Prop) (C6 : Value → Value → World → Prop) (ρ : Env) (w : World) : (b11 R C6 (ρ 2) (ρ 3) (ρ 4) (ρ 7) (ρ 8) w) = codeP Try.prog (pan R) (preC 0 p5) (q4 R C6) ρ w := by kernel_rfl
theorem b11_ok (R : Ending → World → Prop) (C6 : Value → Value → World → Prop) (ρ : Env) (w : World) (h : b11 R C6 (ρ 2) (ρ 3) (ρ 4) (ρ 7) (ρ 8) w) : codeP Try.prog (pan R) p5 (q3 R C6) ρ w := by
  have e : appC 0 (preC 0 p5) (dropC 1 p5) = p5 := by kernel_rfl
  rw [← e]
  exact appQ (fun ρ w => b12 R C6 (ρ 3) (ρ 4) (ρ 7) (ρ 8) w) 0 ((b11_eq R C6 ρ w).mp h) (fun ρ w h => b12_ok R C6 ρ w h)
abbrev q5 (R : Ending → World → Prop) (C6 : Value → Value → World → Prop) : Exit → Env → World → Prop := QX (fun ρ w => b9 R C6 (ρ 7) (ρ 8) w) (fun ρ w => R (.returned (ρ 6)) w) [(0, (fun ρ w => b3 R (ρ 7) w))]
theorem k10_ok (R : Ending → World → Prop) (C6 : Value → Value → World → Prop) (ρ : Env) (w : World) (h : b11 R C6 (ρ 2) (ρ 3) (ρ 4) (ρ 7) (ρ 8) w) : codeP Try.prog (pan R) (fstC p4) (q5 R C6) ρ w := by
  have e : Code.block 1 (blkC (fstC p4)) = (fstC p4) := by kernel_rfl
  rw [← e]
  exact blockQ (b11_ok R C6 ρ w h)
theorem k8_ok (R : Ending → World → Prop) (C6 : Value → Value → World → Prop) (ρ : Env) (w : World) (h : b11 R C6 (ρ 2) (ρ 3) (ρ 4) (ρ 7) (ρ 8) w) : codeP Try.prog (pan R) p4 (q2 R C6) ρ w := by
  have e : Code.seq (fstC p4) (sndC p4) = p4 := by kernel_rfl
  rw [← e]
  exact seqQ (fun ρ w => b9 R C6 (ρ 7) (ρ 8) w) (k10_ok R C6 ρ w h) (fun ρ w h => b9_ok R C6 ρ w h)
/- x2 dot, x3 g, x4 p, x7 out, x8 i -/
def b7 (R : Ending → World → Prop) (C6 : Value → Value → World → Prop) (x2 x3 x4 x7 x8 : Value) (w : World) (_r : Tok R := tok R) (_C6 : Tok C6 := tok C6) : Prop :=
  RUN Try.prog (pan R) (Instr.fieldAt 47 x4 1) w fun v1 w2 =>
  RUN Try.prog (pan R) (Instr.loadAt 24 v1) w2 fun v3 w4 =>
  RUN Try.prog (pan R) (Builtin.len_ #[24] 3 #[v3]) w4 fun v5 w6 =>
  RUN Try.prog (pan R) (bins .leq 3 (.tmp 15) (.tmp 18) x8 v5) w6 fun v7 w8 =>
  SPL v7
  (b11 R C6 x2 x3 x4 x7 x8 w8)
  (b3 R x7 w8)
abbrev q6 (R : Ending → World → Prop) (C6 : Value → Value → World → Prop) : Exit → Env → World → Prop := QX (fun ρ w => b11 R C6 (ρ 2) (ρ 3) (ρ 4) (ρ 7) (ρ 8) w) (fun ρ w => R (.returned (ρ 6)) w) [(0, (fun ρ w => b3 R (ρ 7) w))]
theorem b7_eq (R : Ending → World → Prop) (C6 : Value → Value → World → Prop) (ρ : Env) (w : World) : (b7 R C6 (ρ 2) (ρ 3) (ρ 4) (ρ 7) (ρ 8) w) = codeP Try.prog (pan R) (preC 0 p3) (q6 R C6) ρ w := by kernel_rfl
theorem b7_ok (R : Ending → World → Prop) (C6 : Value → Value → World → Prop) (ρ : Env) (w : World) (h : b7 R C6 (ρ 2) (ρ 3) (ρ 4) (ρ 7) (ρ 8) w) : codeP Try.prog (pan R) p3 (q2 R C6) ρ w := by
  have e : appC 0 (preC 0 p3) (dropC 1 p3) = p3 := by kernel_rfl
  rw [← e]
  exact appQ (fun ρ w => b11 R C6 (ρ 2) (ρ 3) (ρ 4) (ρ 7) (ρ 8) w) 0 ((b7_eq R C6 ρ w).mp h) (fun ρ w h => k8_ok R C6 ρ w h)
/- x2 dot, x3 g, x4 p, x7 out, x8 i -/
def l6 (R : Ending → World → Prop) (x2 x3 x4 x7 x8 : Value) (w : World) (_r : Tok R := tok R) : Prop :=
  ∃ (J : Value → Value → World → Prop) (μ : Value → Value → World → Nat), J x7 x8 w ∧ ∀ y7 y8 w0, J y7 y8 w0 → b7 R (fun z7 z8 w1 => J z7 z8 w1 ∧ μ z7 z8 w1 < μ y7 y8 w0) x2 x3 x4 y7 y8 w0
abbrev q7 (R : Ending → World → Prop) : Exit → Env → World → Prop := QX (fun ρ w => b3 R (ρ 7) w) (fun ρ w => R (.returned (ρ 6)) w) [(0, (fun ρ w => b3 R (ρ 7) w))]
theorem l6_ok (R : Ending → World → Prop) (ρ : Env) (w : World) (h : l6 R (ρ 2) (ρ 3) (ρ 4) (ρ 7) (ρ 8) w) : codeP Try.prog (pan R) (blkC p2) (q7 R) ρ w := by
  unfold l6 at h
  obtain ⟨J, μ, h0, hr⟩ := h
  have e : Code.loop (loopC (blkC p2)) = (blkC p2) := by kernel_rfl
  rw [← e]
  refine loopQ (fun ρ' w' => J (ρ' 7) (ρ' 8) w') (fun ρ' w' => μ (ρ' 7) (ρ' 8) w') h0 fun ρ' w' hA hI => ?_
  have e2 : ρ' 2 = ρ 2 := Agree.at hA 2 (by kernel_rfl)
  have e3 : ρ' 3 = ρ 3 := Agree.at hA 3 (by kernel_rfl)
  have e4 : ρ' 4 = ρ 4 := Agree.at hA 4 (by kernel_rfl)
  have h1 := hr (ρ' 7) (ρ' 8) w' hI
  rw [← e2, ← e3, ← e4] at h1
  exact b7_ok R (fun z7 z8 w1 => J z7 z8 w1 ∧ μ z7 z8 w1 < μ (ρ' 7) (ρ' 8) w') ρ' w' h1
theorem l6_intro (R : Ending → World → Prop) (x2 x3 x4 x7 x8 : Value) (w : World) (J : Value → Value → World → Prop) (μ : Value → Value → World → Nat) (h0 : J x7 x8 w)
    (hr : ∀ y7 y8 w0, J y7 y8 w0 → ∀ C6 : Value → Value → World → Prop, (∀ z7 z8 w1, J z7 z8 w1 → μ z7 z8 w1 < μ y7 y8 w0 → C6 z7 z8 w1) → b7 R C6 x2 x3 x4 y7 y8 w0) : l6 R x2 x3 x4 x7 x8 w := by
  unfold l6
  exact ⟨J, μ, h0, fun y7 y8 w0 hJ => hr y7 y8 w0 hJ _ (fun z7 z8 w1 h1 h2 => ⟨h1, h2⟩)⟩
abbrev q8 (R : Ending → World → Prop) : Exit → Env → World → Prop := QX (fun ρ w => b3 R (ρ 7) w) (fun ρ w => R (.returned (ρ 6)) w) []
theorem k5_ok (R : Ending → World → Prop) (ρ : Env) (w : World) (h : l6 R (ρ 2) (ρ 3) (ρ 4) (ρ 7) (ρ 8) w) : codeP Try.prog (pan R) p2 (q8 R) ρ w := by
  have e : Code.block 0 (blkC p2) = p2 := by kernel_rfl
  rw [← e]
  exact blockQ (l6_ok R ρ w h)
/- x2 dot, x3 g, x4 p, x7 out -/
def b4 (R : Ending → World → Prop) (x2 x3 x4 x7 : Value) (w : World) (_r : Tok R := tok R) : Prop :=
  l6 R x2 x3 x4 x7 (Go.Value.int Go.IntKind.i64 0) w
abbrev q9 (R : Ending → World → Prop) : Exit → Env → World → Prop := QX (fun ρ w => l6 R (ρ 2) (ρ 3) (ρ 4) (ρ 7) (ρ 8) w) (fun ρ w => R (.returned (ρ 6)) w) []
theorem b4_eq (R : Ending → World → Prop) (ρ : Env) (w : World) : (b4 R (ρ 2) (ρ 3) (ρ 4) (ρ 7) w) = codeP Try.prog (pan R) (preC 0 (fstC p1)) (q9 R) ρ w := by kernel_rfl
theorem b4_ok (R : Ending → World → Prop) (ρ : Env) (w : World) (h : b4 R (ρ 2) (ρ 3) (ρ 4) (ρ 7) w) : codeP Try.prog (pan R) (fstC p1) (q8 R) ρ w := by
  have e : appC 0 (preC 0 (fstC p1)) (dropC 1 (fstC p1)) = (fstC p1) := by kernel_rfl
  rw [← e]
  exact appQ (fun ρ w => l6 R (ρ 2) (ρ 3) (ρ 4) (ρ 7) (ρ 8) w) 0 ((b4_eq R ρ w).mp h) (fun ρ w h => k5_ok R ρ w h)
theorem k2_ok (R : Ending → World → Prop) (ρ : Env) (w : World) (h : b4 R (ρ 2) (ρ 3) (ρ 4) (ρ 7) w) : codeP Try.prog (pan R) p1 (q1 R) ρ w := by
  have e : Code.seq (fstC p1) (sndC p1) = p1 := by kernel_rfl
  rw [← e]
  exact seqQ (fun ρ w => b3 R (ρ 7) w) (b4_ok R ρ w h) (fun ρ w h => b3_ok R ρ w h)
def b1_1 (R : Ending → World → Prop) (x2 v1 v3 v11 : Value) (w12 : World) (_r : Tok R := tok R) : Prop :=
  RUN Try.prog (pan R) (bins .add 9 (.tmp 12) (.const (Go.Value.string { data := #[32, 45, 62] })) v11 (Go.Value.string { data := #[32, 45, 62] })) w12 fun v13 w14 =>
  RUN Try.prog (pan R) (convert 9 98 v13) w14 fun v15 w16 =>
  b4 R x2 v1 v3 v15 w16
/- x0 g, x1 p, x2 dot -/
def b1 (R : Ending → World → Prop) (x0 x1 x2 : Value) (w : World) (_r : Tok R := tok R) : Prop :=
  RUN Try.prog (pan R) (Instr.box 27 x0) w fun v1 w2 =>
  RUN Try.prog (pan R) (Instr.box 47 x1) w2 fun v3 w4 =>
  RUN Try.prog (pan R) (Instr.loadAt 27 v1) w4 fun v5 w6 =>
  RUN Try.prog (pan R) (Instr.fieldAt 47 v3 0) w6 fun v7 w8 =>
  RUN Try.prog (pan R) (Instr.loadAt 3 v7) w8 fun v9 w10 =>
  CALL Try.prog (pan R) ref05_symbol.id #[v5, v9] w10 fun v11 w12 =>
  b1_1 R x2 v1 v3 v11 w12
abbrev q10 (R : Ending → World → Prop) : Exit → Env → World → Prop := QX (fun ρ w => b4 R (ρ 2) (ρ 3) (ρ 4) (ρ 7) w) (fun ρ w => R (.returned (ρ 6)) w) []
theorem b1_eq (R : Ending → World → Prop) (ρ : Env) (w : World) : (b1 R (ρ 0) (ρ 1) (ρ 2) w) = codeP Try.prog (pan R) (preC 1 code) (q10 R) ρ w := by kernel_rfl
theorem b1_ok (R : Ending → World → Prop) (ρ : Env) (w : World) (h : b1 R (ρ 0) (ρ 1) (ρ 2) w) : codeP Try.prog (pan R) code (q1 R) ρ w := by
  have e : appC 1 (preC 1 code) (dropC 2 code) = code := by kernel_rfl
  rw [← e]
  exact appQ (fun ρ w => b4 R (ρ 2) (ρ 3) (ρ 4) (ρ 7) w) 1 ((b1_eq R ρ w).mp h) (fun ρ w h => k2_ok R ρ w h)
/-- What is owed for a call. -/
def run (R : Ending → World → Prop) (a0 a1 a2 : Value) (w : World) : Prop := b1 R a0 a1 a2 w
theorem calls (R : Ending → World → Prop) (a0 a1 a2 : Value) (w : World) (h : run R a0 a1 a2 w) : Calls Try.prog id #[a0, a1, a2] w R :=
  calls_of_t (f := id) (fn := Try.f84) (c := code) (by kernel_rfl) Try.func84 (by kernel_rfl) (by kernel_rfl) (args := [a0, a1, a2]) (Nat.le_of_ble_eq_true rfl) rfl (b1_ok R (envOf [a0, a1, a2]) w h)
theorem enters : Enters Try.prog id := fun args w => Try.call84 args w
theorem ct {a0 a1 a2 : Value} {w : World} {S : Value → World → Prop} (h : ∀ R : Ending → World → Prop, (∀ v w, S v w → R (.returned v) w) → run R a0 a1 a2 w) : Ct Try.prog id #[a0, a1, a2] w S :=
  Ct.intro enters fun R hR => calls R a0 a1 a2 w (h R hR)
attribute [irreducible] b3 b9 b12_1 b12_2 b12 b11 b7 l6 b4 b1_1 b1 run
attribute [go_sem] b3 b9 b12_1 b12_2 b12 b11 b7 b4 b1_1 b1 run
end ref05_dotted
end Go.Proofs.Ytkacbjhiobnbfaa

