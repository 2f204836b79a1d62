/- Shallow programs, written by a program of ours (gen.py) off the translation; each is tied to the code by the kernel. -/
import Derived.Test.YtkacbjhiobnbfaaGa
set_option linter.unusedVariables false
set_option maxRecDepth 100000
namespace Go.Proofs.Ytkacbjhiobnbfaa
open Go.Px


/-! ### presage/presageref05.Row -/
namespace ref05_Row
noncomputable def code : Code := bodyOf Try.f23
noncomputable abbrev p1 : Code := dropC 2 code
noncomputable abbrev p2 : Code := dropC 1 (sndC p1)
def b5 (R : EP) (x7 : Value) (w : World) (_r : Tok R := tok R) : Prop :=
  RUN Try.prog (pan R) (convert 98 9 x7) w fun v1 w2 =>
  R (.returned (.tuple #[v1, (Go.Value.int Go.IntKind.i64 0)])) w2
abbrev q1 (R : EP) : XP := QX (fun ρ w => R (.returned (.tuple #[(ρ 4), (ρ 5)])) w) (fun ρ w => R (.returned (.tuple #[(ρ 4), (ρ 5)])) w) []
theorem b5_eq (R : EP) (ρ : Env) (w : World) : (b5 R (ρ 7) w) = codeP Try.prog (pan R) (sndC p2) (q1 R) ρ w := by kernel_rfl
theorem b5_ok (R : EP) (ρ : Env) (w : World) (h : b5 R (ρ 7) w) : codeP Try.prog (pan R) (sndC p2) (q1 R) ρ w := (b5_eq R ρ w).mp h
noncomputable abbrev p3 : Code := dropC 1 (fstC p2)
noncomputable abbrev p4 : Code := loopC (blkC p3)
noncomputable abbrev p5 : Code := dropC 1 p4
def b11 (R : EP) (C8 : Value → VP) (x7 x8 : Value) (w : World) (_r : Tok R := tok R) (_C8 : Tok C8 := tok C8) : Prop :=
  RUN Try.prog (pan R) (bins .add 3 (.tmp 41) (.const (Go.Value.int Go.IntKind.i64 1)) x8 (Go.Value.int Go.IntKind.i64 1)) w fun v1 w2 =>
  C8 x7 v1 w2
abbrev q2 (R : EP) (C8 : Value → VP) : XP := QX (fun ρ w => C8 (ρ 7) (ρ 8) w) (fun ρ w => R (.returned (.tuple #[(ρ 4), (ρ 5)])) w) [(4, (fun ρ w => b5 R (ρ 7) w))]
theorem b11_eq (R : EP) (C8 : Value → VP) (ρ : Env) (w : World) : (b11 R C8 (ρ 7) (ρ 8) w) = codeP Try.prog (pan R) (sndC p5) (q2 R C8) ρ w := by kernel_rfl
theorem b11_ok (R : EP) (C8 : Value → VP) (ρ : Env) (w : World) (h : b11 R C8 (ρ 7) (ρ 8) w) : codeP Try.prog (pan R) (sndC p5) (q2 R C8) ρ w := (b11_eq R C8 ρ w).mp h
noncomputable abbrev p6 : Code := blkC (fstC p5)
noncomputable abbrev p7 : Code := dropC 1 p6
def b14 (R : EP) (C8 : Value → VP) (x1 x2 x7 x8 : Value) (w : World) (_r : Tok R := tok R) (_C8 : Tok C8 := tok C8) : Prop :=
  LD Try.prog (Instr.loadAt 27 x2) (World.drew w) fun v1 =>
  PUR Try.prog (Instr.indexAt 24 x1 x8) fun v2 =>
  LD Try.prog (Instr.loadAt 3 v2) (World.drew w) fun v3 =>
  CALL Try.prog (pan R) ref05_symbol.id #[v1, v3] (World.drew w) fun v4 w5 =>
  RUN Try.prog (pan R) (Builtin.append_ #[98, 9] 98 #[x7, v4]) w5 fun v6 w7 =>
  b11 R C8 v6 x8 w7
abbrev q3 (R : EP) (C8 : Value → VP) : XP := QX (fun ρ w => b11 R C8 (ρ 7) (ρ 8) w) (fun ρ w => R (.returned (.tuple #[(ρ 4), (ρ 5)])) w) [(6, (fun ρ w => b11 R C8 (ρ 7) (ρ 8) w)), (4, (fun ρ w => b5 R (ρ 7) w))]
theorem b14_eq (R : EP) (C8 : Value → VP) (ρ : Env) (w : World) : (b14 R C8 (ρ 1) (ρ 2) (ρ 7) (ρ 8) w) = codeP Try.prog (pan R) p7 (q3 R C8) ρ w := by kernel_rfl
theorem b14_ok (R : EP) (C8 : Value → VP) (ρ : Env) (w : World) (h : b14 R C8 (ρ 1) (ρ 2) (ρ 7) (ρ 8) w) : codeP Try.prog (pan R) p7 (q3 R C8) ρ w := (b14_eq R C8 ρ w).mp h
def b13_1 (R : EP) (C8 : Value → VP) (x1 x2 x7 x8 : Value) (w2 : World) (_r : Tok R := tok R) (_C8 : Tok C8 := tok C8) : Prop :=
  RUN Try.prog (pan R) (Instr.buildSlice 98 1 #[(0, (Go.Value.int Go.IntKind.u8 32))]) w2 fun v3 w4 =>
  RUN Try.prog (pan R) (Builtin.append_ #[98, 98] 98 #[x7, v3]) w4 fun v5 w6 =>
  b14 R C8 x1 x2 v5 x8 w6
def b13 (R : EP) (C8 : Value → VP) (x1 x2 x7 x8 : Value) (w : World) (_r : Tok R := tok R) (_C8 : Tok C8 := tok C8) : Prop :=
  RUN Try.prog (pan R) (bins .gtr 3 (.tmp 43) (.const (Go.Value.int Go.IntKind.i64 0)) x8 (Go.Value.int Go.IntKind.i64 0)) w fun v1 w2 =>
  SPL v1
  (b13_1 R C8 x1 x2 x7 x8 w2)
  (b14 R C8 x1 x2 x7 x8 w2)
abbrev q4 (R : EP) (C8 : Value → VP) : XP := QX (fun ρ w => b14 R C8 (ρ 1) (ρ 2) (ρ 7) (ρ 8) w) (fun ρ w => R (.returned (.tuple #[(ρ 4), (ρ 5)])) w) [(6, (fun ρ w => b11 R C8 (ρ 7) (ρ 8) w)), (4, (fun ρ w => b5 R (ρ 7) w))]
theorem b13_eq (R : EP) (C8 : Value → VP) (ρ : Env) (w : World) : (b13 R C8 (ρ 1) (ρ 2) (ρ 7) (ρ 8) w) = codeP Try.prog (pan R) (preC 0 p6) (q4 R C8) ρ w := by kernel_rfl
theorem b13_ok (R : EP) (C8 : Value → VP) (ρ : Env) (w : World) (h : b13 R C8 (ρ 1) (ρ 2) (ρ 7) (ρ 8) w) : codeP Try.prog (pan R) p6 (q3 R C8) ρ w := by
  have e : appC 0 (preC 0 p6) (dropC 1 p6) = p6 := by kernel_rfl
  rw [← e]
  exact appQ (fun ρ w => b14 R C8 (ρ 1) (ρ 2) (ρ 7) (ρ 8) w) 0 ((b13_eq R C8 ρ w).mp h) (fun ρ w h => b14_ok R C8 ρ w h)
abbrev q5 (R : EP) (C8 : Value → VP) : XP := QX (fun ρ w => b11 R C8 (ρ 7) (ρ 8) w) (fun ρ w => R (.returned (.tuple #[(ρ 4), (ρ 5)])) w) [(4, (fun ρ w => b5 R (ρ 7) w))]
theorem k12_ok (R : EP) (C8 : Value → VP) (ρ : Env) (w : World) (h : b13 R C8 (ρ 1) (ρ 2) (ρ 7) (ρ 8) w) : codeP Try.prog (pan R) (fstC p5) (q5 R C8) ρ w := by
  have e : Code.block 3 (blkC (fstC p5)) = (fstC p5) := by kernel_rfl
  rw [← e]
  exact blockQ (b13_ok R C8 ρ w h)
theorem k10_ok (R : EP) (C8 : Value → VP) (ρ : Env) (w : World) (h : b13 R C8 (ρ 1) (ρ 2) (ρ 7) (ρ 8) w) : codeP Try.prog (pan R) p5 (q2 R C8) ρ w := by
  have e : Code.seq (fstC p5) (sndC p5) = p5 := by kernel_rfl
  rw [← e]
  exact seqQ (fun ρ w => b11 R C8 (ρ 7) (ρ 8) w) (k12_ok R C8 ρ w h) (fun ρ w h => b11_ok R C8 ρ w h)
def b9 (R : EP) (C8 : Value → VP) (x1 x2 x7 x8 : Value) (w : World) (_r : Tok R := tok R) (_C8 : Tok C8 := tok C8) : Prop :=
  RUN Try.prog (pan R) (Builtin.len_ #[24] 3 #[x1]) w fun v1 w2 =>
  RUN Try.prog (pan R) (bins .lss 3 (.tmp 37) (.tmp 39) x8 v1) w2 fun v3 w4 =>
  SPL v3
  (b13 R C8 x1 x2 x7 x8 w4)
  (b5 R x7 w4)
abbrev q6 (R : EP) (C8 : Value → VP) : XP := QX (fun ρ w => b13 R C8 (ρ 1) (ρ 2) (ρ 7) (ρ 8) w) (fun ρ w => R (.returned (.tuple #[(ρ 4), (ρ 5)])) w) [(4, (fun ρ w => b5 R (ρ 7) w))]
theorem b9_eq (R : EP) (C8 : Value → VP) (ρ : Env) (w : World) : (b9 R C8 (ρ 1) (ρ 2) (ρ 7) (ρ 8) w) = codeP Try.prog (pan R) (preC 0 p4) (q6 R C8) ρ w := by kernel_rfl
theorem b9_ok (R : EP) (C8 : Value → VP) (ρ : Env) (w : World) (h : b9 R C8 (ρ 1) (ρ 2) (ρ 7) (ρ 8) w) : codeP Try.prog (pan R) p4 (q2 R C8) ρ w := by
  have e : appC 0 (preC 0 p4) (dropC 1 p4) = p4 := by kernel_rfl
  rw [← e]
  exact appQ (fun ρ w => b13 R C8 (ρ 1) (ρ 2) (ρ 7) (ρ 8) w) 0 ((b9_eq R C8 ρ w).mp h) (fun ρ w h => k10_ok R C8 ρ w h)
def l8 (R : EP) (x1 x2 x7 x8 : Value) (w : World) (_r : Tok R := tok R) : Prop :=
  ∃ (J : Value → VP) (μ : Value → Value → World → Nat), J x7 x8 w ∧ ∀ y7 y8 w0, J y7 y8 w0 → b9 R (fun z7 z8 w1 => J z7 z8 w1 ∧ μ z7 z8 w1 < μ y7 y8 w0) x1 x2 y7 y8 w0
abbrev q7 (R : EP) : XP := QX (fun ρ w => b5 R (ρ 7) w) (fun ρ w => R (.returned (.tuple #[(ρ 4), (ρ 5)])) w) [(4, (fun ρ w => b5 R (ρ 7) w))]
theorem l8_ok (R : EP) (ρ : Env) (w : World) (h : l8 R (ρ 1) (ρ 2) (ρ 7) (ρ 8) w) : codeP Try.prog (pan R) (blkC p3) (q7 R) ρ w := by
  unfold l8 at h
  obtain ⟨J, μ, h0, hr⟩ := h
  have e : Code.loop (loopC (blkC p3)) = (blkC p3) := by kernel_rfl
  rw [← e]
  refine loopQ (fun ρ' w' => J (ρ' 7) (ρ' 8) w') (fun ρ' w' => μ (ρ' 7) (ρ' 8) w') h0 fun ρ' w' hA hI => ?_
  have e1 : ρ' 1 = ρ 1 := Agree.at hA 1 (by kernel_rfl)
  have e2 : ρ' 2 = ρ 2 := Agree.at hA 2 (by kernel_rfl)
  have h1 := hr (ρ' 7) (ρ' 8) w' hI
  rw [← e1, ← e2] at h1
  exact b9_ok R (fun z7 z8 w1 => J z7 z8 w1 ∧ μ z7 z8 w1 < μ (ρ' 7) (ρ' 8) w') ρ' w' h1
theorem l8_intro (R : EP) (x1 x2 x7 x8 : Value) (w : World) (J : Value → VP) (μ : Value → Value → World → Nat) (h0 : J x7 x8 w)
    (hr : ∀ y7 y8 w0, J y7 y8 w0 → ∀ C8 : Value → VP, (∀ z7 z8 w1, J z7 z8 w1 → μ z7 z8 w1 < μ y7 y8 w0 → C8 z7 z8 w1) → b9 R C8 x1 x2 y7 y8 w0) : l8 R x1 x2 x7 x8 w := by
  unfold l8
  exact ⟨J, μ, h0, fun y7 y8 w0 hJ => hr y7 y8 w0 hJ _ (fun z7 z8 w1 h1 h2 => ⟨h1, h2⟩)⟩
abbrev q8 (R : EP) : XP := QX (fun ρ w => b5 R (ρ 7) w) (fun ρ w => R (.returned (.tuple #[(ρ 4), (ρ 5)])) w) []
theorem k7_ok (R : EP) (ρ : Env) (w : World) (h : l8 R (ρ 1) (ρ 2) (ρ 7) (ρ 8) w) : codeP Try.prog (pan R) p3 (q8 R) ρ w := by
  have e : Code.block 2 (blkC p3) = p3 := by kernel_rfl
  rw [← e]
  exact blockQ (l8_ok R ρ w h)
def b6 (R : EP) (x1 x2 x7 : Value) (w : World) (_r : Tok R := tok R) : Prop :=
  l8 R x1 x2 x7 (Go.Value.int Go.IntKind.i64 0) w
abbrev q9 (R : EP) : XP := QX (fun ρ w => l8 R (ρ 1) (ρ 2) (ρ 7) (ρ 8) w) (fun ρ w => R (.returned (.tuple #[(ρ 4), (ρ 5)])) w) []
theorem b6_eq (R : EP) (ρ : Env) (w : World) : (b6 R (ρ 1) (ρ 2) (ρ 7) w) = codeP Try.prog (pan R) (preC 0 (fstC p2)) (q9 R) ρ w := by kernel_rfl
theorem b6_ok (R : EP) (ρ : Env) (w : World) (h : b6 R (ρ 1) (ρ 2) (ρ 7) w) : codeP Try.prog (pan R) (fstC p2) (q8 R) ρ w := by
  have e : appC 0 (preC 0 (fstC p2)) (dropC 1 (fstC p2)) = (fstC p2) := by kernel_rfl
  rw [← e]
  exact appQ (fun ρ w => l8 R (ρ 1) (ρ 2) (ρ 7) (ρ 8) w) 0 ((b6_eq R ρ w).mp h) (fun ρ w h => k7_ok R ρ w h)
theorem k4_ok (R : EP) (ρ : Env) (w : World) (h : b6 R (ρ 1) (ρ 2) (ρ 7) w) : codeP Try.prog (pan R) p2 (q1 R) ρ w := by
  have e : Code.seq (fstC p2) (sndC p2) = p2 := by kernel_rfl
  rw [← e]
  exact seqQ (fun ρ w => b5 R (ρ 7) w) (b6_ok R ρ w h) (fun ρ w h => b5_ok R ρ w h)
def b3 (R : EP) (x1 x2 : Value) (w : World) (_r : Tok R := tok R) : Prop :=
  b6 R x1 x2 (Go.Value.slice Option.none 0 0) w
abbrev q10 (R : EP) : XP := QX (fun ρ w => b6 R (ρ 1) (ρ 2) (ρ 7) w) (fun ρ w => R (.returned (.tuple #[(ρ 4), (ρ 5)])) w) []
theorem b3_eq (R : EP) (ρ : Env) (w : World) : (b3 R (ρ 1) (ρ 2) w) = codeP Try.prog (pan R) (preC 0 (sndC p1)) (q10 R) ρ w := by kernel_rfl
theorem b3_ok (R : EP) (ρ : Env) (w : World) (h : b3 R (ρ 1) (ρ 2) w) : codeP Try.prog (pan R) (sndC p1) (q1 R) ρ w := by
  have e : appC 0 (preC 0 (sndC p1)) (dropC 1 (sndC p1)) = (sndC p1) := by kernel_rfl
  rw [← e]
  exact appQ (fun ρ w => b6 R (ρ 1) (ρ 2) (ρ 7) w) 0 ((b3_eq R ρ w).mp h) (fun ρ w h => k4_ok R ρ w h)
noncomputable abbrev p8 : Code := dropC 1 (fstC p1)
noncomputable abbrev p9 : Code := loopC (blkC p8)
noncomputable abbrev p10 : Code := dropC 1 p9
def b20 (R : EP) (C17 : VP) (x6 : Value) (w : World) (_r : Tok R := tok R) (_C17 : Tok C17 := tok C17) : Prop :=
  RUN Try.prog (pan R) (bins .add 3 (.tmp 16) (.const (Go.Value.int Go.IntKind.i64 1)) x6 (Go.Value.int Go.IntKind.i64 1)) w fun v1 w2 =>
  C17 v1 w2
abbrev q11 (R : EP) (C17 : VP) : XP := QX (fun ρ w => C17 (ρ 6) w) (fun ρ w => R (.returned (.tuple #[(ρ 4), (ρ 5)])) w) [(0, (fun ρ w => b3 R (ρ 1) (ρ 2) w))]
theorem b20_eq (R : EP) (C17 : VP) (ρ : Env) (w : World) : (b20 R C17 (ρ 6) w) = codeP Try.prog (pan R) (sndC p10) (q11 R C17) ρ w := by kernel_rfl
theorem b20_ok (R : EP) (C17 : VP) (ρ : Env) (w : World) (h : b20 R C17 (ρ 6) w) : codeP Try.prog (pan R) (sndC p10) (q11 R C17) ρ w := (b20_eq R C17 ρ w).mp h
noncomputable abbrev p11 : Code := blkC (fstC p10)
noncomputable abbrev p12 : Code := dropC 1 p11
def b23 (R : EP) (C17 : VP) (x6 x36 : Value) (w : World) (_r : Tok R := tok R) (_C17 : Tok C17 := tok C17) : Prop :=
  SPL x36
  (R (.returned (.tuple #[(Go.Value.string { data := #[] }), (Go.Value.int Go.IntKind.i64 1)])) w)
  (b20 R C17 x6 w)
abbrev q12 (R : EP) (C17 : VP) : XP := QX (fun ρ w => b20 R C17 (ρ 6) w) (fun ρ w => R (.returned (.tuple #[(ρ 4), (ρ 5)])) w) [(2, (fun ρ w => b20 R C17 (ρ 6) w)), (0, (fun ρ w => b3 R (ρ 1) (ρ 2) w))]
theorem b23_eq (R : EP) (C17 : VP) (ρ : Env) (w : World) : (b23 R C17 (ρ 6) (ρ 36) w) = codeP Try.prog (pan R) p12 (q12 R C17) ρ w := by kernel_rfl
theorem b23_ok (R : EP) (C17 : VP) (ρ : Env) (w : World) (h : b23 R C17 (ρ 6) (ρ 36) w) : codeP Try.prog (pan R) p12 (q12 R C17) ρ w := (b23_eq R C17 ρ w).mp h
def b22_1 (R : EP) (C17 : VP) (x1 x2 x6 : Value) (w : World) (_r : Tok R := tok R) (_C17 : Tok C17 := tok C17) : Prop :=
  PUR Try.prog (Instr.indexAt 24 x1 x6) fun v4 =>
  LD Try.prog (Instr.loadAt 3 v4) (World.drew w) fun v5 =>
  PUR Try.prog (Instr.fieldAt 27 x2 0) fun v6 =>
  LD Try.prog (Instr.loadAt 22 v6) (World.drew w) fun v7 =>
  LD Try.prog (Builtin.len_ #[22] 3 #[v7]) (World.drew w) fun v8 =>
  PUR Try.prog (Instr.fieldAt 27 x2 1) fun v9 =>
  LD Try.prog (Instr.loadAt 23 v9) (World.drew w) fun v10 =>
  LD Try.prog (Builtin.len_ #[23] 3 #[v10]) (World.drew w) fun v11 =>
  PUR Try.prog (bins .add 3 (.tmp 30) (.tmp 33) v8 v11) fun v12 =>
  PUR Try.prog (bins .geq 3 (.tmp 27) (.tmp 34) v5 v12) fun v13 =>
  b23 R C17 x6 v13 (World.drew w)
def b22 (R : EP) (C17 : VP) (x1 x2 x6 : Value) (w : World) (_r : Tok R := tok R) (_C17 : Tok C17 := tok C17) : Prop :=
  PUR Try.prog (Instr.indexAt 24 x1 x6) fun v1 =>
  LD Try.prog (Instr.loadAt 3 v1) (World.drew w) fun v2 =>
  PUR Try.prog (bins .lss 3 (.tmp 21) (.const (Go.Value.int Go.IntKind.i64 0)) v2 (Go.Value.int Go.IntKind.i64 0)) fun v3 =>
  SPL v3
  (b23 R C17 x6 (Go.Value.bool Bool.true) (World.drew w))
  (b22_1 R C17 x1 x2 x6 w)
abbrev q13 (R : EP) (C17 : VP) : XP := QX (fun ρ w => b23 R C17 (ρ 6) (ρ 36) w) (fun ρ w => R (.returned (.tuple #[(ρ 4), (ρ 5)])) w) [(2, (fun ρ w => b20 R C17 (ρ 6) w)), (0, (fun ρ w => b3 R (ρ 1) (ρ 2) w))]
theorem b22_eq (R : EP) (C17 : VP) (ρ : Env) (w : World) : (b22 R C17 (ρ 1) (ρ 2) (ρ 6) w) = codeP Try.prog (pan R) (preC 0 p11) (q13 R C17) ρ w := by kernel_rfl
theorem b22_ok (R : EP) (C17 : VP) (ρ : Env) (w : World) (h : b22 R C17 (ρ 1) (ρ 2) (ρ 6) w) : codeP Try.prog (pan R) p11 (q12 R C17) ρ w := by
  have e : appC 0 (preC 0 p11) (dropC 1 p11) = p11 := by kernel_rfl
  rw [← e]
  exact appQ (fun ρ w => b23 R C17 (ρ 6) (ρ 36) w) 0 ((b22_eq R C17 ρ w).mp h) (fun ρ w h => b23_ok R C17 ρ w h)
abbrev q14 (R : EP) (C17 : VP) : XP := QX (fun ρ w => b20 R C17 (ρ 6) w) (fun ρ w => R (.returned (.tuple #[(ρ 4), (ρ 5)])) w) [(0, (fun ρ w => b3 R (ρ 1) (ρ 2) w))]
theorem k21_ok (R : EP) (C17 : VP) (ρ : Env) (w : World) (h : b22 R C17 (ρ 1) (ρ 2) (ρ 6) w) : codeP Try.prog (pan R) (fstC p10) (q14 R C17) ρ w := by
  have e : Code.block 1 (blkC (fstC p10)) = (fstC p10) := by kernel_rfl
  rw [← e]
  exact blockQ (b22_ok R C17 ρ w h)
theorem k19_ok (R : EP) (C17 : VP) (ρ : Env) (w : World) (h : b22 R C17 (ρ 1) (ρ 2) (ρ 6) w) : codeP Try.prog (pan R) p10 (q11 R C17) ρ w := by
  have e : Code.seq (fstC p10) (sndC p10) = p10 := by kernel_rfl
  rw [← e]
  exact seqQ (fun ρ w => b20 R C17 (ρ 6) w) (k21_ok R C17 ρ w h) (fun ρ w h => b20_ok R C17 ρ w h)
def b18 (R : EP) (C17 : VP) (x1 x2 x6 : Value) (w : World) (_r : Tok R := tok R) (_C17 : Tok C17 := tok C17) : Prop :=
  RUN Try.prog (pan R) (Builtin.len_ #[24] 3 #[x1]) w fun v1 w2 =>
  RUN Try.prog (pan R) (bins .lss 3 (.tmp 12) (.tmp 14) x6 v1) w2 fun v3 w4 =>
  SPL v3
  (b22 R C17 x1 x2 x6 w4)
  (b3 R x1 x2 w4)
abbrev q15 (R : EP) (C17 : VP) : XP := QX (fun ρ w => b22 R C17 (ρ 1) (ρ 2) (ρ 6) w) (fun ρ w => R (.returned (.tuple #[(ρ 4), (ρ 5)])) w) [(0, (fun ρ w => b3 R (ρ 1) (ρ 2) w))]
theorem b18_eq (R : EP) (C17 : VP) (ρ : Env) (w : World) : (b18 R C17 (ρ 1) (ρ 2) (ρ 6) w) = codeP Try.prog (pan R) (preC 0 p9) (q15 R C17) ρ w := by kernel_rfl
theorem b18_ok (R : EP) (C17 : VP) (ρ : Env) (w : World) (h : b18 R C17 (ρ 1) (ρ 2) (ρ 6) w) : codeP Try.prog (pan R) p9 (q11 R C17) ρ w := by
  have e : appC 0 (preC 0 p9) (dropC 1 p9) = p9 := by kernel_rfl
  rw [← e]
  exact appQ (fun ρ w => b22 R C17 (ρ 1) (ρ 2) (ρ 6) w) 0 ((b18_eq R C17 ρ w).mp h) (fun ρ w h => k19_ok R C17 ρ w h)
def l17 (R : EP) (x1 x2 x6 : Value) (w : World) (_r : Tok R := tok R) : Prop :=
  ∃ (J : VP) (μ : Value → World → Nat), J x6 w ∧ ∀ y6 w0, J y6 w0 → b18 R (fun z6 w1 => J z6 w1 ∧ μ z6 w1 < μ y6 w0) x1 x2 y6 w0
abbrev q16 (R : EP) : XP := QX (fun ρ w => b3 R (ρ 1) (ρ 2) w) (fun ρ w => R (.returned (.tuple #[(ρ 4), (ρ 5)])) w) [(0, (fun ρ w => b3 R (ρ 1) (ρ 2) w))]
theorem l17_ok (R : EP) (ρ : Env) (w : World) (h : l17 R (ρ 1) (ρ 2) (ρ 6) w) : codeP Try.prog (pan R) (blkC p8) (q16 R) ρ w := by
  unfold l17 at h
  obtain ⟨J, μ, h0, hr⟩ := h
  have e : Code.loop (loopC (blkC p8)) = (blkC p8) := by kernel_rfl
  rw [← e]
  refine loopQ (fun ρ' w' => J (ρ' 6) w') (fun ρ' w' => μ (ρ' 6) w') h0 fun ρ' w' hA hI => ?_
  have e1 : ρ' 1 = ρ 1 := Agree.at hA 1 (by kernel_rfl)
  have e2 : ρ' 2 = ρ 2 := Agree.at hA 2 (by kernel_rfl)
  have h1 := hr (ρ' 6) w' hI
  rw [← e1, ← e2] at h1
  exact b18_ok R (fun z6 w1 => J z6 w1 ∧ μ z6 w1 < μ (ρ' 6) w') ρ' w' h1
theorem l17_intro (R : EP) (x1 x2 x6 : Value) (w : World) (J : VP) (μ : Value → World → Nat) (h0 : J x6 w)
    (hr : ∀ y6 w0, J y6 w0 → ∀ C17 : VP, (∀ z6 w1, J z6 w1 → μ z6 w1 < μ y6 w0 → C17 z6 w1) → b18 R C17 x1 x2 y6 w0) : l17 R x1 x2 x6 w := by
  unfold l17
  exact ⟨J, μ, h0, fun y6 w0 hJ => hr y6 w0 hJ _ (fun z6 w1 h1 h2 => ⟨h1, h2⟩)⟩
abbrev q17 (R : EP) : XP := QX (fun ρ w => b3 R (ρ 1) (ρ 2) w) (fun ρ w => R (.returned (.tuple #[(ρ 4), (ρ 5)])) w) []
theorem k16_ok (R : EP) (ρ : Env) (w : World) (h : l17 R (ρ 1) (ρ 2) (ρ 6) w) : codeP Try.prog (pan R) p8 (q17 R) ρ w := by
  have e : Code.block 0 (blkC p8) = p8 := by kernel_rfl
  rw [← e]
  exact blockQ (l17_ok R ρ w h)
def b15 (R : EP) (x1 x2 : Value) (w : World) (_r : Tok R := tok R) : Prop :=
  l17 R x1 x2 (Go.Value.int Go.IntKind.i64 0) w
abbrev q18 (R : EP) : XP := QX (fun ρ w => l17 R (ρ 1) (ρ 2) (ρ 6) w) (fun ρ w => R (.returned (.tuple #[(ρ 4), (ρ 5)])) w) []
theorem b15_eq (R : EP) (ρ : Env) (w : World) : (b15 R (ρ 1) (ρ 2) w) = codeP Try.prog (pan R) (preC 0 (fstC p1)) (q18 R) ρ w := by kernel_rfl
theorem b15_ok (R : EP) (ρ : Env) (w : World) (h : b15 R (ρ 1) (ρ 2) w) : codeP Try.prog (pan R) (fstC p1) (q17 R) ρ w := by
  have e : appC 0 (preC 0 (fstC p1)) (dropC 1 (fstC p1)) = (fstC p1) := by kernel_rfl
  rw [← e]
  exact appQ (fun ρ w => l17 R (ρ 1) (ρ 2) (ρ 6) w) 0 ((b15_eq R ρ w).mp h) (fun ρ w h => k16_ok R ρ w h)
theorem k2_ok (R : EP) (ρ : Env) (w : World) (h : b15 R (ρ 1) (ρ 2) w) : codeP Try.prog (pan R) p1 (q1 R) ρ w := by
  have e : Code.seq (fstC p1) (sndC p1) = p1 := by kernel_rfl
  rw [← e]
  exact seqQ (fun ρ w => b3 R (ρ 1) (ρ 2) w) (b15_ok R ρ w h) (fun ρ w h => b3_ok R ρ w h)
def b1 (R : EP) (x0 x1 : Value) (w : World) (_r : Tok R := tok R) : Prop :=
  RUN Try.prog (pan R) (Instr.box 27 x0) w fun v1 w2 =>
  RUN Try.prog (pan R) (Instr.loadAt 27 v1) w2 fun v3 w4 =>
  CALL Try.prog (pan R) ref05_Either.id #[v3] w4 fun v5 w6 =>
  RUN Try.prog (pan R) (Op.unary .not v5) w6 fun v7 w8 =>
  SPL v7
  (R (.returned (.tuple #[(Go.Value.string { data := #[] }), (Go.Value.int Go.IntKind.i64 1)])) w8)
  (b15 R x1 v1 w8)
abbrev q19 (R : EP) : XP := QX (fun ρ w => b15 R (ρ 1) (ρ 2) w) (fun ρ w => R (.returned (.tuple #[(ρ 4), (ρ 5)])) w) []
theorem b1_eq (R : EP) (ρ : Env) (w : World) : (b1 R (ρ 0) (ρ 1) w) = codeP Try.prog (pan R) (preC 1 code) (q19 R) ρ w := by kernel_rfl
theorem b1_ok (R : EP) (ρ : Env) (w : World) (h : b1 R (ρ 0) (ρ 1) w) : codeP Try.prog (pan R) code (q1 R) ρ w := by
  have e : appC 1 (preC 1 code) (dropC 2 code) = code := by kernel_rfl
  rw [← e]
  exact appQ (fun ρ w => b15 R (ρ 1) (ρ 2) w) 1 ((b1_eq R ρ w).mp h) (fun ρ w h => k2_ok R ρ w h)
/-- What is owed for a call. -/
def run (R : EP) (a0 a1 : Value) (w : World) : Prop := b1 R a0 a1 w
theorem calls (R : EP) (a0 a1 : Value) (w : World) (h : run R a0 a1 w) : Calls Try.prog id #[a0, a1] w R :=
  calls_of_tt (f := id) (fn := Try.f23) (c := code) (by kernel_rfl) Try.func23 (by kernel_rfl) (by kernel_rfl) (args := [a0, a1]) (Nat.le_of_ble_eq_true rfl) rfl (b1_ok R (envOf [a0, a1]) w h)
theorem enters : Enters Try.prog id := fun args w => Try.call23 args w
theorem ct {a0 a1 : Value} {w : World} {S : VP} (h : ∀ R : EP, (∀ v w, S v w → R (.returned v) w) → run R a0 a1 w) : Ct Try.prog id #[a0, a1] w S :=
  Ct.intro enters fun R hR => calls R a0 a1 w (h R hR)
attribute [irreducible] b5 b11 b14 b13_1 b13 b9 l8 b6 b3 b20 b23 b22_1 b22 b18 l17 b15 b1 run
attribute [go_sem] b5 b11 b14 b13_1 b13 b9 b6 b3 b20 b23 b22_1 b22 b18 b15 b1 run
end ref05_Row

/-! ### presage/presageref05.Symbol -/
namespace ref05_Symbol
noncomputable def code : Code := bodyOf Try.f26
noncomputable abbrev p1 : Code := dropC 1 code
def b3 (R : EP) (x1 x2 : Value) (w : World) (_r : Tok R := tok R) : Prop :=
  RUN Try.prog (pan R) (Instr.loadAt 27 x2) w fun v1 w2 =>
  CALL Try.prog (pan R) ref05_symbol.id #[v1, x1] w2 fun v3 w4 =>
  R (.returned (.tuple #[v3, (Go.Value.int Go.IntKind.i64 0)])) w4
abbrev q1 (R : EP) : XP := QX (fun ρ w => R (.returned (.tuple #[(ρ 4), (ρ 5)])) w) (fun ρ w => R (.returned (.tuple #[(ρ 4), (ρ 5)])) w) []
theorem b3_eq (R : EP) (ρ : Env) (w : World) : (b3 R (ρ 1) (ρ 2) w) = codeP Try.prog (pan R) (sndC p1) (q1 R) ρ w := by kernel_rfl
theorem b3_ok (R : EP) (ρ : Env) (w : World) (h : b3 R (ρ 1) (ρ 2) w) : codeP Try.prog (pan R) (sndC p1) (q1 R) ρ w := (b3_eq R ρ w).mp h
noncomputable abbrev p2 : Code := dropC 1 (fstC p1)
def b5 (R : EP) (x1 x2 x23 : Value) (w : World) (_r : Tok R := tok R) : Prop :=
  SPL x23
  (R (.returned (.tuple #[(Go.Value.string { data := #[] }), (Go.Value.int Go.IntKind.i64 1)])) w)
  (b3 R x1 x2 w)
abbrev q2 (R : EP) : XP := QX (fun ρ w => b3 R (ρ 1) (ρ 2) w) (fun ρ w => R (.returned (.tuple #[(ρ 4), (ρ 5)])) w) []
theorem b5_eq (R : EP) (ρ : Env) (w : World) : (b5 R (ρ 1) (ρ 2) (ρ 23) w) = codeP Try.prog (pan R) p2 (q2 R) ρ w := by kernel_rfl
theorem b5_ok (R : EP) (ρ : Env) (w : World) (h : b5 R (ρ 1) (ρ 2) (ρ 23) w) : codeP Try.prog (pan R) p2 (q2 R) ρ w := (b5_eq R ρ w).mp h
def b4_1 (R : EP) (x1 x2 : Value) (w8 : World) (_r : Tok R := tok R) : Prop :=
  RUN Try.prog (pan R) (Instr.fieldAt 27 x2 0) w8 fun v9 w10 =>
  RUN Try.prog (pan R) (Instr.loadAt 22 v9) w10 fun v11 w12 =>
  RUN Try.prog (pan R) (Builtin.len_ #[22] 3 #[v11]) w12 fun v13 w14 =>
  RUN Try.prog (pan R) (Instr.fieldAt 27 x2 1) w14 fun v15 w16 =>
  RUN Try.prog (pan R) (Instr.loadAt 23 v15) w16 fun v17 w18 =>
  RUN Try.prog (pan R) (Builtin.len_ #[23] 3 #[v17]) w18 fun v19 w20 =>
  RUN Try.prog (pan R) (bins .add 3 (.tmp 17) (.tmp 20) v13 v19) w20 fun v21 w22 =>
  RUN Try.prog (pan R) (bins .geq 3 (.tmp 14) (.tmp 21) x1 v21) w22 fun v23 w24 =>
  b5 R x1 x2 v23 w24
def b4_2 (R : EP) (x1 x2 v3 : Value) (w4 : World) (_r : Tok R := tok R) : Prop :=
  RUN Try.prog (pan R) (Op.unary .not v3) w4 fun v5 w6 =>
  SPL v5
  (b5 R x1 x2 (Go.Value.bool Bool.true) w6)
  (RUN Try.prog (pan R) (bins .lss 3 (.tmp 10) (.const (Go.Value.int Go.IntKind.i64 0)) x1 (Go.Value.int Go.IntKind.i64 0)) w6 fun v7 w8 =>
  SPL v7
  (b5 R x1 x2 (Go.Value.bool Bool.true) w8)
  (b4_1 R x1 x2 w8))
def b4 (R : EP) (x1 x2 : Value) (w : World) (_r : Tok R := tok R) : Prop :=
  RUN Try.prog (pan R) (Instr.loadAt 27 x2) w fun v1 w2 =>
  CALL Try.prog (pan R) ref05_Either.id #[v1] w2 fun v3 w4 =>
  b4_2 R x1 x2 v3 w4
abbrev q3 (R : EP) : XP := QX (fun ρ w => b5 R (ρ 1) (ρ 2) (ρ 23) w) (fun ρ w => R (.returned (.tuple #[(ρ 4), (ρ 5)])) w) []
theorem b4_eq (R : EP) (ρ : Env) (w : World) : (b4 R (ρ 1) (ρ 2) w) = codeP Try.prog (pan R) (preC 0 (fstC p1)) (q3 R) ρ w := by kernel_rfl
theorem b4_ok (R : EP) (ρ : Env) (w : World) (h : b4 R (ρ 1) (ρ 2) w) : codeP Try.prog (pan R) (fstC p1) (q2 R) ρ w := by
  have e : appC 0 (preC 0 (fstC p1)) (dropC 1 (fstC p1)) = (fstC p1) := by kernel_rfl
  rw [← e]
  exact appQ (fun ρ w => b5 R (ρ 1) (ρ 2) (ρ 23) w) 0 ((b4_eq R ρ w).mp h) (fun ρ w h => b5_ok R ρ w h)
theorem k2_ok (R : EP) (ρ : Env) (w : World) (h : b4 R (ρ 1) (ρ 2) w) : codeP Try.prog (pan R) p1 (q1 R) ρ w := by
  have e : Code.seq (fstC p1) (sndC p1) = p1 := by kernel_rfl
  rw [← e]
  exact seqQ (fun ρ w => b3 R (ρ 1) (ρ 2) w) (b4_ok R ρ w h) (fun ρ w h => b3_ok R ρ w h)
def b1 (R : EP) (x0 x1 : Value) (w : World) (_r : Tok R := tok R) : Prop :=
  RUN Try.prog (pan R) (Instr.box 27 x0) w fun v1 w2 =>
  b4 R x1 v1 w2
abbrev q4 (R : EP) : XP := QX (fun ρ w => b4 R (ρ 1) (ρ 2) w) (fun ρ w => R (.returned (.tuple #[(ρ 4), (ρ 5)])) w) []
theorem b1_eq (R : EP) (ρ : Env) (w : World) : (b1 R (ρ 0) (ρ 1) w) = codeP Try.prog (pan R) (preC 0 code) (q4 R) ρ w := by kernel_rfl
theorem b1_ok (R : EP) (ρ : Env) (w : World) (h : b1 R (ρ 0) (ρ 1) w) : codeP Try.prog (pan R) code (q1 R) ρ w := by
  have e : appC 0 (preC 0 code) (dropC 1 code) = code := by kernel_rfl
  rw [← e]
  exact appQ (fun ρ w => b4 R (ρ 1) (ρ 2) w) 0 ((b1_eq R ρ w).mp h) (fun ρ w h => k2_ok R ρ w h)
/-- What is owed for a call. -/
def run (R : EP) (a0 a1 : Value) (w : World) : Prop := b1 R a0 a1 w
theorem calls (R : EP) (a0 a1 : Value) (w : World) (h : run R a0 a1 w) : Calls Try.prog id #[a0, a1] w R :=
  calls_of_tt (f := id) (fn := Try.f26) (c := code) (by kernel_rfl) Try.func26 (by kernel_rfl) (by kernel_rfl) (args := [a0, a1]) (Nat.le_of_ble_eq_true rfl) rfl (b1_ok R (envOf [a0, a1]) w h)
theorem enters : Enters Try.prog id := fun args w => Try.call26 args w
theorem ct {a0 a1 : Value} {w : World} {S : VP} (h : ∀ R : EP, (∀ v w, S v w → R (.returned v) w) → run R a0 a1 w) : Ct Try.prog id #[a0, a1] w S :=
  Ct.intro enters fun R hR => calls R a0 a1 w (h R hR)
attribute [irreducible] b3 b5 b4_1 b4_2 b4 b1 run
attribute [go_sem] b3 b5 b4_1 b4_2 b4 b1 run
end ref05_Symbol



/-! ### presage/presageref05.Either -/
namespace ref05_Either
noncomputable def code : Code := bodyOf Try.f31
def b1_1 (R : EP) (v1 : Value) (w6 : World) (_r : Tok R := tok R) : Prop :=
  RUN Try.prog (pan R) (Instr.loadAt 27 v1) w6 fun v7 w8 =>
  CALL Try.prog (pan R) ref02_Closed.id #[v7] w8 fun v9 w10 =>
  R (.returned v9) w10
def b1 (R : EP) (x0 : Value) (w : World) (_r : Tok R := tok R) : Prop :=
  RUN Try.prog (pan R) (Instr.box 27 x0) w fun v1 w2 =>
  RUN Try.prog (pan R) (Instr.loadAt 27 v1) w2 fun v3 w4 =>
  CALL Try.prog (pan R) ref02_Valid.id #[v3] w4 fun v5 w6 =>
  SPL v5
  (R (.returned (Go.Value.bool Bool.true)) w6)
  (b1_1 R v1 w6)
abbrev q1 (R : EP) : XP := QX (fun ρ w => R (.returned (ρ 2)) w) (fun ρ w => R (.returned (ρ 2)) w) []
theorem b1_eq (R : EP) (ρ : Env) (w : World) : (b1 R (ρ 0) w) = codeP Try.prog (pan R) code (q1 R) ρ w := by kernel_rfl
theorem b1_ok (R : EP) (ρ : Env) (w : World) (h : b1 R (ρ 0) w) : codeP Try.prog (pan R) code (q1 R) ρ w := (b1_eq R ρ w).mp h
/-- What is owed for a call. -/
def run (R : EP) (a0 : Value) (w : World) : Prop := b1 R a0 w
theorem calls (R : EP) (a0 : Value) (w : World) (h : run R a0 w) : Calls Try.prog id #[a0] w R :=
  calls_of_t (f := id) (fn := Try.f31) (c := code) (by kernel_rfl) Try.func31 (by kernel_rfl) (by kernel_rfl) (args := [a0]) (Nat.le_of_ble_eq_true rfl) rfl (b1_ok R (envOf [a0]) w h)
theorem enters : Enters Try.prog id := fun args w => Try.call31 args w
theorem ct {a0 : Value} {w : World} {S : VP} (h : ∀ R : EP, (∀ v w, S v w → R (.returned v) w) → run R a0 w) : Ct Try.prog id #[a0] w S :=
  Ct.intro enters fun R hR => calls R a0 w (h R hR)
attribute [irreducible] b1_1 b1 run
attribute [go_sem] b1_1 b1 run
end ref05_Either


/-! ### presage/presageref05.symbol -/
namespace ref05_symbol
noncomputable def code : Code := bodyOf Try.f74
def b1_1 (R : EP) (x1 v1 : Value) (w12 : World) (_r : Tok R := tok R) : Prop :=
  RUN Try.prog (pan R) (Instr.fieldAt 27 v1 0) w12 fun v13 w14 =>
  RUN Try.prog (pan R) (Instr.loadAt 22 v13) w14 fun v15 w16 =>
  RUN Try.prog (pan R) (Instr.indexAt 22 v15 x1) w16 fun v17 w18 =>
  RUN Try.prog (pan R) (Instr.fieldAt 106 v17 0) w18 fun v19 w20 =>
  RUN Try.prog (pan R) (Instr.loadAt 9 v19) w20 fun v21 w22 =>
  RUN Try.prog (pan R) (bins .add 9 (.const (Go.Value.string { data := #[39] })) (.tmp 19) (Go.Value.string { data := #[39] }) v21) w22 fun v23 w24 =>
  RUN Try.prog (pan R) (bins .add 9 (.tmp 20) (.const (Go.Value.string { data := #[39] })) v23 (Go.Value.string { data := #[39] })) w24 fun v25 w26 =>
  R (.returned v25) w26
def b1_2 (R : EP) (x1 v1 : Value) (w44 : World) (_r : Tok R := tok R) : Prop :=
  RUN Try.prog (pan R) (Instr.fieldAt 27 v1 1) w44 fun v45 w46 =>
  RUN Try.prog (pan R) (Instr.loadAt 23 v45) w46 fun v47 w48 =>
  RUN Try.prog (pan R) (Instr.fieldAt 27 v1 0) w48 fun v49 w50 =>
  RUN Try.prog (pan R) (Instr.loadAt 22 v49) w50 fun v51 w52 =>
  RUN Try.prog (pan R) (Builtin.len_ #[22] 3 #[v51]) w52 fun v53 w54 =>
  RUN Try.prog (pan R) (bins .sub 3 (.tmp 35) (.tmp 38) x1 v53) w54 fun v55 w56 =>
  RUN Try.prog (pan R) (Instr.indexAt 23 v47 v55) w56 fun v57 w58 =>
  RUN Try.prog (pan R) (Instr.loadAt 9 v57) w58 fun v59 w60 =>
  R (.returned v59) w60
def b1_3 (R : EP) (x1 v1 : Value) (w12 : World) (_r : Tok R := tok R) : Prop :=
  RUN Try.prog (pan R) (Instr.fieldAt 27 v1 1) w12 fun v27 w28 =>
  RUN Try.prog (pan R) (Instr.loadAt 23 v27) w28 fun v29 w30 =>
  RUN Try.prog (pan R) (Instr.fieldAt 27 v1 0) w30 fun v31 w32 =>
  RUN Try.prog (pan R) (Instr.loadAt 22 v31) w32 fun v33 w34 =>
  RUN Try.prog (pan R) (Builtin.len_ #[22] 3 #[v33]) w34 fun v35 w36 =>
  RUN Try.prog (pan R) (bins .sub 3 (.tmp 25) (.tmp 28) x1 v35) w36 fun v37 w38 =>
  RUN Try.prog (pan R) (Instr.indexAt 23 v29 v37) w38 fun v39 w40 =>
  RUN Try.prog (pan R) (Instr.loadAt 9 v39) w40 fun v41 w42 =>
  RUN Try.prog (pan R) (bins .eql 9 (.tmp 31) (.const (Go.Value.string { data := #[] })) v41 (Go.Value.string { data := #[] })) w42 fun v43 w44 =>
  SPL v43
  (R (.returned (Go.Value.string { data := #[36, 115, 116, 97, 114, 116] })) w44)
  (b1_2 R x1 v1 w44)
def b1_4 (R : EP) (x1 v1 : Value) (w4 : World) (_r : Tok R := tok R) : Prop :=
  RUN Try.prog (pan R) (Instr.fieldAt 27 v1 0) w4 fun v5 w6 =>
  RUN Try.prog (pan R) (Instr.loadAt 22 v5) w6 fun v7 w8 =>
  RUN Try.prog (pan R) (Builtin.len_ #[22] 3 #[v7]) w8 fun v9 w10 =>
  RUN Try.prog (pan R) (bins .lss 3 (.tmp 9) (.tmp 12) x1 v9) w10 fun v11 w12 =>
  SPL v11
  (b1_1 R x1 v1 w12)
  (b1_3 R x1 v1 w12)
def b1 (R : EP) (x0 x1 : Value) (w : World) (_r : Tok R := tok R) : Prop :=
  RUN Try.prog (pan R) (Instr.box 27 x0) w fun v1 w2 =>
  RUN Try.prog (pan R) (bins .eql 3 (.tmp 6) (.const (Go.Value.int Go.IntKind.i64 0)) x1 (Go.Value.int Go.IntKind.i64 0)) w2 fun v3 w4 =>
  SPL v3
  (R (.returned (Go.Value.string { data := #[36, 101, 110, 100] })) w4)
  (b1_4 R x1 v1 w4)
abbrev q1 (R : EP) : XP := QX (fun ρ w => R (.returned (ρ 4)) w) (fun ρ w => R (.returned (ρ 4)) w) []
theorem b1_eq (R : EP) (ρ : Env) (w : World) : (b1 R (ρ 0) (ρ 1) w) = codeP Try.prog (pan R) code (q1 R) ρ w := by kernel_rfl
theorem b1_ok (R : EP) (ρ : Env) (w : World) (h : b1 R (ρ 0) (ρ 1) w) : codeP Try.prog (pan R) code (q1 R) ρ w := (b1_eq R ρ w).mp h
/-- What is owed for a call. -/
def run (R : EP) (a0 a1 : Value) (w : World) : Prop := b1 R a0 a1 w
theorem calls (R : EP) (a0 a1 : Value) (w : World) (h : run R a0 a1 w) : Calls Try.prog id #[a0, a1] w R :=
  calls_of_t (f := id) (fn := Try.f74) (c := code) (by kernel_rfl) Try.func74 (by kernel_rfl) (by kernel_rfl) (args := [a0, a1]) (Nat.le_of_ble_eq_true rfl) rfl (b1_ok R (envOf [a0, a1]) w h)
theorem enters : Enters Try.prog id := fun args w => Try.call74 args w
theorem ct {a0 a1 : Value} {w : World} {S : VP} (h : ∀ R : EP, (∀ v w, S v w → R (.returned v) w) → run R a0 a1 w) : Ct Try.prog id #[a0, a1] w S :=
  Ct.intro enters fun R hR => calls R a0 a1 w (h R hR)
attribute [irreducible] b1_1 b1_2 b1_3 b1_4 b1 run
attribute [go_sem] b1_1 b1_2 b1_3 b1_4 b1 run
end ref05_symbol

end Go.Proofs.Ytkacbjhiobnbfaa

