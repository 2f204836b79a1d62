/- Shallow programs, written by a program of ours (gen.py) off the translation; each is tied to the code by the kernel. -/
import Derived.Test.YtkacbjhiobnbfaaGa
set_option linter.unusedVariables false
set_option maxRecDepth 100000
namespace Go.Proofs.Ytkacbjhiobnbfaa
open Go.Px

/-! ### presage/presageref20.Copy -/
namespace ref20_Copy
noncomputable def code : Code := bodyOf Try.f33
noncomputable abbrev p1 : Code := dropC 2 code
def b3 (R : EP) (x3 : Value) (w : World) (_r : Tok R := tok R) : Prop :=
  R (.returned x3) w
abbrev q1 (R : EP) : XP := QX (fun ρ w => R (.returned (ρ 2)) w) (fun ρ w => R (.returned (ρ 2)) w) []
theorem b3_eq (R : EP) (ρ : Env) (w : World) : (b3 R (ρ 3) w) = codeP Try.prog (pan R) (sndC p1) (q1 R) ρ w := by kernel_rfl
theorem b3_ok (R : EP) (ρ : Env) (w : World) (h : b3 R (ρ 3) w) : codeP Try.prog (pan R) (sndC p1) (q1 R) ρ w := (b3_eq R ρ w).mp h
noncomputable abbrev p2 : Code := dropC 1 (fstC p1)
noncomputable abbrev p3 : Code := loopC (blkC p2)
def b7_1 (R : EP) (C6 : Value → VP) (x0 x3 x4 : Value) (w4 : World) (_r : Tok R := tok R) (_C6 : Tok C6 := tok C6) : Prop :=
  RUN Try.prog (pan R) (Instr.indexAt 49 x0 x4) w4 fun v5 w6 =>
  RUN Try.prog (pan R) (Instr.loadAt 61 v5) w6 fun v7 w8 =>
  RUN Try.prog (pan R) (Instr.alloc 61 true (.tuple #[])) w8 fun v9 w10 =>
  RUNU Try.prog (pan R) (Instr.storeAt 61 v9 v7) w10 fun w11 =>
  RUN Try.prog (pan R) (Instr.buildSlice 24 0 #[]) w11 fun v12 w13 =>
  RUN Try.prog (pan R) (Instr.indexAt 49 x0 x4) w13 fun v14 w15 =>
  RUN Try.prog (pan R) (Instr.fieldAt 61 v14 3) w15 fun v16 w17 =>
  RUN Try.prog (pan R) (Instr.loadAt 24 v16) w17 fun v18 w19 =>
  RUN Try.prog (pan R) (Builtin.append_ #[24, 24] 24 #[v12, v18]) w19 fun v20 w21 =>
  RUN Try.prog (pan R) (Instr.fieldAt 61 v9 3) w21 fun v22 w23 =>
  RUNU Try.prog (pan R) (Instr.storeAt 24 v22 v20) w23 fun w24 =>
  RUN Try.prog (pan R) (Instr.loadAt 61 v9) w24 fun v25 w26 =>
  RUN Try.prog (pan R) (Instr.buildSlice 49 1 #[(0, v25)]) w26 fun v27 w28 =>
  RUN Try.prog (pan R) (Builtin.append_ #[49, 49] 49 #[x3, v27]) w28 fun v29 w30 =>
  RUN Try.prog (pan R) (bins .add 3 (.tmp 10) (.const (Go.Value.int Go.IntKind.i64 1)) x4 (Go.Value.int Go.IntKind.i64 1)) w30 fun v31 w32 =>
  C6 v29 v31 w32
def b7 (R : EP) (C6 : Value → VP) (x0 x3 x4 : Value) (w : World) (_r : Tok R := tok R) (_C6 : Tok C6 := tok C6) : Prop :=
  RUN Try.prog (pan R) (Builtin.len_ #[49] 3 #[x0]) w fun v1 w2 =>
  RUN Try.prog (pan R) (bins .lss 3 (.tmp 6) (.tmp 8) x4 v1) w2 fun v3 w4 =>
  SPL v3
  (b7_1 R C6 x0 x3 x4 w4)
  (b3 R x3 w4)
abbrev q2 (R : EP) (C6 : Value → VP) : XP := QX (fun ρ w => C6 (ρ 3) (ρ 4) w) (fun ρ w => R (.returned (ρ 2)) w) [(0, (fun ρ w => b3 R (ρ 3) w))]
theorem b7_eq (R : EP) (C6 : Value → VP) (ρ : Env) (w : World) : (b7 R C6 (ρ 0) (ρ 3) (ρ 4) w) = codeP Try.prog (pan R) p3 (q2 R C6) ρ w := by kernel_rfl
theorem b7_ok (R : EP) (C6 : Value → VP) (ρ : Env) (w : World) (h : b7 R C6 (ρ 0) (ρ 3) (ρ 4) w) : codeP Try.prog (pan R) p3 (q2 R C6) ρ w := (b7_eq R C6 ρ w).mp h
def l6 (R : EP) (x0 x3 x4 : Value) (w : World) (_r : Tok R := tok R) : Prop :=
  ∃ (J : Value → VP) (μ : Value → Value → World → Nat), J x3 x4 w ∧ ∀ y3 y4 w0, J y3 y4 w0 → b7 R (fun z3 z4 w1 => J z3 z4 w1 ∧ μ z3 z4 w1 < μ y3 y4 w0) x0 y3 y4 w0
abbrev q3 (R : EP) : XP := QX (fun ρ w => b3 R (ρ 3) w) (fun ρ w => R (.returned (ρ 2)) w) [(0, (fun ρ w => b3 R (ρ 3) w))]
theorem l6_ok (R : EP) (ρ : Env) (w : World) (h : l6 R (ρ 0) (ρ 3) (ρ 4) w) : codeP Try.prog (pan R) (blkC p2) (q3 R) ρ w := by
  unfold l6 at h
  obtain ⟨J, μ, h0, hr⟩ := h
  have e : Code.loop (loopC (blkC p2)) = (blkC p2) := by kernel_rfl
  rw [← e]
  refine loopQ (fun ρ' w' => J (ρ' 3) (ρ' 4) w') (fun ρ' w' => μ (ρ' 3) (ρ' 4) w') h0 fun ρ' w' hA hI => ?_
  have e0 : ρ' 0 = ρ 0 := Agree.at hA 0 (by kernel_rfl)
  have h1 := hr (ρ' 3) (ρ' 4) w' hI
  rw [← e0] at h1
  exact b7_ok R (fun z3 z4 w1 => J z3 z4 w1 ∧ μ z3 z4 w1 < μ (ρ' 3) (ρ' 4) w') ρ' w' h1
theorem l6_intro (R : EP) (x0 x3 x4 : Value) (w : World) (J : Value → VP) (μ : Value → Value → World → Nat) (h0 : J x3 x4 w)
    (hr : ∀ y3 y4 w0, J y3 y4 w0 → ∀ C6 : Value → VP, (∀ z3 z4 w1, J z3 z4 w1 → μ z3 z4 w1 < μ y3 y4 w0 → C6 z3 z4 w1) → b7 R C6 x0 y3 y4 w0) : l6 R x0 x3 x4 w := by
  unfold l6
  exact ⟨J, μ, h0, fun y3 y4 w0 hJ => hr y3 y4 w0 hJ _ (fun z3 z4 w1 h1 h2 => ⟨h1, h2⟩)⟩
abbrev q4 (R : EP) : XP := QX (fun ρ w => b3 R (ρ 3) w) (fun ρ w => R (.returned (ρ 2)) w) []
theorem k5_ok (R : EP) (ρ : Env) (w : World) (h : l6 R (ρ 0) (ρ 3) (ρ 4) w) : codeP Try.prog (pan R) p2 (q4 R) ρ w := by
  have e : Code.block 0 (blkC p2) = p2 := by kernel_rfl
  rw [← e]
  exact blockQ (l6_ok R ρ w h)
def b4 (R : EP) (x0 x3 : Value) (w : World) (_r : Tok R := tok R) : Prop :=
  l6 R x0 x3 (Go.Value.int Go.IntKind.i64 0) w
abbrev q5 (R : EP) : XP := QX (fun ρ w => l6 R (ρ 0) (ρ 3) (ρ 4) w) (fun ρ w => R (.returned (ρ 2)) w) []
theorem b4_eq (R : EP) (ρ : Env) (w : World) : (b4 R (ρ 0) (ρ 3) w) = codeP Try.prog (pan R) (preC 0 (fstC p1)) (q5 R) ρ w := by kernel_rfl
theorem b4_ok (R : EP) (ρ : Env) (w : World) (h : b4 R (ρ 0) (ρ 3) w) : codeP Try.prog (pan R) (fstC p1) (q4 R) ρ w := by
  have e : appC 0 (preC 0 (fstC p1)) (dropC 1 (fstC p1)) = (fstC p1) := by kernel_rfl
  rw [← e]
  exact appQ (fun ρ w => l6 R (ρ 0) (ρ 3) (ρ 4) w) 0 ((b4_eq R ρ w).mp h) (fun ρ w h => k5_ok R ρ w h)
theorem k2_ok (R : EP) (ρ : Env) (w : World) (h : b4 R (ρ 0) (ρ 3) w) : codeP Try.prog (pan R) p1 (q1 R) ρ w := by
  have e : Code.seq (fstC p1) (sndC p1) = p1 := by kernel_rfl
  rw [← e]
  exact seqQ (fun ρ w => b3 R (ρ 3) w) (b4_ok R ρ w h) (fun ρ w h => b3_ok R ρ w h)
def b1 (R : EP) (x0 : Value) (w : World) (_r : Tok R := tok R) : Prop :=
  b4 R x0 (Go.Value.slice Option.none 0 0) w
abbrev q6 (R : EP) : XP := QX (fun ρ w => b4 R (ρ 0) (ρ 3) w) (fun ρ w => R (.returned (ρ 2)) w) []
theorem b1_eq (R : EP) (ρ : Env) (w : World) : (b1 R (ρ 0) w) = codeP Try.prog (pan R) (preC 1 code) (q6 R) ρ w := by kernel_rfl
theorem b1_ok (R : EP) (ρ : Env) (w : World) (h : b1 R (ρ 0) w) : codeP Try.prog (pan R) code (q1 R) ρ w := by
  have e : appC 1 (preC 1 code) (dropC 2 code) = code := by kernel_rfl
  rw [← e]
  exact appQ (fun ρ w => b4 R (ρ 0) (ρ 3) w) 1 ((b1_eq R ρ w).mp h) (fun ρ w h => k2_ok R ρ w h)
/-- What is owed for a call. -/
def run (R : EP) (a0 : Value) (w : World) : Prop := b1 R a0 w
theorem calls (R : EP) (a0 : Value) (w : World) (h : run R a0 w) : Calls Try.prog id #[a0] w R :=
  calls_of_t (f := id) (fn := Try.f33) (c := code) (by kernel_rfl) Try.func33 (by kernel_rfl) (by kernel_rfl) (args := [a0]) (Nat.le_of_ble_eq_true rfl) rfl (b1_ok R (envOf [a0]) w h)
theorem enters : Enters Try.prog id := fun args w => Try.call33 args w
theorem ct {a0 : Value} {w : World} {S : VP} (h : ∀ R : EP, (∀ v w, S v w → R (.returned v) w) → run R a0 w) : Ct Try.prog id #[a0] w S :=
  Ct.intro enters fun R hR => calls R a0 w (h R hR)
attribute [irreducible] b3 b7_1 b7 l6 b4 b1 run
attribute [go_sem] b3 b7_1 b7 b4 b1 run
end ref20_Copy

/-! ### presage/presageref20.Frontier -/
namespace ref20_Frontier
noncomputable def code : Code := bodyOf Try.f36
noncomputable abbrev p1 : Code := dropC 4 code
def b3 (R : EP) (x8 : Value) (w : World) (_r : Tok R := tok R) : Prop :=
  R (.returned (.tuple #[x8, (Go.Value.int Go.IntKind.i64 0)])) w
abbrev q1 (R : EP) : XP := QX (fun ρ w => R (.returned (.tuple #[(ρ 4), (ρ 5)])) w) (fun ρ w => R (.returned (.tuple #[(ρ 4), (ρ 5)])) w) []
theorem b3_eq (R : EP) (ρ : Env) (w : World) : (b3 R (ρ 8) w) = codeP Try.prog (pan R) (sndC p1) (q1 R) ρ w := by kernel_rfl
theorem b3_ok (R : EP) (ρ : Env) (w : World) (h : b3 R (ρ 8) w) : codeP Try.prog (pan R) (sndC p1) (q1 R) ρ w := (b3_eq R ρ w).mp h
noncomputable abbrev p2 : Code := dropC 1 (fstC p1)
noncomputable abbrev p3 : Code := loopC (blkC p2)
noncomputable abbrev p4 : Code := dropC 2 p3
def b8 (R : EP) (C6 : Value → VP) (x8 x9 : Value) (w : World) (_r : Tok R := tok R) (_C6 : Tok C6 := tok C6) : Prop :=
  RUN Try.prog (pan R) (bins .add 3 (.tmp 22) (.const (Go.Value.int Go.IntKind.i64 1)) x9 (Go.Value.int Go.IntKind.i64 1)) w fun v1 w2 =>
  C6 x8 v1 w2
abbrev q2 (R : EP) (C6 : Value → VP) : XP := QX (fun ρ w => C6 (ρ 8) (ρ 9) w) (fun ρ w => R (.returned (.tuple #[(ρ 4), (ρ 5)])) w) [(0, (fun ρ w => b3 R (ρ 8) w))]
theorem b8_eq (R : EP) (C6 : Value → VP) (ρ : Env) (w : World) : (b8 R C6 (ρ 8) (ρ 9) w) = codeP Try.prog (pan R) p4 (q2 R C6) ρ w := by kernel_rfl
theorem b8_ok (R : EP) (C6 : Value → VP) (ρ : Env) (w : World) (h : b8 R C6 (ρ 8) (ρ 9) w) : codeP Try.prog (pan R) p4 (q2 R C6) ρ w := (b8_eq R C6 ρ w).mp h
def b7_1 (R : EP) (C6 : Value → VP) (x0 x6 x8 x9 : Value) (w16 : World) (_r : Tok R := tok R) (_C6 : Tok C6 := tok C6) : Prop :=
  RUN Try.prog (pan R) (Instr.indexAt 24 x6 x9) w16 fun v17 w18 =>
  RUN Try.prog (pan R) (Instr.loadAt 3 v17) w18 fun v19 w20 =>
  RUN Try.prog (pan R) (Instr.indexAt 49 x0 v19) w20 fun v21 w22 =>
  RUN Try.prog (pan R) (Instr.fieldAt 61 v21 0) w22 fun v23 w24 =>
  RUN Try.prog (pan R) (Instr.loadAt 3 v23) w24 fun v25 w26 =>
  RUN Try.prog (pan R) (Instr.buildSlice 24 1 #[(0, v25)]) w26 fun v27 w28 =>
  RUN Try.prog (pan R) (Builtin.append_ #[24, 24] 24 #[x8, v27]) w28 fun v29 w30 =>
  b8 R C6 v29 x9 w30
def b7_2 (R : EP) (C6 : Value → VP) (x0 x6 x8 x9 : Value) (w4 : World) (_r : Tok R := tok R) (_C6 : Tok C6 := tok C6) : Prop :=
  RUN Try.prog (pan R) (Instr.indexAt 24 x6 x9) w4 fun v5 w6 =>
  RUN Try.prog (pan R) (Instr.loadAt 3 v5) w6 fun v7 w8 =>
  RUN Try.prog (pan R) (Instr.indexAt 49 x0 v7) w8 fun v9 w10 =>
  RUN Try.prog (pan R) (Instr.fieldAt 61 v9 1) w10 fun v11 w12 =>
  RUN Try.prog (pan R) (Instr.loadAt 3 v11) w12 fun v13 w14 =>
  RUN Try.prog (pan R) (bins .lss 3 (.tmp 31) (.const (Go.Value.int Go.IntKind.i64 0)) v13 (Go.Value.int Go.IntKind.i64 0)) w14 fun v15 w16 =>
  SPL v15
  (b7_1 R C6 x0 x6 x8 x9 w16)
  (b8 R C6 x8 x9 w16)
def b7 (R : EP) (C6 : Value → VP) (x0 x6 x8 x9 : Value) (w : World) (_r : Tok R := tok R) (_C6 : Tok C6 := tok C6) : Prop :=
  RUN Try.prog (pan R) (Builtin.len_ #[24] 3 #[x6]) w fun v1 w2 =>
  RUN Try.prog (pan R) (bins .lss 3 (.tmp 18) (.tmp 20) x9 v1) w2 fun v3 w4 =>
  SPL v3
  (b7_2 R C6 x0 x6 x8 x9 w4)
  (b3 R x8 w4)
abbrev q3 (R : EP) (C6 : Value → VP) : XP := QX (fun ρ w => b8 R C6 (ρ 8) (ρ 9) w) (fun ρ w => R (.returned (.tuple #[(ρ 4), (ρ 5)])) w) [(0, (fun ρ w => b3 R (ρ 8) w))]
theorem b7_eq (R : EP) (C6 : Value → VP) (ρ : Env) (w : World) : (b7 R C6 (ρ 0) (ρ 6) (ρ 8) (ρ 9) w) = codeP Try.prog (pan R) (preC 1 p3) (q3 R C6) ρ w := by kernel_rfl
theorem b7_ok (R : EP) (C6 : Value → VP) (ρ : Env) (w : World) (h : b7 R C6 (ρ 0) (ρ 6) (ρ 8) (ρ 9) w) : codeP Try.prog (pan R) p3 (q2 R C6) ρ w := by
  have e : appC 1 (preC 1 p3) (dropC 2 p3) = p3 := by kernel_rfl
  rw [← e]
  exact appQ (fun ρ w => b8 R C6 (ρ 8) (ρ 9) w) 1 ((b7_eq R C6 ρ w).mp h) (fun ρ w h => b8_ok R C6 ρ w h)
def l6 (R : EP) (x0 x6 x8 x9 : Value) (w : World) (_r : Tok R := tok R) : Prop :=
  ∃ (J : Value → VP) (μ : Value → Value → World → Nat), J x8 x9 w ∧ ∀ y8 y9 w0, J y8 y9 w0 → b7 R (fun z8 z9 w1 => J z8 z9 w1 ∧ μ z8 z9 w1 < μ y8 y9 w0) x0 x6 y8 y9 w0
abbrev q4 (R : EP) : XP := QX (fun ρ w => b3 R (ρ 8) w) (fun ρ w => R (.returned (.tuple #[(ρ 4), (ρ 5)])) w) [(0, (fun ρ w => b3 R (ρ 8) w))]
theorem l6_ok (R : EP) (ρ : Env) (w : World) (h : l6 R (ρ 0) (ρ 6) (ρ 8) (ρ 9) w) : codeP Try.prog (pan R) (blkC p2) (q4 R) ρ w := by
  unfold l6 at h
  obtain ⟨J, μ, h0, hr⟩ := h
  have e : Code.loop (loopC (blkC p2)) = (blkC p2) := by kernel_rfl
  rw [← e]
  refine loopQ (fun ρ' w' => J (ρ' 8) (ρ' 9) w') (fun ρ' w' => μ (ρ' 8) (ρ' 9) w') h0 fun ρ' w' hA hI => ?_
  have e0 : ρ' 0 = ρ 0 := Agree.at hA 0 (by kernel_rfl)
  have e6 : ρ' 6 = ρ 6 := Agree.at hA 6 (by kernel_rfl)
  have h1 := hr (ρ' 8) (ρ' 9) w' hI
  rw [← e0, ← e6] at h1
  exact b7_ok R (fun z8 z9 w1 => J z8 z9 w1 ∧ μ z8 z9 w1 < μ (ρ' 8) (ρ' 9) w') ρ' w' h1
theorem l6_intro (R : EP) (x0 x6 x8 x9 : Value) (w : World) (J : Value → VP) (μ : Value → Value → World → Nat) (h0 : J x8 x9 w)
    (hr : ∀ y8 y9 w0, J y8 y9 w0 → ∀ C6 : Value → VP, (∀ z8 z9 w1, J z8 z9 w1 → μ z8 z9 w1 < μ y8 y9 w0 → C6 z8 z9 w1) → b7 R C6 x0 x6 y8 y9 w0) : l6 R x0 x6 x8 x9 w := by
  unfold l6
  exact ⟨J, μ, h0, fun y8 y9 w0 hJ => hr y8 y9 w0 hJ _ (fun z8 z9 w1 h1 h2 => ⟨h1, h2⟩)⟩
abbrev q5 (R : EP) : XP := QX (fun ρ w => b3 R (ρ 8) w) (fun ρ w => R (.returned (.tuple #[(ρ 4), (ρ 5)])) w) []
theorem k5_ok (R : EP) (ρ : Env) (w : World) (h : l6 R (ρ 0) (ρ 6) (ρ 8) (ρ 9) w) : codeP Try.prog (pan R) p2 (q5 R) ρ w := by
  have e : Code.block 0 (blkC p2) = p2 := by kernel_rfl
  rw [← e]
  exact blockQ (l6_ok R ρ w h)
def b4 (R : EP) (x0 x6 x8 : Value) (w : World) (_r : Tok R := tok R) : Prop :=
  l6 R x0 x6 x8 (Go.Value.int Go.IntKind.i64 0) w
abbrev q6 (R : EP) : XP := QX (fun ρ w => l6 R (ρ 0) (ρ 6) (ρ 8) (ρ 9) w) (fun ρ w => R (.returned (.tuple #[(ρ 4), (ρ 5)])) w) []
theorem b4_eq (R : EP) (ρ : Env) (w : World) : (b4 R (ρ 0) (ρ 6) (ρ 8) w) = codeP Try.prog (pan R) (preC 0 (fstC p1)) (q6 R) ρ w := by kernel_rfl
theorem b4_ok (R : EP) (ρ : Env) (w : World) (h : b4 R (ρ 0) (ρ 6) (ρ 8) w) : codeP Try.prog (pan R) (fstC p1) (q5 R) ρ w := by
  have e : appC 0 (preC 0 (fstC p1)) (dropC 1 (fstC p1)) = (fstC p1) := by kernel_rfl
  rw [← e]
  exact appQ (fun ρ w => l6 R (ρ 0) (ρ 6) (ρ 8) (ρ 9) w) 0 ((b4_eq R ρ w).mp h) (fun ρ w h => k5_ok R ρ w h)
theorem k2_ok (R : EP) (ρ : Env) (w : World) (h : b4 R (ρ 0) (ρ 6) (ρ 8) w) : codeP Try.prog (pan R) p1 (q1 R) ρ w := by
  have e : Code.seq (fstC p1) (sndC p1) = p1 := by kernel_rfl
  rw [← e]
  exact seqQ (fun ρ w => b3 R (ρ 8) w) (b4_ok R ρ w h) (fun ρ w h => b3_ok R ρ w h)
def b1_1 (R : EP) (x0 v1 : Value) (w2 : World) (_r : Tok R := tok R) : Prop :=
  RUN Try.prog (pan R) (Instr.extract v1 0) w2 fun v3 w4 =>
  RUN Try.prog (pan R) (Instr.extract v1 1) w4 fun v5 w6 =>
  RUN Try.prog (pan R) (Op.unary .not v5) w6 fun v7 w8 =>
  SPL v7
  (R (.returned (.tuple #[(Go.Value.slice Option.none 0 0), (Go.Value.int Go.IntKind.i64 1)])) w8)
  (b4 R x0 v3 (Go.Value.slice Option.none 0 0) w8)
def b1 (R : EP) (x0 x1 : Value) (w : World) (_r : Tok R := tok R) : Prop :=
  CALL Try.prog (pan R) ref20_Walk.id #[x0, x1, (Go.Value.bool Bool.false)] w fun v1 w2 =>
  b1_1 R x0 v1 w2
abbrev q7 (R : EP) : XP := QX (fun ρ w => b4 R (ρ 0) (ρ 6) (ρ 8) w) (fun ρ w => R (.returned (.tuple #[(ρ 4), (ρ 5)])) w) []
theorem b1_eq (R : EP) (ρ : Env) (w : World) : (b1 R (ρ 0) (ρ 1) w) = codeP Try.prog (pan R) (preC 3 code) (q7 R) ρ w := by kernel_rfl
theorem b1_ok (R : EP) (ρ : Env) (w : World) (h : b1 R (ρ 0) (ρ 1) w) : codeP Try.prog (pan R) code (q1 R) ρ w := by
  have e : appC 3 (preC 3 code) (dropC 4 code) = code := by kernel_rfl
  rw [← e]
  exact appQ (fun ρ w => b4 R (ρ 0) (ρ 6) (ρ 8) w) 3 ((b1_eq R ρ w).mp h) (fun ρ w h => k2_ok R ρ w h)
/-- What is owed for a call. -/
def run (R : EP) (a0 a1 : Value) (w : World) : Prop := b1 R a0 a1 w
theorem calls (R : EP) (a0 a1 : Value) (w : World) (h : run R a0 a1 w) : Calls Try.prog id #[a0, a1] w R :=
  calls_of_tt (f := id) (fn := Try.f36) (c := code) (by kernel_rfl) Try.func36 (by kernel_rfl) (by kernel_rfl) (args := [a0, a1]) (Nat.le_of_ble_eq_true rfl) rfl (b1_ok R (envOf [a0, a1]) w h)
theorem enters : Enters Try.prog id := fun args w => Try.call36 args w
theorem ct {a0 a1 : Value} {w : World} {S : VP} (h : ∀ R : EP, (∀ v w, S v w → R (.returned v) w) → run R a0 a1 w) : Ct Try.prog id #[a0, a1] w S :=
  Ct.intro enters fun R hR => calls R a0 a1 w (h R hR)
attribute [irreducible] b3 b8 b7_1 b7_2 b7 l6 b4 b1_1 b1 run
attribute [go_sem] b3 b8 b7_1 b7_2 b7 b4 b1_1 b1 run
end ref20_Frontier

/-! ### presage/presageref20.Rightmost -/
namespace ref20_Rightmost
noncomputable def code : Code := bodyOf Try.f37
noncomputable abbrev p1 : Code := dropC 4 code
def b3 (R : EP) (x8 : Value) (w : World) (_r : Tok R := tok R) : Prop :=
  R (.returned (.tuple #[x8, (Go.Value.int Go.IntKind.i64 0)])) w
abbrev q1 (R : EP) : XP := QX (fun ρ w => R (.returned (.tuple #[(ρ 4), (ρ 5)])) w) (fun ρ w => R (.returned (.tuple #[(ρ 4), (ρ 5)])) w) []
theorem b3_eq (R : EP) (ρ : Env) (w : World) : (b3 R (ρ 8) w) = codeP Try.prog (pan R) (sndC p1) (q1 R) ρ w := by kernel_rfl
theorem b3_ok (R : EP) (ρ : Env) (w : World) (h : b3 R (ρ 8) w) : codeP Try.prog (pan R) (sndC p1) (q1 R) ρ w := (b3_eq R ρ w).mp h
noncomputable abbrev p2 : Code := dropC 1 (fstC p1)
noncomputable abbrev p3 : Code := loopC (blkC p2)
noncomputable abbrev p4 : Code := dropC 2 p3
def b8 (R : EP) (C6 : Value → VP) (x8 x9 : Value) (w : World) (_r : Tok R := tok R) (_C6 : Tok C6 := tok C6) : Prop :=
  RUN Try.prog (pan R) (bins .add 3 (.tmp 22) (.const (Go.Value.int Go.IntKind.i64 1)) x9 (Go.Value.int Go.IntKind.i64 1)) w fun v1 w2 =>
  C6 x8 v1 w2
abbrev q2 (R : EP) (C6 : Value → VP) : XP := QX (fun ρ w => C6 (ρ 8) (ρ 9) w) (fun ρ w => R (.returned (.tuple #[(ρ 4), (ρ 5)])) w) [(0, (fun ρ w => b3 R (ρ 8) w))]
theorem b8_eq (R : EP) (C6 : Value → VP) (ρ : Env) (w : World) : (b8 R C6 (ρ 8) (ρ 9) w) = codeP Try.prog (pan R) p4 (q2 R C6) ρ w := by kernel_rfl
theorem b8_ok (R : EP) (C6 : Value → VP) (ρ : Env) (w : World) (h : b8 R C6 (ρ 8) (ρ 9) w) : codeP Try.prog (pan R) p4 (q2 R C6) ρ w := (b8_eq R C6 ρ w).mp h
def b7_1 (R : EP) (C6 : Value → VP) (x0 x6 x8 x9 : Value) (w16 : World) (_r : Tok R := tok R) (_C6 : Tok C6 := tok C6) : Prop :=
  RUN Try.prog (pan R) (Instr.indexAt 24 x6 x9) w16 fun v17 w18 =>
  RUN Try.prog (pan R) (Instr.loadAt 3 v17) w18 fun v19 w20 =>
  RUN Try.prog (pan R) (Instr.indexAt 49 x0 v19) w20 fun v21 w22 =>
  RUN Try.prog (pan R) (Instr.fieldAt 61 v21 1) w22 fun v23 w24 =>
  RUN Try.prog (pan R) (Instr.loadAt 3 v23) w24 fun v25 w26 =>
  RUN Try.prog (pan R) (Instr.buildSlice 24 1 #[(0, v25)]) w26 fun v27 w28 =>
  RUN Try.prog (pan R) (Builtin.append_ #[24, 24] 24 #[x8, v27]) w28 fun v29 w30 =>
  b8 R C6 v29 x9 w30
def b7_2 (R : EP) (C6 : Value → VP) (x0 x6 x8 x9 : Value) (w4 : World) (_r : Tok R := tok R) (_C6 : Tok C6 := tok C6) : Prop :=
  RUN Try.prog (pan R) (Instr.indexAt 24 x6 x9) w4 fun v5 w6 =>
  RUN Try.prog (pan R) (Instr.loadAt 3 v5) w6 fun v7 w8 =>
  RUN Try.prog (pan R) (Instr.indexAt 49 x0 v7) w8 fun v9 w10 =>
  RUN Try.prog (pan R) (Instr.fieldAt 61 v9 1) w10 fun v11 w12 =>
  RUN Try.prog (pan R) (Instr.loadAt 3 v11) w12 fun v13 w14 =>
  RUN Try.prog (pan R) (bins .geq 3 (.tmp 31) (.const (Go.Value.int Go.IntKind.i64 0)) v13 (Go.Value.int Go.IntKind.i64 0)) w14 fun v15 w16 =>
  SPL v15
  (b7_1 R C6 x0 x6 x8 x9 w16)
  (b8 R C6 x8 x9 w16)
def b7 (R : EP) (C6 : Value → VP) (x0 x6 x8 x9 : Value) (w : World) (_r : Tok R := tok R) (_C6 : Tok C6 := tok C6) : Prop :=
  RUN Try.prog (pan R) (Builtin.len_ #[24] 3 #[x6]) w fun v1 w2 =>
  RUN Try.prog (pan R) (bins .lss 3 (.tmp 18) (.tmp 20) x9 v1) w2 fun v3 w4 =>
  SPL v3
  (b7_2 R C6 x0 x6 x8 x9 w4)
  (b3 R x8 w4)
abbrev q3 (R : EP) (C6 : Value → VP) : XP := QX (fun ρ w => b8 R C6 (ρ 8) (ρ 9) w) (fun ρ w => R (.returned (.tuple #[(ρ 4), (ρ 5)])) w) [(0, (fun ρ w => b3 R (ρ 8) w))]
theorem b7_eq (R : EP) (C6 : Value → VP) (ρ : Env) (w : World) : (b7 R C6 (ρ 0) (ρ 6) (ρ 8) (ρ 9) w) = codeP Try.prog (pan R) (preC 1 p3) (q3 R C6) ρ w := by kernel_rfl
theorem b7_ok (R : EP) (C6 : Value → VP) (ρ : Env) (w : World) (h : b7 R C6 (ρ 0) (ρ 6) (ρ 8) (ρ 9) w) : codeP Try.prog (pan R) p3 (q2 R C6) ρ w := by
  have e : appC 1 (preC 1 p3) (dropC 2 p3) = p3 := by kernel_rfl
  rw [← e]
  exact appQ (fun ρ w => b8 R C6 (ρ 8) (ρ 9) w) 1 ((b7_eq R C6 ρ w).mp h) (fun ρ w h => b8_ok R C6 ρ w h)
def l6 (R : EP) (x0 x6 x8 x9 : Value) (w : World) (_r : Tok R := tok R) : Prop :=
  ∃ (J : Value → VP) (μ : Value → Value → World → Nat), J x8 x9 w ∧ ∀ y8 y9 w0, J y8 y9 w0 → b7 R (fun z8 z9 w1 => J z8 z9 w1 ∧ μ z8 z9 w1 < μ y8 y9 w0) x0 x6 y8 y9 w0
abbrev q4 (R : EP) : XP := QX (fun ρ w => b3 R (ρ 8) w) (fun ρ w => R (.returned (.tuple #[(ρ 4), (ρ 5)])) w) [(0, (fun ρ w => b3 R (ρ 8) w))]
theorem l6_ok (R : EP) (ρ : Env) (w : World) (h : l6 R (ρ 0) (ρ 6) (ρ 8) (ρ 9) w) : codeP Try.prog (pan R) (blkC p2) (q4 R) ρ w := by
  unfold l6 at h
  obtain ⟨J, μ, h0, hr⟩ := h
  have e : Code.loop (loopC (blkC p2)) = (blkC p2) := by kernel_rfl
  rw [← e]
  refine loopQ (fun ρ' w' => J (ρ' 8) (ρ' 9) w') (fun ρ' w' => μ (ρ' 8) (ρ' 9) w') h0 fun ρ' w' hA hI => ?_
  have e0 : ρ' 0 = ρ 0 := Agree.at hA 0 (by kernel_rfl)
  have e6 : ρ' 6 = ρ 6 := Agree.at hA 6 (by kernel_rfl)
  have h1 := hr (ρ' 8) (ρ' 9) w' hI
  rw [← e0, ← e6] at h1
  exact b7_ok R (fun z8 z9 w1 => J z8 z9 w1 ∧ μ z8 z9 w1 < μ (ρ' 8) (ρ' 9) w') ρ' w' h1
theorem l6_intro (R : EP) (x0 x6 x8 x9 : Value) (w : World) (J : Value → VP) (μ : Value → Value → World → Nat) (h0 : J x8 x9 w)
    (hr : ∀ y8 y9 w0, J y8 y9 w0 → ∀ C6 : Value → VP, (∀ z8 z9 w1, J z8 z9 w1 → μ z8 z9 w1 < μ y8 y9 w0 → C6 z8 z9 w1) → b7 R C6 x0 x6 y8 y9 w0) : l6 R x0 x6 x8 x9 w := by
  unfold l6
  exact ⟨J, μ, h0, fun y8 y9 w0 hJ => hr y8 y9 w0 hJ _ (fun z8 z9 w1 h1 h2 => ⟨h1, h2⟩)⟩
abbrev q5 (R : EP) : XP := QX (fun ρ w => b3 R (ρ 8) w) (fun ρ w => R (.returned (.tuple #[(ρ 4), (ρ 5)])) w) []
theorem k5_ok (R : EP) (ρ : Env) (w : World) (h : l6 R (ρ 0) (ρ 6) (ρ 8) (ρ 9) w) : codeP Try.prog (pan R) p2 (q5 R) ρ w := by
  have e : Code.block 0 (blkC p2) = p2 := by kernel_rfl
  rw [← e]
  exact blockQ (l6_ok R ρ w h)
def b4 (R : EP) (x0 x6 x8 : Value) (w : World) (_r : Tok R := tok R) : Prop :=
  l6 R x0 x6 x8 (Go.Value.int Go.IntKind.i64 0) w
abbrev q6 (R : EP) : XP := QX (fun ρ w => l6 R (ρ 0) (ρ 6) (ρ 8) (ρ 9) w) (fun ρ w => R (.returned (.tuple #[(ρ 4), (ρ 5)])) w) []
theorem b4_eq (R : EP) (ρ : Env) (w : World) : (b4 R (ρ 0) (ρ 6) (ρ 8) w) = codeP Try.prog (pan R) (preC 0 (fstC p1)) (q6 R) ρ w := by kernel_rfl
theorem b4_ok (R : EP) (ρ : Env) (w : World) (h : b4 R (ρ 0) (ρ 6) (ρ 8) w) : codeP Try.prog (pan R) (fstC p1) (q5 R) ρ w := by
  have e : appC 0 (preC 0 (fstC p1)) (dropC 1 (fstC p1)) = (fstC p1) := by kernel_rfl
  rw [← e]
  exact appQ (fun ρ w => l6 R (ρ 0) (ρ 6) (ρ 8) (ρ 9) w) 0 ((b4_eq R ρ w).mp h) (fun ρ w h => k5_ok R ρ w h)
theorem k2_ok (R : EP) (ρ : Env) (w : World) (h : b4 R (ρ 0) (ρ 6) (ρ 8) w) : codeP Try.prog (pan R) p1 (q1 R) ρ w := by
  have e : Code.seq (fstC p1) (sndC p1) = p1 := by kernel_rfl
  rw [← e]
  exact seqQ (fun ρ w => b3 R (ρ 8) w) (b4_ok R ρ w h) (fun ρ w h => b3_ok R ρ w h)
def b1_1 (R : EP) (x0 v1 : Value) (w2 : World) (_r : Tok R := tok R) : Prop :=
  RUN Try.prog (pan R) (Instr.extract v1 0) w2 fun v3 w4 =>
  RUN Try.prog (pan R) (Instr.extract v1 1) w4 fun v5 w6 =>
  RUN Try.prog (pan R) (Op.unary .not v5) w6 fun v7 w8 =>
  SPL v7
  (R (.returned (.tuple #[(Go.Value.slice Option.none 0 0), (Go.Value.int Go.IntKind.i64 1)])) w8)
  (b4 R x0 v3 (Go.Value.slice Option.none 0 0) w8)
def b1 (R : EP) (x0 x1 : Value) (w : World) (_r : Tok R := tok R) : Prop :=
  CALL Try.prog (pan R) ref20_Walk.id #[x0, x1, (Go.Value.bool Bool.true)] w fun v1 w2 =>
  b1_1 R x0 v1 w2
abbrev q7 (R : EP) : XP := QX (fun ρ w => b4 R (ρ 0) (ρ 6) (ρ 8) w) (fun ρ w => R (.returned (.tuple #[(ρ 4), (ρ 5)])) w) []
theorem b1_eq (R : EP) (ρ : Env) (w : World) : (b1 R (ρ 0) (ρ 1) w) = codeP Try.prog (pan R) (preC 3 code) (q7 R) ρ w := by kernel_rfl
theorem b1_ok (R : EP) (ρ : Env) (w : World) (h : b1 R (ρ 0) (ρ 1) w) : codeP Try.prog (pan R) code (q1 R) ρ w := by
  have e : appC 3 (preC 3 code) (dropC 4 code) = code := by kernel_rfl
  rw [← e]
  exact appQ (fun ρ w => b4 R (ρ 0) (ρ 6) (ρ 8) w) 3 ((b1_eq R ρ w).mp h) (fun ρ w h => k2_ok R ρ w h)
/-- What is owed for a call. -/
def run (R : EP) (a0 a1 : Value) (w : World) : Prop := b1 R a0 a1 w
theorem calls (R : EP) (a0 a1 : Value) (w : World) (h : run R a0 a1 w) : Calls Try.prog id #[a0, a1] w R :=
  calls_of_tt (f := id) (fn := Try.f37) (c := code) (by kernel_rfl) Try.func37 (by kernel_rfl) (by kernel_rfl) (args := [a0, a1]) (Nat.le_of_ble_eq_true rfl) rfl (b1_ok R (envOf [a0, a1]) w h)
theorem enters : Enters Try.prog id := fun args w => Try.call37 args w
theorem ct {a0 a1 : Value} {w : World} {S : VP} (h : ∀ R : EP, (∀ v w, S v w → R (.returned v) w) → run R a0 a1 w) : Ct Try.prog id #[a0, a1] w S :=
  Ct.intro enters fun R hR => calls R a0 a1 w (h R hR)
attribute [irreducible] b3 b8 b7_1 b7_2 b7 l6 b4 b1_1 b1 run
attribute [go_sem] b3 b8 b7_1 b7_2 b7 b4 b1_1 b1 run
end ref20_Rightmost

/-! ### presage/presageref20.Same -/
namespace ref20_Same
noncomputable def code : Code := bodyOf Try.f39
noncomputable abbrev p1 : Code := dropC 2 code

def b3 (R : EP) (w : World) (_r : Tok R := tok R) : Prop :=
  R (.returned (Go.Value.bool Bool.true)) w
abbrev q1 (R : EP) : XP := QX (fun ρ w => R (.returned (ρ 4)) w) (fun ρ w => R (.returned (ρ 4)) w) []
theorem b3_eq (R : EP) (ρ : Env) (w : World) : (b3 R w) = codeP Try.prog (pan R) (sndC p1) (q1 R) ρ w := by kernel_rfl
theorem b3_ok (R : EP) (ρ : Env) (w : World) (h : b3 R w) : codeP Try.prog (pan R) (sndC p1) (q1 R) ρ w := (b3_eq R ρ w).mp h
noncomputable abbrev p2 : Code := dropC 1 (fstC p1)
noncomputable abbrev p3 : Code := loopC (blkC p2)
noncomputable abbrev p4 : Code := dropC 1 p3

def b9 (R : EP) (C6 : VP) (x5 : Value) (w : World) (_r : Tok R := tok R) (_C6 : Tok C6 := tok C6) : Prop :=
  RUN Try.prog (pan R) (bins .add 3 (.tmp 15) (.const (Go.Value.int Go.IntKind.i64 1)) x5 (Go.Value.int Go.IntKind.i64 1)) w fun v1 w2 =>
  C6 v1 w2
abbrev q2 (R : EP) (C6 : VP) : XP := QX (fun ρ w => C6 (ρ 5) w) (fun ρ w => R (.returned (ρ 4)) w) [(0, (fun ρ w => b3 R  w))]
theorem b9_eq (R : EP) (C6 : VP) (ρ : Env) (w : World) : (b9 R C6 (ρ 5) w) = codeP Try.prog (pan R) (sndC p4) (q2 R C6) ρ w := by kernel_rfl
theorem b9_ok (R : EP) (C6 : VP) (ρ : Env) (w : World) (h : b9 R C6 (ρ 5) w) : codeP Try.prog (pan R) (sndC p4) (q2 R C6) ρ w := (b9_eq R C6 ρ w).mp h
noncomputable abbrev p5 : Code := blkC (fstC p4)
noncomputable abbrev p6 : Code := dropC 1 p5

def b12 (R : EP) (C6 : VP) (x5 x67 : Value) (w : World) (_r : Tok R := tok R) (_C6 : Tok C6 := tok C6) : Prop :=
  SPL x67
  (R (.returned (Go.Value.bool Bool.false)) w)
  (b9 R C6 x5 w)
abbrev q3 (R : EP) (C6 : VP) : XP := QX (fun ρ w => b9 R C6 (ρ 5) w) (fun ρ w => R (.returned (ρ 4)) w) [(2, (fun ρ w => b9 R C6 (ρ 5) w)), (0, (fun ρ w => b3 R  w))]
theorem b12_eq (R : EP) (C6 : VP) (ρ : Env) (w : World) : (b12 R C6 (ρ 5) (ρ 67) w) = codeP Try.prog (pan R) p6 (q3 R C6) ρ w := by kernel_rfl
theorem b12_ok (R : EP) (C6 : VP) (ρ : Env) (w : World) (h : b12 R C6 (ρ 5) (ρ 67) w) : codeP Try.prog (pan R) p6 (q3 R C6) ρ w := (b12_eq R C6 ρ w).mp h
def b11_1 (R : EP) (C6 : VP) (x0 x1 x5 : Value) (w : World) (_r : Tok R := tok R) (_C6 : Tok C6 := tok C6) : Prop :=
  PUR Try.prog (Instr.indexAt 49 x0 x5) fun v22 =>
  PUR Try.prog (Instr.fieldAt 61 v22 3) fun v23 =>
  LD Try.prog (Instr.loadAt 24 v23) (World.drew w) fun v24 =>
  PUR Try.prog (Instr.indexAt 49 x1 x5) fun v25 =>
  PUR Try.prog (Instr.fieldAt 61 v25 3) fun v26 =>
  LD Try.prog (Instr.loadAt 24 v26) (World.drew w) fun v27 =>
  CALL Try.prog (pan R) ref01_Ints.id #[v24, v27] (World.drew w) fun v28 w29 =>
  PUR Try.prog (Op.unary .not v28) fun v30 =>
  b12 R C6 x5 v30 w29
def b11_2 (R : EP) (C6 : VP) (x0 x1 x5 : Value) (w : World) (_r : Tok R := tok R) (_C6 : Tok C6 := tok C6) : Prop :=
  PUR Try.prog (Instr.indexAt 49 x0 x5) fun v15 =>
  PUR Try.prog (Instr.fieldAt 61 v15 2) fun v16 =>
  LD Try.prog (Instr.loadAt 3 v16) (World.drew w) fun v17 =>
  PUR Try.prog (Instr.indexAt 49 x1 x5) fun v18 =>
  PUR Try.prog (Instr.fieldAt 61 v18 2) fun v19 =>
  LD Try.prog (Instr.loadAt 3 v19) (World.drew w) fun v20 =>
  PUR Try.prog (bins .neq 3 (.tmp 46) (.tmp 51) v17 v20) fun v21 =>
  SPL v21
  (b12 R C6 x5 (Go.Value.bool Bool.true) (World.drew w))
  (b11_1 R C6 x0 x1 x5 w)
def b11_3 (R : EP) (C6 : VP) (x0 x1 x5 : Value) (w : World) (_r : Tok R := tok R) (_C6 : Tok C6 := tok C6) : Prop :=
  PUR Try.prog (Instr.indexAt 49 x0 x5) fun v8 =>
  PUR Try.prog (Instr.fieldAt 61 v8 1) fun v9 =>
  LD Try.prog (Instr.loadAt 3 v9) (World.drew w) fun v10 =>
  PUR Try.prog (Instr.indexAt 49 x1 x5) fun v11 =>
  PUR Try.prog (Instr.fieldAt 61 v11 1) fun v12 =>
  LD Try.prog (Instr.loadAt 3 v12) (World.drew w) fun v13 =>
  PUR Try.prog (bins .neq 3 (.tmp 33) (.tmp 38) v10 v13) fun v14 =>
  SPL v14
  (b12 R C6 x5 (Go.Value.bool Bool.true) (World.drew w))
  (b11_2 R C6 x0 x1 x5 w)

def b11 (R : EP) (C6 : VP) (x0 x1 x5 : Value) (w : World) (_r : Tok R := tok R) (_C6 : Tok C6 := tok C6) : Prop :=
  PUR Try.prog (Instr.indexAt 49 x0 x5) fun v1 =>
  PUR Try.prog (Instr.fieldAt 61 v1 0) fun v2 =>
  LD Try.prog (Instr.loadAt 3 v2) (World.drew w) fun v3 =>
  PUR Try.prog (Instr.indexAt 49 x1 x5) fun v4 =>
  PUR Try.prog (Instr.fieldAt 61 v4 0) fun v5 =>
  LD Try.prog (Instr.loadAt 3 v5) (World.drew w) fun v6 =>
  PUR Try.prog (bins .neq 3 (.tmp 21) (.tmp 26) v3 v6) fun v7 =>
  SPL v7
  (b12 R C6 x5 (Go.Value.bool Bool.true) (World.drew w))
  (b11_3 R C6 x0 x1 x5 w)
abbrev q4 (R : EP) (C6 : VP) : XP := QX (fun ρ w => b12 R C6 (ρ 5) (ρ 67) w) (fun ρ w => R (.returned (ρ 4)) w) [(2, (fun ρ w => b9 R C6 (ρ 5) w)), (0, (fun ρ w => b3 R  w))]
theorem b11_eq (R : EP) (C6 : VP) (ρ : Env) (w : World) : (b11 R C6 (ρ 0) (ρ 1) (ρ 5) w) = codeP Try.prog (pan R) (preC 0 p5) (q4 R C6) ρ w := by kernel_rfl
theorem b11_ok (R : EP) (C6 : VP) (ρ : Env) (w : World) (h : b11 R C6 (ρ 0) (ρ 1) (ρ 5) w) : codeP Try.prog (pan R) p5 (q3 R C6) ρ w := by
  have e : appC 0 (preC 0 p5) (dropC 1 p5) = p5 := by kernel_rfl
  rw [← e]
  exact appQ (fun ρ w => b12 R C6 (ρ 5) (ρ 67) w) 0 ((b11_eq R C6 ρ w).mp h) (fun ρ w h => b12_ok R C6 ρ w h)
abbrev q5 (R : EP) (C6 : VP) : XP := QX (fun ρ w => b9 R C6 (ρ 5) w) (fun ρ w => R (.returned (ρ 4)) w) [(0, (fun ρ w => b3 R  w))]
theorem k10_ok (R : EP) (C6 : VP) (ρ : Env) (w : World) (h : b11 R C6 (ρ 0) (ρ 1) (ρ 5) w) : codeP Try.prog (pan R) (fstC p4) (q5 R C6) ρ w := by
  have e : Code.block 1 (blkC (fstC p4)) = (fstC p4) := by kernel_rfl
  rw [← e]
  exact blockQ (b11_ok R C6 ρ w h)
theorem k8_ok (R : EP) (C6 : VP) (ρ : Env) (w : World) (h : b11 R C6 (ρ 0) (ρ 1) (ρ 5) w) : codeP Try.prog (pan R) p4 (q2 R C6) ρ w := by
  have e : Code.seq (fstC p4) (sndC p4) = p4 := by kernel_rfl
  rw [← e]
  exact seqQ (fun ρ w => b9 R C6 (ρ 5) w) (k10_ok R C6 ρ w h) (fun ρ w h => b9_ok R C6 ρ w h)

def b7 (R : EP) (C6 : VP) (x0 x1 x5 : Value) (w : World) (_r : Tok R := tok R) (_C6 : Tok C6 := tok C6) : Prop :=
  RUN Try.prog (pan R) (Builtin.len_ #[49] 3 #[x0]) w fun v1 w2 =>
  RUN Try.prog (pan R) (bins .lss 3 (.tmp 11) (.tmp 13) x5 v1) w2 fun v3 w4 =>
  SPL v3
  (b11 R C6 x0 x1 x5 w4)
  (b3 R w4)
abbrev q6 (R : EP) (C6 : VP) : XP := QX (fun ρ w => b11 R C6 (ρ 0) (ρ 1) (ρ 5) w) (fun ρ w => R (.returned (ρ 4)) w) [(0, (fun ρ w => b3 R  w))]
theorem b7_eq (R : EP) (C6 : VP) (ρ : Env) (w : World) : (b7 R C6 (ρ 0) (ρ 1) (ρ 5) w) = codeP Try.prog (pan R) (preC 0 p3) (q6 R C6) ρ w := by kernel_rfl
theorem b7_ok (R : EP) (C6 : VP) (ρ : Env) (w : World) (h : b7 R C6 (ρ 0) (ρ 1) (ρ 5) w) : codeP Try.prog (pan R) p3 (q2 R C6) ρ w := by
  have e : appC 0 (preC 0 p3) (dropC 1 p3) = p3 := by kernel_rfl
  rw [← e]
  exact appQ (fun ρ w => b11 R C6 (ρ 0) (ρ 1) (ρ 5) w) 0 ((b7_eq R C6 ρ w).mp h) (fun ρ w h => k8_ok R C6 ρ w h)

def l6 (R : EP) (x0 x1 x5 : Value) (w : World) (_r : Tok R := tok R) : Prop :=
  ∃ (J : VP) (μ : Value → World → Nat), J x5 w ∧ ∀ y5 w0, J y5 w0 → b7 R (fun z5 w1 => J z5 w1 ∧ μ z5 w1 < μ y5 w0) x0 x1 y5 w0
abbrev q7 (R : EP) : XP := QX (fun ρ w => b3 R  w) (fun ρ w => R (.returned (ρ 4)) w) [(0, (fun ρ w => b3 R  w))]
theorem l6_ok (R : EP) (ρ : Env) (w : World) (h : l6 R (ρ 0) (ρ 1) (ρ 5) w) : codeP Try.prog (pan R) (blkC p2) (q7 R) ρ w := by
  unfold l6 at h
  obtain ⟨J, μ, h0, hr⟩ := h
  have e : Code.loop (loopC (blkC p2)) = (blkC p2) := by kernel_rfl
  rw [← e]
  refine loopQ (fun ρ' w' => J (ρ' 5) w') (fun ρ' w' => μ (ρ' 5) w') h0 fun ρ' w' hA hI => ?_
  have e0 : ρ' 0 = ρ 0 := Agree.at hA 0 (by kernel_rfl)
  have e1 : ρ' 1 = ρ 1 := Agree.at hA 1 (by kernel_rfl)
  have h1 := hr (ρ' 5) w' hI
  rw [← e0, ← e1] at h1
  exact b7_ok R (fun z5 w1 => J z5 w1 ∧ μ z5 w1 < μ (ρ' 5) w') ρ' w' h1
theorem l6_intro (R : EP) (x0 x1 x5 : Value) (w : World) (J : VP) (μ : Value → World → Nat) (h0 : J x5 w)
    (hr : ∀ y5 w0, J y5 w0 → ∀ C6 : VP, (∀ z5 w1, J z5 w1 → μ z5 w1 < μ y5 w0 → C6 z5 w1) → b7 R C6 x0 x1 y5 w0) : l6 R x0 x1 x5 w := by
  unfold l6
  exact ⟨J, μ, h0, fun y5 w0 hJ => hr y5 w0 hJ _ (fun z5 w1 h1 h2 => ⟨h1, h2⟩)⟩
abbrev q8 (R : EP) : XP := QX (fun ρ w => b3 R  w) (fun ρ w => R (.returned (ρ 4)) w) []
theorem k5_ok (R : EP) (ρ : Env) (w : World) (h : l6 R (ρ 0) (ρ 1) (ρ 5) w) : codeP Try.prog (pan R) p2 (q8 R) ρ w := by
  have e : Code.block 0 (blkC p2) = p2 := by kernel_rfl
  rw [← e]
  exact blockQ (l6_ok R ρ w h)

def b4 (R : EP) (x0 x1 : Value) (w : World) (_r : Tok R := tok R) : Prop :=
  l6 R x0 x1 (Go.Value.int Go.IntKind.i64 0) w
abbrev q9 (R : EP) : XP := QX (fun ρ w => l6 R (ρ 0) (ρ 1) (ρ 5) w) (fun ρ w => R (.returned (ρ 4)) w) []
theorem b4_eq (R : EP) (ρ : Env) (w : World) : (b4 R (ρ 0) (ρ 1) w) = codeP Try.prog (pan R) (preC 0 (fstC p1)) (q9 R) ρ w := by kernel_rfl
theorem b4_ok (R : EP) (ρ : Env) (w : World) (h : b4 R (ρ 0) (ρ 1) w) : codeP Try.prog (pan R) (fstC p1) (q8 R) ρ w := by
  have e : appC 0 (preC 0 (fstC p1)) (dropC 1 (fstC p1)) = (fstC p1) := by kernel_rfl
  rw [← e]
  exact appQ (fun ρ w => l6 R (ρ 0) (ρ 1) (ρ 5) w) 0 ((b4_eq R ρ w).mp h) (fun ρ w h => k5_ok R ρ w h)
theorem k2_ok (R : EP) (ρ : Env) (w : World) (h : b4 R (ρ 0) (ρ 1) w) : codeP Try.prog (pan R) p1 (q1 R) ρ w := by
  have e : Code.seq (fstC p1) (sndC p1) = p1 := by kernel_rfl
  rw [← e]
  exact seqQ (fun ρ w => b3 R  w) (b4_ok R ρ w h) (fun ρ w h => b3_ok R ρ w h)

def b1 (R : EP) (x0 x1 : Value) (w : World) (_r : Tok R := tok R) : Prop :=
  RUN Try.prog (pan R) (Builtin.len_ #[49] 3 #[x0]) w fun v1 w2 =>
  RUN Try.prog (pan R) (Builtin.len_ #[49] 3 #[x1]) w2 fun v3 w4 =>
  RUN Try.prog (pan R) (bins .neq 3 (.tmp 7) (.tmp 9) v1 v3) w4 fun v5 w6 =>
  SPL v5
  (R (.returned (Go.Value.bool Bool.false)) w6)
  (b4 R x0 x1 w6)
abbrev q10 (R : EP) : XP := QX (fun ρ w => b4 R (ρ 0) (ρ 1) w) (fun ρ w => R (.returned (ρ 4)) w) []
theorem b1_eq (R : EP) (ρ : Env) (w : World) : (b1 R (ρ 0) (ρ 1) w) = codeP Try.prog (pan R) (preC 1 code) (q10 R) ρ w := by kernel_rfl
theorem b1_ok (R : EP) (ρ : Env) (w : World) (h : b1 R (ρ 0) (ρ 1) w) : codeP Try.prog (pan R) code (q1 R) ρ w := by
  have e : appC 1 (preC 1 code) (dropC 2 code) = code := by kernel_rfl
  rw [← e]
  exact appQ (fun ρ w => b4 R (ρ 0) (ρ 1) w) 1 ((b1_eq R ρ w).mp h) (fun ρ w h => k2_ok R ρ w h)
/-- What is owed for a call. -/
def run (R : EP) (a0 a1 : Value) (w : World) : Prop := b1 R a0 a1 w
theorem calls (R : EP) (a0 a1 : Value) (w : World) (h : run R a0 a1 w) : Calls Try.prog id #[a0, a1] w R :=
  calls_of_t (f := id) (fn := Try.f39) (c := code) (by kernel_rfl) Try.func39 (by kernel_rfl) (by kernel_rfl) (args := [a0, a1]) (Nat.le_of_ble_eq_true rfl) rfl (b1_ok R (envOf [a0, a1]) w h)
theorem enters : Enters Try.prog id := fun args w => Try.call39 args w
theorem ct {a0 a1 : Value} {w : World} {S : VP} (h : ∀ R : EP, (∀ v w, S v w → R (.returned v) w) → run R a0 a1 w) : Ct Try.prog id #[a0, a1] w S :=
  Ct.intro enters fun R hR => calls R a0 a1 w (h R hR)
attribute [irreducible] b3 b9 b12 b11_1 b11_2 b11_3 b11 b7 l6 b4 b1 run
attribute [go_sem] b3 b9 b12 b11_1 b11_2 b11_3 b11 b7 b4 b1 run
end ref20_Same



/-! ### presage/presageref20.Walk -/
namespace ref20_Walk
noncomputable def code : Code := bodyOf Try.f47
noncomputable abbrev p1 : Code := dropC 1 code
noncomputable abbrev p2 : Code := dropC 4 (sndC p1)

def b5 (R : EP) (x10 : Value) (w : World) (_r : Tok R := tok R) : Prop :=
  R (.returned (.tuple #[x10, (Go.Value.bool Bool.true)])) w
abbrev q1 (R : EP) : XP := QX (fun ρ w => R (.returned (.tuple #[(ρ 6), (ρ 7)])) w) (fun ρ w => R (.returned (.tuple #[(ρ 6), (ρ 7)])) w) []
theorem b5_eq (R : EP) (ρ : Env) (w : World) : (b5 R (ρ 10) w) = codeP Try.prog (pan R) (sndC p2) (q1 R) ρ w := by kernel_rfl
theorem b5_ok (R : EP) (ρ : Env) (w : World) (h : b5 R (ρ 10) w) : codeP Try.prog (pan R) (sndC p2) (q1 R) ρ w := (b5_eq R ρ w).mp h
noncomputable abbrev p3 : Code := blkC (fstC p2)
noncomputable abbrev p4 : Code := dropC 1 (loopC p3)
noncomputable abbrev p5 : Code := dropC 4 (blkC p4)
noncomputable abbrev p6 : Code := sndC (sndC p5)
noncomputable abbrev p7 : Code := dropC 1 p6
noncomputable abbrev p8 : Code := loopC (blkC p7)
noncomputable abbrev p9 : Code := dropC 1 p8

def b18 (R : EP) (C7 : Value → VP) (C15 : Value → VP) (x9 x15 : Value) (w : World) (_r : Tok R := tok R) (_C7 : Tok C7 := tok C7) (_C15 : Tok C15 := tok C15) : Prop :=
  RUN Try.prog (pan R) (bins .add 3 (.tmp 122) (.const (Go.Value.int Go.IntKind.i64 1)) x15 (Go.Value.int Go.IntKind.i64 1)) w fun v1 w2 =>
  C15 x9 v1 w2
abbrev q2 (R : EP) (C7 : Value → VP) (C15 : Value → VP) : XP := QX (fun ρ w => C15 (ρ 9) (ρ 15) w) (fun ρ w => R (.returned (.tuple #[(ρ 6), (ρ 7)])) w) [(8, (fun ρ w => C7 (ρ 9) (ρ 10) w)), (2, (fun ρ w => C7 (ρ 9) (ρ 10) w)), (0, (fun ρ w => b5 R (ρ 10) w))]
theorem b18_eq (R : EP) (C7 : Value → VP) (C15 : Value → VP) (ρ : Env) (w : World) : (b18 R C7 C15 (ρ 9) (ρ 15) w) = codeP Try.prog (pan R) (sndC p9) (q2 R C7 C15) ρ w := by kernel_rfl
theorem b18_ok (R : EP) (C7 : Value → VP) (C15 : Value → VP) (ρ : Env) (w : World) (h : b18 R C7 C15 (ρ 9) (ρ 15) w) : codeP Try.prog (pan R) (sndC p9) (q2 R C7 C15) ρ w := (b18_eq R C7 C15 ρ w).mp h
noncomputable abbrev p10 : Code := blkC (fstC p9)
noncomputable abbrev p11 : Code := dropC 2 p10

def b21 (R : EP) (C7 : Value → VP) (C15 : Value → VP) (x9 x15 x16 : Value) (w : World) (_r : Tok R := tok R) (_C7 : Tok C7 := tok C7) (_C15 : Tok C15 := tok C15) : Prop :=
  RUN Try.prog (pan R) (Instr.buildSlice 24 1 #[(0, x16)]) w fun v1 w2 =>
  RUN Try.prog (pan R) (Builtin.append_ #[24, 24] 24 #[x9, v1]) w2 fun v3 w4 =>
  b18 R C7 C15 v3 x15 w4
abbrev q3 (R : EP) (C7 : Value → VP) (C15 : Value → VP) : XP := QX (fun ρ w => b18 R C7 C15 (ρ 9) (ρ 15) w) (fun ρ w => R (.returned (.tuple #[(ρ 6), (ρ 7)])) w) [(10, (fun ρ w => b18 R C7 C15 (ρ 9) (ρ 15) w)), (8, (fun ρ w => C7 (ρ 9) (ρ 10) w)), (2, (fun ρ w => C7 (ρ 9) (ρ 10) w)), (0, (fun ρ w => b5 R (ρ 10) w))]
theorem b21_eq (R : EP) (C7 : Value → VP) (C15 : Value → VP) (ρ : Env) (w : World) : (b21 R C7 C15 (ρ 9) (ρ 15) (ρ 16) w) = codeP Try.prog (pan R) p11 (q3 R C7 C15) ρ w := by kernel_rfl
theorem b21_ok (R : EP) (C7 : Value → VP) (C15 : Value → VP) (ρ : Env) (w : World) (h : b21 R C7 C15 (ρ 9) (ρ 15) (ρ 16) w) : codeP Try.prog (pan R) p11 (q3 R C7 C15) ρ w := (b21_eq R C7 C15 ρ w).mp h
def b20_1 (R : EP) (C7 : Value → VP) (C15 : Value → VP) (x9 x12 x15 : Value) (w18 : World) (_r : Tok R := tok R) (_C7 : Tok C7 := tok C7) (_C15 : Tok C15 := tok C15) : Prop :=
  RUN Try.prog (pan R) (Instr.fieldAt 61 x12 3) w18 fun v19 w20 =>
  RUN Try.prog (pan R) (Instr.loadAt 24 v19) w20 fun v21 w22 =>
  RUN Try.prog (pan R) (Instr.indexAt 24 v21 x15) w22 fun v23 w24 =>
  RUN Try.prog (pan R) (Instr.loadAt 3 v23) w24 fun v25 w26 =>
  b21 R C7 C15 x9 x15 v25 w26

def b20 (R : EP) (C7 : Value → VP) (C15 : Value → VP) (x2 x9 x12 x15 : Value) (w : World) (_r : Tok R := tok R) (_C7 : Tok C7 := tok C7) (_C15 : Tok C15 := tok C15) : Prop :=
  RUN Try.prog (pan R) (Instr.fieldAt 61 x12 3) w fun v1 w2 =>
  RUN Try.prog (pan R) (Instr.loadAt 24 v1) w2 fun v3 w4 =>
  RUN Try.prog (pan R) (Instr.fieldAt 61 x12 3) w4 fun v5 w6 =>
  RUN Try.prog (pan R) (Instr.loadAt 24 v5) w6 fun v7 w8 =>
  RUN Try.prog (pan R) (Builtin.len_ #[24] 3 #[v7]) w8 fun v9 w10 =>
  RUN Try.prog (pan R) (bins .sub 3 (.tmp 128) (.const (Go.Value.int Go.IntKind.i64 1)) v9 (Go.Value.int Go.IntKind.i64 1)) w10 fun v11 w12 =>
  RUN Try.prog (pan R) (bins .sub 3 (.tmp 129) (.tmp 130) v11 x15) w12 fun v13 w14 =>
  RUN Try.prog (pan R) (Instr.indexAt 24 v3 v13) w14 fun v15 w16 =>
  RUN Try.prog (pan R) (Instr.loadAt 3 v15) w16 fun v17 w18 =>
  SPL x2
  (b20_1 R C7 C15 x9 x12 x15 w18)
  (b21 R C7 C15 x9 x15 v17 w18)
abbrev q4 (R : EP) (C7 : Value → VP) (C15 : Value → VP) : XP := QX (fun ρ w => b21 R C7 C15 (ρ 9) (ρ 15) (ρ 16) w) (fun ρ w => R (.returned (.tuple #[(ρ 6), (ρ 7)])) w) [(10, (fun ρ w => b18 R C7 C15 (ρ 9) (ρ 15) w)), (8, (fun ρ w => C7 (ρ 9) (ρ 10) w)), (2, (fun ρ w => C7 (ρ 9) (ρ 10) w)), (0, (fun ρ w => b5 R (ρ 10) w))]
theorem b20_eq (R : EP) (C7 : Value → VP) (C15 : Value → VP) (ρ : Env) (w : World) : (b20 R C7 C15 (ρ 2) (ρ 9) (ρ 12) (ρ 15) w) = codeP Try.prog (pan R) (preC 1 p10) (q4 R C7 C15) ρ w := by kernel_rfl
theorem b20_ok (R : EP) (C7 : Value → VP) (C15 : Value → VP) (ρ : Env) (w : World) (h : b20 R C7 C15 (ρ 2) (ρ 9) (ρ 12) (ρ 15) w) : codeP Try.prog (pan R) p10 (q3 R C7 C15) ρ w := by
  have e : appC 1 (preC 1 p10) (dropC 2 p10) = p10 := by kernel_rfl
  rw [← e]
  exact appQ (fun ρ w => b21 R C7 C15 (ρ 9) (ρ 15) (ρ 16) w) 1 ((b20_eq R C7 C15 ρ w).mp h) (fun ρ w h => b21_ok R C7 C15 ρ w h)
abbrev q5 (R : EP) (C7 : Value → VP) (C15 : Value → VP) : XP := QX (fun ρ w => b18 R C7 C15 (ρ 9) (ρ 15) w) (fun ρ w => R (.returned (.tuple #[(ρ 6), (ρ 7)])) w) [(8, (fun ρ w => C7 (ρ 9) (ρ 10) w)), (2, (fun ρ w => C7 (ρ 9) (ρ 10) w)), (0, (fun ρ w => b5 R (ρ 10) w))]
theorem k19_ok (R : EP) (C7 : Value → VP) (C15 : Value → VP) (ρ : Env) (w : World) (h : b20 R C7 C15 (ρ 2) (ρ 9) (ρ 12) (ρ 15) w) : codeP Try.prog (pan R) (fstC p9) (q5 R C7 C15) ρ w := by
  have e : Code.block 5 (blkC (fstC p9)) = (fstC p9) := by kernel_rfl
  rw [← e]
  exact blockQ (b20_ok R C7 C15 ρ w h)
theorem k17_ok (R : EP) (C7 : Value → VP) (C15 : Value → VP) (ρ : Env) (w : World) (h : b20 R C7 C15 (ρ 2) (ρ 9) (ρ 12) (ρ 15) w) : codeP Try.prog (pan R) p9 (q2 R C7 C15) ρ w := by
  have e : Code.seq (fstC p9) (sndC p9) = p9 := by kernel_rfl
  rw [← e]
  exact seqQ (fun ρ w => b18 R C7 C15 (ρ 9) (ρ 15) w) (k19_ok R C7 C15 ρ w h) (fun ρ w h => b18_ok R C7 C15 ρ w h)

def b16 (R : EP) (C7 : Value → VP) (C15 : Value → VP) (x2 x9 x10 x12 x15 : Value) (w : World) (_r : Tok R := tok R) (_C7 : Tok C7 := tok C7) (_C15 : Tok C15 := tok C15) : Prop :=
  RUN Try.prog (pan R) (Instr.fieldAt 61 x12 3) w fun v1 w2 =>
  RUN Try.prog (pan R) (Instr.loadAt 24 v1) w2 fun v3 w4 =>
  RUN Try.prog (pan R) (Builtin.len_ #[24] 3 #[v3]) w4 fun v5 w6 =>
  RUN Try.prog (pan R) (bins .lss 3 (.tmp 117) (.tmp 120) x15 v5) w6 fun v7 w8 =>
  SPL v7
  (b20 R C7 C15 x2 x9 x12 x15 w8)
  (C7 x9 x10 w8)
abbrev q6 (R : EP) (C7 : Value → VP) (C15 : Value → VP) : XP := QX (fun ρ w => b20 R C7 C15 (ρ 2) (ρ 9) (ρ 12) (ρ 15) w) (fun ρ w => R (.returned (.tuple #[(ρ 6), (ρ 7)])) w) [(8, (fun ρ w => C7 (ρ 9) (ρ 10) w)), (2, (fun ρ w => C7 (ρ 9) (ρ 10) w)), (0, (fun ρ w => b5 R (ρ 10) w))]
theorem b16_eq (R : EP) (C7 : Value → VP) (C15 : Value → VP) (ρ : Env) (w : World) : (b16 R C7 C15 (ρ 2) (ρ 9) (ρ 10) (ρ 12) (ρ 15) w) = codeP Try.prog (pan R) (preC 0 p8) (q6 R C7 C15) ρ w := by kernel_rfl
theorem b16_ok (R : EP) (C7 : Value → VP) (C15 : Value → VP) (ρ : Env) (w : World) (h : b16 R C7 C15 (ρ 2) (ρ 9) (ρ 10) (ρ 12) (ρ 15) w) : codeP Try.prog (pan R) p8 (q2 R C7 C15) ρ w := by
  have e : appC 0 (preC 0 p8) (dropC 1 p8) = p8 := by kernel_rfl
  rw [← e]
  exact appQ (fun ρ w => b20 R C7 C15 (ρ 2) (ρ 9) (ρ 12) (ρ 15) w) 0 ((b16_eq R C7 C15 ρ w).mp h) (fun ρ w h => k17_ok R C7 C15 ρ w h)

def l15 (R : EP) (C7 : Value → VP) (x2 x9 x10 x12 x15 : Value) (w : World) (_r : Tok R := tok R) (_C7 : Tok C7 := tok C7) : Prop :=
  ∃ (J : Value → VP) (μ : Value → Value → World → Nat), J x9 x15 w ∧ ∀ y9 y15 w0, J y9 y15 w0 → b16 R C7 (fun z9 z15 w1 => J z9 z15 w1 ∧ μ z9 z15 w1 < μ y9 y15 w0) x2 y9 x10 x12 y15 w0
abbrev q7 (R : EP) (C7 : Value → VP) : XP := QX (fun ρ w => C7 (ρ 9) (ρ 10) w) (fun ρ w => R (.returned (.tuple #[(ρ 6), (ρ 7)])) w) [(8, (fun ρ w => C7 (ρ 9) (ρ 10) w)), (2, (fun ρ w => C7 (ρ 9) (ρ 10) w)), (0, (fun ρ w => b5 R (ρ 10) w))]
theorem l15_ok (R : EP) (C7 : Value → VP) (ρ : Env) (w : World) (h : l15 R C7 (ρ 2) (ρ 9) (ρ 10) (ρ 12) (ρ 15) w) : codeP Try.prog (pan R) (blkC p7) (q7 R C7) ρ w := by
  unfold l15 at h
  obtain ⟨J, μ, h0, hr⟩ := h
  have e : Code.loop (loopC (blkC p7)) = (blkC p7) := by kernel_rfl
  rw [← e]
  refine loopQ (fun ρ' w' => J (ρ' 9) (ρ' 15) w') (fun ρ' w' => μ (ρ' 9) (ρ' 15) w') h0 fun ρ' w' hA hI => ?_
  have e2 : ρ' 2 = ρ 2 := Agree.at hA 2 (by kernel_rfl)
  have e10 : ρ' 10 = ρ 10 := Agree.at hA 10 (by kernel_rfl)
  have e12 : ρ' 12 = ρ 12 := Agree.at hA 12 (by kernel_rfl)
  have h1 := hr (ρ' 9) (ρ' 15) w' hI
  rw [← e2, ← e10, ← e12] at h1
  exact b16_ok R C7 (fun z9 z15 w1 => J z9 z15 w1 ∧ μ z9 z15 w1 < μ (ρ' 9) (ρ' 15) w') ρ' w' h1
theorem l15_intro (R : EP) (C7 : Value → VP) (x2 x9 x10 x12 x15 : Value) (w : World) (J : Value → VP) (μ : Value → Value → World → Nat) (h0 : J x9 x15 w)
    (hr : ∀ y9 y15 w0, J y9 y15 w0 → ∀ C15 : Value → VP, (∀ z9 z15 w1, J z9 z15 w1 → μ z9 z15 w1 < μ y9 y15 w0 → C15 z9 z15 w1) → b16 R C7 C15 x2 y9 x10 x12 y15 w0) : l15 R C7 x2 x9 x10 x12 x15 w := by
  unfold l15
  exact ⟨J, μ, h0, fun y9 y15 w0 hJ => hr y9 y15 w0 hJ _ (fun z9 z15 w1 h1 h2 => ⟨h1, h2⟩)⟩
abbrev q8 (R : EP) (C7 : Value → VP) : XP := QX (fun ρ w => C7 (ρ 9) (ρ 10) w) (fun ρ w => R (.returned (.tuple #[(ρ 6), (ρ 7)])) w) [(2, (fun ρ w => C7 (ρ 9) (ρ 10) w)), (0, (fun ρ w => b5 R (ρ 10) w))]
theorem k14_ok (R : EP) (C7 : Value → VP) (ρ : Env) (w : World) (h : l15 R C7 (ρ 2) (ρ 9) (ρ 10) (ρ 12) (ρ 15) w) : codeP Try.prog (pan R) p7 (q8 R C7) ρ w := by
  have e : Code.block 4 (blkC p7) = p7 := by kernel_rfl
  rw [← e]
  exact blockQ (l15_ok R C7 ρ w h)

def b13 (R : EP) (C7 : Value → VP) (x2 x9 x10 x12 : Value) (w : World) (_r : Tok R := tok R) (_C7 : Tok C7 := tok C7) : Prop :=
  l15 R C7 x2 x9 x10 x12 (Go.Value.int Go.IntKind.i64 0) w
abbrev q9 (R : EP) (C7 : Value → VP) : XP := QX (fun ρ w => l15 R C7 (ρ 2) (ρ 9) (ρ 10) (ρ 12) (ρ 15) w) (fun ρ w => R (.returned (.tuple #[(ρ 6), (ρ 7)])) w) [(2, (fun ρ w => C7 (ρ 9) (ρ 10) w)), (0, (fun ρ w => b5 R (ρ 10) w))]
theorem b13_eq (R : EP) (C7 : Value → VP) (ρ : Env) (w : World) : (b13 R C7 (ρ 2) (ρ 9) (ρ 10) (ρ 12) w) = codeP Try.prog (pan R) (preC 0 p6) (q9 R C7) ρ w := by kernel_rfl
theorem b13_ok (R : EP) (C7 : Value → VP) (ρ : Env) (w : World) (h : b13 R C7 (ρ 2) (ρ 9) (ρ 10) (ρ 12) w) : codeP Try.prog (pan R) p6 (q8 R C7) ρ w := by
  have e : appC 0 (preC 0 p6) (dropC 1 p6) = p6 := by kernel_rfl
  rw [← e]
  exact appQ (fun ρ w => l15 R C7 (ρ 2) (ρ 9) (ρ 10) (ρ 12) (ρ 15) w) 0 ((b13_eq R C7 ρ w).mp h) (fun ρ w h => k14_ok R C7 ρ w h)
noncomputable abbrev p12 : Code := fstC (sndC p5)
noncomputable abbrev p13 : Code := dropC 1 p12
noncomputable abbrev p14 : Code := loopC (blkC p13)
noncomputable abbrev p15 : Code := dropC 1 p14

def b27 (R : EP) (C7 : Value → VP) (C24 : VP) (x13 : Value) (w : World) (_r : Tok R := tok R) (_C7 : Tok C7 := tok C7) (_C24 : Tok C24 := tok C24) : Prop :=
  RUN Try.prog (pan R) (bins .add 3 (.tmp 94) (.const (Go.Value.int Go.IntKind.i64 1)) x13 (Go.Value.int Go.IntKind.i64 1)) w fun v1 w2 =>
  C24 v1 w2
abbrev q10 (R : EP) (C7 : Value → VP) (C24 : VP) : XP := QX (fun ρ w => C24 (ρ 13) w) (fun ρ w => R (.returned (.tuple #[(ρ 6), (ρ 7)])) w) [(4, (fun ρ w => b13 R C7 (ρ 2) (ρ 9) (ρ 10) (ρ 12) w)), (2, (fun ρ w => C7 (ρ 9) (ρ 10) w)), (0, (fun ρ w => b5 R (ρ 10) w))]
theorem b27_eq (R : EP) (C7 : Value → VP) (C24 : VP) (ρ : Env) (w : World) : (b27 R C7 C24 (ρ 13) w) = codeP Try.prog (pan R) (sndC p15) (q10 R C7 C24) ρ w := by kernel_rfl
theorem b27_ok (R : EP) (C7 : Value → VP) (C24 : VP) (ρ : Env) (w : World) (h : b27 R C7 C24 (ρ 13) w) : codeP Try.prog (pan R) (sndC p15) (q10 R C7 C24) ρ w := (b27_eq R C7 C24 ρ w).mp h
noncomputable abbrev p16 : Code := blkC (fstC p15)
noncomputable abbrev p17 : Code := dropC 1 p16

def b31 (R : EP) (C7 : Value → VP) (C24 : VP) (x8 x13 x14 : Value) (w : World) (_r : Tok R := tok R) (_C7 : Tok C7 := tok C7) (_C24 : Tok C24 := tok C24) : Prop :=
  RUN Try.prog (pan R) (Instr.indexAt 68 x8 x14) w fun v1 w2 =>
  RUNU Try.prog (pan R) (Instr.storeAt 4 v1 (Go.Value.bool Bool.true)) w2 fun w3 =>
  b27 R C7 C24 x13 w3
abbrev q11 (R : EP) (C7 : Value → VP) (C24 : VP) : XP := QX (fun ρ w => b27 R C7 C24 (ρ 13) w) (fun ρ w => R (.returned (.tuple #[(ρ 6), (ρ 7)])) w) [(6, (fun ρ w => b27 R C7 C24 (ρ 13) w)), (4, (fun ρ w => b13 R C7 (ρ 2) (ρ 9) (ρ 10) (ρ 12) w)), (2, (fun ρ w => C7 (ρ 9) (ρ 10) w)), (0, (fun ρ w => b5 R (ρ 10) w))]
theorem b31_eq (R : EP) (C7 : Value → VP) (C24 : VP) (ρ : Env) (w : World) : (b31 R C7 C24 (ρ 8) (ρ 13) (ρ 14) w) = codeP Try.prog (pan R) (sndC p17) (q11 R C7 C24) ρ w := by kernel_rfl
theorem b31_ok (R : EP) (C7 : Value → VP) (C24 : VP) (ρ : Env) (w : World) (h : b31 R C7 C24 (ρ 8) (ρ 13) (ρ 14) w) : codeP Try.prog (pan R) (sndC p17) (q11 R C7 C24) ρ w := (b31_eq R C7 C24 ρ w).mp h
noncomputable abbrev p18 : Code := dropC 1 (fstC p17)

def b33 (R : EP) (C7 : Value → VP) (C24 : VP) (x8 x13 x14 x113 : Value) (w : World) (_r : Tok R := tok R) (_C7 : Tok C7 := tok C7) (_C24 : Tok C24 := tok C24) : Prop :=
  SPL x113
  (R (.returned (.tuple #[(Go.Value.slice Option.none 0 0), (Go.Value.bool Bool.false)])) w)
  (b31 R C7 C24 x8 x13 x14 w)
abbrev q12 (R : EP) (C7 : Value → VP) (C24 : VP) : XP := QX (fun ρ w => b31 R C7 C24 (ρ 8) (ρ 13) (ρ 14) w) (fun ρ w => R (.returned (.tuple #[(ρ 6), (ρ 7)])) w) [(6, (fun ρ w => b27 R C7 C24 (ρ 13) w)), (4, (fun ρ w => b13 R C7 (ρ 2) (ρ 9) (ρ 10) (ρ 12) w)), (2, (fun ρ w => C7 (ρ 9) (ρ 10) w)), (0, (fun ρ w => b5 R (ρ 10) w))]
theorem b33_eq (R : EP) (C7 : Value → VP) (C24 : VP) (ρ : Env) (w : World) : (b33 R C7 C24 (ρ 8) (ρ 13) (ρ 14) (ρ 113) w) = codeP Try.prog (pan R) p18 (q12 R C7 C24) ρ w := by kernel_rfl
theorem b33_ok (R : EP) (C7 : Value → VP) (C24 : VP) (ρ : Env) (w : World) (h : b33 R C7 C24 (ρ 8) (ρ 13) (ρ 14) (ρ 113) w) : codeP Try.prog (pan R) p18 (q12 R C7 C24) ρ w := (b33_eq R C7 C24 ρ w).mp h
def b32_1 (R : EP) (C7 : Value → VP) (C24 : VP) (x8 x13 x14 : Value) (w4 : World) (_r : Tok R := tok R) (_C7 : Tok C7 := tok C7) (_C24 : Tok C24 := tok C24) : Prop :=
  RUN Try.prog (pan R) (Instr.indexAt 68 x8 x14) w4 fun v5 w6 =>
  RUN Try.prog (pan R) (Instr.loadAt 4 v5) w6 fun v7 w8 =>
  b33 R C7 C24 x8 x13 x14 v7 w8

def b32 (R : EP) (C7 : Value → VP) (C24 : VP) (x8 x11 x13 x14 : Value) (w : World) (_r : Tok R := tok R) (_C7 : Tok C7 := tok C7) (_C24 : Tok C24 := tok C24) : Prop :=
  RUN Try.prog (pan R) (bins .lss 3 (.tmp 101) (.const (Go.Value.int Go.IntKind.i64 0)) x14 (Go.Value.int Go.IntKind.i64 0)) w fun v1 w2 =>
  SPL v1
  (b33 R C7 C24 x8 x13 x14 (Go.Value.bool Bool.true) w2)
  (RUN Try.prog (pan R) (bins .geq 3 (.tmp 104) (.tmp 105) x14 x11) w2 fun v3 w4 =>
  SPL v3
  (b33 R C7 C24 x8 x13 x14 (Go.Value.bool Bool.true) w4)
  (b32_1 R C7 C24 x8 x13 x14 w4))
abbrev q13 (R : EP) (C7 : Value → VP) (C24 : VP) : XP := QX (fun ρ w => b33 R C7 C24 (ρ 8) (ρ 13) (ρ 14) (ρ 113) w) (fun ρ w => R (.returned (.tuple #[(ρ 6), (ρ 7)])) w) [(6, (fun ρ w => b27 R C7 C24 (ρ 13) w)), (4, (fun ρ w => b13 R C7 (ρ 2) (ρ 9) (ρ 10) (ρ 12) w)), (2, (fun ρ w => C7 (ρ 9) (ρ 10) w)), (0, (fun ρ w => b5 R (ρ 10) w))]
theorem b32_eq (R : EP) (C7 : Value → VP) (C24 : VP) (ρ : Env) (w : World) : (b32 R C7 C24 (ρ 8) (ρ 11) (ρ 13) (ρ 14) w) = codeP Try.prog (pan R) (preC 0 (fstC p17)) (q13 R C7 C24) ρ w := by kernel_rfl
theorem b32_ok (R : EP) (C7 : Value → VP) (C24 : VP) (ρ : Env) (w : World) (h : b32 R C7 C24 (ρ 8) (ρ 11) (ρ 13) (ρ 14) w) : codeP Try.prog (pan R) (fstC p17) (q12 R C7 C24) ρ w := by
  have e : appC 0 (preC 0 (fstC p17)) (dropC 1 (fstC p17)) = (fstC p17) := by kernel_rfl
  rw [← e]
  exact appQ (fun ρ w => b33 R C7 C24 (ρ 8) (ρ 13) (ρ 14) (ρ 113) w) 0 ((b32_eq R C7 C24 ρ w).mp h) (fun ρ w h => b33_ok R C7 C24 ρ w h)
theorem k30_ok (R : EP) (C7 : Value → VP) (C24 : VP) (ρ : Env) (w : World) (h : b32 R C7 C24 (ρ 8) (ρ 11) (ρ 13) (ρ 14) w) : codeP Try.prog (pan R) p17 (q11 R C7 C24) ρ w := by
  have e : Code.seq (fstC p17) (sndC p17) = p17 := by kernel_rfl
  rw [← e]
  exact seqQ (fun ρ w => b31 R C7 C24 (ρ 8) (ρ 13) (ρ 14) w) (b32_ok R C7 C24 ρ w h) (fun ρ w h => b31_ok R C7 C24 ρ w h)

def b29 (R : EP) (C7 : Value → VP) (C24 : VP) (x8 x11 x12 x13 : Value) (w : World) (_r : Tok R := tok R) (_C7 : Tok C7 := tok C7) (_C24 : Tok C24 := tok C24) : Prop :=
  RUN Try.prog (pan R) (Instr.fieldAt 61 x12 3) w fun v1 w2 =>
  RUN Try.prog (pan R) (Instr.loadAt 24 v1) w2 fun v3 w4 =>
  RUN Try.prog (pan R) (Instr.indexAt 24 v3 x13) w4 fun v5 w6 =>
  RUN Try.prog (pan R) (Instr.loadAt 3 v5) w6 fun v7 w8 =>
  b32 R C7 C24 x8 x11 x13 v7 w8
abbrev q14 (R : EP) (C7 : Value → VP) (C24 : VP) : XP := QX (fun ρ w => b32 R C7 C24 (ρ 8) (ρ 11) (ρ 13) (ρ 14) w) (fun ρ w => R (.returned (.tuple #[(ρ 6), (ρ 7)])) w) [(6, (fun ρ w => b27 R C7 C24 (ρ 13) w)), (4, (fun ρ w => b13 R C7 (ρ 2) (ρ 9) (ρ 10) (ρ 12) w)), (2, (fun ρ w => C7 (ρ 9) (ρ 10) w)), (0, (fun ρ w => b5 R (ρ 10) w))]
theorem b29_eq (R : EP) (C7 : Value → VP) (C24 : VP) (ρ : Env) (w : World) : (b29 R C7 C24 (ρ 8) (ρ 11) (ρ 12) (ρ 13) w) = codeP Try.prog (pan R) (preC 0 p16) (q14 R C7 C24) ρ w := by kernel_rfl
theorem b29_ok (R : EP) (C7 : Value → VP) (C24 : VP) (ρ : Env) (w : World) (h : b29 R C7 C24 (ρ 8) (ρ 11) (ρ 12) (ρ 13) w) : codeP Try.prog (pan R) p16 (q11 R C7 C24) ρ w := by
  have e : appC 0 (preC 0 p16) (dropC 1 p16) = p16 := by kernel_rfl
  rw [← e]
  exact appQ (fun ρ w => b32 R C7 C24 (ρ 8) (ρ 11) (ρ 13) (ρ 14) w) 0 ((b29_eq R C7 C24 ρ w).mp h) (fun ρ w h => k30_ok R C7 C24 ρ w h)
abbrev q15 (R : EP) (C7 : Value → VP) (C24 : VP) : XP := QX (fun ρ w => b27 R C7 C24 (ρ 13) w) (fun ρ w => R (.returned (.tuple #[(ρ 6), (ρ 7)])) w) [(4, (fun ρ w => b13 R C7 (ρ 2) (ρ 9) (ρ 10) (ρ 12) w)), (2, (fun ρ w => C7 (ρ 9) (ρ 10) w)), (0, (fun ρ w => b5 R (ρ 10) w))]
theorem k28_ok (R : EP) (C7 : Value → VP) (C24 : VP) (ρ : Env) (w : World) (h : b29 R C7 C24 (ρ 8) (ρ 11) (ρ 12) (ρ 13) w) : codeP Try.prog (pan R) (fstC p15) (q15 R C7 C24) ρ w := by
  have e : Code.block 3 (blkC (fstC p15)) = (fstC p15) := by kernel_rfl
  rw [← e]
  exact blockQ (b29_ok R C7 C24 ρ w h)
theorem k26_ok (R : EP) (C7 : Value → VP) (C24 : VP) (ρ : Env) (w : World) (h : b29 R C7 C24 (ρ 8) (ρ 11) (ρ 12) (ρ 13) w) : codeP Try.prog (pan R) p15 (q10 R C7 C24) ρ w := by
  have e : Code.seq (fstC p15) (sndC p15) = p15 := by kernel_rfl
  rw [← e]
  exact seqQ (fun ρ w => b27 R C7 C24 (ρ 13) w) (k28_ok R C7 C24 ρ w h) (fun ρ w h => b27_ok R C7 C24 ρ w h)

def b25 (R : EP) (C7 : Value → VP) (C24 : VP) (x2 x8 x9 x10 x11 x12 x13 : Value) (w : World) (_r : Tok R := tok R) (_C7 : Tok C7 := tok C7) (_C24 : Tok C24 := tok C24) : Prop :=
  RUN Try.prog (pan R) (Instr.fieldAt 61 x12 3) w fun v1 w2 =>
  RUN Try.prog (pan R) (Instr.loadAt 24 v1) w2 fun v3 w4 =>
  RUN Try.prog (pan R) (Builtin.len_ #[24] 3 #[v3]) w4 fun v5 w6 =>
  RUN Try.prog (pan R) (bins .lss 3 (.tmp 89) (.tmp 92) x13 v5) w6 fun v7 w8 =>
  SPL v7
  (b29 R C7 C24 x8 x11 x12 x13 w8)
  (b13 R C7 x2 x9 x10 x12 w8)
abbrev q16 (R : EP) (C7 : Value → VP) (C24 : VP) : XP := QX (fun ρ w => b29 R C7 C24 (ρ 8) (ρ 11) (ρ 12) (ρ 13) w) (fun ρ w => R (.returned (.tuple #[(ρ 6), (ρ 7)])) w) [(4, (fun ρ w => b13 R C7 (ρ 2) (ρ 9) (ρ 10) (ρ 12) w)), (2, (fun ρ w => C7 (ρ 9) (ρ 10) w)), (0, (fun ρ w => b5 R (ρ 10) w))]
theorem b25_eq (R : EP) (C7 : Value → VP) (C24 : VP) (ρ : Env) (w : World) : (b25 R C7 C24 (ρ 2) (ρ 8) (ρ 9) (ρ 10) (ρ 11) (ρ 12) (ρ 13) w) = codeP Try.prog (pan R) (preC 0 p14) (q16 R C7 C24) ρ w := by kernel_rfl
theorem b25_ok (R : EP) (C7 : Value → VP) (C24 : VP) (ρ : Env) (w : World) (h : b25 R C7 C24 (ρ 2) (ρ 8) (ρ 9) (ρ 10) (ρ 11) (ρ 12) (ρ 13) w) : codeP Try.prog (pan R) p14 (q10 R C7 C24) ρ w := by
  have e : appC 0 (preC 0 p14) (dropC 1 p14) = p14 := by kernel_rfl
  rw [← e]
  exact appQ (fun ρ w => b29 R C7 C24 (ρ 8) (ρ 11) (ρ 12) (ρ 13) w) 0 ((b25_eq R C7 C24 ρ w).mp h) (fun ρ w h => k26_ok R C7 C24 ρ w h)

def l24 (R : EP) (C7 : Value → VP) (x2 x8 x9 x10 x11 x12 x13 : Value) (w : World) (_r : Tok R := tok R) (_C7 : Tok C7 := tok C7) : Prop :=
  ∃ (J : VP) (μ : Value → World → Nat), J x13 w ∧ ∀ y13 w0, J y13 w0 → b25 R C7 (fun z13 w1 => J z13 w1 ∧ μ z13 w1 < μ y13 w0) x2 x8 x9 x10 x11 x12 y13 w0
abbrev q17 (R : EP) (C7 : Value → VP) : XP := QX (fun ρ w => b13 R C7 (ρ 2) (ρ 9) (ρ 10) (ρ 12) w) (fun ρ w => R (.returned (.tuple #[(ρ 6), (ρ 7)])) w) [(4, (fun ρ w => b13 R C7 (ρ 2) (ρ 9) (ρ 10) (ρ 12) w)), (2, (fun ρ w => C7 (ρ 9) (ρ 10) w)), (0, (fun ρ w => b5 R (ρ 10) w))]
theorem l24_ok (R : EP) (C7 : Value → VP) (ρ : Env) (w : World) (h : l24 R C7 (ρ 2) (ρ 8) (ρ 9) (ρ 10) (ρ 11) (ρ 12) (ρ 13) w) : codeP Try.prog (pan R) (blkC p13) (q17 R C7) ρ w := by
  unfold l24 at h
  obtain ⟨J, μ, h0, hr⟩ := h
  have e : Code.loop (loopC (blkC p13)) = (blkC p13) := by kernel_rfl
  rw [← e]
  refine loopQ (fun ρ' w' => J (ρ' 13) w') (fun ρ' w' => μ (ρ' 13) w') h0 fun ρ' w' hA hI => ?_
  have e2 : ρ' 2 = ρ 2 := Agree.at hA 2 (by kernel_rfl)
  have e8 : ρ' 8 = ρ 8 := Agree.at hA 8 (by kernel_rfl)
  have e9 : ρ' 9 = ρ 9 := Agree.at hA 9 (by kernel_rfl)
  have e10 : ρ' 10 = ρ 10 := Agree.at hA 10 (by kernel_rfl)
  have e11 : ρ' 11 = ρ 11 := Agree.at hA 11 (by kernel_rfl)
  have e12 : ρ' 12 = ρ 12 := Agree.at hA 12 (by kernel_rfl)
  have h1 := hr (ρ' 13) w' hI
  rw [← e2, ← e8, ← e9, ← e10, ← e11, ← e12] at h1
  exact b25_ok R C7 (fun z13 w1 => J z13 w1 ∧ μ z13 w1 < μ (ρ' 13) w') ρ' w' h1
theorem l24_intro (R : EP) (C7 : Value → VP) (x2 x8 x9 x10 x11 x12 x13 : Value) (w : World) (J : VP) (μ : Value → World → Nat) (h0 : J x13 w)
    (hr : ∀ y13 w0, J y13 w0 → ∀ C24 : VP, (∀ z13 w1, J z13 w1 → μ z13 w1 < μ y13 w0 → C24 z13 w1) → b25 R C7 C24 x2 x8 x9 x10 x11 x12 y13 w0) : l24 R C7 x2 x8 x9 x10 x11 x12 x13 w := by
  unfold l24
  exact ⟨J, μ, h0, fun y13 w0 hJ => hr y13 w0 hJ _ (fun z13 w1 h1 h2 => ⟨h1, h2⟩)⟩
abbrev q18 (R : EP) (C7 : Value → VP) : XP := QX (fun ρ w => b13 R C7 (ρ 2) (ρ 9) (ρ 10) (ρ 12) w) (fun ρ w => R (.returned (.tuple #[(ρ 6), (ρ 7)])) w) [(2, (fun ρ w => C7 (ρ 9) (ρ 10) w)), (0, (fun ρ w => b5 R (ρ 10) w))]
theorem k23_ok (R : EP) (C7 : Value → VP) (ρ : Env) (w : World) (h : l24 R C7 (ρ 2) (ρ 8) (ρ 9) (ρ 10) (ρ 11) (ρ 12) (ρ 13) w) : codeP Try.prog (pan R) p13 (q18 R C7) ρ w := by
  have e : Code.block 2 (blkC p13) = p13 := by kernel_rfl
  rw [← e]
  exact blockQ (l24_ok R C7 ρ w h)

def b22 (R : EP) (C7 : Value → VP) (x2 x8 x9 x10 x11 x12 : Value) (w : World) (_r : Tok R := tok R) (_C7 : Tok C7 := tok C7) : Prop :=
  l24 R C7 x2 x8 x9 x10 x11 x12 (Go.Value.int Go.IntKind.i64 0) w
abbrev q19 (R : EP) (C7 : Value → VP) : XP := QX (fun ρ w => l24 R C7 (ρ 2) (ρ 8) (ρ 9) (ρ 10) (ρ 11) (ρ 12) (ρ 13) w) (fun ρ w => R (.returned (.tuple #[(ρ 6), (ρ 7)])) w) [(2, (fun ρ w => C7 (ρ 9) (ρ 10) w)), (0, (fun ρ w => b5 R (ρ 10) w))]
theorem b22_eq (R : EP) (C7 : Value → VP) (ρ : Env) (w : World) : (b22 R C7 (ρ 2) (ρ 8) (ρ 9) (ρ 10) (ρ 11) (ρ 12) w) = codeP Try.prog (pan R) (preC 0 p12) (q19 R C7) ρ w := by kernel_rfl
theorem b22_ok (R : EP) (C7 : Value → VP) (ρ : Env) (w : World) (h : b22 R C7 (ρ 2) (ρ 8) (ρ 9) (ρ 10) (ρ 11) (ρ 12) w) : codeP Try.prog (pan R) p12 (q18 R C7) ρ w := by
  have e : appC 0 (preC 0 p12) (dropC 1 p12) = p12 := by kernel_rfl
  rw [← e]
  exact appQ (fun ρ w => l24 R C7 (ρ 2) (ρ 8) (ρ 9) (ρ 10) (ρ 11) (ρ 12) (ρ 13) w) 0 ((b22_eq R C7 ρ w).mp h) (fun ρ w h => k23_ok R C7 ρ w h)
theorem k12_ok (R : EP) (C7 : Value → VP) (ρ : Env) (w : World) (h : b22 R C7 (ρ 2) (ρ 8) (ρ 9) (ρ 10) (ρ 11) (ρ 12) w) : codeP Try.prog (pan R) (sndC p5) (q8 R C7) ρ w := by
  have e : Code.seq (fstC (sndC p5)) (sndC (sndC p5)) = (sndC p5) := by kernel_rfl
  rw [← e]
  exact seqQ (fun ρ w => b13 R C7 (ρ 2) (ρ 9) (ρ 10) (ρ 12) w) (b22_ok R C7 ρ w h) (fun ρ w h => b13_ok R C7 ρ w h)
noncomputable abbrev p19 : Code := dropC 1 (fstC p5)

def b35 (R : EP) (C7 : Value → VP) (x2 x8 x9 x10 x11 x12 x88 : Value) (w : World) (_r : Tok R := tok R) (_C7 : Tok C7 := tok C7) : Prop :=
  SPL x88
  (R (.returned (.tuple #[(Go.Value.slice Option.none 0 0), (Go.Value.bool Bool.false)])) w)
  (b22 R C7 x2 x8 x9 x10 x11 x12 w)
abbrev q20 (R : EP) (C7 : Value → VP) : XP := QX (fun ρ w => b22 R C7 (ρ 2) (ρ 8) (ρ 9) (ρ 10) (ρ 11) (ρ 12) w) (fun ρ w => R (.returned (.tuple #[(ρ 6), (ρ 7)])) w) [(2, (fun ρ w => C7 (ρ 9) (ρ 10) w)), (0, (fun ρ w => b5 R (ρ 10) w))]
theorem b35_eq (R : EP) (C7 : Value → VP) (ρ : Env) (w : World) : (b35 R C7 (ρ 2) (ρ 8) (ρ 9) (ρ 10) (ρ 11) (ρ 12) (ρ 88) w) = codeP Try.prog (pan R) p19 (q20 R C7) ρ w := by kernel_rfl
theorem b35_ok (R : EP) (C7 : Value → VP) (ρ : Env) (w : World) (h : b35 R C7 (ρ 2) (ρ 8) (ρ 9) (ρ 10) (ρ 11) (ρ 12) (ρ 88) w) : codeP Try.prog (pan R) p19 (q20 R C7) ρ w := (b35_eq R C7 ρ w).mp h
def b34_1 (R : EP) (C7 : Value → VP) (x2 x8 x9 x10 x11 x12 : Value) (w38 : World) (_r : Tok R := tok R) (_C7 : Tok C7 := tok C7) : Prop :=
  RUN Try.prog (pan R) (Instr.fieldAt 61 x12 2) w38 fun v39 w40 =>
  RUN Try.prog (pan R) (Instr.loadAt 3 v39) w40 fun v41 w42 =>
  RUN Try.prog (pan R) (bins .neq 3 (.tmp 85) (.const (Go.Value.int Go.IntKind.i64 0)) v41 (Go.Value.int Go.IntKind.i64 0)) w42 fun v43 w44 =>
  b35 R C7 x2 x8 x9 x10 x11 x12 v43 w44
def b34_2 (R : EP) (C7 : Value → VP) (x2 x8 x9 x10 x11 x12 : Value) (w32 : World) (_r : Tok R := tok R) (_C7 : Tok C7 := tok C7) : Prop :=
  RUN Try.prog (pan R) (Instr.fieldAt 61 x12 1) w32 fun v33 w34 =>
  RUN Try.prog (pan R) (Instr.loadAt 3 v33) w34 fun v35 w36 =>
  RUN Try.prog (pan R) (bins .geq 3 (.tmp 81) (.const (Go.Value.int Go.IntKind.i64 0)) v35 (Go.Value.int Go.IntKind.i64 0)) w36 fun v37 w38 =>
  SPL v37
  (b34_1 R C7 x2 x8 x9 x10 x11 x12 w38)
  (b35 R C7 x2 x8 x9 x10 x11 x12 (Go.Value.bool Bool.false) w38)
def b34_3 (R : EP) (C7 : Value → VP) (x2 x8 x9 x10 x11 x12 : Value) (w24 : World) (_r : Tok R := tok R) (_C7 : Tok C7 := tok C7) : Prop :=
  RUN Try.prog (pan R) (Instr.fieldAt 61 x12 3) w24 fun v25 w26 =>
  RUN Try.prog (pan R) (Instr.loadAt 24 v25) w26 fun v27 w28 =>
  RUN Try.prog (pan R) (Builtin.len_ #[24] 3 #[v27]) w28 fun v29 w30 =>
  RUN Try.prog (pan R) (bins .gtr 3 (.tmp 75) (.const (Go.Value.int Go.IntKind.i64 0)) v29 (Go.Value.int Go.IntKind.i64 0)) w30 fun v31 w32 =>
  SPL v31
  (b35 R C7 x2 x8 x9 x10 x11 x12 (Go.Value.bool Bool.true) w32)
  (b34_2 R C7 x2 x8 x9 x10 x11 x12 w32)
def b34_4 (R : EP) (C7 : Value → VP) (x2 x8 x9 x10 x11 x12 : Value) (w50 : World) (_r : Tok R := tok R) (_C7 : Tok C7 := tok C7) : Prop :=
  RUN Try.prog (pan R) (Instr.fieldAt 61 x12 2) w50 fun v51 w52 =>
  RUN Try.prog (pan R) (Instr.loadAt 3 v51) w52 fun v53 w54 =>
  RUN Try.prog (pan R) (bins .neq 3 (.tmp 85) (.const (Go.Value.int Go.IntKind.i64 0)) v53 (Go.Value.int Go.IntKind.i64 0)) w54 fun v55 w56 =>
  b35 R C7 x2 x8 x9 x10 x11 x12 v55 w56
def b34_5 (R : EP) (C7 : Value → VP) (x2 x8 x9 x10 x11 x12 : Value) (w24 : World) (_r : Tok R := tok R) (_C7 : Tok C7 := tok C7) : Prop :=
  RUN Try.prog (pan R) (Instr.fieldAt 61 x12 1) w24 fun v45 w46 =>
  RUN Try.prog (pan R) (Instr.loadAt 3 v45) w46 fun v47 w48 =>
  RUN Try.prog (pan R) (bins .geq 3 (.tmp 81) (.const (Go.Value.int Go.IntKind.i64 0)) v47 (Go.Value.int Go.IntKind.i64 0)) w48 fun v49 w50 =>
  SPL v49
  (b34_4 R C7 x2 x8 x9 x10 x11 x12 w50)
  (b35 R C7 x2 x8 x9 x10 x11 x12 (Go.Value.bool Bool.false) w50)
def b34_6 (R : EP) (C7 : Value → VP) (x2 x8 x9 x10 x11 x12 : Value) (w18 : World) (_r : Tok R := tok R) (_C7 : Tok C7 := tok C7) : Prop :=
  RUN Try.prog (pan R) (Instr.fieldAt 61 x12 1) w18 fun v19 w20 =>
  RUN Try.prog (pan R) (Instr.loadAt 3 v19) w20 fun v21 w22 =>
  RUN Try.prog (pan R) (bins .eql 3 (.tmp 70) (.const (Go.Value.int Go.IntKind.i64 (-1))) v21 (Go.Value.int Go.IntKind.i64 (-1))) w22 fun v23 w24 =>
  SPL v23
  (b34_3 R C7 x2 x8 x9 x10 x11 x12 w24)
  (b34_5 R C7 x2 x8 x9 x10 x11 x12 w24)
def b34_7 (R : EP) (C7 : Value → VP) (x2 x8 x9 x10 x11 x12 : Value) (w12 : World) (_r : Tok R := tok R) (_C7 : Tok C7 := tok C7) : Prop :=
  RUN Try.prog (pan R) (Instr.fieldAt 61 x12 2) w12 fun v13 w14 =>
  RUN Try.prog (pan R) (Instr.loadAt 3 v13) w14 fun v15 w16 =>
  RUN Try.prog (pan R) (bins .lss 3 (.tmp 65) (.const (Go.Value.int Go.IntKind.i64 0)) v15 (Go.Value.int Go.IntKind.i64 0)) w16 fun v17 w18 =>
  SPL v17
  (b35 R C7 x2 x8 x9 x10 x11 x12 (Go.Value.bool Bool.true) w18)
  (b34_6 R C7 x2 x8 x9 x10 x11 x12 w18)
def b34_8 (R : EP) (C7 : Value → VP) (x2 x8 x9 x10 x11 x12 : Value) (w6 : World) (_r : Tok R := tok R) (_C7 : Tok C7 := tok C7) : Prop :=
  RUN Try.prog (pan R) (Instr.fieldAt 61 x12 1) w6 fun v7 w8 =>
  RUN Try.prog (pan R) (Instr.loadAt 3 v7) w8 fun v9 w10 =>
  RUN Try.prog (pan R) (bins .lss 3 (.tmp 60) (.const (Go.Value.int Go.IntKind.i64 (-1))) v9 (Go.Value.int Go.IntKind.i64 (-1))) w10 fun v11 w12 =>
  SPL v11
  (b35 R C7 x2 x8 x9 x10 x11 x12 (Go.Value.bool Bool.true) w12)
  (b34_7 R C7 x2 x8 x9 x10 x11 x12 w12)

def b34 (R : EP) (C7 : Value → VP) (x2 x8 x9 x10 x11 x12 : Value) (w : World) (_r : Tok R := tok R) (_C7 : Tok C7 := tok C7) : Prop :=
  RUN Try.prog (pan R) (Instr.fieldAt 61 x12 0) w fun v1 w2 =>
  RUN Try.prog (pan R) (Instr.loadAt 3 v1) w2 fun v3 w4 =>
  RUN Try.prog (pan R) (bins .lss 3 (.tmp 56) (.const (Go.Value.int Go.IntKind.i64 0)) v3 (Go.Value.int Go.IntKind.i64 0)) w4 fun v5 w6 =>
  SPL v5
  (b35 R C7 x2 x8 x9 x10 x11 x12 (Go.Value.bool Bool.true) w6)
  (b34_8 R C7 x2 x8 x9 x10 x11 x12 w6)
abbrev q21 (R : EP) (C7 : Value → VP) : XP := QX (fun ρ w => b35 R C7 (ρ 2) (ρ 8) (ρ 9) (ρ 10) (ρ 11) (ρ 12) (ρ 88) w) (fun ρ w => R (.returned (.tuple #[(ρ 6), (ρ 7)])) w) [(2, (fun ρ w => C7 (ρ 9) (ρ 10) w)), (0, (fun ρ w => b5 R (ρ 10) w))]
theorem b34_eq (R : EP) (C7 : Value → VP) (ρ : Env) (w : World) : (b34 R C7 (ρ 2) (ρ 8) (ρ 9) (ρ 10) (ρ 11) (ρ 12) w) = codeP Try.prog (pan R) (preC 0 (fstC p5)) (q21 R C7) ρ w := by kernel_rfl
theorem b34_ok (R : EP) (C7 : Value → VP) (ρ : Env) (w : World) (h : b34 R C7 (ρ 2) (ρ 8) (ρ 9) (ρ 10) (ρ 11) (ρ 12) w) : codeP Try.prog (pan R) (fstC p5) (q20 R C7) ρ w := by
  have e : appC 0 (preC 0 (fstC p5)) (dropC 1 (fstC p5)) = (fstC p5) := by kernel_rfl
  rw [← e]
  exact appQ (fun ρ w => b35 R C7 (ρ 2) (ρ 8) (ρ 9) (ρ 10) (ρ 11) (ρ 12) (ρ 88) w) 0 ((b34_eq R C7 ρ w).mp h) (fun ρ w h => b35_ok R C7 ρ w h)
theorem k11_ok (R : EP) (C7 : Value → VP) (ρ : Env) (w : World) (h : b34 R C7 (ρ 2) (ρ 8) (ρ 9) (ρ 10) (ρ 11) (ρ 12) w) : codeP Try.prog (pan R) p5 (q8 R C7) ρ w := by
  have e : Code.seq (fstC p5) (sndC p5) = p5 := by kernel_rfl
  rw [← e]
  exact seqQ (fun ρ w => b22 R C7 (ρ 2) (ρ 8) (ρ 9) (ρ 10) (ρ 11) (ρ 12) w) (b34_ok R C7 ρ w h) (fun ρ w h => k12_ok R C7 ρ w h)

def b10 (R : EP) (C7 : Value → VP) (x0 x2 x8 x9 x10 : Value) (w : World) (_r : Tok R := tok R) (_C7 : Tok C7 := tok C7) : Prop :=
  RUN Try.prog (pan R) (Builtin.len_ #[24] 3 #[x9]) w fun v1 w2 =>
  RUN Try.prog (pan R) (bins .sub 3 (.tmp 38) (.const (Go.Value.int Go.IntKind.i64 1)) v1 (Go.Value.int Go.IntKind.i64 1)) w2 fun v3 w4 =>
  RUN Try.prog (pan R) (Instr.indexAt 24 x9 v3) w4 fun v5 w6 =>
  RUN Try.prog (pan R) (Instr.loadAt 3 v5) w6 fun v7 w8 =>
  RUN Try.prog (pan R) (Builtin.len_ #[24] 3 #[x9]) w8 fun v9 w10 =>
  RUN Try.prog (pan R) (bins .sub 3 (.tmp 44) (.const (Go.Value.int Go.IntKind.i64 1)) v9 (Go.Value.int Go.IntKind.i64 1)) w10 fun v11 w12 =>
  RUN Try.prog (pan R) (Instr.sliceAt 24 x9 none (some v11) none) w12 fun v13 w14 =>
  RUN Try.prog (pan R) (Instr.indexAt 49 x0 v7) w14 fun v15 w16 =>
  RUN Try.prog (pan R) (Instr.loadAt 61 v15) w16 fun v17 w18 =>
  RUN Try.prog (pan R) (Instr.alloc 61 true (.tuple #[])) w18 fun v19 w20 =>
  RUNU Try.prog (pan R) (Instr.storeAt 61 v19 v17) w20 fun w21 =>
  RUN Try.prog (pan R) (Instr.buildSlice 24 1 #[(0, v7)]) w21 fun v22 w23 =>
  RUN Try.prog (pan R) (Builtin.append_ #[24, 24] 24 #[x10, v22]) w23 fun v24 w25 =>
  b34 R C7 x2 x8 v13 v24 v7 v19 w25
abbrev q22 (R : EP) (C7 : Value → VP) : XP := QX (fun ρ w => b34 R C7 (ρ 2) (ρ 8) (ρ 9) (ρ 10) (ρ 11) (ρ 12) w) (fun ρ w => R (.returned (.tuple #[(ρ 6), (ρ 7)])) w) [(2, (fun ρ w => C7 (ρ 9) (ρ 10) w)), (0, (fun ρ w => b5 R (ρ 10) w))]
theorem b10_eq (R : EP) (C7 : Value → VP) (ρ : Env) (w : World) : (b10 R C7 (ρ 0) (ρ 2) (ρ 8) (ρ 9) (ρ 10) w) = codeP Try.prog (pan R) (preC 3 (blkC p4)) (q22 R C7) ρ w := by kernel_rfl
theorem b10_ok (R : EP) (C7 : Value → VP) (ρ : Env) (w : World) (h : b10 R C7 (ρ 0) (ρ 2) (ρ 8) (ρ 9) (ρ 10) w) : codeP Try.prog (pan R) (blkC p4) (q8 R C7) ρ w := by
  have e : appC 3 (preC 3 (blkC p4)) (dropC 4 (blkC p4)) = (blkC p4) := by kernel_rfl
  rw [← e]
  exact appQ (fun ρ w => b34 R C7 (ρ 2) (ρ 8) (ρ 9) (ρ 10) (ρ 11) (ρ 12) w) 3 ((b10_eq R C7 ρ w).mp h) (fun ρ w h => k11_ok R C7 ρ w h)
abbrev q23 (R : EP) (C7 : Value → VP) : XP := QX (fun ρ w => C7 (ρ 9) (ρ 10) w) (fun ρ w => R (.returned (.tuple #[(ρ 6), (ρ 7)])) w) [(0, (fun ρ w => b5 R (ρ 10) w))]
theorem k9_ok (R : EP) (C7 : Value → VP) (ρ : Env) (w : World) (h : b10 R C7 (ρ 0) (ρ 2) (ρ 8) (ρ 9) (ρ 10) w) : codeP Try.prog (pan R) p4 (q23 R C7) ρ w := by
  have e : Code.block 1 (blkC p4) = p4 := by kernel_rfl
  rw [← e]
  exact blockQ (b10_ok R C7 ρ w h)

def b8 (R : EP) (C7 : Value → VP) (x0 x2 x8 x9 x10 : Value) (w : World) (_r : Tok R := tok R) (_C7 : Tok C7 := tok C7) : Prop :=
  RUN Try.prog (pan R) (Builtin.len_ #[24] 3 #[x9]) w fun v1 w2 =>
  RUN Try.prog (pan R) (bins .gtr 3 (.tmp 34) (.const (Go.Value.int Go.IntKind.i64 0)) v1 (Go.Value.int Go.IntKind.i64 0)) w2 fun v3 w4 =>
  SPL v3
  (b10 R C7 x0 x2 x8 x9 x10 w4)
  (b5 R x10 w4)
abbrev q24 (R : EP) (C7 : Value → VP) : XP := QX (fun ρ w => b10 R C7 (ρ 0) (ρ 2) (ρ 8) (ρ 9) (ρ 10) w) (fun ρ w => R (.returned (.tuple #[(ρ 6), (ρ 7)])) w) [(0, (fun ρ w => b5 R (ρ 10) w))]
theorem b8_eq (R : EP) (C7 : Value → VP) (ρ : Env) (w : World) : (b8 R C7 (ρ 0) (ρ 2) (ρ 8) (ρ 9) (ρ 10) w) = codeP Try.prog (pan R) (preC 0 (loopC p3)) (q24 R C7) ρ w := by kernel_rfl
theorem b8_ok (R : EP) (C7 : Value → VP) (ρ : Env) (w : World) (h : b8 R C7 (ρ 0) (ρ 2) (ρ 8) (ρ 9) (ρ 10) w) : codeP Try.prog (pan R) (loopC p3) (q23 R C7) ρ w := by
  have e : appC 0 (preC 0 (loopC p3)) (dropC 1 (loopC p3)) = (loopC p3) := by kernel_rfl
  rw [← e]
  exact appQ (fun ρ w => b10 R C7 (ρ 0) (ρ 2) (ρ 8) (ρ 9) (ρ 10) w) 0 ((b8_eq R C7 ρ w).mp h) (fun ρ w h => k9_ok R C7 ρ w h)

def l7 (R : EP) (x0 x2 x8 x9 x10 : Value) (w : World) (_r : Tok R := tok R) : Prop :=
  ∃ (J : Value → VP) (μ : Value → Value → World → Nat), J x9 x10 w ∧ ∀ y9 y10 w0, J y9 y10 w0 → b8 R (fun z9 z10 w1 => J z9 z10 w1 ∧ μ z9 z10 w1 < μ y9 y10 w0) x0 x2 x8 y9 y10 w0
abbrev q25 (R : EP) : XP := QX (fun ρ w => b5 R (ρ 10) w) (fun ρ w => R (.returned (.tuple #[(ρ 6), (ρ 7)])) w) [(0, (fun ρ w => b5 R (ρ 10) w))]
theorem l7_ok (R : EP) (ρ : Env) (w : World) (h : l7 R (ρ 0) (ρ 2) (ρ 8) (ρ 9) (ρ 10) w) : codeP Try.prog (pan R) p3 (q25 R) ρ w := by
  unfold l7 at h
  obtain ⟨J, μ, h0, hr⟩ := h
  have e : Code.loop (loopC p3) = p3 := by kernel_rfl
  rw [← e]
  refine loopQ (fun ρ' w' => J (ρ' 9) (ρ' 10) w') (fun ρ' w' => μ (ρ' 9) (ρ' 10) w') h0 fun ρ' w' hA hI => ?_
  have e0 : ρ' 0 = ρ 0 := Agree.at hA 0 (by kernel_rfl)
  have e2 : ρ' 2 = ρ 2 := Agree.at hA 2 (by kernel_rfl)
  have e8 : ρ' 8 = ρ 8 := Agree.at hA 8 (by kernel_rfl)
  have h1 := hr (ρ' 9) (ρ' 10) w' hI
  rw [← e0, ← e2, ← e8] at h1
  exact b8_ok R (fun z9 z10 w1 => J z9 z10 w1 ∧ μ z9 z10 w1 < μ (ρ' 9) (ρ' 10) w') ρ' w' h1
theorem l7_intro (R : EP) (x0 x2 x8 x9 x10 : Value) (w : World) (J : Value → VP) (μ : Value → Value → World → Nat) (h0 : J x9 x10 w)
    (hr : ∀ y9 y10 w0, J y9 y10 w0 → ∀ C7 : Value → VP, (∀ z9 z10 w1, J z9 z10 w1 → μ z9 z10 w1 < μ y9 y10 w0 → C7 z9 z10 w1) → b8 R C7 x0 x2 x8 y9 y10 w0) : l7 R x0 x2 x8 x9 x10 w := by
  unfold l7
  exact ⟨J, μ, h0, fun y9 y10 w0 hJ => hr y9 y10 w0 hJ _ (fun z9 z10 w1 h1 h2 => ⟨h1, h2⟩)⟩
abbrev q26 (R : EP) : XP := QX (fun ρ w => b5 R (ρ 10) w) (fun ρ w => R (.returned (.tuple #[(ρ 6), (ρ 7)])) w) []
theorem k6_ok (R : EP) (ρ : Env) (w : World) (h : l7 R (ρ 0) (ρ 2) (ρ 8) (ρ 9) (ρ 10) w) : codeP Try.prog (pan R) (fstC p2) (q26 R) ρ w := by
  have e : Code.block 0 (blkC (fstC p2)) = (fstC p2) := by kernel_rfl
  rw [← e]
  exact blockQ (l7_ok R ρ w h)
theorem k4_ok (R : EP) (ρ : Env) (w : World) (h : l7 R (ρ 0) (ρ 2) (ρ 8) (ρ 9) (ρ 10) w) : codeP Try.prog (pan R) p2 (q1 R) ρ w := by
  have e : Code.seq (fstC p2) (sndC p2) = p2 := by kernel_rfl
  rw [← e]
  exact seqQ (fun ρ w => b5 R (ρ 10) w) (k6_ok R ρ w h) (fun ρ w h => b5_ok R ρ w h)

def b3 (R : EP) (x0 x1 x2 : Value) (w : World) (_r : Tok R := tok R) : Prop :=
  RUN Try.prog (pan R) (Builtin.len_ #[49] 3 #[x0]) w fun v1 w2 =>
  RUN Try.prog (pan R) (Instr.makeSlice 68 v1 v1) w2 fun v3 w4 =>
  RUN Try.prog (pan R) (Instr.indexAt 68 v3 x1) w4 fun v5 w6 =>
  RUNU Try.prog (pan R) (Instr.storeAt 4 v5 (Go.Value.bool Bool.true)) w6 fun w7 =>
  RUN Try.prog (pan R) (Instr.buildSlice 24 1 #[(0, x1)]) w7 fun v8 w9 =>
  l7 R x0 x2 v3 v8 (Go.Value.slice Option.none 0 0) w9
abbrev q27 (R : EP) : XP := QX (fun ρ w => l7 R (ρ 0) (ρ 2) (ρ 8) (ρ 9) (ρ 10) w) (fun ρ w => R (.returned (.tuple #[(ρ 6), (ρ 7)])) w) []
theorem b3_eq (R : EP) (ρ : Env) (w : World) : (b3 R (ρ 0) (ρ 1) (ρ 2) w) = codeP Try.prog (pan R) (preC 3 (sndC p1)) (q27 R) ρ w := by kernel_rfl
theorem b3_ok (R : EP) (ρ : Env) (w : World) (h : b3 R (ρ 0) (ρ 1) (ρ 2) w) : codeP Try.prog (pan R) (sndC p1) (q1 R) ρ w := by
  have e : appC 3 (preC 3 (sndC p1)) (dropC 4 (sndC p1)) = (sndC p1) := by kernel_rfl
  rw [← e]
  exact appQ (fun ρ w => l7 R (ρ 0) (ρ 2) (ρ 8) (ρ 9) (ρ 10) w) 3 ((b3_eq R ρ w).mp h) (fun ρ w h => k4_ok R ρ w h)
noncomputable abbrev p20 : Code := dropC 1 (fstC p1)

def b37 (R : EP) (x0 x1 x2 x24 : Value) (w : World) (_r : Tok R := tok R) : Prop :=
  SPL x24
  (R (.returned (.tuple #[(Go.Value.slice Option.none 0 0), (Go.Value.bool Bool.false)])) w)
  (b3 R x0 x1 x2 w)
abbrev q28 (R : EP) : XP := QX (fun ρ w => b3 R (ρ 0) (ρ 1) (ρ 2) w) (fun ρ w => R (.returned (.tuple #[(ρ 6), (ρ 7)])) w) []
theorem b37_eq (R : EP) (ρ : Env) (w : World) : (b37 R (ρ 0) (ρ 1) (ρ 2) (ρ 24) w) = codeP Try.prog (pan R) p20 (q28 R) ρ w := by kernel_rfl
theorem b37_ok (R : EP) (ρ : Env) (w : World) (h : b37 R (ρ 0) (ρ 1) (ρ 2) (ρ 24) w) : codeP Try.prog (pan R) p20 (q28 R) ρ w := (b37_eq R ρ w).mp h
def b36_1 (R : EP) (x0 x1 x2 : Value) (w2 : World) (_r : Tok R := tok R) : Prop :=
  RUN Try.prog (pan R) (Builtin.len_ #[49] 3 #[x0]) w2 fun v3 w4 =>
  RUN Try.prog (pan R) (bins .geq 3 (.tmp 20) (.tmp 22) x1 v3) w4 fun v5 w6 =>
  b37 R x0 x1 x2 v5 w6

def b36 (R : EP) (x0 x1 x2 : Value) (w : World) (_r : Tok R := tok R) : Prop :=
  RUN Try.prog (pan R) (bins .lss 3 (.tmp 17) (.const (Go.Value.int Go.IntKind.i64 0)) x1 (Go.Value.int Go.IntKind.i64 0)) w fun v1 w2 =>
  SPL v1
  (b37 R x0 x1 x2 (Go.Value.bool Bool.true) w2)
  (b36_1 R x0 x1 x2 w2)
abbrev q29 (R : EP) : XP := QX (fun ρ w => b37 R (ρ 0) (ρ 1) (ρ 2) (ρ 24) w) (fun ρ w => R (.returned (.tuple #[(ρ 6), (ρ 7)])) w) []
theorem b36_eq (R : EP) (ρ : Env) (w : World) : (b36 R (ρ 0) (ρ 1) (ρ 2) w) = codeP Try.prog (pan R) (preC 0 (fstC p1)) (q29 R) ρ w := by kernel_rfl
theorem b36_ok (R : EP) (ρ : Env) (w : World) (h : b36 R (ρ 0) (ρ 1) (ρ 2) w) : codeP Try.prog (pan R) (fstC p1) (q28 R) ρ w := by
  have e : appC 0 (preC 0 (fstC p1)) (dropC 1 (fstC p1)) = (fstC p1) := by kernel_rfl
  rw [← e]
  exact appQ (fun ρ w => b37 R (ρ 0) (ρ 1) (ρ 2) (ρ 24) w) 0 ((b36_eq R ρ w).mp h) (fun ρ w h => b37_ok R ρ w h)
theorem k2_ok (R : EP) (ρ : Env) (w : World) (h : b36 R (ρ 0) (ρ 1) (ρ 2) w) : codeP Try.prog (pan R) p1 (q1 R) ρ w := by
  have e : Code.seq (fstC p1) (sndC p1) = p1 := by kernel_rfl
  rw [← e]
  exact seqQ (fun ρ w => b3 R (ρ 0) (ρ 1) (ρ 2) w) (b36_ok R ρ w h) (fun ρ w h => b3_ok R ρ w h)

def b1 (R : EP) (x0 x1 x2 : Value) (w : World) (_r : Tok R := tok R) : Prop :=
  b36 R x0 x1 x2 w
abbrev q30 (R : EP) : XP := QX (fun ρ w => b36 R (ρ 0) (ρ 1) (ρ 2) w) (fun ρ w => R (.returned (.tuple #[(ρ 6), (ρ 7)])) w) []
theorem b1_eq (R : EP) (ρ : Env) (w : World) : (b1 R (ρ 0) (ρ 1) (ρ 2) w) = codeP Try.prog (pan R) (preC 0 code) (q30 R) ρ w := by kernel_rfl
theorem b1_ok (R : EP) (ρ : Env) (w : World) (h : b1 R (ρ 0) (ρ 1) (ρ 2) w) : codeP Try.prog (pan R) code (q1 R) ρ w := by
  have e : appC 0 (preC 0 code) (dropC 1 code) = code := by kernel_rfl
  rw [← e]
  exact appQ (fun ρ w => b36 R (ρ 0) (ρ 1) (ρ 2) w) 0 ((b1_eq R ρ w).mp h) (fun ρ w h => k2_ok R ρ w h)
/-- What is owed for a call. -/
def run (R : EP) (a0 a1 a2 : Value) (w : World) : Prop := b1 R a0 a1 a2 w
theorem calls (R : EP) (a0 a1 a2 : Value) (w : World) (h : run R a0 a1 a2 w) : Calls Try.prog id #[a0, a1, a2] w R :=
  calls_of_tt (f := id) (fn := Try.f47) (c := code) (by kernel_rfl) Try.func47 (by kernel_rfl) (by kernel_rfl) (args := [a0, a1, a2]) (Nat.le_of_ble_eq_true rfl) rfl (b1_ok R (envOf [a0, a1, a2]) w h)
theorem enters : Enters Try.prog id := fun args w => Try.call47 args w
theorem ct {a0 a1 a2 : Value} {w : World} {S : VP} (h : ∀ R : EP, (∀ v w, S v w → R (.returned v) w) → run R a0 a1 a2 w) : Ct Try.prog id #[a0, a1, a2] w S :=
  Ct.intro enters fun R hR => calls R a0 a1 a2 w (h R hR)
attribute [irreducible] b5 b18 b21 b20_1 b20 b16 l15 b13 b27 b31 b33 b32_1 b32 b29 b25 l24 b22 b35 b34_1 b34_2 b34_3 b34_4 b34_5 b34_6 b34_7 b34_8 b34 b10 b8 l7 b3 b37 b36_1 b36 b1 run
attribute [go_sem] b5 b18 b21 b20_1 b20 b16 b13 b27 b31 b33 b32_1 b32 b29 b25 b22 b35 b34_1 b34_2 b34_3 b34_4 b34_5 b34_6 b34_7 b34_8 b34 b10 b8 b3 b37 b36_1 b36 b1 run
end ref20_Walk


end Go.Proofs.Ytkacbjhiobnbfaa

