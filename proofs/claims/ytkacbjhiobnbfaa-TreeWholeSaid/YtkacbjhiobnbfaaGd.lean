/- Shallow programs, written by a program of ours (gen.py) off the translation; each is tied to the code by the kernel. -/
import Derived.Test.YtkacbjhiobnbfaaGa
set_option linter.unusedVariables false
set_option maxRecDepth 100000
namespace Go.Proofs.Ytkacbjhiobnbfaa
open Go.Px


/-! ### presage/show.Row -/
namespace show_Row
noncomputable def code : Code := bodyOf Try.f22
noncomputable abbrev p1 : Code := dropC 2 code
def b3_1 (R : EP) (x6 : Value) (w4 : World) (_r : Tok R := tok R) : Prop :=
  RUN Try.prog (pan R) (Instr.loadAt 88 x6) w4 fun v5 w6 =>
  NILC v5 fun v7 =>
  RUN Try.prog (pan R) (Instr.fieldAt 102 v7 0) w6 fun v8 w9 =>
  CALL Try.prog (pan R) strings_Builder_String.id #[v8] w9 fun v10 w11 =>
  CALL Try.prog (pan R) strings_TrimPrefix.id #[v10, (Go.Value.string { data := #[32] })] w11 fun v12 w13 =>
  R (.returned (.tuple #[v12, (Go.Value.int Go.IntKind.i64 0)])) w13
def b3 (R : EP) (x1 x6 : Value) (w : World) (_r : Tok R := tok R) : Prop :=
  RUN Try.prog (pan R) (Instr.loadAt 88 x6) w fun v1 w2 =>
  CALL Try.prog (pan R) show_page_names.id #[v1, x1] w2 fun v3 w4 =>
  b3_1 R x6 w4
abbrev q1 (R : EP) : XP := QX (fun ρ w => R (.returned (.tuple #[(ρ 4), (ρ 5)])) w) (fun ρ w => R (.returned (.tuple #[(ρ 4), (ρ 5)])) w) []
theorem b3_eq (R : EP) (ρ : Env) (w : World) : (b3 R (ρ 1) (ρ 6) w) = codeP Try.prog (pan R) (sndC p1) (q1 R) ρ w := by kernel_rfl
theorem b3_ok (R : EP) (ρ : Env) (w : World) (h : b3 R (ρ 1) (ρ 6) w) : codeP Try.prog (pan R) (sndC p1) (q1 R) ρ w := (b3_eq R ρ w).mp h
noncomputable abbrev p2 : Code := dropC 1 (fstC p1)
def b5 (R : EP) (x1 x6 x19 : Value) (w : World) (_r : Tok R := tok R) : Prop :=
  SPL x19
  (R (.returned (.tuple #[(Go.Value.string { data := #[] }), (Go.Value.int Go.IntKind.i64 1)])) w)
  (b3 R x1 x6 w)
abbrev q2 (R : EP) : XP := QX (fun ρ w => b3 R (ρ 1) (ρ 6) w) (fun ρ w => R (.returned (.tuple #[(ρ 4), (ρ 5)])) w) []
theorem b5_eq (R : EP) (ρ : Env) (w : World) : (b5 R (ρ 1) (ρ 6) (ρ 19) w) = codeP Try.prog (pan R) p2 (q2 R) ρ w := by kernel_rfl
theorem b5_ok (R : EP) (ρ : Env) (w : World) (h : b5 R (ρ 1) (ρ 6) (ρ 19) w) : codeP Try.prog (pan R) p2 (q2 R) ρ w := (b5_eq R ρ w).mp h
def b4_1 (R : EP) (x1 x6 : Value) (w2 : World) (_r : Tok R := tok R) : Prop :=
  RUN Try.prog (pan R) (Instr.makeFunc (.func show_Row_1.id) #[] #[x6]) w2 fun v3 w4 =>
  CALL Try.prog (pan R) slices_ContainsFunc_int_int.id #[x1, v3] w4 fun v5 w6 =>
  b5 R x1 x6 v5 w6
def b4 (R : EP) (x1 x6 x7 : Value) (w : World) (_r : Tok R := tok R) : Prop :=
  RUN Try.prog (pan R) (Op.unary .not x7) w fun v1 w2 =>
  SPL v1
  (b5 R x1 x6 (Go.Value.bool Bool.true) w2)
  (b4_1 R x1 x6 w2)
abbrev q3 (R : EP) : XP := QX (fun ρ w => b5 R (ρ 1) (ρ 6) (ρ 19) w) (fun ρ w => R (.returned (.tuple #[(ρ 4), (ρ 5)])) w) []
theorem b4_eq (R : EP) (ρ : Env) (w : World) : (b4 R (ρ 1) (ρ 6) (ρ 7) w) = codeP Try.prog (pan R) (preC 0 (fstC p1)) (q3 R) ρ w := by kernel_rfl
theorem b4_ok (R : EP) (ρ : Env) (w : World) (h : b4 R (ρ 1) (ρ 6) (ρ 7) w) : codeP Try.prog (pan R) (fstC p1) (q2 R) ρ w := by
  have e : appC 0 (preC 0 (fstC p1)) (dropC 1 (fstC p1)) = (fstC p1) := by kernel_rfl
  rw [← e]
  exact appQ (fun ρ w => b5 R (ρ 1) (ρ 6) (ρ 19) w) 0 ((b4_eq R ρ w).mp h) (fun ρ w h => b5_ok R ρ w h)
theorem k2_ok (R : EP) (ρ : Env) (w : World) (h : b4 R (ρ 1) (ρ 6) (ρ 7) w) : codeP Try.prog (pan R) p1 (q1 R) ρ w := by
  have e : Code.seq (fstC p1) (sndC p1) = p1 := by kernel_rfl
  rw [← e]
  exact seqQ (fun ρ w => b3 R (ρ 1) (ρ 6) w) (b4_ok R ρ w h) (fun ρ w h => b3_ok R ρ w h)
def b1_1 (R : EP) (x1 v5 : Value) (w6 : World) (_r : Tok R := tok R) : Prop :=
  RUN Try.prog (pan R) (Instr.extract v5 0) w6 fun v7 w8 =>
  RUN Try.prog (pan R) (Instr.extract v5 1) w8 fun v9 w10 =>
  RUN Try.prog (pan R) (Instr.alloc 88 true (.tuple #[])) w10 fun v11 w12 =>
  RUNU Try.prog (pan R) (Instr.storeAt 88 v11 v7) w12 fun w13 =>
  b4 R x1 v11 v9 w13
def b1 (R : EP) (x0 x1 : Value) (w : World) (_r : Tok R := tok R) : Prop :=
  RUN Try.prog (pan R) (Instr.box 27 x0) w fun v1 w2 =>
  RUN Try.prog (pan R) (Instr.loadAt 27 v1) w2 fun v3 w4 =>
  CALL Try.prog (pan R) show_open.id #[v3] w4 fun v5 w6 =>
  b1_1 R x1 v5 w6
abbrev q4 (R : EP) : XP := QX (fun ρ w => b4 R (ρ 1) (ρ 6) (ρ 7) w) (fun ρ w => R (.returned (.tuple #[(ρ 4), (ρ 5)])) w) []
theorem b1_eq (R : EP) (ρ : Env) (w : World) : (b1 R (ρ 0) (ρ 1) w) = codeP Try.prog (pan R) (preC 1 code) (q4 R) ρ w := by kernel_rfl
theorem b1_ok (R : EP) (ρ : Env) (w : World) (h : b1 R (ρ 0) (ρ 1) w) : codeP Try.prog (pan R) code (q1 R) ρ w := by
  have e : appC 1 (preC 1 code) (dropC 2 code) = code := by kernel_rfl
  rw [← e]
  exact appQ (fun ρ w => b4 R (ρ 1) (ρ 6) (ρ 7) w) 1 ((b1_eq R ρ w).mp h) (fun ρ w h => k2_ok R ρ w h)
/-- What is owed for a call. -/
def run (R : EP) (a0 a1 : Value) (w : World) : Prop := b1 R a0 a1 w
theorem calls (R : EP) (a0 a1 : Value) (w : World) (h : run R a0 a1 w) : Calls Try.prog id #[a0, a1] w R :=
  calls_of_tt (f := id) (fn := Try.f22) (c := code) (by kernel_rfl) Try.func22 (by kernel_rfl) (by kernel_rfl) (args := [a0, a1]) (Nat.le_of_ble_eq_true rfl) rfl (b1_ok R (envOf [a0, a1]) w h)
theorem enters : Enters Try.prog id := fun args w => Try.call22 args w
theorem ct {a0 a1 : Value} {w : World} {S : VP} (h : ∀ R : EP, (∀ v w, S v w → R (.returned v) w) → run R a0 a1 w) : Ct Try.prog id #[a0, a1] w S :=
  Ct.intro enters fun R hR => calls R a0 a1 w (h R hR)
attribute [irreducible] b3_1 b3 b5 b4_1 b4 b1_1 b1 run
attribute [go_sem] b3_1 b3 b5 b4_1 b4 b1_1 b1 run
end show_Row

/-! ### presage/show.Symbol -/
namespace show_Symbol
noncomputable def code : Code := bodyOf Try.f25
def b1_1 (R : EP) (v7 : Value) (w8 : World) (_r : Tok R := tok R) : Prop :=
  RUN Try.prog (pan R) (Instr.extract v7 0) w8 fun v9 w10 =>
  RUN Try.prog (pan R) (Instr.extract v7 1) w10 fun v11 w12 =>
  R (.returned (.tuple #[v9, v11])) w12
def b1 (R : EP) (x0 x1 : Value) (w : World) (_r : Tok R := tok R) : Prop :=
  RUN Try.prog (pan R) (Instr.box 27 x0) w fun v1 w2 =>
  RUN Try.prog (pan R) (Instr.loadAt 27 v1) w2 fun v3 w4 =>
  RUN Try.prog (pan R) (Instr.buildSlice 24 1 #[(0, x1)]) w4 fun v5 w6 =>
  CALL Try.prog (pan R) show_Row.id #[v3, v5] w6 fun v7 w8 =>
  b1_1 R v7 w8
abbrev q1 (R : EP) : XP := QX (fun ρ w => R (.returned (.tuple #[(ρ 4), (ρ 5)])) w) (fun ρ w => R (.returned (.tuple #[(ρ 4), (ρ 5)])) w) []
theorem b1_eq (R : EP) (ρ : Env) (w : World) : (b1 R (ρ 0) (ρ 1) w) = codeP Try.prog (pan R) code (q1 R) ρ w := by kernel_rfl
theorem b1_ok (R : EP) (ρ : Env) (w : World) (h : b1 R (ρ 0) (ρ 1) w) : codeP Try.prog (pan R) code (q1 R) ρ w := (b1_eq R ρ w).mp h
/-- What is owed for a call. -/
def run (R : EP) (a0 a1 : Value) (w : World) : Prop := b1 R a0 a1 w
theorem calls (R : EP) (a0 a1 : Value) (w : World) (h : run R a0 a1 w) : Calls Try.prog id #[a0, a1] w R :=
  calls_of_tt (f := id) (fn := Try.f25) (c := code) (by kernel_rfl) Try.func25 (by kernel_rfl) (by kernel_rfl) (args := [a0, a1]) (Nat.le_of_ble_eq_true rfl) rfl (b1_ok R (envOf [a0, a1]) w h)
theorem enters : Enters Try.prog id := fun args w => Try.call25 args w
theorem ct {a0 a1 : Value} {w : World} {S : VP} (h : ∀ R : EP, (∀ v w, S v w → R (.returned v) w) → run R a0 a1 w) : Ct Try.prog id #[a0, a1] w S :=
  Ct.intro enters fun R hR => calls R a0 a1 w (h R hR)
attribute [irreducible] b1_1 b1 run
attribute [go_sem] b1_1 b1 run
end show_Symbol



/-! ### presage/show.open -/
namespace show_open
noncomputable def code : Code := bodyOf Try.f63
def b1_1 (R : EP) (v1 v6 : Value) (w9 : World) (_r : Tok R := tok R) : Prop :=
  LD Try.prog (Instr.loadAt 27 v1) w9 fun v10 =>
  CALL Try.prog (pan R) gram_Closed.id #[v10] w9 fun v11 w12 =>
  R (.returned (.tuple #[v6, v11])) w12
def b1_2 (R : EP) (v4 : Value) (w14 : World) (_r : Tok R := tok R) : Prop :=
  (RUN Try.prog (pan R) (Instr.box 102 v4) w14 fun v15 w16 =>
  R (.returned (.tuple #[v15, (Go.Value.bool Bool.true)])) w16) ∧
  (RUN Try.prog (pan R) (Instr.box 102 v4) w14 fun v17 w18 =>
  R (.returned (.tuple #[v17, (Go.Value.bool Bool.true)])) w18)
def b1_3 (R : EP) (v1 v3 v4 : Value) (w14 : World) (_r : Tok R := tok R) : Prop :=
  LD Try.prog (Instr.loadAt 27 v1) w14 fun v19 =>
  (RUN Try.prog (pan R) (Instr.box 102 v4) w14 fun v20 w21 =>
  Sem.run Try.prog (Instr.loadAt 27 v1) w21 = .ok v19 w21 ∧ (CALL Try.prog (pan R) gram_Closed.id #[v19] w21 fun v22 w23 =>
  R (.returned (.tuple #[v20, v22])) w23)) ∧
  (CALL Try.prog (pan R) gram_Closed.id #[v19] w14 fun v24 w25 =>
  Sem.run Try.prog (Instr.loadAt 27 v1) w25 = .ok v3 w25 ∧ (RUN Try.prog (pan R) (Instr.box 102 v4) w25 fun v26 w27 =>
  R (.returned (.tuple #[v26, v24])) w27))
def b1 (R : EP) (x0 : Value) (w : World) (_r : Tok R := tok R) : Prop :=
  RUN Try.prog (pan R) (Instr.box 27 x0) w fun v1 w2 =>
  LD Try.prog (Instr.loadAt 27 v1) (World.drew w2) fun v3 =>
  PUR Try.prog (Instr.build 102 #[(1, v3)]) fun v4 =>
  LD Try.prog (Instr.loadAt 27 v1) (World.drew w2) fun v5 =>
  (RUN Try.prog (pan R) (Instr.box 102 v4) (World.drew w2) fun v6 w7 =>
  Sem.run Try.prog (Instr.loadAt 27 v1) w7 = .ok v5 w7 ∧ (CALL Try.prog (pan R) gram_Valid.id #[v5] w7 fun v8 w9 =>
  SPL v8
  (R (.returned (.tuple #[v6, (Go.Value.bool Bool.true)])) w9)
  (b1_1 R v1 v6 w9))) ∧
  (CALL Try.prog (pan R) gram_Valid.id #[v5] (World.drew w2) fun v13 w14 =>
  Sem.run Try.prog (Instr.loadAt 27 v1) w14 = .ok v3 w14 ∧ (SPL v13
  (b1_2 R v4 w14)
  (b1_3 R v1 v3 v4 w14)))
abbrev q1 (R : EP) : XP := QX (fun ρ w => R (.returned (.tuple #[(ρ 2), (ρ 3)])) w) (fun ρ w => R (.returned (.tuple #[(ρ 2), (ρ 3)])) w) []
theorem b1_eq (R : EP) (ρ : Env) (w : World) : (b1 R (ρ 0) w) = codeP Try.prog (pan R) code (q1 R) ρ w := by kernel_rfl
theorem b1_ok (R : EP) (ρ : Env) (w : World) (h : b1 R (ρ 0) w) : codeP Try.prog (pan R) code (q1 R) ρ w := (b1_eq R ρ w).mp h
/-- What is owed for a call. -/
def run (R : EP) (a0 : Value) (w : World) : Prop := b1 R a0 w
theorem calls (R : EP) (a0 : Value) (w : World) (h : run R a0 w) : Calls Try.prog id #[a0] w R :=
  calls_of_tt (f := id) (fn := Try.f63) (c := code) (by kernel_rfl) Try.func63 (by kernel_rfl) (by kernel_rfl) (args := [a0]) (Nat.le_of_ble_eq_true rfl) rfl (b1_ok R (envOf [a0]) w h)
theorem enters : Enters Try.prog id := fun args w => Try.call63 args w
theorem ct {a0 : Value} {w : World} {S : VP} (h : ∀ R : EP, (∀ v w, S v w → R (.returned v) w) → run R a0 w) : Ct Try.prog id #[a0] w S :=
  Ct.intro enters fun R hR => calls R a0 w (h R hR)
attribute [irreducible] b1_1 b1_2 b1_3 b1 run
attribute [go_sem] b1_1 b1_2 b1_3 b1 run
end show_open




/-! ### (*presage/show.page).words -/
namespace show_page_words
noncomputable def code : Code := bodyOf Try.f67
noncomputable abbrev p1 : Code := dropC 1 code
noncomputable abbrev p2 : Code := loopC (blkC p1)
def b4_1 (R : EP) (C3 : VP) (x0 x8 v5 : Value) (w11 : World) (_r : Tok R := tok R) (_C3 : Tok C3 := tok C3) : Prop :=
  NILC x0 fun v12 =>
  RUN Try.prog (pan R) (Instr.fieldAt 102 v12 0) w11 fun v13 w14 =>
  CALL Try.prog (pan R) strings_Builder_WriteString.id #[v13, v5] w14 fun v15 w16 =>
  RUN Try.prog (pan R) (bins .add 3 (.tmp 8) (.const (Go.Value.int Go.IntKind.i64 1)) x8 (Go.Value.int Go.IntKind.i64 1)) w16 fun v17 w18 =>
  C3 v17 w18
def b4_2 (R : EP) (C3 : VP) (x0 x6 x8 : Value) (w2 : World) (_r : Tok R := tok R) (_C3 : Tok C3 := tok C3) : Prop :=
  RUN Try.prog (pan R) (Instr.indexAt 23 x6 x8) w2 fun v3 w4 =>
  RUN Try.prog (pan R) (Instr.loadAt 9 v3) w4 fun v5 w6 =>
  NILC x0 fun v7 =>
  RUN Try.prog (pan R) (Instr.fieldAt 102 v7 0) w6 fun v8 w9 =>
  CALL Try.prog (pan R) strings_Builder_WriteString.id #[v8, (Go.Value.string { data := #[32] })] w9 fun v10 w11 =>
  b4_1 R C3 x0 x8 v5 w11
def b4 (R : EP) (C3 : VP) (x0 x6 x7 x8 : Value) (w : World) (_r : Tok R := tok R) (_C3 : Tok C3 := tok C3) : Prop :=
  RUN Try.prog (pan R) (bins .lss 3 (.tmp 8) (.tmp 7) x8 x7) w fun v1 w2 =>
  SPL v1
  (b4_2 R C3 x0 x6 x8 w2)
  (R (.returned (.tuple #[])) w2)
abbrev q1 (R : EP) (C3 : VP) : XP := QX (fun ρ w => C3 (ρ 8) w) (fun ρ w => R (.returned (.tuple #[])) w) [(0, (fun ρ w => R (.returned (.tuple #[])) w))]
theorem b4_eq (R : EP) (C3 : VP) (ρ : Env) (w : World) : (b4 R C3 (ρ 0) (ρ 6) (ρ 7) (ρ 8) w) = codeP Try.prog (pan R) p2 (q1 R C3) ρ w := by kernel_rfl
theorem b4_ok (R : EP) (C3 : VP) (ρ : Env) (w : World) (h : b4 R C3 (ρ 0) (ρ 6) (ρ 7) (ρ 8) w) : codeP Try.prog (pan R) p2 (q1 R C3) ρ w := (b4_eq R C3 ρ w).mp h
def l3 (R : EP) (x0 x6 x7 x8 : Value) (w : World) (_r : Tok R := tok R) : Prop :=
  ∃ (J : VP) (μ : Value → World → Nat), J x8 w ∧ ∀ y8 w0, J y8 w0 → b4 R (fun z8 w1 => J z8 w1 ∧ μ z8 w1 < μ y8 w0) x0 x6 x7 y8 w0
abbrev q2 (R : EP) : XP := QX (fun ρ w => R (.returned (.tuple #[])) w) (fun ρ w => R (.returned (.tuple #[])) w) [(0, (fun ρ w => R (.returned (.tuple #[])) w))]
theorem l3_ok (R : EP) (ρ : Env) (w : World) (h : l3 R (ρ 0) (ρ 6) (ρ 7) (ρ 8) w) : codeP Try.prog (pan R) (blkC p1) (q2 R) ρ w := by
  unfold l3 at h
  obtain ⟨J, μ, h0, hr⟩ := h
  have e : Code.loop (loopC (blkC p1)) = (blkC p1) := by kernel_rfl
  rw [← e]
  refine loopQ (fun ρ' w' => J (ρ' 8) w') (fun ρ' w' => μ (ρ' 8) w') h0 fun ρ' w' hA hI => ?_
  have e0 : ρ' 0 = ρ 0 := Agree.at hA 0 (by kernel_rfl)
  have e6 : ρ' 6 = ρ 6 := Agree.at hA 6 (by kernel_rfl)
  have e7 : ρ' 7 = ρ 7 := Agree.at hA 7 (by kernel_rfl)
  have h1 := hr (ρ' 8) w' hI
  rw [← e0, ← e6, ← e7] at h1
  exact b4_ok R (fun z8 w1 => J z8 w1 ∧ μ z8 w1 < μ (ρ' 8) w') ρ' w' h1
theorem l3_intro (R : EP) (x0 x6 x7 x8 : Value) (w : World) (J : VP) (μ : Value → World → Nat) (h0 : J x8 w)
    (hr : ∀ y8 w0, J y8 w0 → ∀ C3 : VP, (∀ z8 w1, J z8 w1 → μ z8 w1 < μ y8 w0 → C3 z8 w1) → b4 R C3 x0 x6 x7 y8 w0) : l3 R x0 x6 x7 x8 w := by
  unfold l3
  exact ⟨J, μ, h0, fun y8 w0 hJ => hr y8 w0 hJ _ (fun z8 w1 h1 h2 => ⟨h1, h2⟩)⟩
abbrev q3 (R : EP) : XP := QX (fun ρ w => R (.returned (.tuple #[])) w) (fun ρ w => R (.returned (.tuple #[])) w) []
theorem k2_ok (R : EP) (ρ : Env) (w : World) (h : l3 R (ρ 0) (ρ 6) (ρ 7) (ρ 8) w) : codeP Try.prog (pan R) p1 (q3 R) ρ w := by
  have e : Code.block 0 (blkC p1) = p1 := by kernel_rfl
  rw [← e]
  exact blockQ (l3_ok R ρ w h)
def b1 (R : EP) (x0 x1 : Value) (w : World) (_r : Tok R := tok R) : Prop :=
  RUN Try.prog (pan R) (Builtin.len_ #[23] 3 #[x1]) w fun v1 w2 =>
  l3 R x0 x1 v1 (Go.Value.int Go.IntKind.i64 0) w2
abbrev q4 (R : EP) : XP := QX (fun ρ w => l3 R (ρ 0) (ρ 6) (ρ 7) (ρ 8) w) (fun ρ w => R (.returned (.tuple #[])) w) []
theorem b1_eq (R : EP) (ρ : Env) (w : World) : (b1 R (ρ 0) (ρ 1) w) = codeP Try.prog (pan R) (preC 0 code) (q4 R) ρ w := by kernel_rfl
theorem b1_ok (R : EP) (ρ : Env) (w : World) (h : b1 R (ρ 0) (ρ 1) w) : codeP Try.prog (pan R) code (q3 R) ρ w := by
  have e : appC 0 (preC 0 code) (dropC 1 code) = code := by kernel_rfl
  rw [← e]
  exact appQ (fun ρ w => l3 R (ρ 0) (ρ 6) (ρ 7) (ρ 8) w) 0 ((b1_eq R ρ w).mp h) (fun ρ w h => k2_ok R ρ w h)
/-- What is owed for a call. -/
def run (R : EP) (a0 a1 : Value) (w : World) : Prop := b1 R a0 a1 w
theorem calls (R : EP) (a0 a1 : Value) (w : World) (h : run R a0 a1 w) : Calls Try.prog id #[a0, a1] w R :=
  calls_of_0 (f := id) (fn := Try.f67) (c := code) (by kernel_rfl) Try.func67 (by kernel_rfl) (by kernel_rfl) (args := [a0, a1]) (Nat.le_of_ble_eq_true rfl) rfl (b1_ok R (envOf [a0, a1]) w h)
theorem enters : Enters Try.prog id := fun args w => Try.call67 args w
theorem ct {a0 a1 : Value} {w : World} {S : VP} (h : ∀ R : EP, (∀ v w, S v w → R (.returned v) w) → run R a0 a1 w) : Ct Try.prog id #[a0, a1] w S :=
  Ct.intro enters fun R hR => calls R a0 a1 w (h R hR)
attribute [irreducible] b4_1 b4_2 b4 l3 b1 run
attribute [go_sem] b4_1 b4_2 b4 b1 run
end show_page_words


/-! ### (*presage/show.page).name -/
namespace show_page_name
noncomputable def code : Code := bodyOf Try.f69
def b1_1 (R : EP) (x0 x1 : Value) (w13 : World) (_r : Tok R := tok R) : Prop :=
  NILC x0 fun v14 =>
  RUN Try.prog (pan R) (Instr.fieldAt 102 v14 1) w13 fun v15 w16 =>
  RUN Try.prog (pan R) (Instr.fieldAt 27 v15 0) w16 fun v17 w18 =>
  RUN Try.prog (pan R) (Instr.loadAt 22 v17) w18 fun v19 w20 =>
  RUN Try.prog (pan R) (Instr.indexAt 22 v19 x1) w20 fun v21 w22 =>
  RUN Try.prog (pan R) (Instr.fieldAt 106 v21 0) w22 fun v23 w24 =>
  RUN Try.prog (pan R) (Instr.loadAt 9 v23) w24 fun v25 w26 =>
  RUN Try.prog (pan R) (bins .add 9 (.const (Go.Value.string { data := #[39] })) (.tmp 27) (Go.Value.string { data := #[39] }) v25) w26 fun v27 w28 =>
  RUN Try.prog (pan R) (bins .add 9 (.tmp 28) (.const (Go.Value.string { data := #[39] })) v27 (Go.Value.string { data := #[39] })) w28 fun v29 w30 =>
  R (.returned v29) w30
def b1_2 (R : EP) (x0 x1 v8 : Value) (w45 : World) (_r : Tok R := tok R) : Prop :=
  NILC x0 fun v46 =>
  RUN Try.prog (pan R) (Instr.fieldAt 102 v46 1) w45 fun v47 w48 =>
  RUN Try.prog (pan R) (Instr.fieldAt 27 v47 1) w48 fun v49 w50 =>
  RUN Try.prog (pan R) (Instr.loadAt 23 v49) w50 fun v51 w52 =>
  RUN Try.prog (pan R) (bins .sub 3 (.tmp 47) (.tmp 48) x1 v8) w52 fun v53 w54 =>
  RUN Try.prog (pan R) (Instr.indexAt 23 v51 v53) w54 fun v55 w56 =>
  RUN Try.prog (pan R) (Instr.loadAt 9 v55) w56 fun v57 w58 =>
  R (.returned v57) w58
def b1_3 (R : EP) (x0 x1 v8 : Value) (w13 : World) (_r : Tok R := tok R) : Prop :=
  NILC x0 fun v31 =>
  RUN Try.prog (pan R) (Instr.fieldAt 102 v31 1) w13 fun v32 w33 =>
  RUN Try.prog (pan R) (Instr.fieldAt 27 v32 1) w33 fun v34 w35 =>
  RUN Try.prog (pan R) (Instr.loadAt 23 v34) w35 fun v36 w37 =>
  RUN Try.prog (pan R) (bins .sub 3 (.tmp 36) (.tmp 37) x1 v8) w37 fun v38 w39 =>
  RUN Try.prog (pan R) (Instr.indexAt 23 v36 v38) w39 fun v40 w41 =>
  RUN Try.prog (pan R) (Instr.loadAt 9 v40) w41 fun v42 w43 =>
  RUN Try.prog (pan R) (bins .eql 9 (.tmp 40) (.const (Go.Value.string { data := #[] })) v42 (Go.Value.string { data := #[] })) w43 fun v44 w45 =>
  SPL v44
  (R (.returned (Go.Value.string { data := #[36, 115, 116, 97, 114, 116] })) w45)
  (b1_2 R x0 x1 v8 w45)
def b1 (R : EP) (x0 x1 : Value) (w : World) (_r : Tok R := tok R) : Prop :=
  NILC x0 fun v1 =>
  RUN Try.prog (pan R) (Instr.fieldAt 102 v1 1) w fun v2 w3 =>
  RUN Try.prog (pan R) (Instr.fieldAt 27 v2 0) w3 fun v4 w5 =>
  RUN Try.prog (pan R) (Instr.loadAt 22 v4) w5 fun v6 w7 =>
  RUN Try.prog (pan R) (Builtin.len_ #[22] 3 #[v6]) w7 fun v8 w9 =>
  RUN Try.prog (pan R) (bins .eql 3 (.tmp 13) (.const (Go.Value.int Go.IntKind.i64 0)) x1 (Go.Value.int Go.IntKind.i64 0)) w9 fun v10 w11 =>
  SPL v10
  (R (.returned (Go.Value.string { data := #[36, 101, 110, 100] })) w11)
  (RUN Try.prog (pan R) (bins .lss 3 (.tmp 16) (.tmp 17) x1 v8) w11 fun v12 w13 =>
  SPL v12
  (b1_1 R x0 x1 w13)
  (b1_3 R x0 x1 v8 w13))
abbrev q1 (R : EP) : XP := QX (fun ρ w => R (.returned (ρ 4)) w) (fun ρ w => R (.returned (ρ 4)) w) []
theorem b1_eq (R : EP) (ρ : Env) (w : World) : (b1 R (ρ 0) (ρ 1) w) = codeP Try.prog (pan R) code (q1 R) ρ w := by kernel_rfl
theorem b1_ok (R : EP) (ρ : Env) (w : World) (h : b1 R (ρ 0) (ρ 1) w) : codeP Try.prog (pan R) code (q1 R) ρ w := (b1_eq R ρ w).mp h
/-- What is owed for a call. -/
def run (R : EP) (a0 a1 : Value) (w : World) : Prop := b1 R a0 a1 w
theorem calls (R : EP) (a0 a1 : Value) (w : World) (h : run R a0 a1 w) : Calls Try.prog id #[a0, a1] w R :=
  calls_of_t (f := id) (fn := Try.f69) (c := code) (by kernel_rfl) Try.func69 (by kernel_rfl) (by kernel_rfl) (args := [a0, a1]) (Nat.le_of_ble_eq_true rfl) rfl (b1_ok R (envOf [a0, a1]) w h)
theorem enters : Enters Try.prog id := fun args w => Try.call69 args w
theorem ct {a0 a1 : Value} {w : World} {S : VP} (h : ∀ R : EP, (∀ v w, S v w → R (.returned v) w) → run R a0 a1 w) : Ct Try.prog id #[a0, a1] w S :=
  Ct.intro enters fun R hR => calls R a0 a1 w (h R hR)
attribute [irreducible] b1_1 b1_2 b1_3 b1 run
attribute [go_sem] b1_1 b1_2 b1_3 b1 run
end show_page_name


/-! ### (*strings.Builder).Len -/
namespace strings_Builder_Len
noncomputable def code : Code := bodyOf Try.f71
def b1 (R : EP) (x0 : Value) (w : World) (_r : Tok R := tok R) : Prop :=
  NILC x0 fun v1 =>
  RUN Try.prog (pan R) (Instr.fieldAt 100 v1 1) w fun v2 w3 =>
  RUN Try.prog (pan R) (Instr.loadAt 98 v2) w3 fun v4 w5 =>
  RUN Try.prog (pan R) (Builtin.len_ #[98] 3 #[v4]) w5 fun v6 w7 =>
  R (.returned v6) w7
abbrev q1 (R : EP) : XP := QX (fun ρ w => R (.returned (ρ 2)) w) (fun ρ w => R (.returned (ρ 2)) w) []
theorem b1_eq (R : EP) (ρ : Env) (w : World) : (b1 R (ρ 0) w) = codeP Try.prog (pan R) code (q1 R) ρ w := by kernel_rfl
theorem b1_ok (R : EP) (ρ : Env) (w : World) (h : b1 R (ρ 0) w) : codeP Try.prog (pan R) code (q1 R) ρ w := (b1_eq R ρ w).mp h
/-- What is owed for a call. -/
def run (R : EP) (a0 : Value) (w : World) : Prop := b1 R a0 w
theorem calls (R : EP) (a0 : Value) (w : World) (h : run R a0 w) : Calls Try.prog id #[a0] w R :=
  calls_of_t (f := id) (fn := Try.f71) (c := code) (by kernel_rfl) Try.func71 (by kernel_rfl) (by kernel_rfl) (args := [a0]) (Nat.le_of_ble_eq_true rfl) rfl (b1_ok R (envOf [a0]) w h)
theorem enters : Enters Try.prog id := fun args w => Try.call71 args w
theorem ct {a0 : Value} {w : World} {S : VP} (h : ∀ R : EP, (∀ v w, S v w → R (.returned v) w) → run R a0 w) : Ct Try.prog id #[a0] w S :=
  Ct.intro enters fun R hR => calls R a0 w (h R hR)
attribute [irreducible] b1 run
attribute [go_sem] b1 run
end strings_Builder_Len

/-! ### (*strings.Builder).String -/
namespace strings_Builder_String
noncomputable def code : Code := bodyOf Try.f72
def b1 (R : EP) (x0 : Value) (w : World) (_r : Tok R := tok R) : Prop :=
  NILC x0 fun v1 =>
  PUR Try.prog (Instr.fieldAt 100 v1 1) fun v2 =>
  LD Try.prog (Instr.loadAt 98 v2) (World.drew w) fun v3 =>
  NILC x0 fun v4 =>
  PUR Try.prog (Instr.fieldAt 100 v4 1) fun v5 =>
  LD Try.prog (Instr.loadAt 98 v5) (World.drew w) fun v6 =>
  LD Try.prog (Builtin.len_ #[98] 3 #[v6]) (World.drew w) fun v7 =>
  RUN Try.prog (pan R) (Builtin.unsafeSliceData_ #[98] 155 #[v3]) (World.drew w) fun v8 w9 =>
  Sem.run Try.prog (Builtin.len_ #[98] 3 #[v6]) w9 = .ok v7 w9 ∧ (Sem.run Try.prog (Instr.loadAt 98 v5) w9 = .ok v6 w9 ∧ (RUN Try.prog (pan R) (Builtin.unsafeString_ #[155, 3] 9 #[v8, v7]) w9 fun v10 w11 =>
  R (.returned v10) w11))
abbrev q1 (R : EP) : XP := QX (fun ρ w => R (.returned (ρ 2)) w) (fun ρ w => R (.returned (ρ 2)) w) []
theorem b1_eq (R : EP) (ρ : Env) (w : World) : (b1 R (ρ 0) w) = codeP Try.prog (pan R) code (q1 R) ρ w := by kernel_rfl
theorem b1_ok (R : EP) (ρ : Env) (w : World) (h : b1 R (ρ 0) w) : codeP Try.prog (pan R) code (q1 R) ρ w := (b1_eq R ρ w).mp h
/-- What is owed for a call. -/
def run (R : EP) (a0 : Value) (w : World) : Prop := b1 R a0 w
theorem calls (R : EP) (a0 : Value) (w : World) (h : run R a0 w) : Calls Try.prog id #[a0] w R :=
  calls_of_t (f := id) (fn := Try.f72) (c := code) (by kernel_rfl) Try.func72 (by kernel_rfl) (by kernel_rfl) (args := [a0]) (Nat.le_of_ble_eq_true rfl) rfl (b1_ok R (envOf [a0]) w h)
theorem enters : Enters Try.prog id := fun args w => Try.call72 args w
theorem ct {a0 : Value} {w : World} {S : VP} (h : ∀ R : EP, (∀ v w, S v w → R (.returned v) w) → run R a0 w) : Ct Try.prog id #[a0] w S :=
  Ct.intro enters fun R hR => calls R a0 w (h R hR)
attribute [irreducible] b1 run
attribute [go_sem] b1 run
end strings_Builder_String

/-! ### presage/show.Row$1 -/
namespace show_Row_1
noncomputable def code : Code := bodyOf Try.f79
def b1 (R : EP) (x0 x1 : Value) (w : World) (_r : Tok R := tok R) : Prop :=
  RUN Try.prog (pan R) (Instr.loadAt 88 x1) w fun v1 w2 =>
  CALL Try.prog (pan R) show_page_isSymbol.id #[v1, x0] w2 fun v3 w4 =>
  RUN Try.prog (pan R) (Op.unary .not v3) w4 fun v5 w6 =>
  R (.returned v5) w6
abbrev q1 (R : EP) : XP := QX (fun ρ w => R (.returned (ρ 3)) w) (fun ρ w => R (.returned (ρ 3)) w) []
theorem b1_eq (R : EP) (ρ : Env) (w : World) : (b1 R (ρ 0) (ρ 1) w) = codeP Try.prog (pan R) code (q1 R) ρ w := by kernel_rfl
theorem b1_ok (R : EP) (ρ : Env) (w : World) (h : b1 R (ρ 0) (ρ 1) w) : codeP Try.prog (pan R) code (q1 R) ρ w := (b1_eq R ρ w).mp h
/-- What is owed for a call. -/
def run (R : EP) (a0 a1 : Value) (w : World) : Prop := b1 R a0 a1 w
theorem calls (R : EP) (a0 a1 : Value) (w : World) (h : run R a0 a1 w) : Calls Try.prog id #[a0, a1] w R :=
  calls_of_t (f := id) (fn := Try.f79) (c := code) (by kernel_rfl) Try.func79 (by kernel_rfl) (by kernel_rfl) (args := [a0, a1]) (Nat.le_of_ble_eq_true rfl) rfl (b1_ok R (envOf [a0, a1]) w h)
theorem enters : Enters Try.prog id := fun args w => Try.call79 args w
theorem ct {a0 a1 : Value} {w : World} {S : VP} (h : ∀ R : EP, (∀ v w, S v w → R (.returned v) w) → run R a0 a1 w) : Ct Try.prog id #[a0, a1] w S :=
  Ct.intro enters fun R hR => calls R a0 a1 w (h R hR)
attribute [irreducible] b1 run
attribute [go_sem] b1 run
end show_Row_1

/-! ### (*presage/show.page).isSymbol -/
namespace show_page_isSymbol
noncomputable def code : Code := bodyOf Try.f80
def b1_1 (R : EP) (x0 x1 : Value) (w : World) (_r : Tok R := tok R) : Prop :=
  NILC x0 fun v2 =>
  PUR Try.prog (Instr.fieldAt 102 v2 1) fun v3 =>
  PUR Try.prog (Instr.fieldAt 27 v3 0) fun v4 =>
  LD Try.prog (Instr.loadAt 22 v4) (World.drew w) fun v5 =>
  LD Try.prog (Builtin.len_ #[22] 3 #[v5]) (World.drew w) fun v6 =>
  NILC x0 fun v7 =>
  PUR Try.prog (Instr.fieldAt 102 v7 1) fun v8 =>
  PUR Try.prog (Instr.fieldAt 27 v8 1) fun v9 =>
  LD Try.prog (Instr.loadAt 23 v9) (World.drew w) fun v10 =>
  LD Try.prog (Builtin.len_ #[23] 3 #[v10]) (World.drew w) fun v11 =>
  PUR Try.prog (bins .add 3 (.tmp 14) (.tmp 20) v6 v11) fun v12 =>
  PUR Try.prog (bins .lss 3 (.tmp 8) (.tmp 21) x1 v12) fun v13 =>
  R (.returned v13) (World.drew w)
def b1 (R : EP) (x0 x1 : Value) (w : World) (_r : Tok R := tok R) : Prop :=
  PUR Try.prog (bins .leq 3 (.const (Go.Value.int Go.IntKind.i64 0)) (.tmp 5) (Go.Value.int Go.IntKind.i64 0) x1) fun v1 =>
  SPL v1
  (b1_1 R x0 x1 w)
  (R (.returned (Go.Value.bool Bool.false)) (World.drew w))
abbrev q1 (R : EP) : XP := QX (fun ρ w => R (.returned (ρ 4)) w) (fun ρ w => R (.returned (ρ 4)) w) []
theorem b1_eq (R : EP) (ρ : Env) (w : World) : (b1 R (ρ 0) (ρ 1) w) = codeP Try.prog (pan R) code (q1 R) ρ w := by kernel_rfl
theorem b1_ok (R : EP) (ρ : Env) (w : World) (h : b1 R (ρ 0) (ρ 1) w) : codeP Try.prog (pan R) code (q1 R) ρ w := (b1_eq R ρ w).mp h
/-- What is owed for a call. -/
def run (R : EP) (a0 a1 : Value) (w : World) : Prop := b1 R a0 a1 w
theorem calls (R : EP) (a0 a1 : Value) (w : World) (h : run R a0 a1 w) : Calls Try.prog id #[a0, a1] w R :=
  calls_of_t (f := id) (fn := Try.f80) (c := code) (by kernel_rfl) Try.func80 (by kernel_rfl) (by kernel_rfl) (args := [a0, a1]) (Nat.le_of_ble_eq_true rfl) rfl (b1_ok R (envOf [a0, a1]) w h)
theorem enters : Enters Try.prog id := fun args w => Try.call80 args w
theorem ct {a0 a1 : Value} {w : World} {S : VP} (h : ∀ R : EP, (∀ v w, S v w → R (.returned v) w) → run R a0 a1 w) : Ct Try.prog id #[a0, a1] w S :=
  Ct.intro enters fun R hR => calls R a0 a1 w (h R hR)
attribute [irreducible] b1_1 b1 run
attribute [go_sem] b1_1 b1 run
end show_page_isSymbol

/-! ### (*presage/show.page).names -/
namespace show_page_names
noncomputable def code : Code := bodyOf Try.f81
noncomputable abbrev p1 : Code := dropC 1 code
noncomputable abbrev p2 : Code := loopC (blkC p1)
def b4_1 (R : EP) (C3 : VP) (x0 x8 v7 : Value) (w8 : World) (_r : Tok R := tok R) (_C3 : Tok C3 := tok C3) : Prop :=
  RUN Try.prog (pan R) (Instr.buildSlice 23 1 #[(0, v7)]) w8 fun v9 w10 =>
  CALL Try.prog (pan R) show_page_words.id #[x0, v9] w10 fun v11 w12 =>
  RUN Try.prog (pan R) (bins .add 3 (.tmp 8) (.const (Go.Value.int Go.IntKind.i64 1)) x8 (Go.Value.int Go.IntKind.i64 1)) w12 fun v13 w14 =>
  C3 v13 w14
def b4_2 (R : EP) (C3 : VP) (x0 x6 x8 : Value) (w2 : World) (_r : Tok R := tok R) (_C3 : Tok C3 := tok C3) : Prop :=
  RUN Try.prog (pan R) (Instr.indexAt 24 x6 x8) w2 fun v3 w4 =>
  RUN Try.prog (pan R) (Instr.loadAt 3 v3) w4 fun v5 w6 =>
  CALL Try.prog (pan R) show_page_name.id #[x0, v5] w6 fun v7 w8 =>
  b4_1 R C3 x0 x8 v7 w8
def b4 (R : EP) (C3 : VP) (x0 x6 x7 x8 : Value) (w : World) (_r : Tok R := tok R) (_C3 : Tok C3 := tok C3) : Prop :=
  RUN Try.prog (pan R) (bins .lss 3 (.tmp 8) (.tmp 7) x8 x7) w fun v1 w2 =>
  SPL v1
  (b4_2 R C3 x0 x6 x8 w2)
  (R (.returned (.tuple #[])) w2)
abbrev q1 (R : EP) (C3 : VP) : XP := QX (fun ρ w => C3 (ρ 8) w) (fun ρ w => R (.returned (.tuple #[])) w) [(0, (fun ρ w => R (.returned (.tuple #[])) w))]
theorem b4_eq (R : EP) (C3 : VP) (ρ : Env) (w : World) : (b4 R C3 (ρ 0) (ρ 6) (ρ 7) (ρ 8) w) = codeP Try.prog (pan R) p2 (q1 R C3) ρ w := by kernel_rfl
theorem b4_ok (R : EP) (C3 : VP) (ρ : Env) (w : World) (h : b4 R C3 (ρ 0) (ρ 6) (ρ 7) (ρ 8) w) : codeP Try.prog (pan R) p2 (q1 R C3) ρ w := (b4_eq R C3 ρ w).mp h
def l3 (R : EP) (x0 x6 x7 x8 : Value) (w : World) (_r : Tok R := tok R) : Prop :=
  ∃ (J : VP) (μ : Value → World → Nat), J x8 w ∧ ∀ y8 w0, J y8 w0 → b4 R (fun z8 w1 => J z8 w1 ∧ μ z8 w1 < μ y8 w0) x0 x6 x7 y8 w0
abbrev q2 (R : EP) : XP := QX (fun ρ w => R (.returned (.tuple #[])) w) (fun ρ w => R (.returned (.tuple #[])) w) [(0, (fun ρ w => R (.returned (.tuple #[])) w))]
theorem l3_ok (R : EP) (ρ : Env) (w : World) (h : l3 R (ρ 0) (ρ 6) (ρ 7) (ρ 8) w) : codeP Try.prog (pan R) (blkC p1) (q2 R) ρ w := by
  unfold l3 at h
  obtain ⟨J, μ, h0, hr⟩ := h
  have e : Code.loop (loopC (blkC p1)) = (blkC p1) := by kernel_rfl
  rw [← e]
  refine loopQ (fun ρ' w' => J (ρ' 8) w') (fun ρ' w' => μ (ρ' 8) w') h0 fun ρ' w' hA hI => ?_
  have e0 : ρ' 0 = ρ 0 := Agree.at hA 0 (by kernel_rfl)
  have e6 : ρ' 6 = ρ 6 := Agree.at hA 6 (by kernel_rfl)
  have e7 : ρ' 7 = ρ 7 := Agree.at hA 7 (by kernel_rfl)
  have h1 := hr (ρ' 8) w' hI
  rw [← e0, ← e6, ← e7] at h1
  exact b4_ok R (fun z8 w1 => J z8 w1 ∧ μ z8 w1 < μ (ρ' 8) w') ρ' w' h1
theorem l3_intro (R : EP) (x0 x6 x7 x8 : Value) (w : World) (J : VP) (μ : Value → World → Nat) (h0 : J x8 w)
    (hr : ∀ y8 w0, J y8 w0 → ∀ C3 : VP, (∀ z8 w1, J z8 w1 → μ z8 w1 < μ y8 w0 → C3 z8 w1) → b4 R C3 x0 x6 x7 y8 w0) : l3 R x0 x6 x7 x8 w := by
  unfold l3
  exact ⟨J, μ, h0, fun y8 w0 hJ => hr y8 w0 hJ _ (fun z8 w1 h1 h2 => ⟨h1, h2⟩)⟩
abbrev q3 (R : EP) : XP := QX (fun ρ w => R (.returned (.tuple #[])) w) (fun ρ w => R (.returned (.tuple #[])) w) []
theorem k2_ok (R : EP) (ρ : Env) (w : World) (h : l3 R (ρ 0) (ρ 6) (ρ 7) (ρ 8) w) : codeP Try.prog (pan R) p1 (q3 R) ρ w := by
  have e : Code.block 0 (blkC p1) = p1 := by kernel_rfl
  rw [← e]
  exact blockQ (l3_ok R ρ w h)
def b1 (R : EP) (x0 x1 : Value) (w : World) (_r : Tok R := tok R) : Prop :=
  RUN Try.prog (pan R) (Builtin.len_ #[24] 3 #[x1]) w fun v1 w2 =>
  l3 R x0 x1 v1 (Go.Value.int Go.IntKind.i64 0) w2
abbrev q4 (R : EP) : XP := QX (fun ρ w => l3 R (ρ 0) (ρ 6) (ρ 7) (ρ 8) w) (fun ρ w => R (.returned (.tuple #[])) w) []
theorem b1_eq (R : EP) (ρ : Env) (w : World) : (b1 R (ρ 0) (ρ 1) w) = codeP Try.prog (pan R) (preC 0 code) (q4 R) ρ w := by kernel_rfl
theorem b1_ok (R : EP) (ρ : Env) (w : World) (h : b1 R (ρ 0) (ρ 1) w) : codeP Try.prog (pan R) code (q3 R) ρ w := by
  have e : appC 0 (preC 0 code) (dropC 1 code) = code := by kernel_rfl
  rw [← e]
  exact appQ (fun ρ w => l3 R (ρ 0) (ρ 6) (ρ 7) (ρ 8) w) 0 ((b1_eq R ρ w).mp h) (fun ρ w h => k2_ok R ρ w h)
/-- What is owed for a call. -/
def run (R : EP) (a0 a1 : Value) (w : World) : Prop := b1 R a0 a1 w
theorem calls (R : EP) (a0 a1 : Value) (w : World) (h : run R a0 a1 w) : Calls Try.prog id #[a0, a1] w R :=
  calls_of_0 (f := id) (fn := Try.f81) (c := code) (by kernel_rfl) Try.func81 (by kernel_rfl) (by kernel_rfl) (args := [a0, a1]) (Nat.le_of_ble_eq_true rfl) rfl (b1_ok R (envOf [a0, a1]) w h)
theorem enters : Enters Try.prog id := fun args w => Try.call81 args w
theorem ct {a0 a1 : Value} {w : World} {S : VP} (h : ∀ R : EP, (∀ v w, S v w → R (.returned v) w) → run R a0 a1 w) : Ct Try.prog id #[a0, a1] w S :=
  Ct.intro enters fun R hR => calls R a0 a1 w (h R hR)
attribute [irreducible] b4_1 b4_2 b4 l3 b1 run
attribute [go_sem] b4_1 b4_2 b4 b1 run
end show_page_names

/-! ### strings.TrimPrefix -/
namespace strings_TrimPrefix
noncomputable def code : Code := bodyOf Try.f82
def b1 (R : EP) (x0 x1 : Value) (w : World) (_r : Tok R := tok R) : Prop :=
  CALL Try.prog (pan R) internal_stringslite_TrimPrefix.id #[x0, x1] w fun v1 w2 =>
  R (.returned v1) w2
abbrev q1 (R : EP) : XP := QX (fun ρ w => R (.returned (ρ 4)) w) (fun ρ w => R (.returned (ρ 4)) w) []
theorem b1_eq (R : EP) (ρ : Env) (w : World) : (b1 R (ρ 0) (ρ 1) w) = codeP Try.prog (pan R) code (q1 R) ρ w := by kernel_rfl
theorem b1_ok (R : EP) (ρ : Env) (w : World) (h : b1 R (ρ 0) (ρ 1) w) : codeP Try.prog (pan R) code (q1 R) ρ w := (b1_eq R ρ w).mp h
/-- What is owed for a call. -/
def run (R : EP) (a0 a1 : Value) (w : World) : Prop := b1 R a0 a1 w
theorem calls (R : EP) (a0 a1 : Value) (w : World) (h : run R a0 a1 w) : Calls Try.prog id #[a0, a1] w R :=
  calls_of_t (f := id) (fn := Try.f82) (c := code) (by kernel_rfl) Try.func82 (by kernel_rfl) (by kernel_rfl) (args := [a0, a1]) (Nat.le_of_ble_eq_true rfl) rfl (b1_ok R (envOf [a0, a1]) w h)
theorem enters : Enters Try.prog id := fun args w => Try.call82 args w
theorem ct {a0 a1 : Value} {w : World} {S : VP} (h : ∀ R : EP, (∀ v w, S v w → R (.returned v) w) → run R a0 a1 w) : Ct Try.prog id #[a0, a1] w S :=
  Ct.intro enters fun R hR => calls R a0 a1 w (h R hR)
attribute [irreducible] b1 run
attribute [go_sem] b1 run
end strings_TrimPrefix


/-! ### (*strings.Builder).WriteString -/
namespace strings_Builder_WriteString
noncomputable def code : Code := bodyOf Try.f95
def b1_1 (R : EP) (x0 x1 : Value) (w2 : World) (_r : Tok R := tok R) : Prop :=
  NILC x0 fun v3 =>
  RUN Try.prog (pan R) (Instr.fieldAt 100 v3 1) w2 fun v4 w5 =>
  RUN Try.prog (pan R) (Instr.loadAt 98 v4) w5 fun v6 w7 =>
  RUN Try.prog (pan R) (Builtin.append_ #[98, 9] 98 #[v6, x1]) w7 fun v8 w9 =>
  NILC x0 fun v10 =>
  RUN Try.prog (pan R) (Instr.fieldAt 100 v10 1) w9 fun v11 w12 =>
  RUNU Try.prog (pan R) (Instr.storeAt 98 v11 v8) w12 fun w13 =>
  RUN Try.prog (pan R) (Builtin.len_ #[9] 3 #[x1]) w13 fun v14 w15 =>
  R (.returned (.tuple #[v14, Go.Value.nilIface])) w15
def b1 (R : EP) (x0 x1 : Value) (w : World) (_r : Tok R := tok R) : Prop :=
  CALL Try.prog (pan R) strings_Builder_copyCheck.id #[x0] w fun v1 w2 =>
  b1_1 R x0 x1 w2
abbrev q1 (R : EP) : XP := QX (fun ρ w => R (.returned (.tuple #[(ρ 4), (ρ 5)])) w) (fun ρ w => R (.returned (.tuple #[(ρ 4), (ρ 5)])) w) []
theorem b1_eq (R : EP) (ρ : Env) (w : World) : (b1 R (ρ 0) (ρ 1) w) = codeP Try.prog (pan R) code (q1 R) ρ w := by kernel_rfl
theorem b1_ok (R : EP) (ρ : Env) (w : World) (h : b1 R (ρ 0) (ρ 1) w) : codeP Try.prog (pan R) code (q1 R) ρ w := (b1_eq R ρ w).mp h
/-- What is owed for a call. -/
def run (R : EP) (a0 a1 : Value) (w : World) : Prop := b1 R a0 a1 w
theorem calls (R : EP) (a0 a1 : Value) (w : World) (h : run R a0 a1 w) : Calls Try.prog id #[a0, a1] w R :=
  calls_of_tt (f := id) (fn := Try.f95) (c := code) (by kernel_rfl) Try.func95 (by kernel_rfl) (by kernel_rfl) (args := [a0, a1]) (Nat.le_of_ble_eq_true rfl) rfl (b1_ok R (envOf [a0, a1]) w h)
theorem enters : Enters Try.prog id := fun args w => Try.call95 args w
theorem ct {a0 a1 : Value} {w : World} {S : VP} (h : ∀ R : EP, (∀ v w, S v w → R (.returned v) w) → run R a0 a1 w) : Ct Try.prog id #[a0, a1] w S :=
  Ct.intro enters fun R hR => calls R a0 a1 w (h R hR)
attribute [irreducible] b1_1 b1 run
attribute [go_sem] b1_1 b1 run
end strings_Builder_WriteString


/-! ### internal/stringslite.TrimPrefix -/
namespace internal_stringslite_TrimPrefix
noncomputable def code : Code := bodyOf Try.f126
def b1_1 (R : EP) (x0 x1 : Value) (w2 : World) (_r : Tok R := tok R) : Prop :=
  RUN Try.prog (pan R) (Builtin.len_ #[9] 3 #[x1]) w2 fun v3 w4 =>
  RUN Try.prog (pan R) (Instr.sliceAt 9 x0 (some v3) none none) w4 fun v5 w6 =>
  R (.returned v5) w6
def b1 (R : EP) (x0 x1 : Value) (w : World) (_r : Tok R := tok R) : Prop :=
  CALL Try.prog (pan R) internal_stringslite_HasPrefix.id #[x0, x1] w fun v1 w2 =>
  SPL v1
  (b1_1 R x0 x1 w2)
  (R (.returned x0) w2)
abbrev q1 (R : EP) : XP := QX (fun ρ w => R (.returned (ρ 4)) w) (fun ρ w => R (.returned (ρ 4)) w) []
theorem b1_eq (R : EP) (ρ : Env) (w : World) : (b1 R (ρ 0) (ρ 1) w) = codeP Try.prog (pan R) code (q1 R) ρ w := by kernel_rfl
theorem b1_ok (R : EP) (ρ : Env) (w : World) (h : b1 R (ρ 0) (ρ 1) w) : codeP Try.prog (pan R) code (q1 R) ρ w := (b1_eq R ρ w).mp h
/-- What is owed for a call. -/
def run (R : EP) (a0 a1 : Value) (w : World) : Prop := b1 R a0 a1 w
theorem calls (R : EP) (a0 a1 : Value) (w : World) (h : run R a0 a1 w) : Calls Try.prog id #[a0, a1] w R :=
  calls_of_t (f := id) (fn := Try.f126) (c := code) (by kernel_rfl) Try.func126 (by kernel_rfl) (by kernel_rfl) (args := [a0, a1]) (Nat.le_of_ble_eq_true rfl) rfl (b1_ok R (envOf [a0, a1]) w h)
theorem enters : Enters Try.prog id := fun args w => Try.call126 args w
theorem ct {a0 a1 : Value} {w : World} {S : VP} (h : ∀ R : EP, (∀ v w, S v w → R (.returned v) w) → run R a0 a1 w) : Ct Try.prog id #[a0, a1] w S :=
  Ct.intro enters fun R hR => calls R a0 a1 w (h R hR)
attribute [irreducible] b1_1 b1 run
attribute [go_sem] b1_1 b1 run
end internal_stringslite_TrimPrefix

/-! ### (*strings.Builder).copyCheck -/
namespace strings_Builder_copyCheck
noncomputable def code : Code := bodyOf Try.f132
def b1_1 (R : EP) (x0 v10 : Value) (w11 : World) (_r : Tok R := tok R) : Prop :=
  RUN Try.prog (pan R) (convert 184 97 v10) w11 fun v12 w13 =>
  NILC x0 fun v14 =>
  RUN Try.prog (pan R) (Instr.fieldAt 100 v14 0) w13 fun v15 w16 =>
  RUNU Try.prog (pan R) (Instr.storeAt 97 v15 v12) w16 fun w17 =>
  R (.returned (.tuple #[])) w17
def b1_2 (R : EP) (x0 : Value) (w7 : World) (_r : Tok R := tok R) : Prop :=
  RUN Try.prog (pan R) (convert 97 184 x0) w7 fun v8 w9 =>
  CALL Try.prog (pan R) internal_abi_NoEscape.id #[v8] w9 fun v10 w11 =>
  b1_1 R x0 v10 w11
def b1_3 (R : EP) (x0 : Value) (w7 : World) (_r : Tok R := tok R) : Prop :=
  NILC x0 fun v18 =>
  RUN Try.prog (pan R) (Instr.fieldAt 100 v18 0) w7 fun v19 w20 =>
  RUN Try.prog (pan R) (Instr.loadAt 97 v19) w20 fun v21 w22 =>
  RUN Try.prog (pan R) (bins .neq 97 (.tmp 17) (.tmp 18) v21 x0) w22 fun v23 w24 =>
  SPL v23
  (False)
  (R (.returned (.tuple #[])) w24)
def b1 (R : EP) (x0 : Value) (w : World) (_r : Tok R := tok R) : Prop :=
  NILC x0 fun v1 =>
  RUN Try.prog (pan R) (Instr.fieldAt 100 v1 0) w fun v2 w3 =>
  RUN Try.prog (pan R) (Instr.loadAt 97 v2) w3 fun v4 w5 =>
  RUN Try.prog (pan R) (bins .eql 97 (.tmp 5) (.const (Go.Value.pointer Option.none)) v4 (Go.Value.pointer Option.none)) w5 fun v6 w7 =>
  SPL v6
  (b1_2 R x0 w7)
  (b1_3 R x0 w7)
abbrev q1 (R : EP) : XP := QX (fun ρ w => R (.returned (.tuple #[])) w) (fun ρ w => R (.returned (.tuple #[])) w) []
theorem b1_eq (R : EP) (ρ : Env) (w : World) : (b1 R (ρ 0) w) = codeP Try.prog (pan R) code (q1 R) ρ w := by kernel_rfl
theorem b1_ok (R : EP) (ρ : Env) (w : World) (h : b1 R (ρ 0) w) : codeP Try.prog (pan R) code (q1 R) ρ w := (b1_eq R ρ w).mp h
/-- What is owed for a call. -/
def run (R : EP) (a0 : Value) (w : World) : Prop := b1 R a0 w
theorem calls (R : EP) (a0 : Value) (w : World) (h : run R a0 w) : Calls Try.prog id #[a0] w R :=
  calls_of_0 (f := id) (fn := Try.f132) (c := code) (by kernel_rfl) Try.func132 (by kernel_rfl) (by kernel_rfl) (args := [a0]) (Nat.le_of_ble_eq_true rfl) rfl (b1_ok R (envOf [a0]) w h)
theorem enters : Enters Try.prog id := fun args w => Try.call132 args w
theorem ct {a0 : Value} {w : World} {S : VP} (h : ∀ R : EP, (∀ v w, S v w → R (.returned v) w) → run R a0 w) : Ct Try.prog id #[a0] w S :=
  Ct.intro enters fun R hR => calls R a0 w (h R hR)
attribute [irreducible] b1_1 b1_2 b1_3 b1 run
attribute [go_sem] b1_1 b1_2 b1_3 b1 run
end strings_Builder_copyCheck

/-! ### internal/stringslite.HasPrefix -/
namespace internal_stringslite_HasPrefix
noncomputable def code : Code := bodyOf Try.f153
def b1_1 (R : EP) (x0 x1 : Value) (w6 : World) (_r : Tok R := tok R) : Prop :=
  RUN Try.prog (pan R) (Builtin.len_ #[9] 3 #[x1]) w6 fun v7 w8 =>
  RUN Try.prog (pan R) (Instr.sliceAt 9 x0 none (some v7) none) w8 fun v9 w10 =>
  RUN Try.prog (pan R) (bins .eql 9 (.tmp 14) (.tmp 15) v9 x1) w10 fun v11 w12 =>
  R (.returned v11) w12
def b1 (R : EP) (x0 x1 : Value) (w : World) (_r : Tok R := tok R) : Prop :=
  RUN Try.prog (pan R) (Builtin.len_ #[9] 3 #[x0]) w fun v1 w2 =>
  RUN Try.prog (pan R) (Builtin.len_ #[9] 3 #[x1]) w2 fun v3 w4 =>
  RUN Try.prog (pan R) (bins .geq 3 (.tmp 6) (.tmp 8) v1 v3) w4 fun v5 w6 =>
  SPL v5
  (b1_1 R x0 x1 w6)
  (R (.returned (Go.Value.bool Bool.false)) w6)
abbrev q1 (R : EP) : XP := QX (fun ρ w => R (.returned (ρ 4)) w) (fun ρ w => R (.returned (ρ 4)) w) []
theorem b1_eq (R : EP) (ρ : Env) (w : World) : (b1 R (ρ 0) (ρ 1) w) = codeP Try.prog (pan R) code (q1 R) ρ w := by kernel_rfl
theorem b1_ok (R : EP) (ρ : Env) (w : World) (h : b1 R (ρ 0) (ρ 1) w) : codeP Try.prog (pan R) code (q1 R) ρ w := (b1_eq R ρ w).mp h
/-- What is owed for a call. -/
def run (R : EP) (a0 a1 : Value) (w : World) : Prop := b1 R a0 a1 w
theorem calls (R : EP) (a0 a1 : Value) (w : World) (h : run R a0 a1 w) : Calls Try.prog id #[a0, a1] w R :=
  calls_of_t (f := id) (fn := Try.f153) (c := code) (by kernel_rfl) Try.func153 (by kernel_rfl) (by kernel_rfl) (args := [a0, a1]) (Nat.le_of_ble_eq_true rfl) rfl (b1_ok R (envOf [a0, a1]) w h)
theorem enters : Enters Try.prog id := fun args w => Try.call153 args w
theorem ct {a0 a1 : Value} {w : World} {S : VP} (h : ∀ R : EP, (∀ v w, S v w → R (.returned v) w) → run R a0 a1 w) : Ct Try.prog id #[a0, a1] w S :=
  Ct.intro enters fun R hR => calls R a0 a1 w (h R hR)
attribute [irreducible] b1_1 b1 run
attribute [go_sem] b1_1 b1 run
end internal_stringslite_HasPrefix
end Go.Proofs.Ytkacbjhiobnbfaa

