/- Shallow programs, written by a program of ours (gen.py) off the translation; each is tied to the code by the kernel. -/
import Derived.Test.YtkacbjhiobnbfaaGa
set_option linter.unusedVariables false
set_option maxRecDepth 100000
namespace Go.Proofs.Ytkacbjhiobnbfaa
open Go.Px


/-! ### presage/presageref02.Same -/
namespace ref02_Same
noncomputable def code : Code := bodyOf Try.f18
noncomputable abbrev p1 : Code := dropC 2 code
noncomputable abbrev p2 : Code := sndC (sndC p1)
noncomputable abbrev p3 : Code := sndC (sndC p2)

def b6 (R : EP) (w : World) (_r : Tok R := tok R) : Prop :=
  R (.returned (Go.Value.bool Bool.true)) w
abbrev q1 (R : EP) : XP := QX (fun ρ w => R (.returned (ρ 4)) w) (fun ρ w => R (.returned (ρ 4)) w) []
theorem b6_eq (R : EP) (ρ : Env) (w : World) : (b6 R w) = codeP Try.prog (pan R) p3 (q1 R) ρ w := by kernel_rfl
theorem b6_ok (R : EP) (ρ : Env) (w : World) (h : b6 R w) : codeP Try.prog (pan R) p3 (q1 R) ρ w := (b6_eq R ρ w).mp h
noncomputable abbrev p4 : Code := fstC (sndC p2)
noncomputable abbrev p5 : Code := dropC 1 p4
noncomputable abbrev p6 : Code := loopC (blkC p5)
noncomputable abbrev p7 : Code := dropC 1 p6

def b12 (R : EP) (C9 : VP) (x8 : Value) (w : World) (_r : Tok R := tok R) (_C9 : Tok C9 := tok C9) : Prop :=
  RUN Try.prog (pan R) (bins .add 3 (.tmp 94) (.const (Go.Value.int Go.IntKind.i64 1)) x8 (Go.Value.int Go.IntKind.i64 1)) w fun v1 w2 =>
  C9 v1 w2
abbrev q2 (R : EP) (C9 : VP) : XP := QX (fun ρ w => C9 (ρ 8) w) (fun ρ w => R (.returned (ρ 4)) w) [(8, (fun ρ w => b6 R  w))]
theorem b12_eq (R : EP) (C9 : VP) (ρ : Env) (w : World) : (b12 R C9 (ρ 8) w) = codeP Try.prog (pan R) (sndC p7) (q2 R C9) ρ w := by kernel_rfl
theorem b12_ok (R : EP) (C9 : VP) (ρ : Env) (w : World) (h : b12 R C9 (ρ 8) w) : codeP Try.prog (pan R) (sndC p7) (q2 R C9) ρ w := (b12_eq R C9 ρ w).mp h
noncomputable abbrev p8 : Code := blkC (fstC p7)
noncomputable abbrev p9 : Code := dropC 4 p8

def b15 (R : EP) (C9 : VP) (x8 x126 : Value) (w : World) (_r : Tok R := tok R) (_C9 : Tok C9 := tok C9) : Prop :=
  SPL x126
  (R (.returned (Go.Value.bool Bool.false)) w)
  (b12 R C9 x8 w)
abbrev q3 (R : EP) (C9 : VP) : XP := QX (fun ρ w => b12 R C9 (ρ 8) w) (fun ρ w => R (.returned (ρ 4)) w) [(10, (fun ρ w => b12 R C9 (ρ 8) w)), (8, (fun ρ w => b6 R  w))]
theorem b15_eq (R : EP) (C9 : VP) (ρ : Env) (w : World) : (b15 R C9 (ρ 8) (ρ 126) w) = codeP Try.prog (pan R) p9 (q3 R C9) ρ w := by kernel_rfl
theorem b15_ok (R : EP) (C9 : VP) (ρ : Env) (w : World) (h : b15 R C9 (ρ 8) (ρ 126) w) : codeP Try.prog (pan R) p9 (q3 R C9) ρ w := (b15_eq R C9 ρ w).mp h
def b14_1 (R : EP) (C9 : VP) (x8 v9 v20 : Value) (w44 : World) (_r : Tok R := tok R) (_C9 : Tok C9 := tok C9) : Prop :=
  RUN Try.prog (pan R) (Instr.fieldAt 47 v9 2) w44 fun v45 w46 =>
  RUN Try.prog (pan R) (Instr.loadAt 3 v45) w46 fun v47 w48 =>
  RUN Try.prog (pan R) (Instr.fieldAt 47 v20 2) w48 fun v49 w50 =>
  RUN Try.prog (pan R) (Instr.loadAt 3 v49) w50 fun v51 w52 =>
  RUN Try.prog (pan R) (bins .neq 3 (.tmp 122) (.tmp 124) v47 v51) w52 fun v53 w54 =>
  b15 R C9 x8 v53 w54
def b14_2 (R : EP) (C9 : VP) (x8 v9 v20 : Value) (w34 : World) (_r : Tok R := tok R) (_C9 : Tok C9 := tok C9) : Prop :=
  RUN Try.prog (pan R) (Instr.fieldAt 47 v9 0) w34 fun v35 w36 =>
  RUN Try.prog (pan R) (Instr.loadAt 3 v35) w36 fun v37 w38 =>
  RUN Try.prog (pan R) (Instr.fieldAt 47 v20 0) w38 fun v39 w40 =>
  RUN Try.prog (pan R) (Instr.loadAt 3 v39) w40 fun v41 w42 =>
  RUN Try.prog (pan R) (bins .neq 3 (.tmp 115) (.tmp 117) v37 v41) w42 fun v43 w44 =>
  SPL v43
  (b15 R C9 x8 (Go.Value.bool Bool.true) w44)
  (b14_1 R C9 x8 v9 v20 w44)

def b14 (R : EP) (C9 : VP) (x2 x3 x8 : Value) (w : World) (_r : Tok R := tok R) (_C9 : Tok C9 := tok C9) : Prop :=
  RUN Try.prog (pan R) (Instr.fieldAt 27 x2 4) w fun v1 w2 =>
  RUN Try.prog (pan R) (Instr.loadAt 25 v1) w2 fun v3 w4 =>
  RUN Try.prog (pan R) (Instr.indexAt 25 v3 x8) w4 fun v5 w6 =>
  RUN Try.prog (pan R) (Instr.loadAt 47 v5) w6 fun v7 w8 =>
  RUN Try.prog (pan R) (Instr.alloc 47 true (.tuple #[])) w8 fun v9 w10 =>
  RUNU Try.prog (pan R) (Instr.storeAt 47 v9 v7) w10 fun w11 =>
  RUN Try.prog (pan R) (Instr.fieldAt 27 x3 4) w11 fun v12 w13 =>
  RUN Try.prog (pan R) (Instr.loadAt 25 v12) w13 fun v14 w15 =>
  RUN Try.prog (pan R) (Instr.indexAt 25 v14 x8) w15 fun v16 w17 =>
  RUN Try.prog (pan R) (Instr.loadAt 47 v16) w17 fun v18 w19 =>
  RUN Try.prog (pan R) (Instr.alloc 47 true (.tuple #[])) w19 fun v20 w21 =>
  RUNU Try.prog (pan R) (Instr.storeAt 47 v20 v18) w21 fun w22 =>
  RUN Try.prog (pan R) (Instr.fieldAt 47 v9 1) w22 fun v23 w24 =>
  RUN Try.prog (pan R) (Instr.loadAt 24 v23) w24 fun v25 w26 =>
  RUN Try.prog (pan R) (Instr.fieldAt 47 v20 1) w26 fun v27 w28 =>
  RUN Try.prog (pan R) (Instr.loadAt 24 v27) w28 fun v29 w30 =>
  CALL Try.prog (pan R) ref02_SameInts.id #[v25, v29] w30 fun v31 w32 =>
  RUN Try.prog (pan R) (Op.unary .not v31) w32 fun v33 w34 =>
  SPL v33
  (b15 R C9 x8 (Go.Value.bool Bool.true) w34)
  (b14_2 R C9 x8 v9 v20 w34)
abbrev q4 (R : EP) (C9 : VP) : XP := QX (fun ρ w => b15 R C9 (ρ 8) (ρ 126) w) (fun ρ w => R (.returned (ρ 4)) w) [(10, (fun ρ w => b12 R C9 (ρ 8) w)), (8, (fun ρ w => b6 R  w))]
theorem b14_eq (R : EP) (C9 : VP) (ρ : Env) (w : World) : (b14 R C9 (ρ 2) (ρ 3) (ρ 8) w) = codeP Try.prog (pan R) (preC 3 p8) (q4 R C9) ρ w := by kernel_rfl
theorem b14_ok (R : EP) (C9 : VP) (ρ : Env) (w : World) (h : b14 R C9 (ρ 2) (ρ 3) (ρ 8) w) : codeP Try.prog (pan R) p8 (q3 R C9) ρ w := by
  have e : appC 3 (preC 3 p8) (dropC 4 p8) = p8 := by kernel_rfl
  rw [← e]
  exact appQ (fun ρ w => b15 R C9 (ρ 8) (ρ 126) w) 3 ((b14_eq R C9 ρ w).mp h) (fun ρ w h => b15_ok R C9 ρ w h)
abbrev q5 (R : EP) (C9 : VP) : XP := QX (fun ρ w => b12 R C9 (ρ 8) w) (fun ρ w => R (.returned (ρ 4)) w) [(8, (fun ρ w => b6 R  w))]
theorem k13_ok (R : EP) (C9 : VP) (ρ : Env) (w : World) (h : b14 R C9 (ρ 2) (ρ 3) (ρ 8) w) : codeP Try.prog (pan R) (fstC p7) (q5 R C9) ρ w := by
  have e : Code.block 5 (blkC (fstC p7)) = (fstC p7) := by kernel_rfl
  rw [← e]
  exact blockQ (b14_ok R C9 ρ w h)
theorem k11_ok (R : EP) (C9 : VP) (ρ : Env) (w : World) (h : b14 R C9 (ρ 2) (ρ 3) (ρ 8) w) : codeP Try.prog (pan R) p7 (q2 R C9) ρ w := by
  have e : Code.seq (fstC p7) (sndC p7) = p7 := by kernel_rfl
  rw [← e]
  exact seqQ (fun ρ w => b12 R C9 (ρ 8) w) (k13_ok R C9 ρ w h) (fun ρ w h => b12_ok R C9 ρ w h)

def b10 (R : EP) (C9 : VP) (x2 x3 x8 : Value) (w : World) (_r : Tok R := tok R) (_C9 : Tok C9 := tok C9) : Prop :=
  RUN Try.prog (pan R) (Instr.fieldAt 27 x2 4) w fun v1 w2 =>
  RUN Try.prog (pan R) (Instr.loadAt 25 v1) w2 fun v3 w4 =>
  RUN Try.prog (pan R) (Builtin.len_ #[25] 3 #[v3]) w4 fun v5 w6 =>
  RUN Try.prog (pan R) (bins .lss 3 (.tmp 89) (.tmp 92) x8 v5) w6 fun v7 w8 =>
  SPL v7
  (b14 R C9 x2 x3 x8 w8)
  (b6 R w8)
abbrev q6 (R : EP) (C9 : VP) : XP := QX (fun ρ w => b14 R C9 (ρ 2) (ρ 3) (ρ 8) w) (fun ρ w => R (.returned (ρ 4)) w) [(8, (fun ρ w => b6 R  w))]
theorem b10_eq (R : EP) (C9 : VP) (ρ : Env) (w : World) : (b10 R C9 (ρ 2) (ρ 3) (ρ 8) w) = codeP Try.prog (pan R) (preC 0 p6) (q6 R C9) ρ w := by kernel_rfl
theorem b10_ok (R : EP) (C9 : VP) (ρ : Env) (w : World) (h : b10 R C9 (ρ 2) (ρ 3) (ρ 8) w) : codeP Try.prog (pan R) p6 (q2 R C9) ρ w := by
  have e : appC 0 (preC 0 p6) (dropC 1 p6) = p6 := by kernel_rfl
  rw [← e]
  exact appQ (fun ρ w => b14 R C9 (ρ 2) (ρ 3) (ρ 8) w) 0 ((b10_eq R C9 ρ w).mp h) (fun ρ w h => k11_ok R C9 ρ w h)

def l9 (R : EP) (x2 x3 x8 : Value) (w : World) (_r : Tok R := tok R) : Prop :=
  ∃ (J : VP) (μ : Value → World → Nat), J x8 w ∧ ∀ y8 w0, J y8 w0 → b10 R (fun z8 w1 => J z8 w1 ∧ μ z8 w1 < μ y8 w0) x2 x3 y8 w0
abbrev q7 (R : EP) : XP := QX (fun ρ w => b6 R  w) (fun ρ w => R (.returned (ρ 4)) w) [(8, (fun ρ w => b6 R  w))]
theorem l9_ok (R : EP) (ρ : Env) (w : World) (h : l9 R (ρ 2) (ρ 3) (ρ 8) w) : codeP Try.prog (pan R) (blkC p5) (q7 R) ρ w := by
  unfold l9 at h
  obtain ⟨J, μ, h0, hr⟩ := h
  have e : Code.loop (loopC (blkC p5)) = (blkC p5) := by kernel_rfl
  rw [← e]
  refine loopQ (fun ρ' w' => J (ρ' 8) w') (fun ρ' w' => μ (ρ' 8) w') h0 fun ρ' w' hA hI => ?_
  have e2 : ρ' 2 = ρ 2 := Agree.at hA 2 (by kernel_rfl)
  have e3 : ρ' 3 = ρ 3 := Agree.at hA 3 (by kernel_rfl)
  have h1 := hr (ρ' 8) w' hI
  rw [← e2, ← e3] at h1
  exact b10_ok R (fun z8 w1 => J z8 w1 ∧ μ z8 w1 < μ (ρ' 8) w') ρ' w' h1
theorem l9_intro (R : EP) (x2 x3 x8 : Value) (w : World) (J : VP) (μ : Value → World → Nat) (h0 : J x8 w)
    (hr : ∀ y8 w0, J y8 w0 → ∀ C9 : VP, (∀ z8 w1, J z8 w1 → μ z8 w1 < μ y8 w0 → C9 z8 w1) → b10 R C9 x2 x3 y8 w0) : l9 R x2 x3 x8 w := by
  unfold l9
  exact ⟨J, μ, h0, fun y8 w0 hJ => hr y8 w0 hJ _ (fun z8 w1 h1 h2 => ⟨h1, h2⟩)⟩
abbrev q8 (R : EP) : XP := QX (fun ρ w => b6 R  w) (fun ρ w => R (.returned (ρ 4)) w) []
theorem k8_ok (R : EP) (ρ : Env) (w : World) (h : l9 R (ρ 2) (ρ 3) (ρ 8) w) : codeP Try.prog (pan R) p5 (q8 R) ρ w := by
  have e : Code.block 4 (blkC p5) = p5 := by kernel_rfl
  rw [← e]
  exact blockQ (l9_ok R ρ w h)

def b7 (R : EP) (x2 x3 : Value) (w : World) (_r : Tok R := tok R) : Prop :=
  l9 R x2 x3 (Go.Value.int Go.IntKind.i64 0) w
abbrev q9 (R : EP) : XP := QX (fun ρ w => l9 R (ρ 2) (ρ 3) (ρ 8) w) (fun ρ w => R (.returned (ρ 4)) w) []
theorem b7_eq (R : EP) (ρ : Env) (w : World) : (b7 R (ρ 2) (ρ 3) w) = codeP Try.prog (pan R) (preC 0 p4) (q9 R) ρ w := by kernel_rfl
theorem b7_ok (R : EP) (ρ : Env) (w : World) (h : b7 R (ρ 2) (ρ 3) w) : codeP Try.prog (pan R) p4 (q8 R) ρ w := by
  have e : appC 0 (preC 0 p4) (dropC 1 p4) = p4 := by kernel_rfl
  rw [← e]
  exact appQ (fun ρ w => l9 R (ρ 2) (ρ 3) (ρ 8) w) 0 ((b7_eq R ρ w).mp h) (fun ρ w h => k8_ok R ρ w h)
theorem k5_ok (R : EP) (ρ : Env) (w : World) (h : b7 R (ρ 2) (ρ 3) w) : codeP Try.prog (pan R) (sndC p2) (q1 R) ρ w := by
  have e : Code.seq (fstC (sndC p2)) (sndC (sndC p2)) = (sndC p2) := by kernel_rfl
  rw [← e]
  exact seqQ (fun ρ w => b6 R  w) (b7_ok R ρ w h) (fun ρ w h => b6_ok R ρ w h)
noncomputable abbrev p10 : Code := dropC 1 (fstC p2)
noncomputable abbrev p11 : Code := loopC (blkC p10)
def b19_1 (R : EP) (C18 : VP) (x2 x3 x7 : Value) (w8 : World) (_r : Tok R := tok R) (_C18 : Tok C18 := tok C18) : Prop :=
  PUR Try.prog (Instr.fieldAt 27 x2 1) fun v9 =>
  LD Try.prog (Instr.loadAt 23 v9) (World.drew w8) fun v10 =>
  PUR Try.prog (Instr.indexAt 23 v10 x7) fun v11 =>
  LD Try.prog (Instr.loadAt 9 v11) (World.drew w8) fun v12 =>
  PUR Try.prog (Instr.fieldAt 27 x3 1) fun v13 =>
  LD Try.prog (Instr.loadAt 23 v13) (World.drew w8) fun v14 =>
  PUR Try.prog (Instr.indexAt 23 v14 x7) fun v15 =>
  LD Try.prog (Instr.loadAt 9 v15) (World.drew w8) fun v16 =>
  PUR Try.prog (bins .neq 9 (.tmp 82) (.tmp 87) v12 v16) fun v17 =>
  SPL v17
  (R (.returned (Go.Value.bool Bool.false)) (World.drew w8))
  (RUN Try.prog (pan R) (bins .add 3 (.tmp 76) (.const (Go.Value.int Go.IntKind.i64 1)) x7 (Go.Value.int Go.IntKind.i64 1)) (World.drew w8) fun v18 w19 =>
  C18 v18 w19)

def b19 (R : EP) (C18 : VP) (x2 x3 x7 : Value) (w : World) (_r : Tok R := tok R) (_C18 : Tok C18 := tok C18) : Prop :=
  RUN Try.prog (pan R) (Instr.fieldAt 27 x2 1) w fun v1 w2 =>
  RUN Try.prog (pan R) (Instr.loadAt 23 v1) w2 fun v3 w4 =>
  RUN Try.prog (pan R) (Builtin.len_ #[23] 3 #[v3]) w4 fun v5 w6 =>
  RUN Try.prog (pan R) (bins .lss 3 (.tmp 71) (.tmp 74) x7 v5) w6 fun v7 w8 =>
  SPL v7
  (b19_1 R C18 x2 x3 x7 w8)
  (b7 R x2 x3 w8)
abbrev q10 (R : EP) (C18 : VP) : XP := QX (fun ρ w => C18 (ρ 7) w) (fun ρ w => R (.returned (ρ 4)) w) [(4, (fun ρ w => b7 R (ρ 2) (ρ 3) w))]
theorem b19_eq (R : EP) (C18 : VP) (ρ : Env) (w : World) : (b19 R C18 (ρ 2) (ρ 3) (ρ 7) w) = codeP Try.prog (pan R) p11 (q10 R C18) ρ w := by kernel_rfl
theorem b19_ok (R : EP) (C18 : VP) (ρ : Env) (w : World) (h : b19 R C18 (ρ 2) (ρ 3) (ρ 7) w) : codeP Try.prog (pan R) p11 (q10 R C18) ρ w := (b19_eq R C18 ρ w).mp h

def l18 (R : EP) (x2 x3 x7 : Value) (w : World) (_r : Tok R := tok R) : Prop :=
  ∃ (J : VP) (μ : Value → World → Nat), J x7 w ∧ ∀ y7 w0, J y7 w0 → b19 R (fun z7 w1 => J z7 w1 ∧ μ z7 w1 < μ y7 w0) x2 x3 y7 w0
abbrev q11 (R : EP) : XP := QX (fun ρ w => b7 R (ρ 2) (ρ 3) w) (fun ρ w => R (.returned (ρ 4)) w) [(4, (fun ρ w => b7 R (ρ 2) (ρ 3) w))]
theorem l18_ok (R : EP) (ρ : Env) (w : World) (h : l18 R (ρ 2) (ρ 3) (ρ 7) w) : codeP Try.prog (pan R) (blkC p10) (q11 R) ρ w := by
  unfold l18 at h
  obtain ⟨J, μ, h0, hr⟩ := h
  have e : Code.loop (loopC (blkC p10)) = (blkC p10) := by kernel_rfl
  rw [← e]
  refine loopQ (fun ρ' w' => J (ρ' 7) w') (fun ρ' w' => μ (ρ' 7) w') h0 fun ρ' w' hA hI => ?_
  have e2 : ρ' 2 = ρ 2 := Agree.at hA 2 (by kernel_rfl)
  have e3 : ρ' 3 = ρ 3 := Agree.at hA 3 (by kernel_rfl)
  have h1 := hr (ρ' 7) w' hI
  rw [← e2, ← e3] at h1
  exact b19_ok R (fun z7 w1 => J z7 w1 ∧ μ z7 w1 < μ (ρ' 7) w') ρ' w' h1
theorem l18_intro (R : EP) (x2 x3 x7 : Value) (w : World) (J : VP) (μ : Value → World → Nat) (h0 : J x7 w)
    (hr : ∀ y7 w0, J y7 w0 → ∀ C18 : VP, (∀ z7 w1, J z7 w1 → μ z7 w1 < μ y7 w0 → C18 z7 w1) → b19 R C18 x2 x3 y7 w0) : l18 R x2 x3 x7 w := by
  unfold l18
  exact ⟨J, μ, h0, fun y7 w0 hJ => hr y7 w0 hJ _ (fun z7 w1 h1 h2 => ⟨h1, h2⟩)⟩
abbrev q12 (R : EP) : XP := QX (fun ρ w => b7 R (ρ 2) (ρ 3) w) (fun ρ w => R (.returned (ρ 4)) w) []
theorem k17_ok (R : EP) (ρ : Env) (w : World) (h : l18 R (ρ 2) (ρ 3) (ρ 7) w) : codeP Try.prog (pan R) p10 (q12 R) ρ w := by
  have e : Code.block 2 (blkC p10) = p10 := by kernel_rfl
  rw [← e]
  exact blockQ (l18_ok R ρ w h)

def b16 (R : EP) (x2 x3 : Value) (w : World) (_r : Tok R := tok R) : Prop :=
  l18 R x2 x3 (Go.Value.int Go.IntKind.i64 0) w
abbrev q13 (R : EP) : XP := QX (fun ρ w => l18 R (ρ 2) (ρ 3) (ρ 7) w) (fun ρ w => R (.returned (ρ 4)) w) []
theorem b16_eq (R : EP) (ρ : Env) (w : World) : (b16 R (ρ 2) (ρ 3) w) = codeP Try.prog (pan R) (preC 0 (fstC p2)) (q13 R) ρ w := by kernel_rfl
theorem b16_ok (R : EP) (ρ : Env) (w : World) (h : b16 R (ρ 2) (ρ 3) w) : codeP Try.prog (pan R) (fstC p2) (q12 R) ρ w := by
  have e : appC 0 (preC 0 (fstC p2)) (dropC 1 (fstC p2)) = (fstC p2) := by kernel_rfl
  rw [← e]
  exact appQ (fun ρ w => l18 R (ρ 2) (ρ 3) (ρ 7) w) 0 ((b16_eq R ρ w).mp h) (fun ρ w h => k17_ok R ρ w h)
theorem k4_ok (R : EP) (ρ : Env) (w : World) (h : b16 R (ρ 2) (ρ 3) w) : codeP Try.prog (pan R) p2 (q1 R) ρ w := by
  have e : Code.seq (fstC p2) (sndC p2) = p2 := by kernel_rfl
  rw [← e]
  exact seqQ (fun ρ w => b7 R (ρ 2) (ρ 3) w) (b16_ok R ρ w h) (fun ρ w h => k5_ok R ρ w h)
noncomputable abbrev p12 : Code := fstC (sndC p1)
noncomputable abbrev p13 : Code := dropC 1 p12
noncomputable abbrev p14 : Code := loopC (blkC p13)
def b23_1 (R : EP) (C22 : VP) (x2 x3 x6 : Value) (w8 : World) (_r : Tok R := tok R) (_C22 : Tok C22 := tok C22) : Prop :=
  PUR Try.prog (Instr.fieldAt 27 x2 0) fun v9 =>
  LD Try.prog (Instr.loadAt 22 v9) (World.drew w8) fun v10 =>
  PUR Try.prog (Instr.indexAt 22 v10 x6) fun v11 =>
  LD Try.prog (Instr.loadAt 106 v11) (World.drew w8) fun v12 =>
  PUR Try.prog (Instr.fieldAt 27 x3 0) fun v13 =>
  LD Try.prog (Instr.loadAt 22 v13) (World.drew w8) fun v14 =>
  PUR Try.prog (Instr.indexAt 22 v14 x6) fun v15 =>
  LD Try.prog (Instr.loadAt 106 v15) (World.drew w8) fun v16 =>
  PUR Try.prog (bins .neq 106 (.tmp 64) (.tmp 69) v12 v16) fun v17 =>
  SPL v17
  (R (.returned (Go.Value.bool Bool.false)) (World.drew w8))
  (RUN Try.prog (pan R) (bins .add 3 (.tmp 58) (.const (Go.Value.int Go.IntKind.i64 1)) x6 (Go.Value.int Go.IntKind.i64 1)) (World.drew w8) fun v18 w19 =>
  C22 v18 w19)

def b23 (R : EP) (C22 : VP) (x2 x3 x6 : Value) (w : World) (_r : Tok R := tok R) (_C22 : Tok C22 := tok C22) : Prop :=
  RUN Try.prog (pan R) (Instr.fieldAt 27 x2 0) w fun v1 w2 =>
  RUN Try.prog (pan R) (Instr.loadAt 22 v1) w2 fun v3 w4 =>
  RUN Try.prog (pan R) (Builtin.len_ #[22] 3 #[v3]) w4 fun v5 w6 =>
  RUN Try.prog (pan R) (bins .lss 3 (.tmp 53) (.tmp 56) x6 v5) w6 fun v7 w8 =>
  SPL v7
  (b23_1 R C22 x2 x3 x6 w8)
  (b16 R x2 x3 w8)
abbrev q14 (R : EP) (C22 : VP) : XP := QX (fun ρ w => C22 (ρ 6) w) (fun ρ w => R (.returned (ρ 4)) w) [(0, (fun ρ w => b16 R (ρ 2) (ρ 3) w))]
theorem b23_eq (R : EP) (C22 : VP) (ρ : Env) (w : World) : (b23 R C22 (ρ 2) (ρ 3) (ρ 6) w) = codeP Try.prog (pan R) p14 (q14 R C22) ρ w := by kernel_rfl
theorem b23_ok (R : EP) (C22 : VP) (ρ : Env) (w : World) (h : b23 R C22 (ρ 2) (ρ 3) (ρ 6) w) : codeP Try.prog (pan R) p14 (q14 R C22) ρ w := (b23_eq R C22 ρ w).mp h

def l22 (R : EP) (x2 x3 x6 : Value) (w : World) (_r : Tok R := tok R) : Prop :=
  ∃ (J : VP) (μ : Value → World → Nat), J x6 w ∧ ∀ y6 w0, J y6 w0 → b23 R (fun z6 w1 => J z6 w1 ∧ μ z6 w1 < μ y6 w0) x2 x3 y6 w0
abbrev q15 (R : EP) : XP := QX (fun ρ w => b16 R (ρ 2) (ρ 3) w) (fun ρ w => R (.returned (ρ 4)) w) [(0, (fun ρ w => b16 R (ρ 2) (ρ 3) w))]
theorem l22_ok (R : EP) (ρ : Env) (w : World) (h : l22 R (ρ 2) (ρ 3) (ρ 6) w) : codeP Try.prog (pan R) (blkC p13) (q15 R) ρ w := by
  unfold l22 at h
  obtain ⟨J, μ, h0, hr⟩ := h
  have e : Code.loop (loopC (blkC p13)) = (blkC p13) := by kernel_rfl
  rw [← e]
  refine loopQ (fun ρ' w' => J (ρ' 6) w') (fun ρ' w' => μ (ρ' 6) w') h0 fun ρ' w' hA hI => ?_
  have e2 : ρ' 2 = ρ 2 := Agree.at hA 2 (by kernel_rfl)
  have e3 : ρ' 3 = ρ 3 := Agree.at hA 3 (by kernel_rfl)
  have h1 := hr (ρ' 6) w' hI
  rw [← e2, ← e3] at h1
  exact b23_ok R (fun z6 w1 => J z6 w1 ∧ μ z6 w1 < μ (ρ' 6) w') ρ' w' h1
theorem l22_intro (R : EP) (x2 x3 x6 : Value) (w : World) (J : VP) (μ : Value → World → Nat) (h0 : J x6 w)
    (hr : ∀ y6 w0, J y6 w0 → ∀ C22 : VP, (∀ z6 w1, J z6 w1 → μ z6 w1 < μ y6 w0 → C22 z6 w1) → b23 R C22 x2 x3 y6 w0) : l22 R x2 x3 x6 w := by
  unfold l22
  exact ⟨J, μ, h0, fun y6 w0 hJ => hr y6 w0 hJ _ (fun z6 w1 h1 h2 => ⟨h1, h2⟩)⟩
abbrev q16 (R : EP) : XP := QX (fun ρ w => b16 R (ρ 2) (ρ 3) w) (fun ρ w => R (.returned (ρ 4)) w) []
theorem k21_ok (R : EP) (ρ : Env) (w : World) (h : l22 R (ρ 2) (ρ 3) (ρ 6) w) : codeP Try.prog (pan R) p13 (q16 R) ρ w := by
  have e : Code.block 0 (blkC p13) = p13 := by kernel_rfl
  rw [← e]
  exact blockQ (l22_ok R ρ w h)

def b20 (R : EP) (x2 x3 : Value) (w : World) (_r : Tok R := tok R) : Prop :=
  l22 R x2 x3 (Go.Value.int Go.IntKind.i64 0) w
abbrev q17 (R : EP) : XP := QX (fun ρ w => l22 R (ρ 2) (ρ 3) (ρ 6) w) (fun ρ w => R (.returned (ρ 4)) w) []
theorem b20_eq (R : EP) (ρ : Env) (w : World) : (b20 R (ρ 2) (ρ 3) w) = codeP Try.prog (pan R) (preC 0 p12) (q17 R) ρ w := by kernel_rfl
theorem b20_ok (R : EP) (ρ : Env) (w : World) (h : b20 R (ρ 2) (ρ 3) w) : codeP Try.prog (pan R) p12 (q16 R) ρ w := by
  have e : appC 0 (preC 0 p12) (dropC 1 p12) = p12 := by kernel_rfl
  rw [← e]
  exact appQ (fun ρ w => l22 R (ρ 2) (ρ 3) (ρ 6) w) 0 ((b20_eq R ρ w).mp h) (fun ρ w h => k21_ok R ρ w h)
theorem k3_ok (R : EP) (ρ : Env) (w : World) (h : b20 R (ρ 2) (ρ 3) w) : codeP Try.prog (pan R) (sndC p1) (q1 R) ρ w := by
  have e : Code.seq (fstC (sndC p1)) (sndC (sndC p1)) = (sndC p1) := by kernel_rfl
  rw [← e]
  exact seqQ (fun ρ w => b16 R (ρ 2) (ρ 3) w) (b20_ok R ρ w h) (fun ρ w h => k4_ok R ρ w h)
noncomputable abbrev p15 : Code := dropC 1 (fstC p1)

def b25 (R : EP) (x2 x3 x52 : Value) (w : World) (_r : Tok R := tok R) : Prop :=
  SPL x52
  (R (.returned (Go.Value.bool Bool.false)) w)
  (b20 R x2 x3 w)
abbrev q18 (R : EP) : XP := QX (fun ρ w => b20 R (ρ 2) (ρ 3) w) (fun ρ w => R (.returned (ρ 4)) w) []
theorem b25_eq (R : EP) (ρ : Env) (w : World) : (b25 R (ρ 2) (ρ 3) (ρ 52) w) = codeP Try.prog (pan R) p15 (q18 R) ρ w := by kernel_rfl
theorem b25_ok (R : EP) (ρ : Env) (w : World) (h : b25 R (ρ 2) (ρ 3) (ρ 52) w) : codeP Try.prog (pan R) p15 (q18 R) ρ w := (b25_eq R ρ w).mp h
def b24_1 (R : EP) (x2 x3 : Value) (w40 : World) (_r : Tok R := tok R) : Prop :=
  RUN Try.prog (pan R) (Instr.fieldAt 27 x2 4) w40 fun v41 w42 =>
  RUN Try.prog (pan R) (Instr.loadAt 25 v41) w42 fun v43 w44 =>
  RUN Try.prog (pan R) (Builtin.len_ #[25] 3 #[v43]) w44 fun v45 w46 =>
  RUN Try.prog (pan R) (Instr.fieldAt 27 x3 4) w46 fun v47 w48 =>
  RUN Try.prog (pan R) (Instr.loadAt 25 v47) w48 fun v49 w50 =>
  RUN Try.prog (pan R) (Builtin.len_ #[25] 3 #[v49]) w50 fun v51 w52 =>
  RUN Try.prog (pan R) (bins .neq 3 (.tmp 47) (.tmp 50) v45 v51) w52 fun v53 w54 =>
  b25 R x2 x3 v53 w54
def b24_2 (R : EP) (x2 x3 : Value) (w26 : World) (_r : Tok R := tok R) : Prop :=
  RUN Try.prog (pan R) (Instr.fieldAt 27 x2 1) w26 fun v27 w28 =>
  RUN Try.prog (pan R) (Instr.loadAt 23 v27) w28 fun v29 w30 =>
  RUN Try.prog (pan R) (Builtin.len_ #[23] 3 #[v29]) w30 fun v31 w32 =>
  RUN Try.prog (pan R) (Instr.fieldAt 27 x3 1) w32 fun v33 w34 =>
  RUN Try.prog (pan R) (Instr.loadAt 23 v33) w34 fun v35 w36 =>
  RUN Try.prog (pan R) (Builtin.len_ #[23] 3 #[v35]) w36 fun v37 w38 =>
  RUN Try.prog (pan R) (bins .neq 3 (.tmp 38) (.tmp 41) v31 v37) w38 fun v39 w40 =>
  SPL v39
  (b25 R x2 x3 (Go.Value.bool Bool.true) w40)
  (b24_1 R x2 x3 w40)
def b24_3 (R : EP) (x2 x3 : Value) (w12 : World) (_r : Tok R := tok R) : Prop :=
  RUN Try.prog (pan R) (Instr.fieldAt 27 x2 0) w12 fun v13 w14 =>
  RUN Try.prog (pan R) (Instr.loadAt 22 v13) w14 fun v15 w16 =>
  RUN Try.prog (pan R) (Builtin.len_ #[22] 3 #[v15]) w16 fun v17 w18 =>
  RUN Try.prog (pan R) (Instr.fieldAt 27 x3 0) w18 fun v19 w20 =>
  RUN Try.prog (pan R) (Instr.loadAt 22 v19) w20 fun v21 w22 =>
  RUN Try.prog (pan R) (Builtin.len_ #[22] 3 #[v21]) w22 fun v23 w24 =>
  RUN Try.prog (pan R) (bins .neq 3 (.tmp 29) (.tmp 32) v17 v23) w24 fun v25 w26 =>
  SPL v25
  (b25 R x2 x3 (Go.Value.bool Bool.true) w26)
  (b24_2 R x2 x3 w26)
def b24_4 (R : EP) (x2 x3 : Value) (w2 : World) (_r : Tok R := tok R) : Prop :=
  RUN Try.prog (pan R) (Instr.fieldAt 27 x2 3) w2 fun v3 w4 =>
  RUN Try.prog (pan R) (Instr.loadAt 3 v3) w4 fun v5 w6 =>
  RUN Try.prog (pan R) (Instr.fieldAt 27 x3 3) w6 fun v7 w8 =>
  RUN Try.prog (pan R) (Instr.loadAt 3 v7) w8 fun v9 w10 =>
  RUN Try.prog (pan R) (bins .neq 3 (.tmp 21) (.tmp 23) v5 v9) w10 fun v11 w12 =>
  SPL v11
  (b25 R x2 x3 (Go.Value.bool Bool.true) w12)
  (b24_3 R x2 x3 w12)

def b24 (R : EP) (x2 x3 x5 : Value) (w : World) (_r : Tok R := tok R) : Prop :=
  RUN Try.prog (pan R) (Op.unary .not x5) w fun v1 w2 =>
  SPL v1
  (b25 R x2 x3 (Go.Value.bool Bool.true) w2)
  (b24_4 R x2 x3 w2)
abbrev q19 (R : EP) : XP := QX (fun ρ w => b25 R (ρ 2) (ρ 3) (ρ 52) w) (fun ρ w => R (.returned (ρ 4)) w) []
theorem b24_eq (R : EP) (ρ : Env) (w : World) : (b24 R (ρ 2) (ρ 3) (ρ 5) w) = codeP Try.prog (pan R) (preC 0 (fstC p1)) (q19 R) ρ w := by kernel_rfl
theorem b24_ok (R : EP) (ρ : Env) (w : World) (h : b24 R (ρ 2) (ρ 3) (ρ 5) w) : codeP Try.prog (pan R) (fstC p1) (q18 R) ρ w := by
  have e : appC 0 (preC 0 (fstC p1)) (dropC 1 (fstC p1)) = (fstC p1) := by kernel_rfl
  rw [← e]
  exact appQ (fun ρ w => b25 R (ρ 2) (ρ 3) (ρ 52) w) 0 ((b24_eq R ρ w).mp h) (fun ρ w h => b25_ok R ρ w h)
theorem k2_ok (R : EP) (ρ : Env) (w : World) (h : b24 R (ρ 2) (ρ 3) (ρ 5) w) : codeP Try.prog (pan R) p1 (q1 R) ρ w := by
  have e : Code.seq (fstC p1) (sndC p1) = p1 := by kernel_rfl
  rw [← e]
  exact seqQ (fun ρ w => b20 R (ρ 2) (ρ 3) w) (b24_ok R ρ w h) (fun ρ w h => k3_ok R ρ w h)

def b1 (R : EP) (x0 x1 : Value) (w : World) (_r : Tok R := tok R) : Prop :=
  RUN Try.prog (pan R) (Instr.box 27 x0) w fun v1 w2 =>
  RUN Try.prog (pan R) (Instr.box 27 x1) w2 fun v3 w4 =>
  RUN Try.prog (pan R) (Instr.fieldAt 27 v1 2) w4 fun v5 w6 =>
  RUN Try.prog (pan R) (Instr.loadAt 24 v5) w6 fun v7 w8 =>
  RUN Try.prog (pan R) (Instr.fieldAt 27 v3 2) w8 fun v9 w10 =>
  RUN Try.prog (pan R) (Instr.loadAt 24 v9) w10 fun v11 w12 =>
  CALL Try.prog (pan R) ref02_SameInts.id #[v7, v11] w12 fun v13 w14 =>
  b24 R v1 v3 v13 w14
abbrev q20 (R : EP) : XP := QX (fun ρ w => b24 R (ρ 2) (ρ 3) (ρ 5) w) (fun ρ w => R (.returned (ρ 4)) w) []
theorem b1_eq (R : EP) (ρ : Env) (w : World) : (b1 R (ρ 0) (ρ 1) w) = codeP Try.prog (pan R) (preC 1 code) (q20 R) ρ w := by kernel_rfl
theorem b1_ok (R : EP) (ρ : Env) (w : World) (h : b1 R (ρ 0) (ρ 1) w) : codeP Try.prog (pan R) code (q1 R) ρ w := by
  have e : appC 1 (preC 1 code) (dropC 2 code) = code := by kernel_rfl
  rw [← e]
  exact appQ (fun ρ w => b24 R (ρ 2) (ρ 3) (ρ 5) w) 1 ((b1_eq R ρ w).mp h) (fun ρ w h => k2_ok R ρ w h)
/-- What is owed for a call. -/
def run (R : EP) (a0 a1 : Value) (w : World) : Prop := b1 R a0 a1 w
theorem calls (R : EP) (a0 a1 : Value) (w : World) (h : run R a0 a1 w) : Calls Try.prog id #[a0, a1] w R :=
  calls_of_t (f := id) (fn := Try.f18) (c := code) (by kernel_rfl) Try.func18 (by kernel_rfl) (by kernel_rfl) (args := [a0, a1]) (Nat.le_of_ble_eq_true rfl) rfl (b1_ok R (envOf [a0, a1]) w h)
theorem enters : Enters Try.prog id := fun args w => Try.call18 args w
theorem ct {a0 a1 : Value} {w : World} {S : VP} (h : ∀ R : EP, (∀ v w, S v w → R (.returned v) w) → run R a0 a1 w) : Ct Try.prog id #[a0, a1] w S :=
  Ct.intro enters fun R hR => calls R a0 a1 w (h R hR)
attribute [irreducible] b6 b12 b15 b14_1 b14_2 b14 b10 l9 b7 b19_1 b19 l18 b16 b23_1 b23 l22 b20 b25 b24_1 b24_2 b24_3 b24_4 b24 b1 run
attribute [go_sem] b6 b12 b15 b14_1 b14_2 b14 b10 b7 b19_1 b19 b16 b23_1 b23 b20 b25 b24_1 b24_2 b24_3 b24_4 b24 b1 run
end ref02_Same

/-! ### presage/presageref02.Valid -/
namespace ref02_Valid
noncomputable def code : Code := bodyOf Try.f20
noncomputable abbrev p1 : Code := dropC 4 code

def b3 (R : EP) (w : World) (_r : Tok R := tok R) : Prop :=
  R (.returned (Go.Value.bool Bool.true)) w
abbrev q1 (R : EP) : XP := QX (fun ρ w => R (.returned (ρ 2)) w) (fun ρ w => R (.returned (ρ 2)) w) []
theorem b3_eq (R : EP) (ρ : Env) (w : World) : (b3 R w) = codeP Try.prog (pan R) (sndC p1) (q1 R) ρ w := by kernel_rfl
theorem b3_ok (R : EP) (ρ : Env) (w : World) (h : b3 R w) : codeP Try.prog (pan R) (sndC p1) (q1 R) ρ w := (b3_eq R ρ w).mp h
noncomputable abbrev p2 : Code := dropC 1 (fstC p1)
noncomputable abbrev p3 : Code := loopC (blkC p2)
def b7_1 (R : EP) (C6 : VP) (x1 x4 x5 : Value) (w4 : World) (_r : Tok R := tok R) (_C6 : Tok C6 := tok C6) : Prop :=
  PUR Try.prog (Instr.indexAt 24 x4 x5) fun v5 =>
  LD Try.prog (Instr.loadAt 3 v5) (World.drew w4) fun v6 =>
  PUR Try.prog (Instr.fieldAt 27 x1 0) fun v7 =>
  LD Try.prog (Instr.loadAt 22 v7) (World.drew w4) fun v8 =>
  LD Try.prog (Builtin.len_ #[22] 3 #[v8]) (World.drew w4) fun v9 =>
  PUR Try.prog (bins .add 3 (.tmp 24) (.tmp 25) v9 x5) fun v10 =>
  PUR Try.prog (bins .neq 3 (.tmp 21) (.tmp 26) v6 v10) fun v11 =>
  SPL v11
  (R (.returned (Go.Value.bool Bool.false)) (World.drew w4))
  (RUN Try.prog (pan R) (bins .add 3 (.tmp 16) (.const (Go.Value.int Go.IntKind.i64 1)) x5 (Go.Value.int Go.IntKind.i64 1)) (World.drew w4) fun v12 w13 =>
  C6 v12 w13)
def b7 (R : EP) (C6 : VP) (x1 x4 x5 : Value) (w : World) (_r : Tok R := tok R) (_C6 : Tok C6 := tok C6) : Prop :=
  RUN Try.prog (pan R) (Builtin.len_ #[24] 3 #[x4]) w fun v1 w2 =>
  RUN Try.prog (pan R) (bins .lss 3 (.tmp 12) (.tmp 14) x5 v1) w2 fun v3 w4 =>
  SPL v3
  (b7_1 R C6 x1 x4 x5 w4)
  (b3 R w4)
abbrev q2 (R : EP) (C6 : VP) : XP := QX (fun ρ w => C6 (ρ 5) w) (fun ρ w => R (.returned (ρ 2)) w) [(0, (fun ρ w => b3 R  w))]
theorem b7_eq (R : EP) (C6 : VP) (ρ : Env) (w : World) : (b7 R C6 (ρ 1) (ρ 4) (ρ 5) w) = codeP Try.prog (pan R) p3 (q2 R C6) ρ w := by kernel_rfl
theorem b7_ok (R : EP) (C6 : VP) (ρ : Env) (w : World) (h : b7 R C6 (ρ 1) (ρ 4) (ρ 5) w) : codeP Try.prog (pan R) p3 (q2 R C6) ρ w := (b7_eq R C6 ρ w).mp h
def l6 (R : EP) (x1 x4 x5 : Value) (w : World) (_r : Tok R := tok R) : Prop :=
  ∃ (J : VP) (μ : Value → World → Nat), J x5 w ∧ ∀ y5 w0, J y5 w0 → b7 R (fun z5 w1 => J z5 w1 ∧ μ z5 w1 < μ y5 w0) x1 x4 y5 w0
abbrev q3 (R : EP) : XP := QX (fun ρ w => b3 R  w) (fun ρ w => R (.returned (ρ 2)) w) [(0, (fun ρ w => b3 R  w))]
theorem l6_ok (R : EP) (ρ : Env) (w : World) (h : l6 R (ρ 1) (ρ 4) (ρ 5) w) : codeP Try.prog (pan R) (blkC p2) (q3 R) ρ w := by
  unfold l6 at h
  obtain ⟨J, μ, h0, hr⟩ := h
  have e : Code.loop (loopC (blkC p2)) = (blkC p2) := by kernel_rfl
  rw [← e]
  refine loopQ (fun ρ' w' => J (ρ' 5) w') (fun ρ' w' => μ (ρ' 5) w') h0 fun ρ' w' hA hI => ?_
  have e1 : ρ' 1 = ρ 1 := Agree.at hA 1 (by kernel_rfl)
  have e4 : ρ' 4 = ρ 4 := Agree.at hA 4 (by kernel_rfl)
  have h1 := hr (ρ' 5) w' hI
  rw [← e1, ← e4] at h1
  exact b7_ok R (fun z5 w1 => J z5 w1 ∧ μ z5 w1 < μ (ρ' 5) w') ρ' w' h1
theorem l6_intro (R : EP) (x1 x4 x5 : Value) (w : World) (J : VP) (μ : Value → World → Nat) (h0 : J x5 w)
    (hr : ∀ y5 w0, J y5 w0 → ∀ C6 : VP, (∀ z5 w1, J z5 w1 → μ z5 w1 < μ y5 w0 → C6 z5 w1) → b7 R C6 x1 x4 y5 w0) : l6 R x1 x4 x5 w := by
  unfold l6
  exact ⟨J, μ, h0, fun y5 w0 hJ => hr y5 w0 hJ _ (fun z5 w1 h1 h2 => ⟨h1, h2⟩)⟩
abbrev q4 (R : EP) : XP := QX (fun ρ w => b3 R  w) (fun ρ w => R (.returned (ρ 2)) w) []
theorem k5_ok (R : EP) (ρ : Env) (w : World) (h : l6 R (ρ 1) (ρ 4) (ρ 5) w) : codeP Try.prog (pan R) p2 (q4 R) ρ w := by
  have e : Code.block 0 (blkC p2) = p2 := by kernel_rfl
  rw [← e]
  exact blockQ (l6_ok R ρ w h)
def b4 (R : EP) (x1 x4 : Value) (w : World) (_r : Tok R := tok R) : Prop :=
  l6 R x1 x4 (Go.Value.int Go.IntKind.i64 0) w
abbrev q5 (R : EP) : XP := QX (fun ρ w => l6 R (ρ 1) (ρ 4) (ρ 5) w) (fun ρ w => R (.returned (ρ 2)) w) []
theorem b4_eq (R : EP) (ρ : Env) (w : World) : (b4 R (ρ 1) (ρ 4) w) = codeP Try.prog (pan R) (preC 0 (fstC p1)) (q5 R) ρ w := by kernel_rfl
theorem b4_ok (R : EP) (ρ : Env) (w : World) (h : b4 R (ρ 1) (ρ 4) w) : codeP Try.prog (pan R) (fstC p1) (q4 R) ρ w := by
  have e : appC 0 (preC 0 (fstC p1)) (dropC 1 (fstC p1)) = (fstC p1) := by kernel_rfl
  rw [← e]
  exact appQ (fun ρ w => l6 R (ρ 1) (ρ 4) (ρ 5) w) 0 ((b4_eq R ρ w).mp h) (fun ρ w h => k5_ok R ρ w h)
theorem k2_ok (R : EP) (ρ : Env) (w : World) (h : b4 R (ρ 1) (ρ 4) w) : codeP Try.prog (pan R) p1 (q1 R) ρ w := by
  have e : Code.seq (fstC p1) (sndC p1) = p1 := by kernel_rfl
  rw [← e]
  exact seqQ (fun ρ w => b3 R  w) (b4_ok R ρ w h) (fun ρ w h => b3_ok R ρ w h)
def b1_1 (R : EP) (v1 : Value) (w8 : World) (_r : Tok R := tok R) : Prop :=
  RUN Try.prog (pan R) (Instr.loadAt 27 v1) w8 fun v9 w10 =>
  CALL Try.prog (pan R) ref02_lefts.id #[v9, (Go.Value.int Go.IntKind.i64 0)] w10 fun v11 w12 =>
  b4 R v1 v11 w12
def b1 (R : EP) (x0 : Value) (w : World) (_r : Tok R := tok R) : Prop :=
  RUN Try.prog (pan R) (Instr.box 27 x0) w fun v1 w2 =>
  RUN Try.prog (pan R) (Instr.loadAt 27 v1) w2 fun v3 w4 =>
  CALL Try.prog (pan R) ref02_fits.id #[v3, (Go.Value.int Go.IntKind.i64 0)] w4 fun v5 w6 =>
  RUN Try.prog (pan R) (Op.unary .not v5) w6 fun v7 w8 =>
  SPL v7
  (R (.returned (Go.Value.bool Bool.false)) w8)
  (b1_1 R v1 w8)
abbrev q6 (R : EP) : XP := QX (fun ρ w => b4 R (ρ 1) (ρ 4) w) (fun ρ w => R (.returned (ρ 2)) w) []
theorem b1_eq (R : EP) (ρ : Env) (w : World) : (b1 R (ρ 0) w) = codeP Try.prog (pan R) (preC 3 code) (q6 R) ρ w := by kernel_rfl
theorem b1_ok (R : EP) (ρ : Env) (w : World) (h : b1 R (ρ 0) w) : codeP Try.prog (pan R) code (q1 R) ρ w := by
  have e : appC 3 (preC 3 code) (dropC 4 code) = code := by kernel_rfl
  rw [← e]
  exact appQ (fun ρ w => b4 R (ρ 1) (ρ 4) w) 3 ((b1_eq R ρ w).mp h) (fun ρ w h => k2_ok R ρ w h)
/-- What is owed for a call. -/
def run (R : EP) (a0 : Value) (w : World) : Prop := b1 R a0 w
theorem calls (R : EP) (a0 : Value) (w : World) (h : run R a0 w) : Calls Try.prog id #[a0] w R :=
  calls_of_t (f := id) (fn := Try.f20) (c := code) (by kernel_rfl) Try.func20 (by kernel_rfl) (by kernel_rfl) (args := [a0]) (Nat.le_of_ble_eq_true rfl) rfl (b1_ok R (envOf [a0]) w h)
theorem enters : Enters Try.prog id := fun args w => Try.call20 args w
theorem ct {a0 : Value} {w : World} {S : VP} (h : ∀ R : EP, (∀ v w, S v w → R (.returned v) w) → run R a0 w) : Ct Try.prog id #[a0] w S :=
  Ct.intro enters fun R hR => calls R a0 w (h R hR)
attribute [irreducible] b3 b7_1 b7 l6 b4 b1_1 b1 run
attribute [go_sem] b3 b7_1 b7 b4 b1_1 b1 run
end ref02_Valid




/-! ### presage/presageref02.Closed -/
namespace ref02_Closed
noncomputable def code : Code := bodyOf Try.f45
noncomputable abbrev p1 : Code := dropC 1 code
noncomputable abbrev p2 : Code := dropC 1 (sndC p1)
def b5 (R : EP) (x1 : Value) (w : World) (_r : Tok R := tok R) : Prop :=
  RUN Try.prog (pan R) (Instr.loadAt 27 x1) w fun v1 w2 =>
  CALL Try.prog (pan R) ref02_fits.id #[v1, (Go.Value.int Go.IntKind.i64 1)] w2 fun v3 w4 =>
  R (.returned v3) w4
abbrev q1 (R : EP) : XP := QX (fun ρ w => R (.returned (ρ 2)) w) (fun ρ w => R (.returned (ρ 2)) w) []
theorem b5_eq (R : EP) (ρ : Env) (w : World) : (b5 R (ρ 1) w) = codeP Try.prog (pan R) (sndC p2) (q1 R) ρ w := by kernel_rfl
theorem b5_ok (R : EP) (ρ : Env) (w : World) (h : b5 R (ρ 1) w) : codeP Try.prog (pan R) (sndC p2) (q1 R) ρ w := (b5_eq R ρ w).mp h
noncomputable abbrev p3 : Code := dropC 1 (fstC p2)
def b7 (R : EP) (x1 x50 : Value) (w : World) (_r : Tok R := tok R) : Prop :=
  SPL x50
  (R (.returned (Go.Value.bool Bool.false)) w)
  (b5 R x1 w)
abbrev q2 (R : EP) : XP := QX (fun ρ w => b5 R (ρ 1) w) (fun ρ w => R (.returned (ρ 2)) w) []
theorem b7_eq (R : EP) (ρ : Env) (w : World) : (b7 R (ρ 1) (ρ 50) w) = codeP Try.prog (pan R) p3 (q2 R) ρ w := by kernel_rfl
theorem b7_ok (R : EP) (ρ : Env) (w : World) (h : b7 R (ρ 1) (ρ 50) w) : codeP Try.prog (pan R) p3 (q2 R) ρ w := (b7_eq R ρ w).mp h
def b6_1 (R : EP) (x1 x3 : Value) (w : World) (_r : Tok R := tok R) : Prop :=
  PUR Try.prog (Instr.fieldAt 47 x3 2) fun v18 =>
  LD Try.prog (Instr.loadAt 3 v18) (World.drew w) fun v19 =>
  PUR Try.prog (bins .neq 3 (.tmp 48) (.const (Go.Value.int Go.IntKind.i64 0)) v19 (Go.Value.int Go.IntKind.i64 0)) fun v20 =>
  b7 R x1 v20 (World.drew w)
def b6_2 (R : EP) (x1 x3 : Value) (w : World) (_r : Tok R := tok R) : Prop :=
  PUR Try.prog (Instr.fieldAt 47 x3 1) fun v11 =>
  LD Try.prog (Instr.loadAt 24 v11) (World.drew w) fun v12 =>
  PUR Try.prog (Instr.indexAt 24 v12 (Go.Value.int Go.IntKind.i64 0)) fun v13 =>
  LD Try.prog (Instr.loadAt 3 v13) (World.drew w) fun v14 =>
  PUR Try.prog (Instr.fieldAt 27 x1 3) fun v15 =>
  LD Try.prog (Instr.loadAt 3 v15) (World.drew w) fun v16 =>
  PUR Try.prog (bins .neq 3 (.tmp 41) (.tmp 43) v14 v16) fun v17 =>
  SPL v17
  (b7 R x1 (Go.Value.bool Bool.true) (World.drew w))
  (b6_1 R x1 x3 w)
def b6_3 (R : EP) (x1 x3 : Value) (w : World) (_r : Tok R := tok R) : Prop :=
  PUR Try.prog (Instr.fieldAt 47 x3 1) fun v7 =>
  LD Try.prog (Instr.loadAt 24 v7) (World.drew w) fun v8 =>
  LD Try.prog (Builtin.len_ #[24] 3 #[v8]) (World.drew w) fun v9 =>
  PUR Try.prog (bins .neq 3 (.tmp 34) (.const (Go.Value.int Go.IntKind.i64 1)) v9 (Go.Value.int Go.IntKind.i64 1)) fun v10 =>
  SPL v10
  (b7 R x1 (Go.Value.bool Bool.true) (World.drew w))
  (b6_2 R x1 x3 w)
def b6 (R : EP) (x1 x3 : Value) (w : World) (_r : Tok R := tok R) : Prop :=
  PUR Try.prog (Instr.fieldAt 47 x3 0) fun v1 =>
  LD Try.prog (Instr.loadAt 3 v1) (World.drew w) fun v2 =>
  PUR Try.prog (Instr.fieldAt 27 x1 0) fun v3 =>
  LD Try.prog (Instr.loadAt 22 v3) (World.drew w) fun v4 =>
  LD Try.prog (Builtin.len_ #[22] 3 #[v4]) (World.drew w) fun v5 =>
  PUR Try.prog (bins .neq 3 (.tmp 26) (.tmp 29) v2 v5) fun v6 =>
  SPL v6
  (b7 R x1 (Go.Value.bool Bool.true) (World.drew w))
  (b6_3 R x1 x3 w)
abbrev q3 (R : EP) : XP := QX (fun ρ w => b7 R (ρ 1) (ρ 50) w) (fun ρ w => R (.returned (ρ 2)) w) []
theorem b6_eq (R : EP) (ρ : Env) (w : World) : (b6 R (ρ 1) (ρ 3) w) = codeP Try.prog (pan R) (preC 0 (fstC p2)) (q3 R) ρ w := by kernel_rfl
theorem b6_ok (R : EP) (ρ : Env) (w : World) (h : b6 R (ρ 1) (ρ 3) w) : codeP Try.prog (pan R) (fstC p2) (q2 R) ρ w := by
  have e : appC 0 (preC 0 (fstC p2)) (dropC 1 (fstC p2)) = (fstC p2) := by kernel_rfl
  rw [← e]
  exact appQ (fun ρ w => b7 R (ρ 1) (ρ 50) w) 0 ((b6_eq R ρ w).mp h) (fun ρ w h => b7_ok R ρ w h)
theorem k4_ok (R : EP) (ρ : Env) (w : World) (h : b6 R (ρ 1) (ρ 3) w) : codeP Try.prog (pan R) p2 (q1 R) ρ w := by
  have e : Code.seq (fstC p2) (sndC p2) = p2 := by kernel_rfl
  rw [← e]
  exact seqQ (fun ρ w => b5 R (ρ 1) w) (b6_ok R ρ w h) (fun ρ w h => b5_ok R ρ w h)
def b3 (R : EP) (x1 : Value) (w : World) (_r : Tok R := tok R) : Prop :=
  RUN Try.prog (pan R) (Instr.fieldAt 27 x1 4) w fun v1 w2 =>
  RUN Try.prog (pan R) (Instr.loadAt 25 v1) w2 fun v3 w4 =>
  RUN Try.prog (pan R) (Instr.indexAt 25 v3 (Go.Value.int Go.IntKind.i64 0)) w4 fun v5 w6 =>
  RUN Try.prog (pan R) (Instr.loadAt 47 v5) w6 fun v7 w8 =>
  RUN Try.prog (pan R) (Instr.alloc 47 true (.tuple #[])) w8 fun v9 w10 =>
  RUNU Try.prog (pan R) (Instr.storeAt 47 v9 v7) w10 fun w11 =>
  b6 R x1 v9 w11
abbrev q4 (R : EP) : XP := QX (fun ρ w => b6 R (ρ 1) (ρ 3) w) (fun ρ w => R (.returned (ρ 2)) w) []
theorem b3_eq (R : EP) (ρ : Env) (w : World) : (b3 R (ρ 1) w) = codeP Try.prog (pan R) (preC 0 (sndC p1)) (q4 R) ρ w := by kernel_rfl
theorem b3_ok (R : EP) (ρ : Env) (w : World) (h : b3 R (ρ 1) w) : codeP Try.prog (pan R) (sndC p1) (q1 R) ρ w := by
  have e : appC 0 (preC 0 (sndC p1)) (dropC 1 (sndC p1)) = (sndC p1) := by kernel_rfl
  rw [← e]
  exact appQ (fun ρ w => b6 R (ρ 1) (ρ 3) w) 0 ((b3_eq R ρ w).mp h) (fun ρ w h => k4_ok R ρ w h)
noncomputable abbrev p4 : Code := dropC 1 (fstC p1)
def b9 (R : EP) (x1 x20 : Value) (w : World) (_r : Tok R := tok R) : Prop :=
  SPL x20
  (R (.returned (Go.Value.bool Bool.false)) w)
  (b3 R x1 w)
abbrev q5 (R : EP) : XP := QX (fun ρ w => b3 R (ρ 1) w) (fun ρ w => R (.returned (ρ 2)) w) []
theorem b9_eq (R : EP) (ρ : Env) (w : World) : (b9 R (ρ 1) (ρ 20) w) = codeP Try.prog (pan R) p4 (q5 R) ρ w := by kernel_rfl
theorem b9_ok (R : EP) (ρ : Env) (w : World) (h : b9 R (ρ 1) (ρ 20) w) : codeP Try.prog (pan R) p4 (q5 R) ρ w := (b9_eq R ρ w).mp h
def b8_1 (R : EP) (x1 : Value) (w18 : World) (_r : Tok R := tok R) : Prop :=
  RUN Try.prog (pan R) (Instr.fieldAt 27 x1 4) w18 fun v19 w20 =>
  RUN Try.prog (pan R) (Instr.loadAt 25 v19) w20 fun v21 w22 =>
  RUN Try.prog (pan R) (Builtin.len_ #[25] 3 #[v21]) w22 fun v23 w24 =>
  RUN Try.prog (pan R) (bins .lss 3 (.tmp 18) (.const (Go.Value.int Go.IntKind.i64 2)) v23 (Go.Value.int Go.IntKind.i64 2)) w24 fun v25 w26 =>
  b9 R x1 v25 w26
def b8_2 (R : EP) (x1 : Value) (w8 : World) (_r : Tok R := tok R) : Prop :=
  RUN Try.prog (pan R) (Instr.fieldAt 27 x1 1) w8 fun v9 w10 =>
  RUN Try.prog (pan R) (Instr.loadAt 23 v9) w10 fun v11 w12 =>
  RUN Try.prog (pan R) (Instr.indexAt 23 v11 (Go.Value.int Go.IntKind.i64 0)) w12 fun v13 w14 =>
  RUN Try.prog (pan R) (Instr.loadAt 9 v13) w14 fun v15 w16 =>
  RUN Try.prog (pan R) (bins .neq 9 (.tmp 12) (.const (Go.Value.string { data := #[] })) v15 (Go.Value.string { data := #[] })) w16 fun v17 w18 =>
  SPL v17
  (b9 R x1 (Go.Value.bool Bool.true) w18)
  (b8_1 R x1 w18)
def b8 (R : EP) (x1 : Value) (w : World) (_r : Tok R := tok R) : Prop :=
  RUN Try.prog (pan R) (Instr.fieldAt 27 x1 1) w fun v1 w2 =>
  RUN Try.prog (pan R) (Instr.loadAt 23 v1) w2 fun v3 w4 =>
  RUN Try.prog (pan R) (Builtin.len_ #[23] 3 #[v3]) w4 fun v5 w6 =>
  RUN Try.prog (pan R) (bins .lss 3 (.tmp 6) (.const (Go.Value.int Go.IntKind.i64 2)) v5 (Go.Value.int Go.IntKind.i64 2)) w6 fun v7 w8 =>
  SPL v7
  (b9 R x1 (Go.Value.bool Bool.true) w8)
  (b8_2 R x1 w8)
abbrev q6 (R : EP) : XP := QX (fun ρ w => b9 R (ρ 1) (ρ 20) w) (fun ρ w => R (.returned (ρ 2)) w) []
theorem b8_eq (R : EP) (ρ : Env) (w : World) : (b8 R (ρ 1) w) = codeP Try.prog (pan R) (preC 0 (fstC p1)) (q6 R) ρ w := by kernel_rfl
theorem b8_ok (R : EP) (ρ : Env) (w : World) (h : b8 R (ρ 1) w) : codeP Try.prog (pan R) (fstC p1) (q5 R) ρ w := by
  have e : appC 0 (preC 0 (fstC p1)) (dropC 1 (fstC p1)) = (fstC p1) := by kernel_rfl
  rw [← e]
  exact appQ (fun ρ w => b9 R (ρ 1) (ρ 20) w) 0 ((b8_eq R ρ w).mp h) (fun ρ w h => b9_ok R ρ w h)
theorem k2_ok (R : EP) (ρ : Env) (w : World) (h : b8 R (ρ 1) w) : codeP Try.prog (pan R) p1 (q1 R) ρ w := by
  have e : Code.seq (fstC p1) (sndC p1) = p1 := by kernel_rfl
  rw [← e]
  exact seqQ (fun ρ w => b3 R (ρ 1) w) (b8_ok R ρ w h) (fun ρ w h => b3_ok R ρ w h)
def b1 (R : EP) (x0 : Value) (w : World) (_r : Tok R := tok R) : Prop :=
  RUN Try.prog (pan R) (Instr.box 27 x0) w fun v1 w2 =>
  b8 R v1 w2
abbrev q7 (R : EP) : XP := QX (fun ρ w => b8 R (ρ 1) w) (fun ρ w => R (.returned (ρ 2)) w) []
theorem b1_eq (R : EP) (ρ : Env) (w : World) : (b1 R (ρ 0) w) = codeP Try.prog (pan R) (preC 0 code) (q7 R) ρ w := by kernel_rfl
theorem b1_ok (R : EP) (ρ : Env) (w : World) (h : b1 R (ρ 0) w) : codeP Try.prog (pan R) code (q1 R) ρ w := by
  have e : appC 0 (preC 0 code) (dropC 1 code) = code := by kernel_rfl
  rw [← e]
  exact appQ (fun ρ w => b8 R (ρ 1) w) 0 ((b1_eq R ρ w).mp h) (fun ρ w h => k2_ok R ρ w h)
/-- What is owed for a call. -/
def run (R : EP) (a0 : Value) (w : World) : Prop := b1 R a0 w
theorem calls (R : EP) (a0 : Value) (w : World) (h : run R a0 w) : Calls Try.prog id #[a0] w R :=
  calls_of_t (f := id) (fn := Try.f45) (c := code) (by kernel_rfl) Try.func45 (by kernel_rfl) (by kernel_rfl) (args := [a0]) (Nat.le_of_ble_eq_true rfl) rfl (b1_ok R (envOf [a0]) w h)
theorem enters : Enters Try.prog id := fun args w => Try.call45 args w
theorem ct {a0 : Value} {w : World} {S : VP} (h : ∀ R : EP, (∀ v w, S v w → R (.returned v) w) → run R a0 w) : Ct Try.prog id #[a0] w S :=
  Ct.intro enters fun R hR => calls R a0 w (h R hR)
attribute [irreducible] b5 b7 b6_1 b6_2 b6_3 b6 b3 b9 b8_1 b8_2 b8 b1 run
attribute [go_sem] b5 b7 b6_1 b6_2 b6_3 b6 b3 b9 b8_1 b8_2 b8 b1 run
end ref02_Closed

/-! ### presage/presageref02.fits -/
namespace ref02_fits
noncomputable def code : Code := bodyOf Try.f76
noncomputable abbrev p1 : Code := dropC 1 code
def b3_1 (R : EP) (x2 : Value) (w50 : World) (_r : Tok R := tok R) : Prop :=
  PUR Try.prog (Instr.fieldAt 27 x2 3) fun v64 =>
  LD Try.prog (Instr.loadAt 3 v64) (World.drew w50) fun v65 =>
  LD Try.prog (Instr.loadAt 27 x2) (World.drew w50) fun v66 =>
  CALL Try.prog (pan R) ref02_Symbols.id #[v66] (World.drew w50) fun v67 w68 =>
  Sem.run Try.prog (Instr.loadAt 3 v64) w68 = .ok v65 w68 ∧ (PUR Try.prog (bins .lss 3 (.tmp 104) (.tmp 106) v65 v67) fun v69 =>
  R (.returned v69) w68)
def b3_2 (R : EP) (x1 x2 : Value) (w50 : World) (_r : Tok R := tok R) : Prop :=
  PUR Try.prog (Instr.fieldAt 27 x2 3) fun v57 =>
  LD Try.prog (Instr.loadAt 3 v57) (World.drew w50) fun v58 =>
  PUR Try.prog (Instr.fieldAt 27 x2 0) fun v59 =>
  LD Try.prog (Instr.loadAt 22 v59) (World.drew w50) fun v60 =>
  LD Try.prog (Builtin.len_ #[22] 3 #[v60]) (World.drew w50) fun v61 =>
  PUR Try.prog (bins .add 3 (.tmp 97) (.tmp 98) v61 x1) fun v62 =>
  PUR Try.prog (bins .geq 3 (.tmp 94) (.tmp 99) v58 v62) fun v63 =>
  SPL v63
  (b3_1 R x2 w50)
  (R (.returned (Go.Value.bool Bool.false)) (World.drew w50))
def b3_3 (R : EP) (x1 x2 v49 : Value) (w50 : World) (_r : Tok R := tok R) : Prop :=
  LD Try.prog (Builtin.len_ #[24] 3 #[v49]) (World.drew w50) fun v51 =>
  PUR Try.prog (Instr.fieldAt 27 x2 1) fun v52 =>
  LD Try.prog (Instr.loadAt 23 v52) (World.drew w50) fun v53 =>
  LD Try.prog (Builtin.len_ #[23] 3 #[v53]) (World.drew w50) fun v54 =>
  PUR Try.prog (bins .sub 3 (.tmp 87) (.tmp 88) v54 x1) fun v55 =>
  PUR Try.prog (bins .eql 3 (.tmp 84) (.tmp 89) v51 v55) fun v56 =>
  SPL v56
  (b3_2 R x1 x2 w50)
  (R (.returned (Go.Value.bool Bool.false)) (World.drew w50))
def b3_4 (R : EP) (x1 x2 v29 v33 v45 : Value) (w46 : World) (_r : Tok R := tok R) : Prop :=
  RUN Try.prog (pan R) (Instr.loadAt 27 x2) w46 fun v47 w48 =>
  CALL Try.prog (pan R) ref02_lefts.id #[v47, x1] w48 fun v49 w50 =>
  SPL v29
  (SPL v33
  (SPL v45
  (b3_3 R x1 x2 v49 w50)
  (R (.returned (Go.Value.bool Bool.false)) (World.drew w50)))
  (R (.returned (Go.Value.bool Bool.false)) (World.drew w50)))
  (R (.returned (Go.Value.bool Bool.false)) (World.drew w50))
def b3_5 (R : EP) (x1 x2 v29 v33 : Value) (w34 : World) (_r : Tok R := tok R) : Prop :=
  RUN Try.prog (pan R) (Instr.loadAt 27 x2) w34 fun v35 w36 =>
  RUN Try.prog (pan R) (Instr.fieldAt 27 x2 0) w36 fun v37 w38 =>
  RUN Try.prog (pan R) (Instr.loadAt 22 v37) w38 fun v39 w40 =>
  RUN Try.prog (pan R) (Builtin.len_ #[22] 3 #[v39]) w40 fun v41 w42 =>
  RUN Try.prog (pan R) (bins .add 3 (.tmp 68) (.tmp 69) v41 x1) w42 fun v43 w44 =>
  CALL Try.prog (pan R) ref02_prodsFit.id #[v35, x1, v43] w44 fun v45 w46 =>
  b3_4 R x1 x2 v29 v33 v45 w46
def b3_6 (R : EP) (x1 x2 v29 : Value) (w30 : World) (_r : Tok R := tok R) : Prop :=
  RUN Try.prog (pan R) (Instr.loadAt 27 x2) w30 fun v31 w32 =>
  CALL Try.prog (pan R) ref02_nonsFit.id #[v31, x1] w32 fun v33 w34 =>
  b3_5 R x1 x2 v29 v33 w34
def b3_7 (R : EP) (x1 x2 : Value) (w26 : World) (_r : Tok R := tok R) : Prop :=
  RUN Try.prog (pan R) (Instr.loadAt 27 x2) w26 fun v27 w28 =>
  CALL Try.prog (pan R) ref02_levelsFit.id #[v27] w28 fun v29 w30 =>
  b3_6 R x1 x2 v29 w30
def b3_8 (R : EP) (x1 x2 : Value) (w20 : World) (_r : Tok R := tok R) : Prop :=
  RUN Try.prog (pan R) (Instr.loadAt 27 x2) w20 fun v21 w22 =>
  CALL Try.prog (pan R) ref02_termsFit.id #[v21] w22 fun v23 w24 =>
  RUN Try.prog (pan R) (Op.unary .not v23) w24 fun v25 w26 =>
  SPL v25
  (R (.returned (Go.Value.bool Bool.false)) w26)
  (b3_7 R x1 x2 w26)

def b3 (R : EP) (x1 x2 : Value) (w : World) (_r : Tok R := tok R) : Prop :=
  RUN Try.prog (pan R) (Instr.fieldAt 27 x2 0) w fun v1 w2 =>
  RUN Try.prog (pan R) (Instr.loadAt 22 v1) w2 fun v3 w4 =>
  RUN Try.prog (pan R) (Builtin.len_ #[22] 3 #[v3]) w4 fun v5 w6 =>
  RUN Try.prog (pan R) (bins .sub 3 (.tmp 46) (.const (Go.Value.int Go.IntKind.i64 1)) v5 (Go.Value.int Go.IntKind.i64 1)) w6 fun v7 w8 =>
  RUN Try.prog (pan R) (Instr.fieldAt 27 x2 1) w8 fun v9 w10 =>
  RUN Try.prog (pan R) (Instr.loadAt 23 v9) w10 fun v11 w12 =>
  RUN Try.prog (pan R) (Builtin.len_ #[23] 3 #[v11]) w12 fun v13 w14 =>
  RUN Try.prog (pan R) (bins .add 3 (.tmp 47) (.tmp 50) v7 v13) w14 fun v15 w16 =>
  RUN Try.prog (pan R) (bins .sub 3 (.tmp 51) (.tmp 52) v15 x1) w16 fun v17 w18 =>
  RUN Try.prog (pan R) (bins .gtr 3 (.tmp 53) (.const (Go.Value.int Go.IntKind.i64 64)) v17 (Go.Value.int Go.IntKind.i64 64)) w18 fun v19 w20 =>
  SPL v19
  (R (.returned (Go.Value.bool Bool.false)) w20)
  (b3_8 R x1 x2 w20)
abbrev q1 (R : EP) : XP := QX (fun ρ w => R (.returned (ρ 4)) w) (fun ρ w => R (.returned (ρ 4)) w) []
theorem b3_eq (R : EP) (ρ : Env) (w : World) : (b3 R (ρ 1) (ρ 2) w) = codeP Try.prog (pan R) (sndC p1) (q1 R) ρ w := by kernel_rfl
theorem b3_ok (R : EP) (ρ : Env) (w : World) (h : b3 R (ρ 1) (ρ 2) w) : codeP Try.prog (pan R) (sndC p1) (q1 R) ρ w := (b3_eq R ρ w).mp h
noncomputable abbrev p2 : Code := dropC 1 (fstC p1)

def b5 (R : EP) (x1 x2 x43 : Value) (w : World) (_r : Tok R := tok R) : Prop :=
  SPL x43
  (R (.returned (Go.Value.bool Bool.false)) w)
  (b3 R x1 x2 w)
abbrev q2 (R : EP) : XP := QX (fun ρ w => b3 R (ρ 1) (ρ 2) w) (fun ρ w => R (.returned (ρ 4)) w) []
theorem b5_eq (R : EP) (ρ : Env) (w : World) : (b5 R (ρ 1) (ρ 2) (ρ 43) w) = codeP Try.prog (pan R) p2 (q2 R) ρ w := by kernel_rfl
theorem b5_ok (R : EP) (ρ : Env) (w : World) (h : b5 R (ρ 1) (ρ 2) (ρ 43) w) : codeP Try.prog (pan R) p2 (q2 R) ρ w := (b5_eq R ρ w).mp h
def b4_1 (R : EP) (x1 x2 : Value) (w38 : World) (_r : Tok R := tok R) : Prop :=
  RUN Try.prog (pan R) (Instr.fieldAt 27 x2 2) w38 fun v39 w40 =>
  RUN Try.prog (pan R) (Instr.loadAt 24 v39) w40 fun v41 w42 =>
  RUN Try.prog (pan R) (Builtin.len_ #[24] 3 #[v41]) w42 fun v43 w44 =>
  RUN Try.prog (pan R) (bins .gtr 3 (.tmp 41) (.const (Go.Value.int Go.IntKind.i64 64)) v43 (Go.Value.int Go.IntKind.i64 64)) w44 fun v45 w46 =>
  b5 R x1 x2 v45 w46
def b4_2 (R : EP) (x1 x2 : Value) (w28 : World) (_r : Tok R := tok R) : Prop :=
  RUN Try.prog (pan R) (Instr.fieldAt 27 x2 4) w28 fun v29 w30 =>
  RUN Try.prog (pan R) (Instr.loadAt 25 v29) w30 fun v31 w32 =>
  RUN Try.prog (pan R) (Builtin.len_ #[25] 3 #[v31]) w32 fun v33 w34 =>
  RUN Try.prog (pan R) (bins .add 3 (.const (Go.Value.int Go.IntKind.i64 1)) (.tmp 34) (Go.Value.int Go.IntKind.i64 1) x1) w34 fun v35 w36 =>
  RUN Try.prog (pan R) (bins .lss 3 (.tmp 33) (.tmp 35) v33 v35) w36 fun v37 w38 =>
  SPL v37
  (b5 R x1 x2 (Go.Value.bool Bool.true) w38)
  (b4_1 R x1 x2 w38)
def b4_3 (R : EP) (x1 x2 : Value) (w18 : World) (_r : Tok R := tok R) : Prop :=
  RUN Try.prog (pan R) (Instr.fieldAt 27 x2 4) w18 fun v19 w20 =>
  RUN Try.prog (pan R) (Instr.loadAt 25 v19) w20 fun v21 w22 =>
  RUN Try.prog (pan R) (Builtin.len_ #[25] 3 #[v21]) w22 fun v23 w24 =>
  RUN Try.prog (pan R) (bins .add 3 (.const (Go.Value.int Go.IntKind.i64 96)) (.tmp 26) (Go.Value.int Go.IntKind.i64 96) x1) w24 fun v25 w26 =>
  RUN Try.prog (pan R) (bins .gtr 3 (.tmp 25) (.tmp 27) v23 v25) w26 fun v27 w28 =>
  SPL v27
  (b5 R x1 x2 (Go.Value.bool Bool.true) w28)
  (b4_2 R x1 x2 w28)
def b4_4 (R : EP) (x1 x2 : Value) (w10 : World) (_r : Tok R := tok R) : Prop :=
  RUN Try.prog (pan R) (Instr.fieldAt 27 x2 0) w10 fun v11 w12 =>
  RUN Try.prog (pan R) (Instr.loadAt 22 v11) w12 fun v13 w14 =>
  RUN Try.prog (pan R) (Builtin.len_ #[22] 3 #[v13]) w14 fun v15 w16 =>
  RUN Try.prog (pan R) (bins .gtr 3 (.tmp 19) (.const (Go.Value.int Go.IntKind.i64 65)) v15 (Go.Value.int Go.IntKind.i64 65)) w16 fun v17 w18 =>
  SPL v17
  (b5 R x1 x2 (Go.Value.bool Bool.true) w18)
  (b4_3 R x1 x2 w18)

def b4 (R : EP) (x1 x2 : Value) (w : World) (_r : Tok R := tok R) : Prop :=
  RUN Try.prog (pan R) (Instr.fieldAt 27 x2 1) w fun v1 w2 =>
  RUN Try.prog (pan R) (Instr.loadAt 23 v1) w2 fun v3 w4 =>
  RUN Try.prog (pan R) (Builtin.len_ #[23] 3 #[v3]) w4 fun v5 w6 =>
  RUN Try.prog (pan R) (bins .add 3 (.const (Go.Value.int Go.IntKind.i64 64)) (.tmp 13) (Go.Value.int Go.IntKind.i64 64) x1) w6 fun v7 w8 =>
  RUN Try.prog (pan R) (bins .gtr 3 (.tmp 12) (.tmp 14) v5 v7) w8 fun v9 w10 =>
  SPL v9
  (b5 R x1 x2 (Go.Value.bool Bool.true) w10)
  (b4_4 R x1 x2 w10)
abbrev q3 (R : EP) : XP := QX (fun ρ w => b5 R (ρ 1) (ρ 2) (ρ 43) w) (fun ρ w => R (.returned (ρ 4)) w) []
theorem b4_eq (R : EP) (ρ : Env) (w : World) : (b4 R (ρ 1) (ρ 2) w) = codeP Try.prog (pan R) (preC 0 (fstC p1)) (q3 R) ρ w := by kernel_rfl
theorem b4_ok (R : EP) (ρ : Env) (w : World) (h : b4 R (ρ 1) (ρ 2) w) : codeP Try.prog (pan R) (fstC p1) (q2 R) ρ w := by
  have e : appC 0 (preC 0 (fstC p1)) (dropC 1 (fstC p1)) = (fstC p1) := by kernel_rfl
  rw [← e]
  exact appQ (fun ρ w => b5 R (ρ 1) (ρ 2) (ρ 43) w) 0 ((b4_eq R ρ w).mp h) (fun ρ w h => b5_ok R ρ w h)
theorem k2_ok (R : EP) (ρ : Env) (w : World) (h : b4 R (ρ 1) (ρ 2) w) : codeP Try.prog (pan R) p1 (q1 R) ρ w := by
  have e : Code.seq (fstC p1) (sndC p1) = p1 := by kernel_rfl
  rw [← e]
  exact seqQ (fun ρ w => b3 R (ρ 1) (ρ 2) w) (b4_ok R ρ w h) (fun ρ w h => b3_ok R ρ w h)

def b1 (R : EP) (x0 x1 : Value) (w : World) (_r : Tok R := tok R) : Prop :=
  RUN Try.prog (pan R) (Instr.box 27 x0) w fun v1 w2 =>
  b4 R x1 v1 w2
abbrev q4 (R : EP) : XP := QX (fun ρ w => b4 R (ρ 1) (ρ 2) w) (fun ρ w => R (.returned (ρ 4)) w) []
theorem b1_eq (R : EP) (ρ : Env) (w : World) : (b1 R (ρ 0) (ρ 1) w) = codeP Try.prog (pan R) (preC 0 code) (q4 R) ρ w := by kernel_rfl
theorem b1_ok (R : EP) (ρ : Env) (w : World) (h : b1 R (ρ 0) (ρ 1) w) : codeP Try.prog (pan R) code (q1 R) ρ w := by
  have e : appC 0 (preC 0 code) (dropC 1 code) = code := by kernel_rfl
  rw [← e]
  exact appQ (fun ρ w => b4 R (ρ 1) (ρ 2) w) 0 ((b1_eq R ρ w).mp h) (fun ρ w h => k2_ok R ρ w h)
/-- What is owed for a call. -/
def run (R : EP) (a0 a1 : Value) (w : World) : Prop := b1 R a0 a1 w
theorem calls (R : EP) (a0 a1 : Value) (w : World) (h : run R a0 a1 w) : Calls Try.prog id #[a0, a1] w R :=
  calls_of_t (f := id) (fn := Try.f76) (c := code) (by kernel_rfl) Try.func76 (by kernel_rfl) (by kernel_rfl) (args := [a0, a1]) (Nat.le_of_ble_eq_true rfl) rfl (b1_ok R (envOf [a0, a1]) w h)
theorem enters : Enters Try.prog id := fun args w => Try.call76 args w
theorem ct {a0 a1 : Value} {w : World} {S : VP} (h : ∀ R : EP, (∀ v w, S v w → R (.returned v) w) → run R a0 a1 w) : Ct Try.prog id #[a0, a1] w S :=
  Ct.intro enters fun R hR => calls R a0 a1 w (h R hR)
attribute [irreducible] b3_1 b3_2 b3_3 b3_4 b3_5 b3_6 b3_7 b3_8 b3 b5 b4_1 b4_2 b4_3 b4_4 b4 b1 run
attribute [go_sem] b3_1 b3_2 b3_3 b3_4 b3_5 b3_6 b3_7 b3_8 b3 b5 b4_1 b4_2 b4_3 b4_4 b4 b1 run
end ref02_fits

/-! ### presage/presageref02.lefts -/
namespace ref02_lefts
noncomputable def code : Code := bodyOf Try.f77
noncomputable abbrev p1 : Code := dropC 2 code
def b3 (R : EP) (x5 : Value) (w : World) (_r : Tok R := tok R) : Prop :=
  R (.returned x5) w
abbrev q1 (R : EP) : XP := QX (fun ρ w => R (.returned (ρ 4)) w) (fun ρ w => R (.returned (ρ 4)) w) []
theorem b3_eq (R : EP) (ρ : Env) (w : World) : (b3 R (ρ 5) w) = codeP Try.prog (pan R) (sndC p1) (q1 R) ρ w := by kernel_rfl
theorem b3_ok (R : EP) (ρ : Env) (w : World) (h : b3 R (ρ 5) w) : codeP Try.prog (pan R) (sndC p1) (q1 R) ρ w := (b3_eq R ρ w).mp h
noncomputable abbrev p2 : Code := dropC 1 (fstC p1)
noncomputable abbrev p3 : Code := loopC (blkC p2)
noncomputable abbrev p4 : Code := dropC 1 p3
def b9 (R : EP) (C6 : Value → VP) (x5 x6 : Value) (w : World) (_r : Tok R := tok R) (_C6 : Tok C6 := tok C6) : Prop :=
  RUN Try.prog (pan R) (bins .add 3 (.tmp 15) (.const (Go.Value.int Go.IntKind.i64 1)) x6 (Go.Value.int Go.IntKind.i64 1)) w fun v1 w2 =>
  C6 x5 v1 w2
abbrev q2 (R : EP) (C6 : Value → VP) : XP := QX (fun ρ w => C6 (ρ 5) (ρ 6) w) (fun ρ w => R (.returned (ρ 4)) w) [(0, (fun ρ w => b3 R (ρ 5) w))]
theorem b9_eq (R : EP) (C6 : Value → VP) (ρ : Env) (w : World) : (b9 R C6 (ρ 5) (ρ 6) w) = codeP Try.prog (pan R) (sndC p4) (q2 R C6) ρ w := by kernel_rfl
theorem b9_ok (R : EP) (C6 : Value → VP) (ρ : Env) (w : World) (h : b9 R C6 (ρ 5) (ρ 6) w) : codeP Try.prog (pan R) (sndC p4) (q2 R C6) ρ w := (b9_eq R C6 ρ w).mp h
noncomputable abbrev p5 : Code := blkC (fstC p4)
noncomputable abbrev p6 : Code := dropC 1 p5
def b13_1 (R : EP) (C6 : Value → VP) (x2 x5 x6 : Value) (w2 : World) (_r : Tok R := tok R) (_C6 : Tok C6 := tok C6) : Prop :=
  RUN Try.prog (pan R) (Instr.fieldAt 27 x2 4) w2 fun v3 w4 =>
  RUN Try.prog (pan R) (Instr.loadAt 25 v3) w4 fun v5 w6 =>
  RUN Try.prog (pan R) (Instr.indexAt 25 v5 x6) w6 fun v7 w8 =>
  RUN Try.prog (pan R) (Instr.fieldAt 47 v7 0) w8 fun v9 w10 =>
  RUN Try.prog (pan R) (Instr.loadAt 3 v9) w10 fun v11 w12 =>
  RUN Try.prog (pan R) (Instr.buildSlice 24 1 #[(0, v11)]) w12 fun v13 w14 =>
  RUN Try.prog (pan R) (Builtin.append_ #[24, 24] 24 #[x5, v13]) w14 fun v15 w16 =>
  b9 R C6 v15 x6 w16
def b13 (R : EP) (C6 : Value → VP) (x2 x5 x6 x7 : Value) (w : World) (_r : Tok R := tok R) (_C6 : Tok C6 := tok C6) : Prop :=
  RUN Try.prog (pan R) (Op.unary .not x7) w fun v1 w2 =>
  SPL v1
  (b13_1 R C6 x2 x5 x6 w2)
  (b9 R C6 x5 x6 w2)
abbrev q3 (R : EP) (C6 : Value → VP) : XP := QX (fun ρ w => b9 R C6 (ρ 5) (ρ 6) w) (fun ρ w => R (.returned (ρ 4)) w) [(2, (fun ρ w => b9 R C6 (ρ 5) (ρ 6) w)), (0, (fun ρ w => b3 R (ρ 5) w))]
theorem b13_eq (R : EP) (C6 : Value → VP) (ρ : Env) (w : World) : (b13 R C6 (ρ 2) (ρ 5) (ρ 6) (ρ 7) w) = codeP Try.prog (pan R) (sndC p6) (q3 R C6) ρ w := by kernel_rfl
theorem b13_ok (R : EP) (C6 : Value → VP) (ρ : Env) (w : World) (h : b13 R C6 (ρ 2) (ρ 5) (ρ 6) (ρ 7) w) : codeP Try.prog (pan R) (sndC p6) (q3 R C6) ρ w := (b13_eq R C6 ρ w).mp h
noncomputable abbrev p7 : Code := dropC 1 (fstC p6)
noncomputable abbrev p8 : Code := loopC (blkC p7)
noncomputable abbrev p9 : Code := dropC 2 p8
def b18 (R : EP) (C6 : Value → VP) (C16 : Value → VP) (x7 x8 : Value) (w : World) (_r : Tok R := tok R) (_C6 : Tok C6 := tok C6) (_C16 : Tok C16 := tok C16) : Prop :=
  RUN Try.prog (pan R) (bins .add 3 (.tmp 21) (.const (Go.Value.int Go.IntKind.i64 1)) x8 (Go.Value.int Go.IntKind.i64 1)) w fun v1 w2 =>
  C16 x7 v1 w2
abbrev q4 (R : EP) (C6 : Value → VP) (C16 : Value → VP) : XP := QX (fun ρ w => C16 (ρ 7) (ρ 8) w) (fun ρ w => R (.returned (ρ 4)) w) [(4, (fun ρ w => b13 R C6 (ρ 2) (ρ 5) (ρ 6) (ρ 7) w)), (2, (fun ρ w => b9 R C6 (ρ 5) (ρ 6) w)), (0, (fun ρ w => b3 R (ρ 5) w))]
theorem b18_eq (R : EP) (C6 : Value → VP) (C16 : Value → VP) (ρ : Env) (w : World) : (b18 R C6 C16 (ρ 7) (ρ 8) w) = codeP Try.prog (pan R) p9 (q4 R C6 C16) ρ w := by kernel_rfl
theorem b18_ok (R : EP) (C6 : Value → VP) (C16 : Value → VP) (ρ : Env) (w : World) (h : b18 R C6 C16 (ρ 7) (ρ 8) w) : codeP Try.prog (pan R) p9 (q4 R C6 C16) ρ w := (b18_eq R C6 C16 ρ w).mp h
def b17_1 (R : EP) (C6 : Value → VP) (C16 : Value → VP) (x2 x5 x6 x8 : Value) (w4 : World) (_r : Tok R := tok R) (_C6 : Tok C6 := tok C6) (_C16 : Tok C16 := tok C16) : Prop :=
  PUR Try.prog (Instr.indexAt 24 x5 x8) fun v5 =>
  LD Try.prog (Instr.loadAt 3 v5) (World.drew w4) fun v6 =>
  PUR Try.prog (Instr.fieldAt 27 x2 4) fun v7 =>
  LD Try.prog (Instr.loadAt 25 v7) (World.drew w4) fun v8 =>
  PUR Try.prog (Instr.indexAt 25 v8 x6) fun v9 =>
  PUR Try.prog (Instr.fieldAt 47 v9 0) fun v10 =>
  LD Try.prog (Instr.loadAt 3 v10) (World.drew w4) fun v11 =>
  PUR Try.prog (bins .eql 3 (.tmp 28) (.tmp 34) v6 v11) fun v12 =>
  b18 R C6 C16 v12 x8 (World.drew w4)
def b17 (R : EP) (C6 : Value → VP) (C16 : Value → VP) (x2 x5 x6 x7 x8 : Value) (w : World) (_r : Tok R := tok R) (_C6 : Tok C6 := tok C6) (_C16 : Tok C16 := tok C16) : Prop :=
  RUN Try.prog (pan R) (Builtin.len_ #[24] 3 #[x5]) w fun v1 w2 =>
  RUN Try.prog (pan R) (bins .lss 3 (.tmp 17) (.tmp 19) x8 v1) w2 fun v3 w4 =>
  SPL v3
  (SPL x7
  (b18 R C6 C16 (Go.Value.bool Bool.true) x8 (World.drew w4))
  (b17_1 R C6 C16 x2 x5 x6 x8 w4))
  (b13 R C6 x2 x5 x6 x7 w4)
abbrev q5 (R : EP) (C6 : Value → VP) (C16 : Value → VP) : XP := QX (fun ρ w => b18 R C6 C16 (ρ 7) (ρ 8) w) (fun ρ w => R (.returned (ρ 4)) w) [(4, (fun ρ w => b13 R C6 (ρ 2) (ρ 5) (ρ 6) (ρ 7) w)), (2, (fun ρ w => b9 R C6 (ρ 5) (ρ 6) w)), (0, (fun ρ w => b3 R (ρ 5) w))]
theorem b17_eq (R : EP) (C6 : Value → VP) (C16 : Value → VP) (ρ : Env) (w : World) : (b17 R C6 C16 (ρ 2) (ρ 5) (ρ 6) (ρ 7) (ρ 8) w) = codeP Try.prog (pan R) (preC 1 p8) (q5 R C6 C16) ρ w := by kernel_rfl
theorem b17_ok (R : EP) (C6 : Value → VP) (C16 : Value → VP) (ρ : Env) (w : World) (h : b17 R C6 C16 (ρ 2) (ρ 5) (ρ 6) (ρ 7) (ρ 8) w) : codeP Try.prog (pan R) p8 (q4 R C6 C16) ρ w := by
  have e : appC 1 (preC 1 p8) (dropC 2 p8) = p8 := by kernel_rfl
  rw [← e]
  exact appQ (fun ρ w => b18 R C6 C16 (ρ 7) (ρ 8) w) 1 ((b17_eq R C6 C16 ρ w).mp h) (fun ρ w h => b18_ok R C6 C16 ρ w h)
def l16 (R : EP) (C6 : Value → VP) (x2 x5 x6 x7 x8 : Value) (w : World) (_r : Tok R := tok R) (_C6 : Tok C6 := tok C6) : Prop :=
  ∃ (J : Value → VP) (μ : Value → Value → World → Nat), J x7 x8 w ∧ ∀ y7 y8 w0, J y7 y8 w0 → b17 R C6 (fun z7 z8 w1 => J z7 z8 w1 ∧ μ z7 z8 w1 < μ y7 y8 w0) x2 x5 x6 y7 y8 w0
abbrev q6 (R : EP) (C6 : Value → VP) : XP := QX (fun ρ w => b13 R C6 (ρ 2) (ρ 5) (ρ 6) (ρ 7) w) (fun ρ w => R (.returned (ρ 4)) w) [(4, (fun ρ w => b13 R C6 (ρ 2) (ρ 5) (ρ 6) (ρ 7) w)), (2, (fun ρ w => b9 R C6 (ρ 5) (ρ 6) w)), (0, (fun ρ w => b3 R (ρ 5) w))]
theorem l16_ok (R : EP) (C6 : Value → VP) (ρ : Env) (w : World) (h : l16 R C6 (ρ 2) (ρ 5) (ρ 6) (ρ 7) (ρ 8) w) : codeP Try.prog (pan R) (blkC p7) (q6 R C6) ρ w := by
  unfold l16 at h
  obtain ⟨J, μ, h0, hr⟩ := h
  have e : Code.loop (loopC (blkC p7)) = (blkC p7) := by kernel_rfl
  rw [← e]
  refine loopQ (fun ρ' w' => J (ρ' 7) (ρ' 8) w') (fun ρ' w' => μ (ρ' 7) (ρ' 8) w') h0 fun ρ' w' hA hI => ?_
  have e2 : ρ' 2 = ρ 2 := Agree.at hA 2 (by kernel_rfl)
  have e5 : ρ' 5 = ρ 5 := Agree.at hA 5 (by kernel_rfl)
  have e6 : ρ' 6 = ρ 6 := Agree.at hA 6 (by kernel_rfl)
  have h1 := hr (ρ' 7) (ρ' 8) w' hI
  rw [← e2, ← e5, ← e6] at h1
  exact b17_ok R C6 (fun z7 z8 w1 => J z7 z8 w1 ∧ μ z7 z8 w1 < μ (ρ' 7) (ρ' 8) w') ρ' w' h1
theorem l16_intro (R : EP) (C6 : Value → VP) (x2 x5 x6 x7 x8 : Value) (w : World) (J : Value → VP) (μ : Value → Value → World → Nat) (h0 : J x7 x8 w)
    (hr : ∀ y7 y8 w0, J y7 y8 w0 → ∀ C16 : Value → VP, (∀ z7 z8 w1, J z7 z8 w1 → μ z7 z8 w1 < μ y7 y8 w0 → C16 z7 z8 w1) → b17 R C6 C16 x2 x5 x6 y7 y8 w0) : l16 R C6 x2 x5 x6 x7 x8 w := by
  unfold l16
  exact ⟨J, μ, h0, fun y7 y8 w0 hJ => hr y7 y8 w0 hJ _ (fun z7 z8 w1 h1 h2 => ⟨h1, h2⟩)⟩
abbrev q7 (R : EP) (C6 : Value → VP) : XP := QX (fun ρ w => b13 R C6 (ρ 2) (ρ 5) (ρ 6) (ρ 7) w) (fun ρ w => R (.returned (ρ 4)) w) [(2, (fun ρ w => b9 R C6 (ρ 5) (ρ 6) w)), (0, (fun ρ w => b3 R (ρ 5) w))]
theorem k15_ok (R : EP) (C6 : Value → VP) (ρ : Env) (w : World) (h : l16 R C6 (ρ 2) (ρ 5) (ρ 6) (ρ 7) (ρ 8) w) : codeP Try.prog (pan R) p7 (q7 R C6) ρ w := by
  have e : Code.block 2 (blkC p7) = p7 := by kernel_rfl
  rw [← e]
  exact blockQ (l16_ok R C6 ρ w h)
def b14 (R : EP) (C6 : Value → VP) (x2 x5 x6 x7 : Value) (w : World) (_r : Tok R := tok R) (_C6 : Tok C6 := tok C6) : Prop :=
  l16 R C6 x2 x5 x6 x7 (Go.Value.int Go.IntKind.i64 0) w
abbrev q8 (R : EP) (C6 : Value → VP) : XP := QX (fun ρ w => l16 R C6 (ρ 2) (ρ 5) (ρ 6) (ρ 7) (ρ 8) w) (fun ρ w => R (.returned (ρ 4)) w) [(2, (fun ρ w => b9 R C6 (ρ 5) (ρ 6) w)), (0, (fun ρ w => b3 R (ρ 5) w))]
theorem b14_eq (R : EP) (C6 : Value → VP) (ρ : Env) (w : World) : (b14 R C6 (ρ 2) (ρ 5) (ρ 6) (ρ 7) w) = codeP Try.prog (pan R) (preC 0 (fstC p6)) (q8 R C6) ρ w := by kernel_rfl
theorem b14_ok (R : EP) (C6 : Value → VP) (ρ : Env) (w : World) (h : b14 R C6 (ρ 2) (ρ 5) (ρ 6) (ρ 7) w) : codeP Try.prog (pan R) (fstC p6) (q7 R C6) ρ w := by
  have e : appC 0 (preC 0 (fstC p6)) (dropC 1 (fstC p6)) = (fstC p6) := by kernel_rfl
  rw [← e]
  exact appQ (fun ρ w => l16 R C6 (ρ 2) (ρ 5) (ρ 6) (ρ 7) (ρ 8) w) 0 ((b14_eq R C6 ρ w).mp h) (fun ρ w h => k15_ok R C6 ρ w h)
theorem k12_ok (R : EP) (C6 : Value → VP) (ρ : Env) (w : World) (h : b14 R C6 (ρ 2) (ρ 5) (ρ 6) (ρ 7) w) : codeP Try.prog (pan R) p6 (q3 R C6) ρ w := by
  have e : Code.seq (fstC p6) (sndC p6) = p6 := by kernel_rfl
  rw [← e]
  exact seqQ (fun ρ w => b13 R C6 (ρ 2) (ρ 5) (ρ 6) (ρ 7) w) (b14_ok R C6 ρ w h) (fun ρ w h => b13_ok R C6 ρ w h)
def b11 (R : EP) (C6 : Value → VP) (x2 x5 x6 : Value) (w : World) (_r : Tok R := tok R) (_C6 : Tok C6 := tok C6) : Prop :=
  b14 R C6 x2 x5 x6 (Go.Value.bool Bool.false) w
abbrev q9 (R : EP) (C6 : Value → VP) : XP := QX (fun ρ w => b14 R C6 (ρ 2) (ρ 5) (ρ 6) (ρ 7) w) (fun ρ w => R (.returned (ρ 4)) w) [(2, (fun ρ w => b9 R C6 (ρ 5) (ρ 6) w)), (0, (fun ρ w => b3 R (ρ 5) w))]
theorem b11_eq (R : EP) (C6 : Value → VP) (ρ : Env) (w : World) : (b11 R C6 (ρ 2) (ρ 5) (ρ 6) w) = codeP Try.prog (pan R) (preC 0 p5) (q9 R C6) ρ w := by kernel_rfl
theorem b11_ok (R : EP) (C6 : Value → VP) (ρ : Env) (w : World) (h : b11 R C6 (ρ 2) (ρ 5) (ρ 6) w) : codeP Try.prog (pan R) p5 (q3 R C6) ρ w := by
  have e : appC 0 (preC 0 p5) (dropC 1 p5) = p5 := by kernel_rfl
  rw [← e]
  exact appQ (fun ρ w => b14 R C6 (ρ 2) (ρ 5) (ρ 6) (ρ 7) w) 0 ((b11_eq R C6 ρ w).mp h) (fun ρ w h => k12_ok R C6 ρ w h)
abbrev q10 (R : EP) (C6 : Value → VP) : XP := QX (fun ρ w => b9 R C6 (ρ 5) (ρ 6) w) (fun ρ w => R (.returned (ρ 4)) w) [(0, (fun ρ w => b3 R (ρ 5) w))]
theorem k10_ok (R : EP) (C6 : Value → VP) (ρ : Env) (w : World) (h : b11 R C6 (ρ 2) (ρ 5) (ρ 6) w) : codeP Try.prog (pan R) (fstC p4) (q10 R C6) ρ w := by
  have e : Code.block 1 (blkC (fstC p4)) = (fstC p4) := by kernel_rfl
  rw [← e]
  exact blockQ (b11_ok R C6 ρ w h)
theorem k8_ok (R : EP) (C6 : Value → VP) (ρ : Env) (w : World) (h : b11 R C6 (ρ 2) (ρ 5) (ρ 6) w) : codeP Try.prog (pan R) p4 (q2 R C6) ρ w := by
  have e : Code.seq (fstC p4) (sndC p4) = p4 := by kernel_rfl
  rw [← e]
  exact seqQ (fun ρ w => b9 R C6 (ρ 5) (ρ 6) w) (k10_ok R C6 ρ w h) (fun ρ w h => b9_ok R C6 ρ w h)
def b7 (R : EP) (C6 : Value → VP) (x2 x5 x6 : Value) (w : World) (_r : Tok R := tok R) (_C6 : Tok C6 := tok C6) : Prop :=
  RUN Try.prog (pan R) (Instr.fieldAt 27 x2 4) w fun v1 w2 =>
  RUN Try.prog (pan R) (Instr.loadAt 25 v1) w2 fun v3 w4 =>
  RUN Try.prog (pan R) (Builtin.len_ #[25] 3 #[v3]) w4 fun v5 w6 =>
  RUN Try.prog (pan R) (bins .lss 3 (.tmp 10) (.tmp 13) x6 v5) w6 fun v7 w8 =>
  SPL v7
  (b11 R C6 x2 x5 x6 w8)
  (b3 R x5 w8)
abbrev q11 (R : EP) (C6 : Value → VP) : XP := QX (fun ρ w => b11 R C6 (ρ 2) (ρ 5) (ρ 6) w) (fun ρ w => R (.returned (ρ 4)) w) [(0, (fun ρ w => b3 R (ρ 5) w))]
theorem b7_eq (R : EP) (C6 : Value → VP) (ρ : Env) (w : World) : (b7 R C6 (ρ 2) (ρ 5) (ρ 6) w) = codeP Try.prog (pan R) (preC 0 p3) (q11 R C6) ρ w := by kernel_rfl
theorem b7_ok (R : EP) (C6 : Value → VP) (ρ : Env) (w : World) (h : b7 R C6 (ρ 2) (ρ 5) (ρ 6) w) : codeP Try.prog (pan R) p3 (q2 R C6) ρ w := by
  have e : appC 0 (preC 0 p3) (dropC 1 p3) = p3 := by kernel_rfl
  rw [← e]
  exact appQ (fun ρ w => b11 R C6 (ρ 2) (ρ 5) (ρ 6) w) 0 ((b7_eq R C6 ρ w).mp h) (fun ρ w h => k8_ok R C6 ρ w h)
def l6 (R : EP) (x2 x5 x6 : Value) (w : World) (_r : Tok R := tok R) : Prop :=
  ∃ (J : Value → VP) (μ : Value → Value → World → Nat), J x5 x6 w ∧ ∀ y5 y6 w0, J y5 y6 w0 → b7 R (fun z5 z6 w1 => J z5 z6 w1 ∧ μ z5 z6 w1 < μ y5 y6 w0) x2 y5 y6 w0
abbrev q12 (R : EP) : XP := QX (fun ρ w => b3 R (ρ 5) w) (fun ρ w => R (.returned (ρ 4)) w) [(0, (fun ρ w => b3 R (ρ 5) w))]
theorem l6_ok (R : EP) (ρ : Env) (w : World) (h : l6 R (ρ 2) (ρ 5) (ρ 6) w) : codeP Try.prog (pan R) (blkC p2) (q12 R) ρ w := by
  unfold l6 at h
  obtain ⟨J, μ, h0, hr⟩ := h
  have e : Code.loop (loopC (blkC p2)) = (blkC p2) := by kernel_rfl
  rw [← e]
  refine loopQ (fun ρ' w' => J (ρ' 5) (ρ' 6) w') (fun ρ' w' => μ (ρ' 5) (ρ' 6) w') h0 fun ρ' w' hA hI => ?_
  have e2 : ρ' 2 = ρ 2 := Agree.at hA 2 (by kernel_rfl)
  have h1 := hr (ρ' 5) (ρ' 6) w' hI
  rw [← e2] at h1
  exact b7_ok R (fun z5 z6 w1 => J z5 z6 w1 ∧ μ z5 z6 w1 < μ (ρ' 5) (ρ' 6) w') ρ' w' h1
theorem l6_intro (R : EP) (x2 x5 x6 : Value) (w : World) (J : Value → VP) (μ : Value → Value → World → Nat) (h0 : J x5 x6 w)
    (hr : ∀ y5 y6 w0, J y5 y6 w0 → ∀ C6 : Value → VP, (∀ z5 z6 w1, J z5 z6 w1 → μ z5 z6 w1 < μ y5 y6 w0 → C6 z5 z6 w1) → b7 R C6 x2 y5 y6 w0) : l6 R x2 x5 x6 w := by
  unfold l6
  exact ⟨J, μ, h0, fun y5 y6 w0 hJ => hr y5 y6 w0 hJ _ (fun z5 z6 w1 h1 h2 => ⟨h1, h2⟩)⟩
abbrev q13 (R : EP) : XP := QX (fun ρ w => b3 R (ρ 5) w) (fun ρ w => R (.returned (ρ 4)) w) []
theorem k5_ok (R : EP) (ρ : Env) (w : World) (h : l6 R (ρ 2) (ρ 5) (ρ 6) w) : codeP Try.prog (pan R) p2 (q13 R) ρ w := by
  have e : Code.block 0 (blkC p2) = p2 := by kernel_rfl
  rw [← e]
  exact blockQ (l6_ok R ρ w h)
def b4 (R : EP) (x1 x2 x5 : Value) (w : World) (_r : Tok R := tok R) : Prop :=
  l6 R x2 x5 x1 w
abbrev q14 (R : EP) : XP := QX (fun ρ w => l6 R (ρ 2) (ρ 5) (ρ 6) w) (fun ρ w => R (.returned (ρ 4)) w) []
theorem b4_eq (R : EP) (ρ : Env) (w : World) : (b4 R (ρ 1) (ρ 2) (ρ 5) w) = codeP Try.prog (pan R) (preC 0 (fstC p1)) (q14 R) ρ w := by kernel_rfl
theorem b4_ok (R : EP) (ρ : Env) (w : World) (h : b4 R (ρ 1) (ρ 2) (ρ 5) w) : codeP Try.prog (pan R) (fstC p1) (q13 R) ρ w := by
  have e : appC 0 (preC 0 (fstC p1)) (dropC 1 (fstC p1)) = (fstC p1) := by kernel_rfl
  rw [← e]
  exact appQ (fun ρ w => l6 R (ρ 2) (ρ 5) (ρ 6) w) 0 ((b4_eq R ρ w).mp h) (fun ρ w h => k5_ok R ρ w h)
theorem k2_ok (R : EP) (ρ : Env) (w : World) (h : b4 R (ρ 1) (ρ 2) (ρ 5) w) : codeP Try.prog (pan R) p1 (q1 R) ρ w := by
  have e : Code.seq (fstC p1) (sndC p1) = p1 := by kernel_rfl
  rw [← e]
  exact seqQ (fun ρ w => b3 R (ρ 5) w) (b4_ok R ρ w h) (fun ρ w h => b3_ok R ρ w h)
def b1 (R : EP) (x0 x1 : Value) (w : World) (_r : Tok R := tok R) : Prop :=
  RUN Try.prog (pan R) (Instr.box 27 x0) w fun v1 w2 =>
  b4 R x1 v1 (Go.Value.slice Option.none 0 0) w2
abbrev q15 (R : EP) : XP := QX (fun ρ w => b4 R (ρ 1) (ρ 2) (ρ 5) w) (fun ρ w => R (.returned (ρ 4)) w) []
theorem b1_eq (R : EP) (ρ : Env) (w : World) : (b1 R (ρ 0) (ρ 1) w) = codeP Try.prog (pan R) (preC 1 code) (q15 R) ρ w := by kernel_rfl
theorem b1_ok (R : EP) (ρ : Env) (w : World) (h : b1 R (ρ 0) (ρ 1) w) : codeP Try.prog (pan R) code (q1 R) ρ w := by
  have e : appC 1 (preC 1 code) (dropC 2 code) = code := by kernel_rfl
  rw [← e]
  exact appQ (fun ρ w => b4 R (ρ 1) (ρ 2) (ρ 5) w) 1 ((b1_eq R ρ w).mp h) (fun ρ w h => k2_ok R ρ w h)
/-- What is owed for a call. -/
def run (R : EP) (a0 a1 : Value) (w : World) : Prop := b1 R a0 a1 w
theorem calls (R : EP) (a0 a1 : Value) (w : World) (h : run R a0 a1 w) : Calls Try.prog id #[a0, a1] w R :=
  calls_of_t (f := id) (fn := Try.f77) (c := code) (by kernel_rfl) Try.func77 (by kernel_rfl) (by kernel_rfl) (args := [a0, a1]) (Nat.le_of_ble_eq_true rfl) rfl (b1_ok R (envOf [a0, a1]) w h)
theorem enters : Enters Try.prog id := fun args w => Try.call77 args w
theorem ct {a0 a1 : Value} {w : World} {S : VP} (h : ∀ R : EP, (∀ v w, S v w → R (.returned v) w) → run R a0 a1 w) : Ct Try.prog id #[a0, a1] w S :=
  Ct.intro enters fun R hR => calls R a0 a1 w (h R hR)
attribute [irreducible] b3 b9 b13_1 b13 b18 b17_1 b17 l16 b14 b11 b7 l6 b4 b1 run
attribute [go_sem] b3 b9 b13_1 b13 b18 b17_1 b17 b14 b11 b7 b4 b1 run
end ref02_lefts

/-! ### presage/presageref02.termsFit -/
namespace ref02_termsFit
noncomputable def code : Code := bodyOf Try.f120
noncomputable abbrev p1 : Code := dropC 1 code
noncomputable abbrev p2 : Code := sndC (sndC p1)

def b4 (R : EP) (w : World) (_r : Tok R := tok R) : Prop :=
  R (.returned (Go.Value.bool Bool.true)) w
abbrev q1 (R : EP) : XP := QX (fun ρ w => R (.returned (ρ 2)) w) (fun ρ w => R (.returned (ρ 2)) w) []
theorem b4_eq (R : EP) (ρ : Env) (w : World) : (b4 R w) = codeP Try.prog (pan R) p2 (q1 R) ρ w := by kernel_rfl
theorem b4_ok (R : EP) (ρ : Env) (w : World) (h : b4 R w) : codeP Try.prog (pan R) p2 (q1 R) ρ w := (b4_eq R ρ w).mp h
noncomputable abbrev p3 : Code := fstC (sndC p1)
noncomputable abbrev p4 : Code := dropC 1 p3
noncomputable abbrev p5 : Code := loopC (blkC p4)
noncomputable abbrev p6 : Code := dropC 1 p5

def b10 (R : EP) (C7 : VP) (x3 : Value) (w : World) (_r : Tok R := tok R) (_C7 : Tok C7 := tok C7) : Prop :=
  RUN Try.prog (pan R) (bins .add 3 (.tmp 31) (.const (Go.Value.int Go.IntKind.i64 1)) x3 (Go.Value.int Go.IntKind.i64 1)) w fun v1 w2 =>
  C7 v1 w2
abbrev q2 (R : EP) (C7 : VP) : XP := QX (fun ρ w => C7 (ρ 3) w) (fun ρ w => R (.returned (ρ 2)) w) [(0, (fun ρ w => b4 R  w))]
theorem b10_eq (R : EP) (C7 : VP) (ρ : Env) (w : World) : (b10 R C7 (ρ 3) w) = codeP Try.prog (pan R) (sndC p6) (q2 R C7) ρ w := by kernel_rfl
theorem b10_ok (R : EP) (C7 : VP) (ρ : Env) (w : World) (h : b10 R C7 (ρ 3) w) : codeP Try.prog (pan R) (sndC p6) (q2 R C7) ρ w := (b10_eq R C7 ρ w).mp h
noncomputable abbrev p7 : Code := blkC (fstC p6)
noncomputable abbrev p8 : Code := dropC 1 p7
noncomputable abbrev p9 : Code := dropC 1 (sndC p8)
noncomputable abbrev p10 : Code := loopC (blkC p9)
def b17_1 (R : EP) (C16 : VP) (x1 x3 x5 : Value) (w2 : World) (_r : Tok R := tok R) (_C16 : Tok C16 := tok C16) : Prop :=
  PUR Try.prog (Instr.fieldAt 27 x1 0) fun v3 =>
  LD Try.prog (Instr.loadAt 22 v3) (World.drew w2) fun v4 =>
  PUR Try.prog (Instr.indexAt 22 v4 x5) fun v5 =>
  PUR Try.prog (Instr.fieldAt 106 v5 0) fun v6 =>
  LD Try.prog (Instr.loadAt 9 v6) (World.drew w2) fun v7 =>
  PUR Try.prog (Instr.fieldAt 27 x1 0) fun v8 =>
  LD Try.prog (Instr.loadAt 22 v8) (World.drew w2) fun v9 =>
  PUR Try.prog (Instr.indexAt 22 v9 x3) fun v10 =>
  PUR Try.prog (Instr.fieldAt 106 v10 0) fun v11 =>
  LD Try.prog (Instr.loadAt 9 v11) (World.drew w2) fun v12 =>
  PUR Try.prog (bins .eql 9 (.tmp 73) (.tmp 79) v7 v12) fun v13 =>
  SPL v13
  (R (.returned (Go.Value.bool Bool.false)) (World.drew w2))
  (RUN Try.prog (pan R) (bins .add 3 (.tmp 66) (.const (Go.Value.int Go.IntKind.i64 1)) x5 (Go.Value.int Go.IntKind.i64 1)) (World.drew w2) fun v14 w15 =>
  C16 v14 w15)

def b17 (R : EP) (C7 : VP) (C16 : VP) (x1 x3 x5 : Value) (w : World) (_r : Tok R := tok R) (_C7 : Tok C7 := tok C7) (_C16 : Tok C16 := tok C16) : Prop :=
  RUN Try.prog (pan R) (bins .lss 3 (.tmp 63) (.tmp 64) x5 x3) w fun v1 w2 =>
  SPL v1
  (b17_1 R C16 x1 x3 x5 w2)
  (b10 R C7 x3 w2)
abbrev q3 (R : EP) (C7 : VP) (C16 : VP) : XP := QX (fun ρ w => C16 (ρ 5) w) (fun ρ w => R (.returned (ρ 2)) w) [(4, (fun ρ w => b10 R C7 (ρ 3) w)), (2, (fun ρ w => b10 R C7 (ρ 3) w)), (0, (fun ρ w => b4 R  w))]
theorem b17_eq (R : EP) (C7 : VP) (C16 : VP) (ρ : Env) (w : World) : (b17 R C7 C16 (ρ 1) (ρ 3) (ρ 5) w) = codeP Try.prog (pan R) p10 (q3 R C7 C16) ρ w := by kernel_rfl
theorem b17_ok (R : EP) (C7 : VP) (C16 : VP) (ρ : Env) (w : World) (h : b17 R C7 C16 (ρ 1) (ρ 3) (ρ 5) w) : codeP Try.prog (pan R) p10 (q3 R C7 C16) ρ w := (b17_eq R C7 C16 ρ w).mp h

def l16 (R : EP) (C7 : VP) (x1 x3 x5 : Value) (w : World) (_r : Tok R := tok R) (_C7 : Tok C7 := tok C7) : Prop :=
  ∃ (J : VP) (μ : Value → World → Nat), J x5 w ∧ ∀ y5 w0, J y5 w0 → b17 R C7 (fun z5 w1 => J z5 w1 ∧ μ z5 w1 < μ y5 w0) x1 x3 y5 w0
abbrev q4 (R : EP) (C7 : VP) : XP := QX (fun ρ w => b10 R C7 (ρ 3) w) (fun ρ w => R (.returned (ρ 2)) w) [(4, (fun ρ w => b10 R C7 (ρ 3) w)), (2, (fun ρ w => b10 R C7 (ρ 3) w)), (0, (fun ρ w => b4 R  w))]
theorem l16_ok (R : EP) (C7 : VP) (ρ : Env) (w : World) (h : l16 R C7 (ρ 1) (ρ 3) (ρ 5) w) : codeP Try.prog (pan R) (blkC p9) (q4 R C7) ρ w := by
  unfold l16 at h
  obtain ⟨J, μ, h0, hr⟩ := h
  have e : Code.loop (loopC (blkC p9)) = (blkC p9) := by kernel_rfl
  rw [← e]
  refine loopQ (fun ρ' w' => J (ρ' 5) w') (fun ρ' w' => μ (ρ' 5) w') h0 fun ρ' w' hA hI => ?_
  have e1 : ρ' 1 = ρ 1 := Agree.at hA 1 (by kernel_rfl)
  have e3 : ρ' 3 = ρ 3 := Agree.at hA 3 (by kernel_rfl)
  have h1 := hr (ρ' 5) w' hI
  rw [← e1, ← e3] at h1
  exact b17_ok R C7 (fun z5 w1 => J z5 w1 ∧ μ z5 w1 < μ (ρ' 5) w') ρ' w' h1
theorem l16_intro (R : EP) (C7 : VP) (x1 x3 x5 : Value) (w : World) (J : VP) (μ : Value → World → Nat) (h0 : J x5 w)
    (hr : ∀ y5 w0, J y5 w0 → ∀ C16 : VP, (∀ z5 w1, J z5 w1 → μ z5 w1 < μ y5 w0 → C16 z5 w1) → b17 R C7 C16 x1 x3 y5 w0) : l16 R C7 x1 x3 x5 w := by
  unfold l16
  exact ⟨J, μ, h0, fun y5 w0 hJ => hr y5 w0 hJ _ (fun z5 w1 h1 h2 => ⟨h1, h2⟩)⟩
abbrev q5 (R : EP) (C7 : VP) : XP := QX (fun ρ w => b10 R C7 (ρ 3) w) (fun ρ w => R (.returned (ρ 2)) w) [(2, (fun ρ w => b10 R C7 (ρ 3) w)), (0, (fun ρ w => b4 R  w))]
theorem k15_ok (R : EP) (C7 : VP) (ρ : Env) (w : World) (h : l16 R C7 (ρ 1) (ρ 3) (ρ 5) w) : codeP Try.prog (pan R) p9 (q5 R C7) ρ w := by
  have e : Code.block 2 (blkC p9) = p9 := by kernel_rfl
  rw [← e]
  exact blockQ (l16_ok R C7 ρ w h)

def b14 (R : EP) (C7 : VP) (x1 x3 : Value) (w : World) (_r : Tok R := tok R) (_C7 : Tok C7 := tok C7) : Prop :=
  l16 R C7 x1 x3 (Go.Value.int Go.IntKind.i64 1) w
abbrev q6 (R : EP) (C7 : VP) : XP := QX (fun ρ w => l16 R C7 (ρ 1) (ρ 3) (ρ 5) w) (fun ρ w => R (.returned (ρ 2)) w) [(2, (fun ρ w => b10 R C7 (ρ 3) w)), (0, (fun ρ w => b4 R  w))]
theorem b14_eq (R : EP) (C7 : VP) (ρ : Env) (w : World) : (b14 R C7 (ρ 1) (ρ 3) w) = codeP Try.prog (pan R) (preC 0 (sndC p8)) (q6 R C7) ρ w := by kernel_rfl
theorem b14_ok (R : EP) (C7 : VP) (ρ : Env) (w : World) (h : b14 R C7 (ρ 1) (ρ 3) w) : codeP Try.prog (pan R) (sndC p8) (q5 R C7) ρ w := by
  have e : appC 0 (preC 0 (sndC p8)) (dropC 1 (sndC p8)) = (sndC p8) := by kernel_rfl
  rw [← e]
  exact appQ (fun ρ w => l16 R C7 (ρ 1) (ρ 3) (ρ 5) w) 0 ((b14_eq R C7 ρ w).mp h) (fun ρ w h => k15_ok R C7 ρ w h)
noncomputable abbrev p11 : Code := dropC 1 (fstC p8)

def b19 (R : EP) (C7 : VP) (x1 x3 x62 : Value) (w : World) (_r : Tok R := tok R) (_C7 : Tok C7 := tok C7) : Prop :=
  SPL x62
  (R (.returned (Go.Value.bool Bool.false)) w)
  (b14 R C7 x1 x3 w)
abbrev q7 (R : EP) (C7 : VP) : XP := QX (fun ρ w => b14 R C7 (ρ 1) (ρ 3) w) (fun ρ w => R (.returned (ρ 2)) w) [(2, (fun ρ w => b10 R C7 (ρ 3) w)), (0, (fun ρ w => b4 R  w))]
theorem b19_eq (R : EP) (C7 : VP) (ρ : Env) (w : World) : (b19 R C7 (ρ 1) (ρ 3) (ρ 62) w) = codeP Try.prog (pan R) p11 (q7 R C7) ρ w := by kernel_rfl
theorem b19_ok (R : EP) (C7 : VP) (ρ : Env) (w : World) (h : b19 R C7 (ρ 1) (ρ 3) (ρ 62) w) : codeP Try.prog (pan R) p11 (q7 R C7) ρ w := (b19_eq R C7 ρ w).mp h
def b18_1 (R : EP) (C7 : VP) (x1 x3 : Value) (w : World) (_r : Tok R := tok R) (_C7 : Tok C7 := tok C7) : Prop :=
  PUR Try.prog (Instr.fieldAt 27 x1 0) fun v8 =>
  LD Try.prog (Instr.loadAt 22 v8) (World.drew w) fun v9 =>
  PUR Try.prog (Instr.indexAt 22 v9 x3) fun v10 =>
  PUR Try.prog (Instr.fieldAt 106 v10 1) fun v11 =>
  LD Try.prog (Instr.loadAt 3 v11) (World.drew w) fun v12 =>
  PUR Try.prog (Instr.fieldAt 27 x1 2) fun v13 =>
  LD Try.prog (Instr.loadAt 24 v13) (World.drew w) fun v14 =>
  LD Try.prog (Builtin.len_ #[24] 3 #[v14]) (World.drew w) fun v15 =>
  PUR Try.prog (bins .gtr 3 (.tmp 57) (.tmp 60) v12 v15) fun v16 =>
  b19 R C7 x1 x3 v16 (World.drew w)
def b18_2 (R : EP) (C7 : VP) (x1 x3 : Value) (w : World) (_r : Tok R := tok R) (_C7 : Tok C7 := tok C7) : Prop :=
  PUR Try.prog (Instr.fieldAt 27 x1 0) fun v2 =>
  LD Try.prog (Instr.loadAt 22 v2) (World.drew w) fun v3 =>
  PUR Try.prog (Instr.indexAt 22 v3 x3) fun v4 =>
  PUR Try.prog (Instr.fieldAt 106 v4 1) fun v5 =>
  LD Try.prog (Instr.loadAt 3 v5) (World.drew w) fun v6 =>
  PUR Try.prog (bins .lss 3 (.tmp 48) (.const (Go.Value.int Go.IntKind.i64 0)) v6 (Go.Value.int Go.IntKind.i64 0)) fun v7 =>
  SPL v7
  (b19 R C7 x1 x3 (Go.Value.bool Bool.true) (World.drew w))
  (b18_1 R C7 x1 x3 w)

def b18 (R : EP) (C7 : VP) (x1 x3 x4 : Value) (w : World) (_r : Tok R := tok R) (_C7 : Tok C7 := tok C7) : Prop :=
  PUR Try.prog (Op.unary .not x4) fun v1 =>
  SPL v1
  (b19 R C7 x1 x3 (Go.Value.bool Bool.true) (World.drew w))
  (b18_2 R C7 x1 x3 w)
abbrev q8 (R : EP) (C7 : VP) : XP := QX (fun ρ w => b19 R C7 (ρ 1) (ρ 3) (ρ 62) w) (fun ρ w => R (.returned (ρ 2)) w) [(2, (fun ρ w => b10 R C7 (ρ 3) w)), (0, (fun ρ w => b4 R  w))]
theorem b18_eq (R : EP) (C7 : VP) (ρ : Env) (w : World) : (b18 R C7 (ρ 1) (ρ 3) (ρ 4) w) = codeP Try.prog (pan R) (preC 0 (fstC p8)) (q8 R C7) ρ w := by kernel_rfl
theorem b18_ok (R : EP) (C7 : VP) (ρ : Env) (w : World) (h : b18 R C7 (ρ 1) (ρ 3) (ρ 4) w) : codeP Try.prog (pan R) (fstC p8) (q7 R C7) ρ w := by
  have e : appC 0 (preC 0 (fstC p8)) (dropC 1 (fstC p8)) = (fstC p8) := by kernel_rfl
  rw [← e]
  exact appQ (fun ρ w => b19 R C7 (ρ 1) (ρ 3) (ρ 62) w) 0 ((b18_eq R C7 ρ w).mp h) (fun ρ w h => b19_ok R C7 ρ w h)
theorem k13_ok (R : EP) (C7 : VP) (ρ : Env) (w : World) (h : b18 R C7 (ρ 1) (ρ 3) (ρ 4) w) : codeP Try.prog (pan R) p8 (q5 R C7) ρ w := by
  have e : Code.seq (fstC p8) (sndC p8) = p8 := by kernel_rfl
  rw [← e]
  exact seqQ (fun ρ w => b14 R C7 (ρ 1) (ρ 3) w) (b18_ok R C7 ρ w h) (fun ρ w h => b14_ok R C7 ρ w h)

def b12 (R : EP) (C7 : VP) (x1 x3 : Value) (w : World) (_r : Tok R := tok R) (_C7 : Tok C7 := tok C7) : Prop :=
  RUN Try.prog (pan R) (Instr.fieldAt 27 x1 0) w fun v1 w2 =>
  RUN Try.prog (pan R) (Instr.loadAt 22 v1) w2 fun v3 w4 =>
  RUN Try.prog (pan R) (Instr.indexAt 22 v3 x3) w4 fun v5 w6 =>
  RUN Try.prog (pan R) (Instr.fieldAt 106 v5 0) w6 fun v7 w8 =>
  RUN Try.prog (pan R) (Instr.loadAt 9 v7) w8 fun v9 w10 =>
  CALL Try.prog (pan R) ref02_IsTerm.id #[v9] w10 fun v11 w12 =>
  b18 R C7 x1 x3 v11 w12
abbrev q9 (R : EP) (C7 : VP) : XP := QX (fun ρ w => b18 R C7 (ρ 1) (ρ 3) (ρ 4) w) (fun ρ w => R (.returned (ρ 2)) w) [(2, (fun ρ w => b10 R C7 (ρ 3) w)), (0, (fun ρ w => b4 R  w))]
theorem b12_eq (R : EP) (C7 : VP) (ρ : Env) (w : World) : (b12 R C7 (ρ 1) (ρ 3) w) = codeP Try.prog (pan R) (preC 0 p7) (q9 R C7) ρ w := by kernel_rfl
theorem b12_ok (R : EP) (C7 : VP) (ρ : Env) (w : World) (h : b12 R C7 (ρ 1) (ρ 3) w) : codeP Try.prog (pan R) p7 (q5 R C7) ρ w := by
  have e : appC 0 (preC 0 p7) (dropC 1 p7) = p7 := by kernel_rfl
  rw [← e]
  exact appQ (fun ρ w => b18 R C7 (ρ 1) (ρ 3) (ρ 4) w) 0 ((b12_eq R C7 ρ w).mp h) (fun ρ w h => k13_ok R C7 ρ w h)
abbrev q10 (R : EP) (C7 : VP) : XP := QX (fun ρ w => b10 R C7 (ρ 3) w) (fun ρ w => R (.returned (ρ 2)) w) [(0, (fun ρ w => b4 R  w))]
theorem k11_ok (R : EP) (C7 : VP) (ρ : Env) (w : World) (h : b12 R C7 (ρ 1) (ρ 3) w) : codeP Try.prog (pan R) (fstC p6) (q10 R C7) ρ w := by
  have e : Code.block 1 (blkC (fstC p6)) = (fstC p6) := by kernel_rfl
  rw [← e]
  exact blockQ (b12_ok R C7 ρ w h)
theorem k9_ok (R : EP) (C7 : VP) (ρ : Env) (w : World) (h : b12 R C7 (ρ 1) (ρ 3) w) : codeP Try.prog (pan R) p6 (q2 R C7) ρ w := by
  have e : Code.seq (fstC p6) (sndC p6) = p6 := by kernel_rfl
  rw [← e]
  exact seqQ (fun ρ w => b10 R C7 (ρ 3) w) (k11_ok R C7 ρ w h) (fun ρ w h => b10_ok R C7 ρ w h)

def b8 (R : EP) (C7 : VP) (x1 x3 : Value) (w : World) (_r : Tok R := tok R) (_C7 : Tok C7 := tok C7) : Prop :=
  RUN Try.prog (pan R) (Instr.fieldAt 27 x1 0) w fun v1 w2 =>
  RUN Try.prog (pan R) (Instr.loadAt 22 v1) w2 fun v3 w4 =>
  RUN Try.prog (pan R) (Builtin.len_ #[22] 3 #[v3]) w4 fun v5 w6 =>
  RUN Try.prog (pan R) (bins .lss 3 (.tmp 26) (.tmp 29) x3 v5) w6 fun v7 w8 =>
  SPL v7
  (b12 R C7 x1 x3 w8)
  (b4 R w8)
abbrev q11 (R : EP) (C7 : VP) : XP := QX (fun ρ w => b12 R C7 (ρ 1) (ρ 3) w) (fun ρ w => R (.returned (ρ 2)) w) [(0, (fun ρ w => b4 R  w))]
theorem b8_eq (R : EP) (C7 : VP) (ρ : Env) (w : World) : (b8 R C7 (ρ 1) (ρ 3) w) = codeP Try.prog (pan R) (preC 0 p5) (q11 R C7) ρ w := by kernel_rfl
theorem b8_ok (R : EP) (C7 : VP) (ρ : Env) (w : World) (h : b8 R C7 (ρ 1) (ρ 3) w) : codeP Try.prog (pan R) p5 (q2 R C7) ρ w := by
  have e : appC 0 (preC 0 p5) (dropC 1 p5) = p5 := by kernel_rfl
  rw [← e]
  exact appQ (fun ρ w => b12 R C7 (ρ 1) (ρ 3) w) 0 ((b8_eq R C7 ρ w).mp h) (fun ρ w h => k9_ok R C7 ρ w h)

def l7 (R : EP) (x1 x3 : Value) (w : World) (_r : Tok R := tok R) : Prop :=
  ∃ (J : VP) (μ : Value → World → Nat), J x3 w ∧ ∀ y3 w0, J y3 w0 → b8 R (fun z3 w1 => J z3 w1 ∧ μ z3 w1 < μ y3 w0) x1 y3 w0
abbrev q12 (R : EP) : XP := QX (fun ρ w => b4 R  w) (fun ρ w => R (.returned (ρ 2)) w) [(0, (fun ρ w => b4 R  w))]
theorem l7_ok (R : EP) (ρ : Env) (w : World) (h : l7 R (ρ 1) (ρ 3) w) : codeP Try.prog (pan R) (blkC p4) (q12 R) ρ w := by
  unfold l7 at h
  obtain ⟨J, μ, h0, hr⟩ := h
  have e : Code.loop (loopC (blkC p4)) = (blkC p4) := by kernel_rfl
  rw [← e]
  refine loopQ (fun ρ' w' => J (ρ' 3) w') (fun ρ' w' => μ (ρ' 3) w') h0 fun ρ' w' hA hI => ?_
  have e1 : ρ' 1 = ρ 1 := Agree.at hA 1 (by kernel_rfl)
  have h1 := hr (ρ' 3) w' hI
  rw [← e1] at h1
  exact b8_ok R (fun z3 w1 => J z3 w1 ∧ μ z3 w1 < μ (ρ' 3) w') ρ' w' h1
theorem l7_intro (R : EP) (x1 x3 : Value) (w : World) (J : VP) (μ : Value → World → Nat) (h0 : J x3 w)
    (hr : ∀ y3 w0, J y3 w0 → ∀ C7 : VP, (∀ z3 w1, J z3 w1 → μ z3 w1 < μ y3 w0 → C7 z3 w1) → b8 R C7 x1 y3 w0) : l7 R x1 x3 w := by
  unfold l7
  exact ⟨J, μ, h0, fun y3 w0 hJ => hr y3 w0 hJ _ (fun z3 w1 h1 h2 => ⟨h1, h2⟩)⟩
abbrev q13 (R : EP) : XP := QX (fun ρ w => b4 R  w) (fun ρ w => R (.returned (ρ 2)) w) []
theorem k6_ok (R : EP) (ρ : Env) (w : World) (h : l7 R (ρ 1) (ρ 3) w) : codeP Try.prog (pan R) p4 (q13 R) ρ w := by
  have e : Code.block 0 (blkC p4) = p4 := by kernel_rfl
  rw [← e]
  exact blockQ (l7_ok R ρ w h)

def b5 (R : EP) (x1 : Value) (w : World) (_r : Tok R := tok R) : Prop :=
  l7 R x1 (Go.Value.int Go.IntKind.i64 1) w
abbrev q14 (R : EP) : XP := QX (fun ρ w => l7 R (ρ 1) (ρ 3) w) (fun ρ w => R (.returned (ρ 2)) w) []
theorem b5_eq (R : EP) (ρ : Env) (w : World) : (b5 R (ρ 1) w) = codeP Try.prog (pan R) (preC 0 p3) (q14 R) ρ w := by kernel_rfl
theorem b5_ok (R : EP) (ρ : Env) (w : World) (h : b5 R (ρ 1) w) : codeP Try.prog (pan R) p3 (q13 R) ρ w := by
  have e : appC 0 (preC 0 p3) (dropC 1 p3) = p3 := by kernel_rfl
  rw [← e]
  exact appQ (fun ρ w => l7 R (ρ 1) (ρ 3) w) 0 ((b5_eq R ρ w).mp h) (fun ρ w h => k6_ok R ρ w h)
theorem k3_ok (R : EP) (ρ : Env) (w : World) (h : b5 R (ρ 1) w) : codeP Try.prog (pan R) (sndC p1) (q1 R) ρ w := by
  have e : Code.seq (fstC (sndC p1)) (sndC (sndC p1)) = (sndC p1) := by kernel_rfl
  rw [← e]
  exact seqQ (fun ρ w => b4 R  w) (b5_ok R ρ w h) (fun ρ w h => b4_ok R ρ w h)
noncomputable abbrev p12 : Code := dropC 1 (fstC p1)

def b21 (R : EP) (x1 x25 : Value) (w : World) (_r : Tok R := tok R) : Prop :=
  SPL x25
  (R (.returned (Go.Value.bool Bool.false)) w)
  (b5 R x1 w)
abbrev q15 (R : EP) : XP := QX (fun ρ w => b5 R (ρ 1) w) (fun ρ w => R (.returned (ρ 2)) w) []
theorem b21_eq (R : EP) (ρ : Env) (w : World) : (b21 R (ρ 1) (ρ 25) w) = codeP Try.prog (pan R) p12 (q15 R) ρ w := by kernel_rfl
theorem b21_ok (R : EP) (ρ : Env) (w : World) (h : b21 R (ρ 1) (ρ 25) w) : codeP Try.prog (pan R) p12 (q15 R) ρ w := (b21_eq R ρ w).mp h
def b20_1 (R : EP) (x1 : Value) (w20 : World) (_r : Tok R := tok R) : Prop :=
  RUN Try.prog (pan R) (Instr.fieldAt 27 x1 0) w20 fun v21 w22 =>
  RUN Try.prog (pan R) (Instr.loadAt 22 v21) w22 fun v23 w24 =>
  RUN Try.prog (pan R) (Instr.indexAt 22 v23 (Go.Value.int Go.IntKind.i64 0)) w24 fun v25 w26 =>
  RUN Try.prog (pan R) (Instr.fieldAt 106 v25 1) w26 fun v27 w28 =>
  RUN Try.prog (pan R) (Instr.loadAt 3 v27) w28 fun v29 w30 =>
  RUN Try.prog (pan R) (bins .neq 3 (.tmp 23) (.const (Go.Value.int Go.IntKind.i64 0)) v29 (Go.Value.int Go.IntKind.i64 0)) w30 fun v31 w32 =>
  b21 R x1 v31 w32
def b20_2 (R : EP) (x1 : Value) (w8 : World) (_r : Tok R := tok R) : Prop :=
  RUN Try.prog (pan R) (Instr.fieldAt 27 x1 0) w8 fun v9 w10 =>
  RUN Try.prog (pan R) (Instr.loadAt 22 v9) w10 fun v11 w12 =>
  RUN Try.prog (pan R) (Instr.indexAt 22 v11 (Go.Value.int Go.IntKind.i64 0)) w12 fun v13 w14 =>
  RUN Try.prog (pan R) (Instr.fieldAt 106 v13 0) w14 fun v15 w16 =>
  RUN Try.prog (pan R) (Instr.loadAt 9 v15) w16 fun v17 w18 =>
  RUN Try.prog (pan R) (bins .neq 9 (.tmp 15) (.const (Go.Value.string { data := #[] })) v17 (Go.Value.string { data := #[] })) w18 fun v19 w20 =>
  SPL v19
  (b21 R x1 (Go.Value.bool Bool.true) w20)
  (b20_1 R x1 w20)

def b20 (R : EP) (x1 : Value) (w : World) (_r : Tok R := tok R) : Prop :=
  RUN Try.prog (pan R) (Instr.fieldAt 27 x1 0) w fun v1 w2 =>
  RUN Try.prog (pan R) (Instr.loadAt 22 v1) w2 fun v3 w4 =>
  RUN Try.prog (pan R) (Builtin.len_ #[22] 3 #[v3]) w4 fun v5 w6 =>
  RUN Try.prog (pan R) (bins .eql 3 (.tmp 8) (.const (Go.Value.int Go.IntKind.i64 0)) v5 (Go.Value.int Go.IntKind.i64 0)) w6 fun v7 w8 =>
  SPL v7
  (b21 R x1 (Go.Value.bool Bool.true) w8)
  (b20_2 R x1 w8)
abbrev q16 (R : EP) : XP := QX (fun ρ w => b21 R (ρ 1) (ρ 25) w) (fun ρ w => R (.returned (ρ 2)) w) []
theorem b20_eq (R : EP) (ρ : Env) (w : World) : (b20 R (ρ 1) w) = codeP Try.prog (pan R) (preC 0 (fstC p1)) (q16 R) ρ w := by kernel_rfl
theorem b20_ok (R : EP) (ρ : Env) (w : World) (h : b20 R (ρ 1) w) : codeP Try.prog (pan R) (fstC p1) (q15 R) ρ w := by
  have e : appC 0 (preC 0 (fstC p1)) (dropC 1 (fstC p1)) = (fstC p1) := by kernel_rfl
  rw [← e]
  exact appQ (fun ρ w => b21 R (ρ 1) (ρ 25) w) 0 ((b20_eq R ρ w).mp h) (fun ρ w h => b21_ok R ρ w h)
theorem k2_ok (R : EP) (ρ : Env) (w : World) (h : b20 R (ρ 1) w) : codeP Try.prog (pan R) p1 (q1 R) ρ w := by
  have e : Code.seq (fstC p1) (sndC p1) = p1 := by kernel_rfl
  rw [← e]
  exact seqQ (fun ρ w => b5 R (ρ 1) w) (b20_ok R ρ w h) (fun ρ w h => k3_ok R ρ w h)

def b1 (R : EP) (x0 : Value) (w : World) (_r : Tok R := tok R) : Prop :=
  RUN Try.prog (pan R) (Instr.box 27 x0) w fun v1 w2 =>
  b20 R v1 w2
abbrev q17 (R : EP) : XP := QX (fun ρ w => b20 R (ρ 1) w) (fun ρ w => R (.returned (ρ 2)) w) []
theorem b1_eq (R : EP) (ρ : Env) (w : World) : (b1 R (ρ 0) w) = codeP Try.prog (pan R) (preC 0 code) (q17 R) ρ w := by kernel_rfl
theorem b1_ok (R : EP) (ρ : Env) (w : World) (h : b1 R (ρ 0) w) : codeP Try.prog (pan R) code (q1 R) ρ w := by
  have e : appC 0 (preC 0 code) (dropC 1 code) = code := by kernel_rfl
  rw [← e]
  exact appQ (fun ρ w => b20 R (ρ 1) w) 0 ((b1_eq R ρ w).mp h) (fun ρ w h => k2_ok R ρ w h)
/-- What is owed for a call. -/
def run (R : EP) (a0 : Value) (w : World) : Prop := b1 R a0 w
theorem calls (R : EP) (a0 : Value) (w : World) (h : run R a0 w) : Calls Try.prog id #[a0] w R :=
  calls_of_t (f := id) (fn := Try.f120) (c := code) (by kernel_rfl) Try.func120 (by kernel_rfl) (by kernel_rfl) (args := [a0]) (Nat.le_of_ble_eq_true rfl) rfl (b1_ok R (envOf [a0]) w h)
theorem enters : Enters Try.prog id := fun args w => Try.call120 args w
theorem ct {a0 : Value} {w : World} {S : VP} (h : ∀ R : EP, (∀ v w, S v w → R (.returned v) w) → run R a0 w) : Ct Try.prog id #[a0] w S :=
  Ct.intro enters fun R hR => calls R a0 w (h R hR)
attribute [irreducible] b4 b10 b17_1 b17 l16 b14 b19 b18_1 b18_2 b18 b12 b8 l7 b5 b21 b20_1 b20_2 b20 b1 run
attribute [go_sem] b4 b10 b17_1 b17 b14 b19 b18_1 b18_2 b18 b12 b8 b5 b21 b20_1 b20_2 b20 b1 run
end ref02_termsFit

/-! ### presage/presageref02.levelsFit -/
namespace ref02_levelsFit
noncomputable def code : Code := bodyOf Try.f121
noncomputable abbrev p1 : Code := dropC 1 code

def b3 (R : EP) (w : World) (_r : Tok R := tok R) : Prop :=
  R (.returned (Go.Value.bool Bool.true)) w
abbrev q1 (R : EP) : XP := QX (fun ρ w => R (.returned (ρ 2)) w) (fun ρ w => R (.returned (ρ 2)) w) []
theorem b3_eq (R : EP) (ρ : Env) (w : World) : (b3 R w) = codeP Try.prog (pan R) (sndC p1) (q1 R) ρ w := by kernel_rfl
theorem b3_ok (R : EP) (ρ : Env) (w : World) (h : b3 R w) : codeP Try.prog (pan R) (sndC p1) (q1 R) ρ w := (b3_eq R ρ w).mp h
noncomputable abbrev p2 : Code := dropC 1 (fstC p1)
noncomputable abbrev p3 : Code := loopC (blkC p2)
noncomputable abbrev p4 : Code := dropC 1 p3
def b9 (R : EP) (C6 : VP) (x3 : Value) (w : World) (_r : Tok R := tok R) (_C6 : Tok C6 := tok C6) : Prop :=
  RUN Try.prog (pan R) (bins .add 3 (.tmp 11) (.const (Go.Value.int Go.IntKind.i64 1)) x3 (Go.Value.int Go.IntKind.i64 1)) w fun v1 w2 =>
  C6 v1 w2
abbrev q2 (R : EP) (C6 : VP) : XP := QX (fun ρ w => C6 (ρ 3) w) (fun ρ w => R (.returned (ρ 2)) w) [(0, (fun ρ w => b3 R  w))]
theorem b9_eq (R : EP) (C6 : VP) (ρ : Env) (w : World) : (b9 R C6 (ρ 3) w) = codeP Try.prog (pan R) (sndC p4) (q2 R C6) ρ w := by kernel_rfl
theorem b9_ok (R : EP) (C6 : VP) (ρ : Env) (w : World) (h : b9 R C6 (ρ 3) w) : codeP Try.prog (pan R) (sndC p4) (q2 R C6) ρ w := (b9_eq R C6 ρ w).mp h
noncomputable abbrev p5 : Code := blkC (fstC p4)
noncomputable abbrev p6 : Code := dropC 1 p5
noncomputable abbrev p7 : Code := dropC 1 (sndC p6)
def b14 (R : EP) (C6 : VP) (x3 x49 : Value) (w : World) (_r : Tok R := tok R) (_C6 : Tok C6 := tok C6) : Prop :=
  SPL x49
  (R (.returned (Go.Value.bool Bool.false)) w)
  (b9 R C6 x3 w)
abbrev q3 (R : EP) (C6 : VP) : XP := QX (fun ρ w => b9 R C6 (ρ 3) w) (fun ρ w => R (.returned (ρ 2)) w) [(2, (fun ρ w => b9 R C6 (ρ 3) w)), (0, (fun ρ w => b3 R  w))]
theorem b14_eq (R : EP) (C6 : VP) (ρ : Env) (w : World) : (b14 R C6 (ρ 3) (ρ 49) w) = codeP Try.prog (pan R) p7 (q3 R C6) ρ w := by kernel_rfl
theorem b14_ok (R : EP) (C6 : VP) (ρ : Env) (w : World) (h : b14 R C6 (ρ 3) (ρ 49) w) : codeP Try.prog (pan R) p7 (q3 R C6) ρ w := (b14_eq R C6 ρ w).mp h
def b13_1 (R : EP) (C6 : VP) (x1 x3 : Value) (w12 : World) (_r : Tok R := tok R) (_C6 : Tok C6 := tok C6) : Prop :=
  RUN Try.prog (pan R) (Instr.fieldAt 27 x1 2) w12 fun v13 w14 =>
  RUN Try.prog (pan R) (Instr.loadAt 24 v13) w14 fun v15 w16 =>
  RUN Try.prog (pan R) (Instr.indexAt 24 v15 x3) w16 fun v17 w18 =>
  RUN Try.prog (pan R) (Instr.loadAt 3 v17) w18 fun v19 w20 =>
  RUN Try.prog (pan R) (bins .gtr 3 (.tmp 47) (.const (Go.Value.int Go.IntKind.i64 3)) v19 (Go.Value.int Go.IntKind.i64 3)) w20 fun v21 w22 =>
  b14 R C6 x3 v21 w22
def b13_2 (R : EP) (C6 : VP) (x1 x3 : Value) (w2 : World) (_r : Tok R := tok R) (_C6 : Tok C6 := tok C6) : Prop :=
  RUN Try.prog (pan R) (Instr.fieldAt 27 x1 2) w2 fun v3 w4 =>
  RUN Try.prog (pan R) (Instr.loadAt 24 v3) w4 fun v5 w6 =>
  RUN Try.prog (pan R) (Instr.indexAt 24 v5 x3) w6 fun v7 w8 =>
  RUN Try.prog (pan R) (Instr.loadAt 3 v7) w8 fun v9 w10 =>
  RUN Try.prog (pan R) (bins .lss 3 (.tmp 39) (.const (Go.Value.int Go.IntKind.i64 1)) v9 (Go.Value.int Go.IntKind.i64 1)) w10 fun v11 w12 =>
  SPL v11
  (b14 R C6 x3 (Go.Value.bool Bool.true) w12)
  (b13_1 R C6 x1 x3 w12)
def b13 (R : EP) (C6 : VP) (x1 x3 x4 : Value) (w : World) (_r : Tok R := tok R) (_C6 : Tok C6 := tok C6) : Prop :=
  RUN Try.prog (pan R) (Op.unary .not x4) w fun v1 w2 =>
  SPL v1
  (b14 R C6 x3 (Go.Value.bool Bool.true) w2)
  (b13_2 R C6 x1 x3 w2)
abbrev q4 (R : EP) (C6 : VP) : XP := QX (fun ρ w => b14 R C6 (ρ 3) (ρ 49) w) (fun ρ w => R (.returned (ρ 2)) w) [(2, (fun ρ w => b9 R C6 (ρ 3) w)), (0, (fun ρ w => b3 R  w))]
theorem b13_eq (R : EP) (C6 : VP) (ρ : Env) (w : World) : (b13 R C6 (ρ 1) (ρ 3) (ρ 4) w) = codeP Try.prog (pan R) (preC 0 (sndC p6)) (q4 R C6) ρ w := by kernel_rfl
theorem b13_ok (R : EP) (C6 : VP) (ρ : Env) (w : World) (h : b13 R C6 (ρ 1) (ρ 3) (ρ 4) w) : codeP Try.prog (pan R) (sndC p6) (q3 R C6) ρ w := by
  have e : appC 0 (preC 0 (sndC p6)) (dropC 1 (sndC p6)) = (sndC p6) := by kernel_rfl
  rw [← e]
  exact appQ (fun ρ w => b14 R C6 (ρ 3) (ρ 49) w) 0 ((b13_eq R C6 ρ w).mp h) (fun ρ w h => b14_ok R C6 ρ w h)
noncomputable abbrev p8 : Code := dropC 1 (fstC p6)
noncomputable abbrev p9 : Code := loopC (blkC p8)
noncomputable abbrev p10 : Code := dropC 2 p9
def b19 (R : EP) (C6 : VP) (C17 : Value → VP) (x4 x5 : Value) (w : World) (_r : Tok R := tok R) (_C6 : Tok C6 := tok C6) (_C17 : Tok C17 := tok C17) : Prop :=
  RUN Try.prog (pan R) (bins .add 3 (.tmp 18) (.const (Go.Value.int Go.IntKind.i64 1)) x5 (Go.Value.int Go.IntKind.i64 1)) w fun v1 w2 =>
  C17 x4 v1 w2
abbrev q5 (R : EP) (C6 : VP) (C17 : Value → VP) : XP := QX (fun ρ w => C17 (ρ 4) (ρ 5) w) (fun ρ w => R (.returned (ρ 2)) w) [(4, (fun ρ w => b13 R C6 (ρ 1) (ρ 3) (ρ 4) w)), (2, (fun ρ w => b9 R C6 (ρ 3) w)), (0, (fun ρ w => b3 R  w))]
theorem b19_eq (R : EP) (C6 : VP) (C17 : Value → VP) (ρ : Env) (w : World) : (b19 R C6 C17 (ρ 4) (ρ 5) w) = codeP Try.prog (pan R) p10 (q5 R C6 C17) ρ w := by kernel_rfl
theorem b19_ok (R : EP) (C6 : VP) (C17 : Value → VP) (ρ : Env) (w : World) (h : b19 R C6 C17 (ρ 4) (ρ 5) w) : codeP Try.prog (pan R) p10 (q5 R C6 C17) ρ w := (b19_eq R C6 C17 ρ w).mp h
def b18_1 (R : EP) (C6 : VP) (C17 : Value → VP) (x1 x3 x5 : Value) (w8 : World) (_r : Tok R := tok R) (_C6 : Tok C6 := tok C6) (_C17 : Tok C17 := tok C17) : Prop :=
  RUN Try.prog (pan R) (Instr.fieldAt 27 x1 0) w8 fun v9 w10 =>
  RUN Try.prog (pan R) (Instr.loadAt 22 v9) w10 fun v11 w12 =>
  RUN Try.prog (pan R) (Instr.indexAt 22 v11 x5) w12 fun v13 w14 =>
  RUN Try.prog (pan R) (Instr.fieldAt 106 v13 1) w14 fun v15 w16 =>
  RUN Try.prog (pan R) (Instr.loadAt 3 v15) w16 fun v17 w18 =>
  RUN Try.prog (pan R) (bins .add 3 (.tmp 28) (.const (Go.Value.int Go.IntKind.i64 1)) x3 (Go.Value.int Go.IntKind.i64 1)) w18 fun v19 w20 =>
  RUN Try.prog (pan R) (bins .eql 3 (.tmp 27) (.tmp 29) v17 v19) w20 fun v21 w22 =>
  b19 R C6 C17 v21 x5 w22
def b18 (R : EP) (C6 : VP) (C17 : Value → VP) (x1 x3 x4 x5 : Value) (w : World) (_r : Tok R := tok R) (_C6 : Tok C6 := tok C6) (_C17 : Tok C17 := tok C17) : Prop :=
  RUN Try.prog (pan R) (Instr.fieldAt 27 x1 0) w fun v1 w2 =>
  RUN Try.prog (pan R) (Instr.loadAt 22 v1) w2 fun v3 w4 =>
  RUN Try.prog (pan R) (Builtin.len_ #[22] 3 #[v3]) w4 fun v5 w6 =>
  RUN Try.prog (pan R) (bins .lss 3 (.tmp 13) (.tmp 16) x5 v5) w6 fun v7 w8 =>
  SPL v7
  (SPL x4
  (b19 R C6 C17 (Go.Value.bool Bool.true) x5 w8)
  (b18_1 R C6 C17 x1 x3 x5 w8))
  (b13 R C6 x1 x3 x4 w8)
abbrev q6 (R : EP) (C6 : VP) (C17 : Value → VP) : XP := QX (fun ρ w => b19 R C6 C17 (ρ 4) (ρ 5) w) (fun ρ w => R (.returned (ρ 2)) w) [(4, (fun ρ w => b13 R C6 (ρ 1) (ρ 3) (ρ 4) w)), (2, (fun ρ w => b9 R C6 (ρ 3) w)), (0, (fun ρ w => b3 R  w))]
theorem b18_eq (R : EP) (C6 : VP) (C17 : Value → VP) (ρ : Env) (w : World) : (b18 R C6 C17 (ρ 1) (ρ 3) (ρ 4) (ρ 5) w) = codeP Try.prog (pan R) (preC 1 p9) (q6 R C6 C17) ρ w := by kernel_rfl
theorem b18_ok (R : EP) (C6 : VP) (C17 : Value → VP) (ρ : Env) (w : World) (h : b18 R C6 C17 (ρ 1) (ρ 3) (ρ 4) (ρ 5) w) : codeP Try.prog (pan R) p9 (q5 R C6 C17) ρ w := by
  have e : appC 1 (preC 1 p9) (dropC 2 p9) = p9 := by kernel_rfl
  rw [← e]
  exact appQ (fun ρ w => b19 R C6 C17 (ρ 4) (ρ 5) w) 1 ((b18_eq R C6 C17 ρ w).mp h) (fun ρ w h => b19_ok R C6 C17 ρ w h)
def l17 (R : EP) (C6 : VP) (x1 x3 x4 x5 : Value) (w : World) (_r : Tok R := tok R) (_C6 : Tok C6 := tok C6) : Prop :=
  ∃ (J : Value → VP) (μ : Value → Value → World → Nat), J x4 x5 w ∧ ∀ y4 y5 w0, J y4 y5 w0 → b18 R C6 (fun z4 z5 w1 => J z4 z5 w1 ∧ μ z4 z5 w1 < μ y4 y5 w0) x1 x3 y4 y5 w0
abbrev q7 (R : EP) (C6 : VP) : XP := QX (fun ρ w => b13 R C6 (ρ 1) (ρ 3) (ρ 4) w) (fun ρ w => R (.returned (ρ 2)) w) [(4, (fun ρ w => b13 R C6 (ρ 1) (ρ 3) (ρ 4) w)), (2, (fun ρ w => b9 R C6 (ρ 3) w)), (0, (fun ρ w => b3 R  w))]
theorem l17_ok (R : EP) (C6 : VP) (ρ : Env) (w : World) (h : l17 R C6 (ρ 1) (ρ 3) (ρ 4) (ρ 5) w) : codeP Try.prog (pan R) (blkC p8) (q7 R C6) ρ w := by
  unfold l17 at h
  obtain ⟨J, μ, h0, hr⟩ := h
  have e : Code.loop (loopC (blkC p8)) = (blkC p8) := by kernel_rfl
  rw [← e]
  refine loopQ (fun ρ' w' => J (ρ' 4) (ρ' 5) w') (fun ρ' w' => μ (ρ' 4) (ρ' 5) w') h0 fun ρ' w' hA hI => ?_
  have e1 : ρ' 1 = ρ 1 := Agree.at hA 1 (by kernel_rfl)
  have e3 : ρ' 3 = ρ 3 := Agree.at hA 3 (by kernel_rfl)
  have h1 := hr (ρ' 4) (ρ' 5) w' hI
  rw [← e1, ← e3] at h1
  exact b18_ok R C6 (fun z4 z5 w1 => J z4 z5 w1 ∧ μ z4 z5 w1 < μ (ρ' 4) (ρ' 5) w') ρ' w' h1
theorem l17_intro (R : EP) (C6 : VP) (x1 x3 x4 x5 : Value) (w : World) (J : Value → VP) (μ : Value → Value → World → Nat) (h0 : J x4 x5 w)
    (hr : ∀ y4 y5 w0, J y4 y5 w0 → ∀ C17 : Value → VP, (∀ z4 z5 w1, J z4 z5 w1 → μ z4 z5 w1 < μ y4 y5 w0 → C17 z4 z5 w1) → b18 R C6 C17 x1 x3 y4 y5 w0) : l17 R C6 x1 x3 x4 x5 w := by
  unfold l17
  exact ⟨J, μ, h0, fun y4 y5 w0 hJ => hr y4 y5 w0 hJ _ (fun z4 z5 w1 h1 h2 => ⟨h1, h2⟩)⟩
abbrev q8 (R : EP) (C6 : VP) : XP := QX (fun ρ w => b13 R C6 (ρ 1) (ρ 3) (ρ 4) w) (fun ρ w => R (.returned (ρ 2)) w) [(2, (fun ρ w => b9 R C6 (ρ 3) w)), (0, (fun ρ w => b3 R  w))]
theorem k16_ok (R : EP) (C6 : VP) (ρ : Env) (w : World) (h : l17 R C6 (ρ 1) (ρ 3) (ρ 4) (ρ 5) w) : codeP Try.prog (pan R) p8 (q8 R C6) ρ w := by
  have e : Code.block 2 (blkC p8) = p8 := by kernel_rfl
  rw [← e]
  exact blockQ (l17_ok R C6 ρ w h)
def b15 (R : EP) (C6 : VP) (x1 x3 x4 : Value) (w : World) (_r : Tok R := tok R) (_C6 : Tok C6 := tok C6) : Prop :=
  l17 R C6 x1 x3 x4 (Go.Value.int Go.IntKind.i64 0) w
abbrev q9 (R : EP) (C6 : VP) : XP := QX (fun ρ w => l17 R C6 (ρ 1) (ρ 3) (ρ 4) (ρ 5) w) (fun ρ w => R (.returned (ρ 2)) w) [(2, (fun ρ w => b9 R C6 (ρ 3) w)), (0, (fun ρ w => b3 R  w))]
theorem b15_eq (R : EP) (C6 : VP) (ρ : Env) (w : World) : (b15 R C6 (ρ 1) (ρ 3) (ρ 4) w) = codeP Try.prog (pan R) (preC 0 (fstC p6)) (q9 R C6) ρ w := by kernel_rfl
theorem b15_ok (R : EP) (C6 : VP) (ρ : Env) (w : World) (h : b15 R C6 (ρ 1) (ρ 3) (ρ 4) w) : codeP Try.prog (pan R) (fstC p6) (q8 R C6) ρ w := by
  have e : appC 0 (preC 0 (fstC p6)) (dropC 1 (fstC p6)) = (fstC p6) := by kernel_rfl
  rw [← e]
  exact appQ (fun ρ w => l17 R C6 (ρ 1) (ρ 3) (ρ 4) (ρ 5) w) 0 ((b15_eq R C6 ρ w).mp h) (fun ρ w h => k16_ok R C6 ρ w h)
theorem k12_ok (R : EP) (C6 : VP) (ρ : Env) (w : World) (h : b15 R C6 (ρ 1) (ρ 3) (ρ 4) w) : codeP Try.prog (pan R) p6 (q3 R C6) ρ w := by
  have e : Code.seq (fstC p6) (sndC p6) = p6 := by kernel_rfl
  rw [← e]
  exact seqQ (fun ρ w => b13 R C6 (ρ 1) (ρ 3) (ρ 4) w) (b15_ok R C6 ρ w h) (fun ρ w h => b13_ok R C6 ρ w h)
def b11 (R : EP) (C6 : VP) (x1 x3 : Value) (w : World) (_r : Tok R := tok R) (_C6 : Tok C6 := tok C6) : Prop :=
  b15 R C6 x1 x3 (Go.Value.bool Bool.false) w
abbrev q10 (R : EP) (C6 : VP) : XP := QX (fun ρ w => b15 R C6 (ρ 1) (ρ 3) (ρ 4) w) (fun ρ w => R (.returned (ρ 2)) w) [(2, (fun ρ w => b9 R C6 (ρ 3) w)), (0, (fun ρ w => b3 R  w))]
theorem b11_eq (R : EP) (C6 : VP) (ρ : Env) (w : World) : (b11 R C6 (ρ 1) (ρ 3) w) = codeP Try.prog (pan R) (preC 0 p5) (q10 R C6) ρ w := by kernel_rfl
theorem b11_ok (R : EP) (C6 : VP) (ρ : Env) (w : World) (h : b11 R C6 (ρ 1) (ρ 3) w) : codeP Try.prog (pan R) p5 (q3 R C6) ρ w := by
  have e : appC 0 (preC 0 p5) (dropC 1 p5) = p5 := by kernel_rfl
  rw [← e]
  exact appQ (fun ρ w => b15 R C6 (ρ 1) (ρ 3) (ρ 4) w) 0 ((b11_eq R C6 ρ w).mp h) (fun ρ w h => k12_ok R C6 ρ w h)
abbrev q11 (R : EP) (C6 : VP) : XP := QX (fun ρ w => b9 R C6 (ρ 3) w) (fun ρ w => R (.returned (ρ 2)) w) [(0, (fun ρ w => b3 R  w))]
theorem k10_ok (R : EP) (C6 : VP) (ρ : Env) (w : World) (h : b11 R C6 (ρ 1) (ρ 3) w) : codeP Try.prog (pan R) (fstC p4) (q11 R C6) ρ w := by
  have e : Code.block 1 (blkC (fstC p4)) = (fstC p4) := by kernel_rfl
  rw [← e]
  exact blockQ (b11_ok R C6 ρ w h)
theorem k8_ok (R : EP) (C6 : VP) (ρ : Env) (w : World) (h : b11 R C6 (ρ 1) (ρ 3) w) : codeP Try.prog (pan R) p4 (q2 R C6) ρ w := by
  have e : Code.seq (fstC p4) (sndC p4) = p4 := by kernel_rfl
  rw [← e]
  exact seqQ (fun ρ w => b9 R C6 (ρ 3) w) (k10_ok R C6 ρ w h) (fun ρ w h => b9_ok R C6 ρ w h)
def b7 (R : EP) (C6 : VP) (x1 x3 : Value) (w : World) (_r : Tok R := tok R) (_C6 : Tok C6 := tok C6) : Prop :=
  RUN Try.prog (pan R) (Instr.fieldAt 27 x1 2) w fun v1 w2 =>
  RUN Try.prog (pan R) (Instr.loadAt 24 v1) w2 fun v3 w4 =>
  RUN Try.prog (pan R) (Builtin.len_ #[24] 3 #[v3]) w4 fun v5 w6 =>
  RUN Try.prog (pan R) (bins .lss 3 (.tmp 6) (.tmp 9) x3 v5) w6 fun v7 w8 =>
  SPL v7
  (b11 R C6 x1 x3 w8)
  (b3 R w8)
abbrev q12 (R : EP) (C6 : VP) : XP := QX (fun ρ w => b11 R C6 (ρ 1) (ρ 3) w) (fun ρ w => R (.returned (ρ 2)) w) [(0, (fun ρ w => b3 R  w))]
theorem b7_eq (R : EP) (C6 : VP) (ρ : Env) (w : World) : (b7 R C6 (ρ 1) (ρ 3) w) = codeP Try.prog (pan R) (preC 0 p3) (q12 R C6) ρ w := by kernel_rfl
theorem b7_ok (R : EP) (C6 : VP) (ρ : Env) (w : World) (h : b7 R C6 (ρ 1) (ρ 3) w) : codeP Try.prog (pan R) p3 (q2 R C6) ρ w := by
  have e : appC 0 (preC 0 p3) (dropC 1 p3) = p3 := by kernel_rfl
  rw [← e]
  exact appQ (fun ρ w => b11 R C6 (ρ 1) (ρ 3) w) 0 ((b7_eq R C6 ρ w).mp h) (fun ρ w h => k8_ok R C6 ρ w h)
def l6 (R : EP) (x1 x3 : Value) (w : World) (_r : Tok R := tok R) : Prop :=
  ∃ (J : VP) (μ : Value → World → Nat), J x3 w ∧ ∀ y3 w0, J y3 w0 → b7 R (fun z3 w1 => J z3 w1 ∧ μ z3 w1 < μ y3 w0) x1 y3 w0
abbrev q13 (R : EP) : XP := QX (fun ρ w => b3 R  w) (fun ρ w => R (.returned (ρ 2)) w) [(0, (fun ρ w => b3 R  w))]
theorem l6_ok (R : EP) (ρ : Env) (w : World) (h : l6 R (ρ 1) (ρ 3) w) : codeP Try.prog (pan R) (blkC p2) (q13 R) ρ w := by
  unfold l6 at h
  obtain ⟨J, μ, h0, hr⟩ := h
  have e : Code.loop (loopC (blkC p2)) = (blkC p2) := by kernel_rfl
  rw [← e]
  refine loopQ (fun ρ' w' => J (ρ' 3) w') (fun ρ' w' => μ (ρ' 3) w') h0 fun ρ' w' hA hI => ?_
  have e1 : ρ' 1 = ρ 1 := Agree.at hA 1 (by kernel_rfl)
  have h1 := hr (ρ' 3) w' hI
  rw [← e1] at h1
  exact b7_ok R (fun z3 w1 => J z3 w1 ∧ μ z3 w1 < μ (ρ' 3) w') ρ' w' h1
theorem l6_intro (R : EP) (x1 x3 : Value) (w : World) (J : VP) (μ : Value → World → Nat) (h0 : J x3 w)
    (hr : ∀ y3 w0, J y3 w0 → ∀ C6 : VP, (∀ z3 w1, J z3 w1 → μ z3 w1 < μ y3 w0 → C6 z3 w1) → b7 R C6 x1 y3 w0) : l6 R x1 x3 w := by
  unfold l6
  exact ⟨J, μ, h0, fun y3 w0 hJ => hr y3 w0 hJ _ (fun z3 w1 h1 h2 => ⟨h1, h2⟩)⟩
abbrev q14 (R : EP) : XP := QX (fun ρ w => b3 R  w) (fun ρ w => R (.returned (ρ 2)) w) []
theorem k5_ok (R : EP) (ρ : Env) (w : World) (h : l6 R (ρ 1) (ρ 3) w) : codeP Try.prog (pan R) p2 (q14 R) ρ w := by
  have e : Code.block 0 (blkC p2) = p2 := by kernel_rfl
  rw [← e]
  exact blockQ (l6_ok R ρ w h)
def b4 (R : EP) (x1 : Value) (w : World) (_r : Tok R := tok R) : Prop :=
  l6 R x1 (Go.Value.int Go.IntKind.i64 0) w
abbrev q15 (R : EP) : XP := QX (fun ρ w => l6 R (ρ 1) (ρ 3) w) (fun ρ w => R (.returned (ρ 2)) w) []
theorem b4_eq (R : EP) (ρ : Env) (w : World) : (b4 R (ρ 1) w) = codeP Try.prog (pan R) (preC 0 (fstC p1)) (q15 R) ρ w := by kernel_rfl
theorem b4_ok (R : EP) (ρ : Env) (w : World) (h : b4 R (ρ 1) w) : codeP Try.prog (pan R) (fstC p1) (q14 R) ρ w := by
  have e : appC 0 (preC 0 (fstC p1)) (dropC 1 (fstC p1)) = (fstC p1) := by kernel_rfl
  rw [← e]
  exact appQ (fun ρ w => l6 R (ρ 1) (ρ 3) w) 0 ((b4_eq R ρ w).mp h) (fun ρ w h => k5_ok R ρ w h)
theorem k2_ok (R : EP) (ρ : Env) (w : World) (h : b4 R (ρ 1) w) : codeP Try.prog (pan R) p1 (q1 R) ρ w := by
  have e : Code.seq (fstC p1) (sndC p1) = p1 := by kernel_rfl
  rw [← e]
  exact seqQ (fun ρ w => b3 R  w) (b4_ok R ρ w h) (fun ρ w h => b3_ok R ρ w h)
def b1 (R : EP) (x0 : Value) (w : World) (_r : Tok R := tok R) : Prop :=
  RUN Try.prog (pan R) (Instr.box 27 x0) w fun v1 w2 =>
  b4 R v1 w2
abbrev q16 (R : EP) : XP := QX (fun ρ w => b4 R (ρ 1) w) (fun ρ w => R (.returned (ρ 2)) w) []
theorem b1_eq (R : EP) (ρ : Env) (w : World) : (b1 R (ρ 0) w) = codeP Try.prog (pan R) (preC 0 code) (q16 R) ρ w := by kernel_rfl
theorem b1_ok (R : EP) (ρ : Env) (w : World) (h : b1 R (ρ 0) w) : codeP Try.prog (pan R) code (q1 R) ρ w := by
  have e : appC 0 (preC 0 code) (dropC 1 code) = code := by kernel_rfl
  rw [← e]
  exact appQ (fun ρ w => b4 R (ρ 1) w) 0 ((b1_eq R ρ w).mp h) (fun ρ w h => k2_ok R ρ w h)
/-- What is owed for a call. -/
def run (R : EP) (a0 : Value) (w : World) : Prop := b1 R a0 w
theorem calls (R : EP) (a0 : Value) (w : World) (h : run R a0 w) : Calls Try.prog id #[a0] w R :=
  calls_of_t (f := id) (fn := Try.f121) (c := code) (by kernel_rfl) Try.func121 (by kernel_rfl) (by kernel_rfl) (args := [a0]) (Nat.le_of_ble_eq_true rfl) rfl (b1_ok R (envOf [a0]) w h)
theorem enters : Enters Try.prog id := fun args w => Try.call121 args w
theorem ct {a0 : Value} {w : World} {S : VP} (h : ∀ R : EP, (∀ v w, S v w → R (.returned v) w) → run R a0 w) : Ct Try.prog id #[a0] w S :=
  Ct.intro enters fun R hR => calls R a0 w (h R hR)
attribute [irreducible] b3 b9 b14 b13_1 b13_2 b13 b19 b18_1 b18 l17 b15 b11 b7 l6 b4 b1 run
attribute [go_sem] b3 b9 b14 b13_1 b13_2 b13 b19 b18_1 b18 b15 b11 b7 b4 b1 run
end ref02_levelsFit

/-! ### presage/presageref02.nonsFit -/
namespace ref02_nonsFit
noncomputable def code : Code := bodyOf Try.f122
noncomputable abbrev p1 : Code := dropC 1 code

def b3 (R : EP) (w : World) (_r : Tok R := tok R) : Prop :=
  R (.returned (Go.Value.bool Bool.true)) w
abbrev q1 (R : EP) : XP := QX (fun ρ w => R (.returned (ρ 4)) w) (fun ρ w => R (.returned (ρ 4)) w) []
theorem b3_eq (R : EP) (ρ : Env) (w : World) : (b3 R w) = codeP Try.prog (pan R) (sndC p1) (q1 R) ρ w := by kernel_rfl
theorem b3_ok (R : EP) (ρ : Env) (w : World) (h : b3 R w) : codeP Try.prog (pan R) (sndC p1) (q1 R) ρ w := (b3_eq R ρ w).mp h
noncomputable abbrev p2 : Code := dropC 1 (fstC p1)
noncomputable abbrev p3 : Code := loopC (blkC p2)
noncomputable abbrev p4 : Code := dropC 1 p3
def b9 (R : EP) (C6 : VP) (x5 : Value) (w : World) (_r : Tok R := tok R) (_C6 : Tok C6 := tok C6) : Prop :=
  RUN Try.prog (pan R) (bins .add 3 (.tmp 14) (.const (Go.Value.int Go.IntKind.i64 1)) x5 (Go.Value.int Go.IntKind.i64 1)) w fun v1 w2 =>
  C6 v1 w2
abbrev q2 (R : EP) (C6 : VP) : XP := QX (fun ρ w => C6 (ρ 5) w) (fun ρ w => R (.returned (ρ 4)) w) [(0, (fun ρ w => b3 R  w))]
theorem b9_eq (R : EP) (C6 : VP) (ρ : Env) (w : World) : (b9 R C6 (ρ 5) w) = codeP Try.prog (pan R) (sndC p4) (q2 R C6) ρ w := by kernel_rfl
theorem b9_ok (R : EP) (C6 : VP) (ρ : Env) (w : World) (h : b9 R C6 (ρ 5) w) : codeP Try.prog (pan R) (sndC p4) (q2 R C6) ρ w := (b9_eq R C6 ρ w).mp h
noncomputable abbrev p5 : Code := blkC (fstC p4)
noncomputable abbrev p6 : Code := dropC 3 p5
noncomputable abbrev p7 : Code := loopC (blkC p6)
def b14_1 (R : EP) (C13 : VP) (x2 x5 x7 : Value) (w2 : World) (_r : Tok R := tok R) (_C13 : Tok C13 := tok C13) : Prop :=
  PUR Try.prog (Instr.fieldAt 27 x2 1) fun v3 =>
  LD Try.prog (Instr.loadAt 23 v3) (World.drew w2) fun v4 =>
  PUR Try.prog (Instr.indexAt 23 v4 x7) fun v5 =>
  LD Try.prog (Instr.loadAt 9 v5) (World.drew w2) fun v6 =>
  PUR Try.prog (Instr.fieldAt 27 x2 1) fun v7 =>
  LD Try.prog (Instr.loadAt 23 v7) (World.drew w2) fun v8 =>
  PUR Try.prog (Instr.indexAt 23 v8 x5) fun v9 =>
  LD Try.prog (Instr.loadAt 9 v9) (World.drew w2) fun v10 =>
  PUR Try.prog (bins .eql 9 (.tmp 34) (.tmp 39) v6 v10) fun v11 =>
  SPL v11
  (R (.returned (Go.Value.bool Bool.false)) (World.drew w2))
  (RUN Try.prog (pan R) (bins .add 3 (.tmp 28) (.const (Go.Value.int Go.IntKind.i64 1)) x7 (Go.Value.int Go.IntKind.i64 1)) (World.drew w2) fun v12 w13 =>
  C13 v12 w13)
def b14 (R : EP) (C6 : VP) (C13 : VP) (x2 x5 x7 : Value) (w : World) (_r : Tok R := tok R) (_C6 : Tok C6 := tok C6) (_C13 : Tok C13 := tok C13) : Prop :=
  RUN Try.prog (pan R) (bins .lss 3 (.tmp 25) (.tmp 26) x7 x5) w fun v1 w2 =>
  SPL v1
  (b14_1 R C13 x2 x5 x7 w2)
  (b9 R C6 x5 w2)
abbrev q3 (R : EP) (C6 : VP) (C13 : VP) : XP := QX (fun ρ w => C13 (ρ 7) w) (fun ρ w => R (.returned (ρ 4)) w) [(4, (fun ρ w => b9 R C6 (ρ 5) w)), (2, (fun ρ w => b9 R C6 (ρ 5) w)), (0, (fun ρ w => b3 R  w))]
theorem b14_eq (R : EP) (C6 : VP) (C13 : VP) (ρ : Env) (w : World) : (b14 R C6 C13 (ρ 2) (ρ 5) (ρ 7) w) = codeP Try.prog (pan R) p7 (q3 R C6 C13) ρ w := by kernel_rfl
theorem b14_ok (R : EP) (C6 : VP) (C13 : VP) (ρ : Env) (w : World) (h : b14 R C6 C13 (ρ 2) (ρ 5) (ρ 7) w) : codeP Try.prog (pan R) p7 (q3 R C6 C13) ρ w := (b14_eq R C6 C13 ρ w).mp h
def l13 (R : EP) (C6 : VP) (x2 x5 x7 : Value) (w : World) (_r : Tok R := tok R) (_C6 : Tok C6 := tok C6) : Prop :=
  ∃ (J : VP) (μ : Value → World → Nat), J x7 w ∧ ∀ y7 w0, J y7 w0 → b14 R C6 (fun z7 w1 => J z7 w1 ∧ μ z7 w1 < μ y7 w0) x2 x5 y7 w0
abbrev q4 (R : EP) (C6 : VP) : XP := QX (fun ρ w => b9 R C6 (ρ 5) w) (fun ρ w => R (.returned (ρ 4)) w) [(4, (fun ρ w => b9 R C6 (ρ 5) w)), (2, (fun ρ w => b9 R C6 (ρ 5) w)), (0, (fun ρ w => b3 R  w))]
theorem l13_ok (R : EP) (C6 : VP) (ρ : Env) (w : World) (h : l13 R C6 (ρ 2) (ρ 5) (ρ 7) w) : codeP Try.prog (pan R) (blkC p6) (q4 R C6) ρ w := by
  unfold l13 at h
  obtain ⟨J, μ, h0, hr⟩ := h
  have e : Code.loop (loopC (blkC p6)) = (blkC p6) := by kernel_rfl
  rw [← e]
  refine loopQ (fun ρ' w' => J (ρ' 7) w') (fun ρ' w' => μ (ρ' 7) w') h0 fun ρ' w' hA hI => ?_
  have e2 : ρ' 2 = ρ 2 := Agree.at hA 2 (by kernel_rfl)
  have e5 : ρ' 5 = ρ 5 := Agree.at hA 5 (by kernel_rfl)
  have h1 := hr (ρ' 7) w' hI
  rw [← e2, ← e5] at h1
  exact b14_ok R C6 (fun z7 w1 => J z7 w1 ∧ μ z7 w1 < μ (ρ' 7) w') ρ' w' h1
theorem l13_intro (R : EP) (C6 : VP) (x2 x5 x7 : Value) (w : World) (J : VP) (μ : Value → World → Nat) (h0 : J x7 w)
    (hr : ∀ y7 w0, J y7 w0 → ∀ C13 : VP, (∀ z7 w1, J z7 w1 → μ z7 w1 < μ y7 w0 → C13 z7 w1) → b14 R C6 C13 x2 x5 y7 w0) : l13 R C6 x2 x5 x7 w := by
  unfold l13
  exact ⟨J, μ, h0, fun y7 w0 hJ => hr y7 w0 hJ _ (fun z7 w1 h1 h2 => ⟨h1, h2⟩)⟩
abbrev q5 (R : EP) (C6 : VP) : XP := QX (fun ρ w => b9 R C6 (ρ 5) w) (fun ρ w => R (.returned (ρ 4)) w) [(2, (fun ρ w => b9 R C6 (ρ 5) w)), (0, (fun ρ w => b3 R  w))]
theorem k12_ok (R : EP) (C6 : VP) (ρ : Env) (w : World) (h : l13 R C6 (ρ 2) (ρ 5) (ρ 7) w) : codeP Try.prog (pan R) p6 (q5 R C6) ρ w := by
  have e : Code.block 2 (blkC p6) = p6 := by kernel_rfl
  rw [← e]
  exact blockQ (l13_ok R C6 ρ w h)
def b11 (R : EP) (C6 : VP) (x1 x2 x5 : Value) (w : World) (_r : Tok R := tok R) (_C6 : Tok C6 := tok C6) : Prop :=
  RUN Try.prog (pan R) (Instr.fieldAt 27 x2 1) w fun v1 w2 =>
  RUN Try.prog (pan R) (Instr.loadAt 23 v1) w2 fun v3 w4 =>
  RUN Try.prog (pan R) (Instr.indexAt 23 v3 x5) w4 fun v5 w6 =>
  RUN Try.prog (pan R) (Instr.loadAt 9 v5) w6 fun v7 w8 =>
  CALL Try.prog (pan R) ref02_IsName.id #[v7] w8 fun v9 w10 =>
  RUN Try.prog (pan R) (Op.unary .not v9) w10 fun v11 w12 =>
  SPL v11
  (R (.returned (Go.Value.bool Bool.false)) w12)
  (l13 R C6 x2 x5 x1 w12)
abbrev q6 (R : EP) (C6 : VP) : XP := QX (fun ρ w => l13 R C6 (ρ 2) (ρ 5) (ρ 7) w) (fun ρ w => R (.returned (ρ 4)) w) [(2, (fun ρ w => b9 R C6 (ρ 5) w)), (0, (fun ρ w => b3 R  w))]
theorem b11_eq (R : EP) (C6 : VP) (ρ : Env) (w : World) : (b11 R C6 (ρ 1) (ρ 2) (ρ 5) w) = codeP Try.prog (pan R) (preC 2 p5) (q6 R C6) ρ w := by kernel_rfl
theorem b11_ok (R : EP) (C6 : VP) (ρ : Env) (w : World) (h : b11 R C6 (ρ 1) (ρ 2) (ρ 5) w) : codeP Try.prog (pan R) p5 (q5 R C6) ρ w := by
  have e : appC 2 (preC 2 p5) (dropC 3 p5) = p5 := by kernel_rfl
  rw [← e]
  exact appQ (fun ρ w => l13 R C6 (ρ 2) (ρ 5) (ρ 7) w) 2 ((b11_eq R C6 ρ w).mp h) (fun ρ w h => k12_ok R C6 ρ w h)
abbrev q7 (R : EP) (C6 : VP) : XP := QX (fun ρ w => b9 R C6 (ρ 5) w) (fun ρ w => R (.returned (ρ 4)) w) [(0, (fun ρ w => b3 R  w))]
theorem k10_ok (R : EP) (C6 : VP) (ρ : Env) (w : World) (h : b11 R C6 (ρ 1) (ρ 2) (ρ 5) w) : codeP Try.prog (pan R) (fstC p4) (q7 R C6) ρ w := by
  have e : Code.block 1 (blkC (fstC p4)) = (fstC p4) := by kernel_rfl
  rw [← e]
  exact blockQ (b11_ok R C6 ρ w h)
theorem k8_ok (R : EP) (C6 : VP) (ρ : Env) (w : World) (h : b11 R C6 (ρ 1) (ρ 2) (ρ 5) w) : codeP Try.prog (pan R) p4 (q2 R C6) ρ w := by
  have e : Code.seq (fstC p4) (sndC p4) = p4 := by kernel_rfl
  rw [← e]
  exact seqQ (fun ρ w => b9 R C6 (ρ 5) w) (k10_ok R C6 ρ w h) (fun ρ w h => b9_ok R C6 ρ w h)
def b7 (R : EP) (C6 : VP) (x1 x2 x5 : Value) (w : World) (_r : Tok R := tok R) (_C6 : Tok C6 := tok C6) : Prop :=
  RUN Try.prog (pan R) (Instr.fieldAt 27 x2 1) w fun v1 w2 =>
  RUN Try.prog (pan R) (Instr.loadAt 23 v1) w2 fun v3 w4 =>
  RUN Try.prog (pan R) (Builtin.len_ #[23] 3 #[v3]) w4 fun v5 w6 =>
  RUN Try.prog (pan R) (bins .lss 3 (.tmp 9) (.tmp 12) x5 v5) w6 fun v7 w8 =>
  SPL v7
  (b11 R C6 x1 x2 x5 w8)
  (b3 R w8)
abbrev q8 (R : EP) (C6 : VP) : XP := QX (fun ρ w => b11 R C6 (ρ 1) (ρ 2) (ρ 5) w) (fun ρ w => R (.returned (ρ 4)) w) [(0, (fun ρ w => b3 R  w))]
theorem b7_eq (R : EP) (C6 : VP) (ρ : Env) (w : World) : (b7 R C6 (ρ 1) (ρ 2) (ρ 5) w) = codeP Try.prog (pan R) (preC 0 p3) (q8 R C6) ρ w := by kernel_rfl
theorem b7_ok (R : EP) (C6 : VP) (ρ : Env) (w : World) (h : b7 R C6 (ρ 1) (ρ 2) (ρ 5) w) : codeP Try.prog (pan R) p3 (q2 R C6) ρ w := by
  have e : appC 0 (preC 0 p3) (dropC 1 p3) = p3 := by kernel_rfl
  rw [← e]
  exact appQ (fun ρ w => b11 R C6 (ρ 1) (ρ 2) (ρ 5) w) 0 ((b7_eq R C6 ρ w).mp h) (fun ρ w h => k8_ok R C6 ρ w h)
def l6 (R : EP) (x1 x2 x5 : Value) (w : World) (_r : Tok R := tok R) : Prop :=
  ∃ (J : VP) (μ : Value → World → Nat), J x5 w ∧ ∀ y5 w0, J y5 w0 → b7 R (fun z5 w1 => J z5 w1 ∧ μ z5 w1 < μ y5 w0) x1 x2 y5 w0
abbrev q9 (R : EP) : XP := QX (fun ρ w => b3 R  w) (fun ρ w => R (.returned (ρ 4)) w) [(0, (fun ρ w => b3 R  w))]
theorem l6_ok (R : EP) (ρ : Env) (w : World) (h : l6 R (ρ 1) (ρ 2) (ρ 5) w) : codeP Try.prog (pan R) (blkC p2) (q9 R) ρ w := by
  unfold l6 at h
  obtain ⟨J, μ, h0, hr⟩ := h
  have e : Code.loop (loopC (blkC p2)) = (blkC p2) := by kernel_rfl
  rw [← e]
  refine loopQ (fun ρ' w' => J (ρ' 5) w') (fun ρ' w' => μ (ρ' 5) w') h0 fun ρ' w' hA hI => ?_
  have e1 : ρ' 1 = ρ 1 := Agree.at hA 1 (by kernel_rfl)
  have e2 : ρ' 2 = ρ 2 := Agree.at hA 2 (by kernel_rfl)
  have h1 := hr (ρ' 5) w' hI
  rw [← e1, ← e2] at h1
  exact b7_ok R (fun z5 w1 => J z5 w1 ∧ μ z5 w1 < μ (ρ' 5) w') ρ' w' h1
theorem l6_intro (R : EP) (x1 x2 x5 : Value) (w : World) (J : VP) (μ : Value → World → Nat) (h0 : J x5 w)
    (hr : ∀ y5 w0, J y5 w0 → ∀ C6 : VP, (∀ z5 w1, J z5 w1 → μ z5 w1 < μ y5 w0 → C6 z5 w1) → b7 R C6 x1 x2 y5 w0) : l6 R x1 x2 x5 w := by
  unfold l6
  exact ⟨J, μ, h0, fun y5 w0 hJ => hr y5 w0 hJ _ (fun z5 w1 h1 h2 => ⟨h1, h2⟩)⟩
abbrev q10 (R : EP) : XP := QX (fun ρ w => b3 R  w) (fun ρ w => R (.returned (ρ 4)) w) []
theorem k5_ok (R : EP) (ρ : Env) (w : World) (h : l6 R (ρ 1) (ρ 2) (ρ 5) w) : codeP Try.prog (pan R) p2 (q10 R) ρ w := by
  have e : Code.block 0 (blkC p2) = p2 := by kernel_rfl
  rw [← e]
  exact blockQ (l6_ok R ρ w h)
def b4 (R : EP) (x1 x2 : Value) (w : World) (_r : Tok R := tok R) : Prop :=
  l6 R x1 x2 x1 w
abbrev q11 (R : EP) : XP := QX (fun ρ w => l6 R (ρ 1) (ρ 2) (ρ 5) w) (fun ρ w => R (.returned (ρ 4)) w) []
theorem b4_eq (R : EP) (ρ : Env) (w : World) : (b4 R (ρ 1) (ρ 2) w) = codeP Try.prog (pan R) (preC 0 (fstC p1)) (q11 R) ρ w := by kernel_rfl
theorem b4_ok (R : EP) (ρ : Env) (w : World) (h : b4 R (ρ 1) (ρ 2) w) : codeP Try.prog (pan R) (fstC p1) (q10 R) ρ w := by
  have e : appC 0 (preC 0 (fstC p1)) (dropC 1 (fstC p1)) = (fstC p1) := by kernel_rfl
  rw [← e]
  exact appQ (fun ρ w => l6 R (ρ 1) (ρ 2) (ρ 5) w) 0 ((b4_eq R ρ w).mp h) (fun ρ w h => k5_ok R ρ w h)
theorem k2_ok (R : EP) (ρ : Env) (w : World) (h : b4 R (ρ 1) (ρ 2) w) : codeP Try.prog (pan R) p1 (q1 R) ρ w := by
  have e : Code.seq (fstC p1) (sndC p1) = p1 := by kernel_rfl
  rw [← e]
  exact seqQ (fun ρ w => b3 R  w) (b4_ok R ρ w h) (fun ρ w h => b3_ok R ρ w h)
def b1 (R : EP) (x0 x1 : Value) (w : World) (_r : Tok R := tok R) : Prop :=
  RUN Try.prog (pan R) (Instr.box 27 x0) w fun v1 w2 =>
  b4 R x1 v1 w2
abbrev q12 (R : EP) : XP := QX (fun ρ w => b4 R (ρ 1) (ρ 2) w) (fun ρ w => R (.returned (ρ 4)) w) []
theorem b1_eq (R : EP) (ρ : Env) (w : World) : (b1 R (ρ 0) (ρ 1) w) = codeP Try.prog (pan R) (preC 0 code) (q12 R) ρ w := by kernel_rfl
theorem b1_ok (R : EP) (ρ : Env) (w : World) (h : b1 R (ρ 0) (ρ 1) w) : codeP Try.prog (pan R) code (q1 R) ρ w := by
  have e : appC 0 (preC 0 code) (dropC 1 code) = code := by kernel_rfl
  rw [← e]
  exact appQ (fun ρ w => b4 R (ρ 1) (ρ 2) w) 0 ((b1_eq R ρ w).mp h) (fun ρ w h => k2_ok R ρ w h)
/-- What is owed for a call. -/
def run (R : EP) (a0 a1 : Value) (w : World) : Prop := b1 R a0 a1 w
theorem calls (R : EP) (a0 a1 : Value) (w : World) (h : run R a0 a1 w) : Calls Try.prog id #[a0, a1] w R :=
  calls_of_t (f := id) (fn := Try.f122) (c := code) (by kernel_rfl) Try.func122 (by kernel_rfl) (by kernel_rfl) (args := [a0, a1]) (Nat.le_of_ble_eq_true rfl) rfl (b1_ok R (envOf [a0, a1]) w h)
theorem enters : Enters Try.prog id := fun args w => Try.call122 args w
theorem ct {a0 a1 : Value} {w : World} {S : VP} (h : ∀ R : EP, (∀ v w, S v w → R (.returned v) w) → run R a0 a1 w) : Ct Try.prog id #[a0, a1] w S :=
  Ct.intro enters fun R hR => calls R a0 a1 w (h R hR)
attribute [irreducible] b3 b9 b14_1 b14 l13 b11 b7 l6 b4 b1 run
attribute [go_sem] b3 b9 b14_1 b14 b11 b7 b4 b1 run
end ref02_nonsFit

/-! ### presage/presageref02.prodsFit -/
namespace ref02_prodsFit
noncomputable def code : Code := bodyOf Try.f123
noncomputable abbrev p1 : Code := dropC 1 code

def b3 (R : EP) (w : World) (_r : Tok R := tok R) : Prop :=
  R (.returned (Go.Value.bool Bool.true)) w
abbrev q1 (R : EP) : XP := QX (fun ρ w => R (.returned (ρ 6)) w) (fun ρ w => R (.returned (ρ 6)) w) []
theorem b3_eq (R : EP) (ρ : Env) (w : World) : (b3 R w) = codeP Try.prog (pan R) (sndC p1) (q1 R) ρ w := by kernel_rfl
theorem b3_ok (R : EP) (ρ : Env) (w : World) (h : b3 R w) : codeP Try.prog (pan R) (sndC p1) (q1 R) ρ w := (b3_eq R ρ w).mp h
noncomputable abbrev p2 : Code := dropC 1 (fstC p1)
noncomputable abbrev p3 : Code := loopC (blkC p2)
noncomputable abbrev p4 : Code := dropC 1 p3

def b9 (R : EP) (C6 : VP) (x7 : Value) (w : World) (_r : Tok R := tok R) (_C6 : Tok C6 := tok C6) : Prop :=
  RUN Try.prog (pan R) (bins .add 3 (.tmp 17) (.const (Go.Value.int Go.IntKind.i64 1)) x7 (Go.Value.int Go.IntKind.i64 1)) w fun v1 w2 =>
  C6 v1 w2
abbrev q2 (R : EP) (C6 : VP) : XP := QX (fun ρ w => C6 (ρ 7) w) (fun ρ w => R (.returned (ρ 6)) w) [(0, (fun ρ w => b3 R  w))]
theorem b9_eq (R : EP) (C6 : VP) (ρ : Env) (w : World) : (b9 R C6 (ρ 7) w) = codeP Try.prog (pan R) (sndC p4) (q2 R C6) ρ w := by kernel_rfl
theorem b9_ok (R : EP) (C6 : VP) (ρ : Env) (w : World) (h : b9 R C6 (ρ 7) w) : codeP Try.prog (pan R) (sndC p4) (q2 R C6) ρ w := (b9_eq R C6 ρ w).mp h
noncomputable abbrev p5 : Code := blkC (fstC p4)
noncomputable abbrev p6 : Code := dropC 1 p5
noncomputable abbrev p7 : Code := dropC 1 (sndC p6)
noncomputable abbrev p8 : Code := loopC (blkC p7)
noncomputable abbrev p9 : Code := dropC 1 p8

def b18 (R : EP) (C6 : VP) (C15 : VP) (x9 : Value) (w : World) (_r : Tok R := tok R) (_C6 : Tok C6 := tok C6) (_C15 : Tok C15 := tok C15) : Prop :=
  RUN Try.prog (pan R) (bins .add 3 (.tmp 53) (.const (Go.Value.int Go.IntKind.i64 1)) x9 (Go.Value.int Go.IntKind.i64 1)) w fun v1 w2 =>
  C15 v1 w2
abbrev q3 (R : EP) (C6 : VP) (C15 : VP) : XP := QX (fun ρ w => C15 (ρ 9) w) (fun ρ w => R (.returned (ρ 6)) w) [(4, (fun ρ w => b9 R C6 (ρ 7) w)), (2, (fun ρ w => b9 R C6 (ρ 7) w)), (0, (fun ρ w => b3 R  w))]
theorem b18_eq (R : EP) (C6 : VP) (C15 : VP) (ρ : Env) (w : World) : (b18 R C6 C15 (ρ 9) w) = codeP Try.prog (pan R) (sndC p9) (q3 R C6 C15) ρ w := by kernel_rfl
theorem b18_ok (R : EP) (C6 : VP) (C15 : VP) (ρ : Env) (w : World) (h : b18 R C6 C15 (ρ 9) w) : codeP Try.prog (pan R) (sndC p9) (q3 R C6 C15) ρ w := (b18_eq R C6 C15 ρ w).mp h
noncomputable abbrev p10 : Code := blkC (fstC p9)
noncomputable abbrev p11 : Code := dropC 2 p10

def b21 (R : EP) (C6 : VP) (C15 : VP) (x9 x79 : Value) (w : World) (_r : Tok R := tok R) (_C6 : Tok C6 := tok C6) (_C15 : Tok C15 := tok C15) : Prop :=
  SPL x79
  (R (.returned (Go.Value.bool Bool.false)) w)
  (b18 R C6 C15 x9 w)
abbrev q4 (R : EP) (C6 : VP) (C15 : VP) : XP := QX (fun ρ w => b18 R C6 C15 (ρ 9) w) (fun ρ w => R (.returned (ρ 6)) w) [(6, (fun ρ w => b18 R C6 C15 (ρ 9) w)), (4, (fun ρ w => b9 R C6 (ρ 7) w)), (2, (fun ρ w => b9 R C6 (ρ 7) w)), (0, (fun ρ w => b3 R  w))]
theorem b21_eq (R : EP) (C6 : VP) (C15 : VP) (ρ : Env) (w : World) : (b21 R C6 C15 (ρ 9) (ρ 79) w) = codeP Try.prog (pan R) p11 (q4 R C6 C15) ρ w := by kernel_rfl
theorem b21_ok (R : EP) (C6 : VP) (C15 : VP) (ρ : Env) (w : World) (h : b21 R C6 C15 (ρ 9) (ρ 79) w) : codeP Try.prog (pan R) p11 (q4 R C6 C15) ρ w := (b21_eq R C6 C15 ρ w).mp h
def b20_1 (R : EP) (C6 : VP) (C15 : VP) (x2 x3 x9 v7 : Value) (w16 : World) (_r : Tok R := tok R) (_C6 : Tok C6 := tok C6) (_C15 : Tok C15 := tok C15) : Prop :=
  RUN Try.prog (pan R) (Instr.fieldAt 27 x3 0) w16 fun v17 w18 =>
  RUN Try.prog (pan R) (Instr.loadAt 22 v17) w18 fun v19 w20 =>
  RUN Try.prog (pan R) (Builtin.len_ #[22] 3 #[v19]) w20 fun v21 w22 =>
  RUN Try.prog (pan R) (bins .geq 3 (.tmp 69) (.tmp 72) v7 v21) w22 fun v23 w24 =>
  SPL v23
  (RUN Try.prog (pan R) (bins .lss 3 (.tmp 75) (.tmp 76) v7 x2) w24 fun v25 w26 =>
  b21 R C6 C15 x9 v25 w26)
  (b21 R C6 C15 x9 (Go.Value.bool Bool.false) w24)
def b20_2 (R : EP) (C6 : VP) (C15 : VP) (x2 x3 x9 v7 : Value) (w10 : World) (_r : Tok R := tok R) (_C6 : Tok C6 := tok C6) (_C15 : Tok C15 := tok C15) : Prop :=
  RUN Try.prog (pan R) (Instr.loadAt 27 x3) w10 fun v11 w12 =>
  CALL Try.prog (pan R) ref02_Symbols.id #[v11] w12 fun v13 w14 =>
  RUN Try.prog (pan R) (bins .geq 3 (.tmp 63) (.tmp 65) v7 v13) w14 fun v15 w16 =>
  SPL v15
  (b21 R C6 C15 x9 (Go.Value.bool Bool.true) w16)
  (b20_1 R C6 C15 x2 x3 x9 v7 w16)

def b20 (R : EP) (C6 : VP) (C15 : VP) (x2 x3 x8 x9 : Value) (w : World) (_r : Tok R := tok R) (_C6 : Tok C6 := tok C6) (_C15 : Tok C15 := tok C15) : Prop :=
  RUN Try.prog (pan R) (Instr.fieldAt 47 x8 1) w fun v1 w2 =>
  RUN Try.prog (pan R) (Instr.loadAt 24 v1) w2 fun v3 w4 =>
  RUN Try.prog (pan R) (Instr.indexAt 24 v3 x9) w4 fun v5 w6 =>
  RUN Try.prog (pan R) (Instr.loadAt 3 v5) w6 fun v7 w8 =>
  RUN Try.prog (pan R) (bins .lss 3 (.tmp 60) (.const (Go.Value.int Go.IntKind.i64 1)) v7 (Go.Value.int Go.IntKind.i64 1)) w8 fun v9 w10 =>
  SPL v9
  (b21 R C6 C15 x9 (Go.Value.bool Bool.true) w10)
  (b20_2 R C6 C15 x2 x3 x9 v7 w10)
abbrev q5 (R : EP) (C6 : VP) (C15 : VP) : XP := QX (fun ρ w => b21 R C6 C15 (ρ 9) (ρ 79) w) (fun ρ w => R (.returned (ρ 6)) w) [(6, (fun ρ w => b18 R C6 C15 (ρ 9) w)), (4, (fun ρ w => b9 R C6 (ρ 7) w)), (2, (fun ρ w => b9 R C6 (ρ 7) w)), (0, (fun ρ w => b3 R  w))]
theorem b20_eq (R : EP) (C6 : VP) (C15 : VP) (ρ : Env) (w : World) : (b20 R C6 C15 (ρ 2) (ρ 3) (ρ 8) (ρ 9) w) = codeP Try.prog (pan R) (preC 1 p10) (q5 R C6 C15) ρ w := by kernel_rfl
theorem b20_ok (R : EP) (C6 : VP) (C15 : VP) (ρ : Env) (w : World) (h : b20 R C6 C15 (ρ 2) (ρ 3) (ρ 8) (ρ 9) w) : codeP Try.prog (pan R) p10 (q4 R C6 C15) ρ w := by
  have e : appC 1 (preC 1 p10) (dropC 2 p10) = p10 := by kernel_rfl
  rw [← e]
  exact appQ (fun ρ w => b21 R C6 C15 (ρ 9) (ρ 79) w) 1 ((b20_eq R C6 C15 ρ w).mp h) (fun ρ w h => b21_ok R C6 C15 ρ w h)
abbrev q6 (R : EP) (C6 : VP) (C15 : VP) : XP := QX (fun ρ w => b18 R C6 C15 (ρ 9) w) (fun ρ w => R (.returned (ρ 6)) w) [(4, (fun ρ w => b9 R C6 (ρ 7) w)), (2, (fun ρ w => b9 R C6 (ρ 7) w)), (0, (fun ρ w => b3 R  w))]
theorem k19_ok (R : EP) (C6 : VP) (C15 : VP) (ρ : Env) (w : World) (h : b20 R C6 C15 (ρ 2) (ρ 3) (ρ 8) (ρ 9) w) : codeP Try.prog (pan R) (fstC p9) (q6 R C6 C15) ρ w := by
  have e : Code.block 3 (blkC (fstC p9)) = (fstC p9) := by kernel_rfl
  rw [← e]
  exact blockQ (b20_ok R C6 C15 ρ w h)
theorem k17_ok (R : EP) (C6 : VP) (C15 : VP) (ρ : Env) (w : World) (h : b20 R C6 C15 (ρ 2) (ρ 3) (ρ 8) (ρ 9) w) : codeP Try.prog (pan R) p9 (q3 R C6 C15) ρ w := by
  have e : Code.seq (fstC p9) (sndC p9) = p9 := by kernel_rfl
  rw [← e]
  exact seqQ (fun ρ w => b18 R C6 C15 (ρ 9) w) (k19_ok R C6 C15 ρ w h) (fun ρ w h => b18_ok R C6 C15 ρ w h)

def b16 (R : EP) (C6 : VP) (C15 : VP) (x2 x3 x7 x8 x9 : Value) (w : World) (_r : Tok R := tok R) (_C6 : Tok C6 := tok C6) (_C15 : Tok C15 := tok C15) : Prop :=
  RUN Try.prog (pan R) (Instr.fieldAt 47 x8 1) w fun v1 w2 =>
  RUN Try.prog (pan R) (Instr.loadAt 24 v1) w2 fun v3 w4 =>
  RUN Try.prog (pan R) (Builtin.len_ #[24] 3 #[v3]) w4 fun v5 w6 =>
  RUN Try.prog (pan R) (bins .lss 3 (.tmp 48) (.tmp 51) x9 v5) w6 fun v7 w8 =>
  SPL v7
  (b20 R C6 C15 x2 x3 x8 x9 w8)
  (b9 R C6 x7 w8)
abbrev q7 (R : EP) (C6 : VP) (C15 : VP) : XP := QX (fun ρ w => b20 R C6 C15 (ρ 2) (ρ 3) (ρ 8) (ρ 9) w) (fun ρ w => R (.returned (ρ 6)) w) [(4, (fun ρ w => b9 R C6 (ρ 7) w)), (2, (fun ρ w => b9 R C6 (ρ 7) w)), (0, (fun ρ w => b3 R  w))]
theorem b16_eq (R : EP) (C6 : VP) (C15 : VP) (ρ : Env) (w : World) : (b16 R C6 C15 (ρ 2) (ρ 3) (ρ 7) (ρ 8) (ρ 9) w) = codeP Try.prog (pan R) (preC 0 p8) (q7 R C6 C15) ρ w := by kernel_rfl
theorem b16_ok (R : EP) (C6 : VP) (C15 : VP) (ρ : Env) (w : World) (h : b16 R C6 C15 (ρ 2) (ρ 3) (ρ 7) (ρ 8) (ρ 9) w) : codeP Try.prog (pan R) p8 (q3 R C6 C15) ρ w := by
  have e : appC 0 (preC 0 p8) (dropC 1 p8) = p8 := by kernel_rfl
  rw [← e]
  exact appQ (fun ρ w => b20 R C6 C15 (ρ 2) (ρ 3) (ρ 8) (ρ 9) w) 0 ((b16_eq R C6 C15 ρ w).mp h) (fun ρ w h => k17_ok R C6 C15 ρ w h)

def l15 (R : EP) (C6 : VP) (x2 x3 x7 x8 x9 : Value) (w : World) (_r : Tok R := tok R) (_C6 : Tok C6 := tok C6) : Prop :=
  ∃ (J : VP) (μ : Value → World → Nat), J x9 w ∧ ∀ y9 w0, J y9 w0 → b16 R C6 (fun z9 w1 => J z9 w1 ∧ μ z9 w1 < μ y9 w0) x2 x3 x7 x8 y9 w0
abbrev q8 (R : EP) (C6 : VP) : XP := QX (fun ρ w => b9 R C6 (ρ 7) w) (fun ρ w => R (.returned (ρ 6)) w) [(4, (fun ρ w => b9 R C6 (ρ 7) w)), (2, (fun ρ w => b9 R C6 (ρ 7) w)), (0, (fun ρ w => b3 R  w))]
theorem l15_ok (R : EP) (C6 : VP) (ρ : Env) (w : World) (h : l15 R C6 (ρ 2) (ρ 3) (ρ 7) (ρ 8) (ρ 9) w) : codeP Try.prog (pan R) (blkC p7) (q8 R C6) ρ w := by
  unfold l15 at h
  obtain ⟨J, μ, h0, hr⟩ := h
  have e : Code.loop (loopC (blkC p7)) = (blkC p7) := by kernel_rfl
  rw [← e]
  refine loopQ (fun ρ' w' => J (ρ' 9) w') (fun ρ' w' => μ (ρ' 9) w') h0 fun ρ' w' hA hI => ?_
  have e2 : ρ' 2 = ρ 2 := Agree.at hA 2 (by kernel_rfl)
  have e3 : ρ' 3 = ρ 3 := Agree.at hA 3 (by kernel_rfl)
  have e7 : ρ' 7 = ρ 7 := Agree.at hA 7 (by kernel_rfl)
  have e8 : ρ' 8 = ρ 8 := Agree.at hA 8 (by kernel_rfl)
  have h1 := hr (ρ' 9) w' hI
  rw [← e2, ← e3, ← e7, ← e8] at h1
  exact b16_ok R C6 (fun z9 w1 => J z9 w1 ∧ μ z9 w1 < μ (ρ' 9) w') ρ' w' h1
theorem l15_intro (R : EP) (C6 : VP) (x2 x3 x7 x8 x9 : Value) (w : World) (J : VP) (μ : Value → World → Nat) (h0 : J x9 w)
    (hr : ∀ y9 w0, J y9 w0 → ∀ C15 : VP, (∀ z9 w1, J z9 w1 → μ z9 w1 < μ y9 w0 → C15 z9 w1) → b16 R C6 C15 x2 x3 x7 x8 y9 w0) : l15 R C6 x2 x3 x7 x8 x9 w := by
  unfold l15
  exact ⟨J, μ, h0, fun y9 w0 hJ => hr y9 w0 hJ _ (fun z9 w1 h1 h2 => ⟨h1, h2⟩)⟩
abbrev q9 (R : EP) (C6 : VP) : XP := QX (fun ρ w => b9 R C6 (ρ 7) w) (fun ρ w => R (.returned (ρ 6)) w) [(2, (fun ρ w => b9 R C6 (ρ 7) w)), (0, (fun ρ w => b3 R  w))]
theorem k14_ok (R : EP) (C6 : VP) (ρ : Env) (w : World) (h : l15 R C6 (ρ 2) (ρ 3) (ρ 7) (ρ 8) (ρ 9) w) : codeP Try.prog (pan R) p7 (q9 R C6) ρ w := by
  have e : Code.block 2 (blkC p7) = p7 := by kernel_rfl
  rw [← e]
  exact blockQ (l15_ok R C6 ρ w h)

def b13 (R : EP) (C6 : VP) (x2 x3 x7 x8 : Value) (w : World) (_r : Tok R := tok R) (_C6 : Tok C6 := tok C6) : Prop :=
  l15 R C6 x2 x3 x7 x8 (Go.Value.int Go.IntKind.i64 0) w
abbrev q10 (R : EP) (C6 : VP) : XP := QX (fun ρ w => l15 R C6 (ρ 2) (ρ 3) (ρ 7) (ρ 8) (ρ 9) w) (fun ρ w => R (.returned (ρ 6)) w) [(2, (fun ρ w => b9 R C6 (ρ 7) w)), (0, (fun ρ w => b3 R  w))]
theorem b13_eq (R : EP) (C6 : VP) (ρ : Env) (w : World) : (b13 R C6 (ρ 2) (ρ 3) (ρ 7) (ρ 8) w) = codeP Try.prog (pan R) (preC 0 (sndC p6)) (q10 R C6) ρ w := by kernel_rfl
theorem b13_ok (R : EP) (C6 : VP) (ρ : Env) (w : World) (h : b13 R C6 (ρ 2) (ρ 3) (ρ 7) (ρ 8) w) : codeP Try.prog (pan R) (sndC p6) (q9 R C6) ρ w := by
  have e : appC 0 (preC 0 (sndC p6)) (dropC 1 (sndC p6)) = (sndC p6) := by kernel_rfl
  rw [← e]
  exact appQ (fun ρ w => l15 R C6 (ρ 2) (ρ 3) (ρ 7) (ρ 8) (ρ 9) w) 0 ((b13_eq R C6 ρ w).mp h) (fun ρ w h => k14_ok R C6 ρ w h)
noncomputable abbrev p12 : Code := dropC 1 (fstC p6)

def b23 (R : EP) (C6 : VP) (x2 x3 x7 x8 x47 : Value) (w : World) (_r : Tok R := tok R) (_C6 : Tok C6 := tok C6) : Prop :=
  SPL x47
  (R (.returned (Go.Value.bool Bool.false)) w)
  (b13 R C6 x2 x3 x7 x8 w)
abbrev q11 (R : EP) (C6 : VP) : XP := QX (fun ρ w => b13 R C6 (ρ 2) (ρ 3) (ρ 7) (ρ 8) w) (fun ρ w => R (.returned (ρ 6)) w) [(2, (fun ρ w => b9 R C6 (ρ 7) w)), (0, (fun ρ w => b3 R  w))]
theorem b23_eq (R : EP) (C6 : VP) (ρ : Env) (w : World) : (b23 R C6 (ρ 2) (ρ 3) (ρ 7) (ρ 8) (ρ 47) w) = codeP Try.prog (pan R) p12 (q11 R C6) ρ w := by kernel_rfl
theorem b23_ok (R : EP) (C6 : VP) (ρ : Env) (w : World) (h : b23 R C6 (ρ 2) (ρ 3) (ρ 7) (ρ 8) (ρ 47) w) : codeP Try.prog (pan R) p12 (q11 R C6) ρ w := (b23_eq R C6 ρ w).mp h
def b22_1 (R : EP) (C6 : VP) (x2 x3 x7 x8 : Value) (w8 : World) (_r : Tok R := tok R) (_C6 : Tok C6 := tok C6) : Prop :=
  PUR Try.prog (Instr.fieldAt 47 x8 2) fun v13 =>
  LD Try.prog (Instr.loadAt 3 v13) w8 fun v14 =>
  PUR Try.prog (Instr.fieldAt 27 x3 2) fun v15 =>
  LD Try.prog (Instr.loadAt 24 v15) w8 fun v16 =>
  LD Try.prog (Builtin.len_ #[24] 3 #[v16]) w8 fun v17 =>
  PUR Try.prog (bins .gtr 3 (.tmp 42) (.tmp 45) v14 v17) fun v18 =>
  b23 R C6 x2 x3 x7 x8 v18 w8
def b22_2 (R : EP) (C6 : VP) (x2 x3 x7 x8 : Value) (w8 : World) (_r : Tok R := tok R) (_C6 : Tok C6 := tok C6) : Prop :=
  PUR Try.prog (Instr.fieldAt 47 x8 2) fun v10 =>
  LD Try.prog (Instr.loadAt 3 v10) w8 fun v11 =>
  PUR Try.prog (bins .lss 3 (.tmp 37) (.const (Go.Value.int Go.IntKind.i64 0)) v11 (Go.Value.int Go.IntKind.i64 0)) fun v12 =>
  SPL v12
  (b23 R C6 x2 x3 x7 x8 (Go.Value.bool Bool.true) w8)
  (b22_1 R C6 x2 x3 x7 x8 w8)
def b22_3 (R : EP) (C6 : VP) (x2 x3 x7 x8 : Value) (w : World) (_r : Tok R := tok R) (_C6 : Tok C6 := tok C6) : Prop :=
  PUR Try.prog (Instr.fieldAt 47 x8 0) fun v4 =>
  LD Try.prog (Instr.loadAt 3 v4) (World.drew w) fun v5 =>
  LD Try.prog (Instr.loadAt 27 x3) (World.drew w) fun v6 =>
  CALL Try.prog (pan R) ref02_Symbols.id #[v6] (World.drew w) fun v7 w8 =>
  Sem.run Try.prog (Instr.loadAt 3 v4) w8 = .ok v5 w8 ∧ (PUR Try.prog (bins .geq 3 (.tmp 30) (.tmp 32) v5 v7) fun v9 =>
  SPL v9
  (b23 R C6 x2 x3 x7 x8 (Go.Value.bool Bool.true) w8)
  (b22_2 R C6 x2 x3 x7 x8 w8))

def b22 (R : EP) (C6 : VP) (x2 x3 x7 x8 : Value) (w : World) (_r : Tok R := tok R) (_C6 : Tok C6 := tok C6) : Prop :=
  PUR Try.prog (Instr.fieldAt 47 x8 0) fun v1 =>
  LD Try.prog (Instr.loadAt 3 v1) (World.drew w) fun v2 =>
  PUR Try.prog (bins .lss 3 (.tmp 25) (.tmp 26) v2 x2) fun v3 =>
  SPL v3
  (b23 R C6 x2 x3 x7 x8 (Go.Value.bool Bool.true) (World.drew w))
  (b22_3 R C6 x2 x3 x7 x8 w)
abbrev q12 (R : EP) (C6 : VP) : XP := QX (fun ρ w => b23 R C6 (ρ 2) (ρ 3) (ρ 7) (ρ 8) (ρ 47) w) (fun ρ w => R (.returned (ρ 6)) w) [(2, (fun ρ w => b9 R C6 (ρ 7) w)), (0, (fun ρ w => b3 R  w))]
theorem b22_eq (R : EP) (C6 : VP) (ρ : Env) (w : World) : (b22 R C6 (ρ 2) (ρ 3) (ρ 7) (ρ 8) w) = codeP Try.prog (pan R) (preC 0 (fstC p6)) (q12 R C6) ρ w := by kernel_rfl
theorem b22_ok (R : EP) (C6 : VP) (ρ : Env) (w : World) (h : b22 R C6 (ρ 2) (ρ 3) (ρ 7) (ρ 8) w) : codeP Try.prog (pan R) (fstC p6) (q11 R C6) ρ w := by
  have e : appC 0 (preC 0 (fstC p6)) (dropC 1 (fstC p6)) = (fstC p6) := by kernel_rfl
  rw [← e]
  exact appQ (fun ρ w => b23 R C6 (ρ 2) (ρ 3) (ρ 7) (ρ 8) (ρ 47) w) 0 ((b22_eq R C6 ρ w).mp h) (fun ρ w h => b23_ok R C6 ρ w h)
theorem k12_ok (R : EP) (C6 : VP) (ρ : Env) (w : World) (h : b22 R C6 (ρ 2) (ρ 3) (ρ 7) (ρ 8) w) : codeP Try.prog (pan R) p6 (q9 R C6) ρ w := by
  have e : Code.seq (fstC p6) (sndC p6) = p6 := by kernel_rfl
  rw [← e]
  exact seqQ (fun ρ w => b13 R C6 (ρ 2) (ρ 3) (ρ 7) (ρ 8) w) (b22_ok R C6 ρ w h) (fun ρ w h => b13_ok R C6 ρ w h)

def b11 (R : EP) (C6 : VP) (x2 x3 x7 : Value) (w : World) (_r : Tok R := tok R) (_C6 : Tok C6 := tok C6) : Prop :=
  RUN Try.prog (pan R) (Instr.fieldAt 27 x3 4) w fun v1 w2 =>
  RUN Try.prog (pan R) (Instr.loadAt 25 v1) w2 fun v3 w4 =>
  RUN Try.prog (pan R) (Instr.indexAt 25 v3 x7) w4 fun v5 w6 =>
  RUN Try.prog (pan R) (Instr.loadAt 47 v5) w6 fun v7 w8 =>
  RUN Try.prog (pan R) (Instr.alloc 47 true (.tuple #[])) w8 fun v9 w10 =>
  RUNU Try.prog (pan R) (Instr.storeAt 47 v9 v7) w10 fun w11 =>
  b22 R C6 x2 x3 x7 v9 w11
abbrev q13 (R : EP) (C6 : VP) : XP := QX (fun ρ w => b22 R C6 (ρ 2) (ρ 3) (ρ 7) (ρ 8) w) (fun ρ w => R (.returned (ρ 6)) w) [(2, (fun ρ w => b9 R C6 (ρ 7) w)), (0, (fun ρ w => b3 R  w))]
theorem b11_eq (R : EP) (C6 : VP) (ρ : Env) (w : World) : (b11 R C6 (ρ 2) (ρ 3) (ρ 7) w) = codeP Try.prog (pan R) (preC 0 p5) (q13 R C6) ρ w := by kernel_rfl
theorem b11_ok (R : EP) (C6 : VP) (ρ : Env) (w : World) (h : b11 R C6 (ρ 2) (ρ 3) (ρ 7) w) : codeP Try.prog (pan R) p5 (q9 R C6) ρ w := by
  have e : appC 0 (preC 0 p5) (dropC 1 p5) = p5 := by kernel_rfl
  rw [← e]
  exact appQ (fun ρ w => b22 R C6 (ρ 2) (ρ 3) (ρ 7) (ρ 8) w) 0 ((b11_eq R C6 ρ w).mp h) (fun ρ w h => k12_ok R C6 ρ w h)
abbrev q14 (R : EP) (C6 : VP) : XP := QX (fun ρ w => b9 R C6 (ρ 7) w) (fun ρ w => R (.returned (ρ 6)) w) [(0, (fun ρ w => b3 R  w))]
theorem k10_ok (R : EP) (C6 : VP) (ρ : Env) (w : World) (h : b11 R C6 (ρ 2) (ρ 3) (ρ 7) w) : codeP Try.prog (pan R) (fstC p4) (q14 R C6) ρ w := by
  have e : Code.block 1 (blkC (fstC p4)) = (fstC p4) := by kernel_rfl
  rw [← e]
  exact blockQ (b11_ok R C6 ρ w h)
theorem k8_ok (R : EP) (C6 : VP) (ρ : Env) (w : World) (h : b11 R C6 (ρ 2) (ρ 3) (ρ 7) w) : codeP Try.prog (pan R) p4 (q2 R C6) ρ w := by
  have e : Code.seq (fstC p4) (sndC p4) = p4 := by kernel_rfl
  rw [← e]
  exact seqQ (fun ρ w => b9 R C6 (ρ 7) w) (k10_ok R C6 ρ w h) (fun ρ w h => b9_ok R C6 ρ w h)

def b7 (R : EP) (C6 : VP) (x2 x3 x7 : Value) (w : World) (_r : Tok R := tok R) (_C6 : Tok C6 := tok C6) : Prop :=
  RUN Try.prog (pan R) (Instr.fieldAt 27 x3 4) w fun v1 w2 =>
  RUN Try.prog (pan R) (Instr.loadAt 25 v1) w2 fun v3 w4 =>
  RUN Try.prog (pan R) (Builtin.len_ #[25] 3 #[v3]) w4 fun v5 w6 =>
  RUN Try.prog (pan R) (bins .lss 3 (.tmp 12) (.tmp 15) x7 v5) w6 fun v7 w8 =>
  SPL v7
  (b11 R C6 x2 x3 x7 w8)
  (b3 R w8)
abbrev q15 (R : EP) (C6 : VP) : XP := QX (fun ρ w => b11 R C6 (ρ 2) (ρ 3) (ρ 7) w) (fun ρ w => R (.returned (ρ 6)) w) [(0, (fun ρ w => b3 R  w))]
theorem b7_eq (R : EP) (C6 : VP) (ρ : Env) (w : World) : (b7 R C6 (ρ 2) (ρ 3) (ρ 7) w) = codeP Try.prog (pan R) (preC 0 p3) (q15 R C6) ρ w := by kernel_rfl
theorem b7_ok (R : EP) (C6 : VP) (ρ : Env) (w : World) (h : b7 R C6 (ρ 2) (ρ 3) (ρ 7) w) : codeP Try.prog (pan R) p3 (q2 R C6) ρ w := by
  have e : appC 0 (preC 0 p3) (dropC 1 p3) = p3 := by kernel_rfl
  rw [← e]
  exact appQ (fun ρ w => b11 R C6 (ρ 2) (ρ 3) (ρ 7) w) 0 ((b7_eq R C6 ρ w).mp h) (fun ρ w h => k8_ok R C6 ρ w h)

def l6 (R : EP) (x2 x3 x7 : Value) (w : World) (_r : Tok R := tok R) : Prop :=
  ∃ (J : VP) (μ : Value → World → Nat), J x7 w ∧ ∀ y7 w0, J y7 w0 → b7 R (fun z7 w1 => J z7 w1 ∧ μ z7 w1 < μ y7 w0) x2 x3 y7 w0
abbrev q16 (R : EP) : XP := QX (fun ρ w => b3 R  w) (fun ρ w => R (.returned (ρ 6)) w) [(0, (fun ρ w => b3 R  w))]
theorem l6_ok (R : EP) (ρ : Env) (w : World) (h : l6 R (ρ 2) (ρ 3) (ρ 7) w) : codeP Try.prog (pan R) (blkC p2) (q16 R) ρ w := by
  unfold l6 at h
  obtain ⟨J, μ, h0, hr⟩ := h
  have e : Code.loop (loopC (blkC p2)) = (blkC p2) := by kernel_rfl
  rw [← e]
  refine loopQ (fun ρ' w' => J (ρ' 7) w') (fun ρ' w' => μ (ρ' 7) w') h0 fun ρ' w' hA hI => ?_
  have e2 : ρ' 2 = ρ 2 := Agree.at hA 2 (by kernel_rfl)
  have e3 : ρ' 3 = ρ 3 := Agree.at hA 3 (by kernel_rfl)
  have h1 := hr (ρ' 7) w' hI
  rw [← e2, ← e3] at h1
  exact b7_ok R (fun z7 w1 => J z7 w1 ∧ μ z7 w1 < μ (ρ' 7) w') ρ' w' h1
theorem l6_intro (R : EP) (x2 x3 x7 : Value) (w : World) (J : VP) (μ : Value → World → Nat) (h0 : J x7 w)
    (hr : ∀ y7 w0, J y7 w0 → ∀ C6 : VP, (∀ z7 w1, J z7 w1 → μ z7 w1 < μ y7 w0 → C6 z7 w1) → b7 R C6 x2 x3 y7 w0) : l6 R x2 x3 x7 w := by
  unfold l6
  exact ⟨J, μ, h0, fun y7 w0 hJ => hr y7 w0 hJ _ (fun z7 w1 h1 h2 => ⟨h1, h2⟩)⟩
abbrev q17 (R : EP) : XP := QX (fun ρ w => b3 R  w) (fun ρ w => R (.returned (ρ 6)) w) []
theorem k5_ok (R : EP) (ρ : Env) (w : World) (h : l6 R (ρ 2) (ρ 3) (ρ 7) w) : codeP Try.prog (pan R) p2 (q17 R) ρ w := by
  have e : Code.block 0 (blkC p2) = p2 := by kernel_rfl
  rw [← e]
  exact blockQ (l6_ok R ρ w h)

def b4 (R : EP) (x1 x2 x3 : Value) (w : World) (_r : Tok R := tok R) : Prop :=
  l6 R x2 x3 x1 w
abbrev q18 (R : EP) : XP := QX (fun ρ w => l6 R (ρ 2) (ρ 3) (ρ 7) w) (fun ρ w => R (.returned (ρ 6)) w) []
theorem b4_eq (R : EP) (ρ : Env) (w : World) : (b4 R (ρ 1) (ρ 2) (ρ 3) w) = codeP Try.prog (pan R) (preC 0 (fstC p1)) (q18 R) ρ w := by kernel_rfl
theorem b4_ok (R : EP) (ρ : Env) (w : World) (h : b4 R (ρ 1) (ρ 2) (ρ 3) w) : codeP Try.prog (pan R) (fstC p1) (q17 R) ρ w := by
  have e : appC 0 (preC 0 (fstC p1)) (dropC 1 (fstC p1)) = (fstC p1) := by kernel_rfl
  rw [← e]
  exact appQ (fun ρ w => l6 R (ρ 2) (ρ 3) (ρ 7) w) 0 ((b4_eq R ρ w).mp h) (fun ρ w h => k5_ok R ρ w h)
theorem k2_ok (R : EP) (ρ : Env) (w : World) (h : b4 R (ρ 1) (ρ 2) (ρ 3) w) : codeP Try.prog (pan R) p1 (q1 R) ρ w := by
  have e : Code.seq (fstC p1) (sndC p1) = p1 := by kernel_rfl
  rw [← e]
  exact seqQ (fun ρ w => b3 R  w) (b4_ok R ρ w h) (fun ρ w h => b3_ok R ρ w h)

def b1 (R : EP) (x0 x1 x2 : Value) (w : World) (_r : Tok R := tok R) : Prop :=
  RUN Try.prog (pan R) (Instr.box 27 x0) w fun v1 w2 =>
  b4 R x1 x2 v1 w2
abbrev q19 (R : EP) : XP := QX (fun ρ w => b4 R (ρ 1) (ρ 2) (ρ 3) w) (fun ρ w => R (.returned (ρ 6)) w) []
theorem b1_eq (R : EP) (ρ : Env) (w : World) : (b1 R (ρ 0) (ρ 1) (ρ 2) w) = codeP Try.prog (pan R) (preC 0 code) (q19 R) ρ w := by kernel_rfl
theorem b1_ok (R : EP) (ρ : Env) (w : World) (h : b1 R (ρ 0) (ρ 1) (ρ 2) w) : codeP Try.prog (pan R) code (q1 R) ρ w := by
  have e : appC 0 (preC 0 code) (dropC 1 code) = code := by kernel_rfl
  rw [← e]
  exact appQ (fun ρ w => b4 R (ρ 1) (ρ 2) (ρ 3) w) 0 ((b1_eq R ρ w).mp h) (fun ρ w h => k2_ok R ρ w h)
/-- What is owed for a call. -/
def run (R : EP) (a0 a1 a2 : Value) (w : World) : Prop := b1 R a0 a1 a2 w
theorem calls (R : EP) (a0 a1 a2 : Value) (w : World) (h : run R a0 a1 a2 w) : Calls Try.prog id #[a0, a1, a2] w R :=
  calls_of_t (f := id) (fn := Try.f123) (c := code) (by kernel_rfl) Try.func123 (by kernel_rfl) (by kernel_rfl) (args := [a0, a1, a2]) (Nat.le_of_ble_eq_true rfl) rfl (b1_ok R (envOf [a0, a1, a2]) w h)
theorem enters : Enters Try.prog id := fun args w => Try.call123 args w
theorem ct {a0 a1 a2 : Value} {w : World} {S : VP} (h : ∀ R : EP, (∀ v w, S v w → R (.returned v) w) → run R a0 a1 a2 w) : Ct Try.prog id #[a0, a1, a2] w S :=
  Ct.intro enters fun R hR => calls R a0 a1 a2 w (h R hR)
attribute [irreducible] b3 b9 b18 b21 b20_1 b20_2 b20 b16 l15 b13 b23 b22_1 b22_2 b22_3 b22 b11 b7 l6 b4 b1 run
attribute [go_sem] b3 b9 b18 b21 b20_1 b20_2 b20 b16 b13 b23 b22_1 b22_2 b22_3 b22 b11 b7 b4 b1 run
end ref02_prodsFit

/-! ### presage/presageref02.Symbols -/
namespace ref02_Symbols
noncomputable def code : Code := bodyOf Try.f124
def b1 (R : EP) (x0 : Value) (w : World) (_r : Tok R := tok R) : Prop :=
  RUN Try.prog (pan R) (Instr.box 27 x0) w fun v1 w2 =>
  RUN Try.prog (pan R) (Instr.fieldAt 27 v1 0) w2 fun v3 w4 =>
  RUN Try.prog (pan R) (Instr.loadAt 22 v3) w4 fun v5 w6 =>
  RUN Try.prog (pan R) (Builtin.len_ #[22] 3 #[v5]) w6 fun v7 w8 =>
  RUN Try.prog (pan R) (Instr.fieldAt 27 v1 1) w8 fun v9 w10 =>
  RUN Try.prog (pan R) (Instr.loadAt 23 v9) w10 fun v11 w12 =>
  RUN Try.prog (pan R) (Builtin.len_ #[23] 3 #[v11]) w12 fun v13 w14 =>
  RUN Try.prog (pan R) (bins .add 3 (.tmp 5) (.tmp 8) v7 v13) w14 fun v15 w16 =>
  R (.returned v15) w16
abbrev q1 (R : EP) : XP := QX (fun ρ w => R (.returned (ρ 2)) w) (fun ρ w => R (.returned (ρ 2)) w) []
theorem b1_eq (R : EP) (ρ : Env) (w : World) : (b1 R (ρ 0) w) = codeP Try.prog (pan R) code (q1 R) ρ w := by kernel_rfl
theorem b1_ok (R : EP) (ρ : Env) (w : World) (h : b1 R (ρ 0) w) : codeP Try.prog (pan R) code (q1 R) ρ w := (b1_eq R ρ w).mp h
/-- What is owed for a call. -/
def run (R : EP) (a0 : Value) (w : World) : Prop := b1 R a0 w
theorem calls (R : EP) (a0 : Value) (w : World) (h : run R a0 w) : Calls Try.prog id #[a0] w R :=
  calls_of_t (f := id) (fn := Try.f124) (c := code) (by kernel_rfl) Try.func124 (by kernel_rfl) (by kernel_rfl) (args := [a0]) (Nat.le_of_ble_eq_true rfl) rfl (b1_ok R (envOf [a0]) w h)
theorem enters : Enters Try.prog id := fun args w => Try.call124 args w
theorem ct {a0 : Value} {w : World} {S : VP} (h : ∀ R : EP, (∀ v w, S v w → R (.returned v) w) → run R a0 w) : Ct Try.prog id #[a0] w S :=
  Ct.intro enters fun R hR => calls R a0 w (h R hR)
attribute [irreducible] b1 run
attribute [go_sem] b1 run
end ref02_Symbols
end Go.Proofs.Ytkacbjhiobnbfaa

