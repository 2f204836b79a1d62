/-
  Texts of this claim: T02L, T02W.
-/
import Derived.Test.YtkacbjhiobnbfaaGa
/- Shallow programs, written by a program of ours (gen.py) off the translation; each is tied to the code by the kernel. -/
set_option linter.unusedVariables false
set_option maxRecDepth 100000
namespace Go.Proofs.Ytkacbjhiobnbfaa
open Go.Px

/-! ### presage/presagelaw02.awake -/
namespace law02_awake
noncomputable def code : Code := bodyOf Try.f56
def b1_1 (R : EP) (v29 : Value) (w59 : World) (_r : Tok R := tok R) : Prop :=
  RUN Try.prog (pan R) (Instr.loadAt 27 v29) w59 fun v60 w61 =>
  CALL Try.prog (pan R) gram_Closed.id #[v60] w61 fun v62 w63 =>
  RUN Try.prog (pan R) (Op.unary .not v62) w63 fun v64 w65 =>
  R (.returned v64) w65
def b1_2 (R : EP) (v29 : Value) (w55 : World) (_r : Tok R := tok R) : Prop :=
  RUN Try.prog (pan R) (Instr.loadAt 27 v29) w55 fun v56 w57 =>
  CALL Try.prog (pan R) gram_Valid.id #[v56] w57 fun v58 w59 =>
  SPL v58
  (b1_1 R v29 w59)
  (R (.returned (Go.Value.bool Bool.false)) w59)
def b1_3 (R : EP) (v29 : Value) (w47 : World) (_r : Tok R := tok R) : Prop :=
  RUN Try.prog (pan R) (Instr.fieldAt 27 v29 0) w47 fun v48 w49 =>
  RUN Try.prog (pan R) (Instr.loadAt 22 v48) w49 fun v50 w51 =>
  RUN Try.prog (pan R) (Builtin.len_ #[22] 3 #[v50]) w51 fun v52 w53 =>
  RUN Try.prog (pan R) (bins .eql 3 (.tmp 68) (.const (Go.Value.int Go.IntKind.i64 2)) v52 (Go.Value.int Go.IntKind.i64 2)) w53 fun v54 w55 =>
  SPL v54
  (b1_2 R v29 w55)
  (R (.returned (Go.Value.bool Bool.false)) w55)
def b1_4 (R : EP) (v11 v19 v29 : Value) (w43 : World) (_r : Tok R := tok R) : Prop :=
  RUN Try.prog (pan R) (bins .eql 3 (.tmp 58) (.const (Go.Value.int Go.IntKind.i64 (-1))) v11 (Go.Value.int Go.IntKind.i64 (-1))) w43 fun v44 w45 =>
  SPL v44
  (RUN Try.prog (pan R) (bins .eql 3 (.tmp 62) (.const (Go.Value.int Go.IntKind.i64 0)) v19 (Go.Value.int Go.IntKind.i64 0)) w45 fun v46 w47 =>
  SPL v46
  (b1_3 R v29 w47)
  (R (.returned (Go.Value.bool Bool.false)) w47))
  (R (.returned (Go.Value.bool Bool.false)) w45)
def b1_5 (R : EP) (v5 v11 v19 v27 v29 : Value) (w39 : World) (_r : Tok R := tok R) : Prop :=
  RUN Try.prog (pan R) (bins .eql 29 (.tmp 50) (.const (Go.Value.int Go.IntKind.i64 0)) v27 (Go.Value.int Go.IntKind.i64 0)) w39 fun v40 w41 =>
  SPL v40
  (RUN Try.prog (pan R) (bins .eql 3 (.tmp 54) (.const (Go.Value.int Go.IntKind.i64 1)) v5 (Go.Value.int Go.IntKind.i64 1)) w41 fun v42 w43 =>
  SPL v42
  (b1_4 R v11 v19 v29 w43)
  (R (.returned (Go.Value.bool Bool.false)) w43))
  (R (.returned (Go.Value.bool Bool.false)) w41)
def b1_6 (R : EP) (v5 v11 v13 v19 v21 v27 v29 : Value) (w35 : World) (_r : Tok R := tok R) : Prop :=
  RUN Try.prog (pan R) (bins .eql 29 (.tmp 42) (.const (Go.Value.int Go.IntKind.i64 0)) v13 (Go.Value.int Go.IntKind.i64 0)) w35 fun v36 w37 =>
  SPL v36
  (RUN Try.prog (pan R) (bins .eql 29 (.tmp 46) (.const (Go.Value.int Go.IntKind.i64 0)) v21 (Go.Value.int Go.IntKind.i64 0)) w37 fun v38 w39 =>
  SPL v38
  (b1_5 R v5 v11 v19 v27 v29 w39)
  (R (.returned (Go.Value.bool Bool.false)) w39))
  (R (.returned (Go.Value.bool Bool.false)) w37)
def b1_7 (R : EP) (v1 v5 v7 v11 v13 v19 v21 v23 : Value) (w24 : World) (_r : Tok R := tok R) : Prop :=
  RUN Try.prog (pan R) (Instr.extract v23 0) w24 fun v25 w26 =>
  RUN Try.prog (pan R) (Instr.extract v23 1) w26 fun v27 w28 =>
  RUN Try.prog (pan R) (Instr.alloc 27 true (.tuple #[])) w28 fun v29 w30 =>
  RUNU Try.prog (pan R) (Instr.storeAt 27 v29 v25) w30 fun w31 =>
  RUN Try.prog (pan R) (bins .neq 141 (.tmp 35) (.const (Go.Value.pointer Option.none)) v1 (Go.Value.pointer Option.none)) w31 fun v32 w33 =>
  SPL v32
  (RUN Try.prog (pan R) (bins .eql 29 (.tmp 38) (.const (Go.Value.int Go.IntKind.i64 0)) v7 (Go.Value.int Go.IntKind.i64 0)) w33 fun v34 w35 =>
  SPL v34
  (b1_6 R v5 v11 v13 v19 v21 v27 v29 w35)
  (R (.returned (Go.Value.bool Bool.false)) w35))
  (R (.returned (Go.Value.bool Bool.false)) w33)
def b1_8 (R : EP) (v1 v5 v7 v11 v13 v17 : Value) (w18 : World) (_r : Tok R := tok R) : Prop :=
  RUN Try.prog (pan R) (Instr.extract v17 0) w18 fun v19 w20 =>
  RUN Try.prog (pan R) (Instr.extract v17 1) w20 fun v21 w22 =>
  CALL Try.prog (pan R) gram_Builder_Grammar.id #[v1] w22 fun v23 w24 =>
  b1_7 R v1 v5 v7 v11 v13 v19 v21 v23 w24
def b1_9 (R : EP) (v1 v5 v7 v9 : Value) (w10 : World) (_r : Tok R := tok R) : Prop :=
  RUN Try.prog (pan R) (Instr.extract v9 0) w10 fun v11 w12 =>
  RUN Try.prog (pan R) (Instr.extract v9 1) w12 fun v13 w14 =>
  RUN Try.prog (pan R) (Instr.buildSlice 24 2 #[(0, v11), (1, v5)]) w14 fun v15 w16 =>
  CALL Try.prog (pan R) gram_Builder_Rule.id #[v1, v11, v15] w16 fun v17 w18 =>
  b1_8 R v1 v5 v7 v11 v13 v17 w18
def b1_10 (R : EP) (v1 v3 : Value) (w4 : World) (_r : Tok R := tok R) : Prop :=
  RUN Try.prog (pan R) (Instr.extract v3 0) w4 fun v5 w6 =>
  RUN Try.prog (pan R) (Instr.extract v3 1) w6 fun v7 w8 =>
  CALL Try.prog (pan R) gram_Builder_Non.id #[v1, (Go.Value.string { data := #[101] })] w8 fun v9 w10 =>
  b1_9 R v1 v5 v7 v9 w10

def b1 (R : EP) (w : World) (_r : Tok R := tok R) : Prop :=
  CALL Try.prog (pan R) gram_New.id #[] w fun v1 w2 =>
  CALL Try.prog (pan R) gram_Builder_Term.id #[v1, (Go.Value.string { data := #[43] })] w2 fun v3 w4 =>
  b1_10 R v1 v3 w4
abbrev q1 (R : EP) : XP := QX (fun ρ w => R (.returned (ρ 0)) w) (fun ρ w => R (.returned (ρ 0)) w) []
theorem b1_eq (R : EP) (ρ : Env) (w : World) : (b1 R w) = codeP Try.prog (pan R) code (q1 R) ρ w := by kernel_rfl
theorem b1_ok (R : EP) (ρ : Env) (w : World) (h : b1 R w) : codeP Try.prog (pan R) code (q1 R) ρ w := (b1_eq R ρ w).mp h
/-- What is owed for a call. -/
def run (R : EP) (w : World) : Prop := b1 R w
theorem calls (R : EP) (w : World) (h : run R w) : Calls Try.prog id #[] w R :=
  calls_of_t (f := id) (fn := Try.f56) (c := code) (by kernel_rfl) Try.func56 (by kernel_rfl) (by kernel_rfl) (args := []) (Nat.le_of_ble_eq_true rfl) rfl (b1_ok R (envOf []) w h)
theorem enters : Enters Try.prog id := fun args w => Try.call56 args w
theorem ct {w : World} {S : VP} (h : ∀ R : EP, (∀ v w, S v w → R (.returned v) w) → run R w) : Ct Try.prog id #[] w S :=
  Ct.intro enters fun R hR => calls R w (h R hR)
attribute [irreducible] b1_1 b1_2 b1_3 b1_4 b1_5 b1_6 b1_7 b1_8 b1_9 b1_10 b1 run
attribute [go_sem] b1_1 b1_2 b1_3 b1_4 b1_5 b1_6 b1_7 b1_8 b1_9 b1_10 b1 run
end law02_awake
end Go.Proofs.Ytkacbjhiobnbfaa

/- Shallow programs, written by a program of ours (gen.py) off the translation; each is tied to the code by the kernel. -/
set_option linter.unusedVariables false
set_option maxRecDepth 100000
namespace Go.Proofs.Ytkacbjhiobnbfaa
open Go.Px

/-! ### presage/presagelaw02.GramWhich -/
namespace law02_GramWhich
noncomputable def code : Code := bodyOf Try.f14
noncomputable abbrev p1 : Code := dropC 9 code
noncomputable abbrev p2 : Code := sndC (sndC p1)
def b4_1 (R : EP) (x1 x6 : Value) (w10 : World) (_r : Tok R := tok R) : Prop :=
  RUN Try.prog (pan R) (Instr.loadAt 27 x1) w10 fun v11 w12 =>
  CALL Try.prog (pan R) ref02_Closed.id #[v11] w12 fun v13 w14 =>
  RUN Try.prog (pan R) (bins .eql 4 (.tmp 110) (.tmp 112) x6 v13) w14 fun v15 w16 =>
  R (.returned v15) w16
def b4_2 (R : EP) (x1 x5 x6 : Value) (w4 : World) (_r : Tok R := tok R) : Prop :=
  RUN Try.prog (pan R) (Instr.loadAt 27 x1) w4 fun v5 w6 =>
  CALL Try.prog (pan R) ref02_Valid.id #[v5] w6 fun v7 w8 =>
  RUN Try.prog (pan R) (bins .eql 4 (.tmp 104) (.tmp 106) x5 v7) w8 fun v9 w10 =>
  SPL v9
  (b4_1 R x1 x6 w10)
  (R (.returned (Go.Value.bool Bool.false)) w10)

def b4 (R : EP) (x1 x3 x4 x5 x6 x8 x9 x10 : Value) (w : World) (_r : Tok R := tok R) : Prop :=
  RUN Try.prog (pan R) (Instr.loadAt 27 x1) w fun v1 w2 =>
  CALL Try.prog (pan R) law02_lent_whole.id #[x4, v1] w2 fun v3 w4 =>
  SPL x3
  (SPL x8
  (SPL x9
  (SPL x10
  (SPL v3
  (b4_2 R x1 x5 x6 w4)
  (R (.returned (Go.Value.bool Bool.false)) w4))
  (R (.returned (Go.Value.bool Bool.false)) w4))
  (R (.returned (Go.Value.bool Bool.false)) w4))
  (R (.returned (Go.Value.bool Bool.false)) w4))
  (R (.returned (Go.Value.bool Bool.false)) w4)
abbrev q1 (R : EP) : XP := QX (fun ρ w => R (.returned (ρ 2)) w) (fun ρ w => R (.returned (ρ 2)) w) []
theorem b4_eq (R : EP) (ρ : Env) (w : World) : (b4 R (ρ 1) (ρ 3) (ρ 4) (ρ 5) (ρ 6) (ρ 8) (ρ 9) (ρ 10) w) = codeP Try.prog (pan R) p2 (q1 R) ρ w := by kernel_rfl
theorem b4_ok (R : EP) (ρ : Env) (w : World) (h : b4 R (ρ 1) (ρ 3) (ρ 4) (ρ 5) (ρ 6) (ρ 8) (ρ 9) (ρ 10) w) : codeP Try.prog (pan R) p2 (q1 R) ρ w := (b4_eq R ρ w).mp h
noncomputable abbrev p3 : Code := fstC (sndC p1)
noncomputable abbrev p4 : Code := dropC 1 p3
noncomputable abbrev p5 : Code := loopC (blkC p4)
def b8_1 (R : EP) (C7 : VP) (x7 x13 : Value) (w8 : World) (_r : Tok R := tok R) (_C7 : Tok C7 := tok C7) : Prop :=
  RUN Try.prog (pan R) (Instr.fieldAt 27 x7 1) w8 fun v9 w10 =>
  RUN Try.prog (pan R) (Instr.loadAt 23 v9) w10 fun v11 w12 =>
  RUN Try.prog (pan R) (Instr.indexAt 23 v11 x13) w12 fun v13 w14 =>
  RUNU Try.prog (pan R) (Instr.storeAt 9 v13 (Go.Value.string { data := #[109, 105, 110, 101] })) w14 fun w15 =>
  RUN Try.prog (pan R) (bins .add 3 (.tmp 81) (.const (Go.Value.int Go.IntKind.i64 1)) x13 (Go.Value.int Go.IntKind.i64 1)) w15 fun v16 w17 =>
  C7 v16 w17

def b8 (R : EP) (C7 : VP) (x1 x3 x4 x5 x6 x7 x8 x9 x10 x13 : Value) (w : World) (_r : Tok R := tok R) (_C7 : Tok C7 := tok C7) : Prop :=
  RUN Try.prog (pan R) (Instr.fieldAt 27 x7 1) w fun v1 w2 =>
  RUN Try.prog (pan R) (Instr.loadAt 23 v1) w2 fun v3 w4 =>
  RUN Try.prog (pan R) (Builtin.len_ #[23] 3 #[v3]) w4 fun v5 w6 =>
  RUN Try.prog (pan R) (bins .lss 3 (.tmp 76) (.tmp 79) x13 v5) w6 fun v7 w8 =>
  SPL v7
  (b8_1 R C7 x7 x13 w8)
  (b4 R x1 x3 x4 x5 x6 x8 x9 x10 w8)
abbrev q2 (R : EP) (C7 : VP) : XP := QX (fun ρ w => C7 (ρ 13) w) (fun ρ w => R (.returned (ρ 2)) w) [(8, (fun ρ w => b4 R (ρ 1) (ρ 3) (ρ 4) (ρ 5) (ρ 6) (ρ 8) (ρ 9) (ρ 10) w))]
theorem b8_eq (R : EP) (C7 : VP) (ρ : Env) (w : World) : (b8 R C7 (ρ 1) (ρ 3) (ρ 4) (ρ 5) (ρ 6) (ρ 7) (ρ 8) (ρ 9) (ρ 10) (ρ 13) w) = codeP Try.prog (pan R) p5 (q2 R C7) ρ w := by kernel_rfl
theorem b8_ok (R : EP) (C7 : VP) (ρ : Env) (w : World) (h : b8 R C7 (ρ 1) (ρ 3) (ρ 4) (ρ 5) (ρ 6) (ρ 7) (ρ 8) (ρ 9) (ρ 10) (ρ 13) w) : codeP Try.prog (pan R) p5 (q2 R C7) ρ w := (b8_eq R C7 ρ w).mp h

def l7 (R : EP) (x1 x3 x4 x5 x6 x7 x8 x9 x10 x13 : Value) (w : World) (_r : Tok R := tok R) : Prop :=
  ∃ (J : VP) (μ : Value → World → Nat), J x13 w ∧ ∀ y13 w0, J y13 w0 → b8 R (fun z13 w1 => J z13 w1 ∧ μ z13 w1 < μ y13 w0) x1 x3 x4 x5 x6 x7 x8 x9 x10 y13 w0
abbrev q3 (R : EP) : XP := QX (fun ρ w => b4 R (ρ 1) (ρ 3) (ρ 4) (ρ 5) (ρ 6) (ρ 8) (ρ 9) (ρ 10) w) (fun ρ w => R (.returned (ρ 2)) w) [(8, (fun ρ w => b4 R (ρ 1) (ρ 3) (ρ 4) (ρ 5) (ρ 6) (ρ 8) (ρ 9) (ρ 10) w))]
theorem l7_ok (R : EP) (ρ : Env) (w : World) (h : l7 R (ρ 1) (ρ 3) (ρ 4) (ρ 5) (ρ 6) (ρ 7) (ρ 8) (ρ 9) (ρ 10) (ρ 13) w) : codeP Try.prog (pan R) (blkC p4) (q3 R) ρ w := by
  unfold l7 at h
  obtain ⟨J, μ, h0, hr⟩ := h
  have e : Code.loop (loopC (blkC p4)) = (blkC p4) := by kernel_rfl
  rw [← e]
  refine loopQ (fun ρ' w' => J (ρ' 13) w') (fun ρ' w' => μ (ρ' 13) w') h0 fun ρ' w' hA hI => ?_
  have e1 : ρ' 1 = ρ 1 := Agree.at hA 1 (by kernel_rfl)
  have e3 : ρ' 3 = ρ 3 := Agree.at hA 3 (by kernel_rfl)
  have e4 : ρ' 4 = ρ 4 := Agree.at hA 4 (by kernel_rfl)
  have e5 : ρ' 5 = ρ 5 := Agree.at hA 5 (by kernel_rfl)
  have e6 : ρ' 6 = ρ 6 := Agree.at hA 6 (by kernel_rfl)
  have e7 : ρ' 7 = ρ 7 := Agree.at hA 7 (by kernel_rfl)
  have e8 : ρ' 8 = ρ 8 := Agree.at hA 8 (by kernel_rfl)
  have e9 : ρ' 9 = ρ 9 := Agree.at hA 9 (by kernel_rfl)
  have e10 : ρ' 10 = ρ 10 := Agree.at hA 10 (by kernel_rfl)
  have h1 := hr (ρ' 13) w' hI
  rw [← e1, ← e3, ← e4, ← e5, ← e6, ← e7, ← e8, ← e9, ← e10] at h1
  exact b8_ok R (fun z13 w1 => J z13 w1 ∧ μ z13 w1 < μ (ρ' 13) w') ρ' w' h1
theorem l7_intro (R : EP) (x1 x3 x4 x5 x6 x7 x8 x9 x10 x13 : Value) (w : World) (J : VP) (μ : Value → World → Nat) (h0 : J x13 w)
    (hr : ∀ y13 w0, J y13 w0 → ∀ C7 : VP, (∀ z13 w1, J z13 w1 → μ z13 w1 < μ y13 w0 → C7 z13 w1) → b8 R C7 x1 x3 x4 x5 x6 x7 x8 x9 x10 y13 w0) : l7 R x1 x3 x4 x5 x6 x7 x8 x9 x10 x13 w := by
  unfold l7
  exact ⟨J, μ, h0, fun y13 w0 hJ => hr y13 w0 hJ _ (fun z13 w1 h1 h2 => ⟨h1, h2⟩)⟩
abbrev q4 (R : EP) : XP := QX (fun ρ w => b4 R (ρ 1) (ρ 3) (ρ 4) (ρ 5) (ρ 6) (ρ 8) (ρ 9) (ρ 10) w) (fun ρ w => R (.returned (ρ 2)) w) []
theorem k6_ok (R : EP) (ρ : Env) (w : World) (h : l7 R (ρ 1) (ρ 3) (ρ 4) (ρ 5) (ρ 6) (ρ 7) (ρ 8) (ρ 9) (ρ 10) (ρ 13) w) : codeP Try.prog (pan R) p4 (q4 R) ρ w := by
  have e : Code.block 4 (blkC p4) = p4 := by kernel_rfl
  rw [← e]
  exact blockQ (l7_ok R ρ w h)

def b5 (R : EP) (x1 x3 x4 x5 x6 x7 x8 x9 x10 : Value) (w : World) (_r : Tok R := tok R) : Prop :=
  l7 R x1 x3 x4 x5 x6 x7 x8 x9 x10 (Go.Value.int Go.IntKind.i64 0) w
abbrev q5 (R : EP) : XP := QX (fun ρ w => l7 R (ρ 1) (ρ 3) (ρ 4) (ρ 5) (ρ 6) (ρ 7) (ρ 8) (ρ 9) (ρ 10) (ρ 13) w) (fun ρ w => R (.returned (ρ 2)) w) []
theorem b5_eq (R : EP) (ρ : Env) (w : World) : (b5 R (ρ 1) (ρ 3) (ρ 4) (ρ 5) (ρ 6) (ρ 7) (ρ 8) (ρ 9) (ρ 10) w) = codeP Try.prog (pan R) (preC 0 p3) (q5 R) ρ w := by kernel_rfl
theorem b5_ok (R : EP) (ρ : Env) (w : World) (h : b5 R (ρ 1) (ρ 3) (ρ 4) (ρ 5) (ρ 6) (ρ 7) (ρ 8) (ρ 9) (ρ 10) w) : codeP Try.prog (pan R) p3 (q4 R) ρ w := by
  have e : appC 0 (preC 0 p3) (dropC 1 p3) = p3 := by kernel_rfl
  rw [← e]
  exact appQ (fun ρ w => l7 R (ρ 1) (ρ 3) (ρ 4) (ρ 5) (ρ 6) (ρ 7) (ρ 8) (ρ 9) (ρ 10) (ρ 13) w) 0 ((b5_eq R ρ w).mp h) (fun ρ w h => k6_ok R ρ w h)
theorem k3_ok (R : EP) (ρ : Env) (w : World) (h : b5 R (ρ 1) (ρ 3) (ρ 4) (ρ 5) (ρ 6) (ρ 7) (ρ 8) (ρ 9) (ρ 10) w) : codeP Try.prog (pan R) (sndC p1) (q1 R) ρ w := by
  have e : Code.seq (fstC (sndC p1)) (sndC (sndC p1)) = (sndC p1) := by kernel_rfl
  rw [← e]
  exact seqQ (fun ρ w => b4 R (ρ 1) (ρ 3) (ρ 4) (ρ 5) (ρ 6) (ρ 8) (ρ 9) (ρ 10) w) (b5_ok R ρ w h) (fun ρ w h => b4_ok R ρ w h)
noncomputable abbrev p6 : Code := dropC 1 (fstC p1)
noncomputable abbrev p7 : Code := loopC (blkC p6)
noncomputable abbrev p8 : Code := dropC 1 p7

def b14 (R : EP) (C11 : VP) (x11 : Value) (w : World) (_r : Tok R := tok R) (_C11 : Tok C11 := tok C11) : Prop :=
  RUN Try.prog (pan R) (bins .add 3 (.tmp 50) (.const (Go.Value.int Go.IntKind.i64 1)) x11 (Go.Value.int Go.IntKind.i64 1)) w fun v1 w2 =>
  C11 v1 w2
abbrev q6 (R : EP) (C11 : VP) : XP := QX (fun ρ w => C11 (ρ 11) w) (fun ρ w => R (.returned (ρ 2)) w) [(0, (fun ρ w => b5 R (ρ 1) (ρ 3) (ρ 4) (ρ 5) (ρ 6) (ρ 7) (ρ 8) (ρ 9) (ρ 10) w))]
theorem b14_eq (R : EP) (C11 : VP) (ρ : Env) (w : World) : (b14 R C11 (ρ 11) w) = codeP Try.prog (pan R) (sndC p8) (q6 R C11) ρ w := by kernel_rfl
theorem b14_ok (R : EP) (C11 : VP) (ρ : Env) (w : World) (h : b14 R C11 (ρ 11) w) : codeP Try.prog (pan R) (sndC p8) (q6 R C11) ρ w := (b14_eq R C11 ρ w).mp h
noncomputable abbrev p9 : Code := blkC (fstC p8)

def b17 (R : EP) (C11 : VP) (x7 x11 : Value) (w : World) (_r : Tok R := tok R) (_C11 : Tok C11 := tok C11) : Prop :=
  RUN Try.prog (pan R) (Instr.fieldAt 27 x7 4) w fun v1 w2 =>
  RUN Try.prog (pan R) (Instr.loadAt 25 v1) w2 fun v3 w4 =>
  RUN Try.prog (pan R) (Instr.indexAt 25 v3 x11) w4 fun v5 w6 =>
  RUN Try.prog (pan R) (Instr.fieldAt 47 v5 0) w6 fun v7 w8 =>
  RUNU Try.prog (pan R) (Instr.storeAt 3 v7 (Go.Value.int Go.IntKind.i64 (-5))) w8 fun w9 =>
  b14 R C11 x11 w9
abbrev q7 (R : EP) (C11 : VP) : XP := QX (fun ρ w => b14 R C11 (ρ 11) w) (fun ρ w => R (.returned (ρ 2)) w) [(2, (fun ρ w => b14 R C11 (ρ 11) w)), (0, (fun ρ w => b5 R (ρ 1) (ρ 3) (ρ 4) (ρ 5) (ρ 6) (ρ 7) (ρ 8) (ρ 9) (ρ 10) w))]
theorem b17_eq (R : EP) (C11 : VP) (ρ : Env) (w : World) : (b17 R C11 (ρ 7) (ρ 11) w) = codeP Try.prog (pan R) (sndC p9) (q7 R C11) ρ w := by kernel_rfl
theorem b17_ok (R : EP) (C11 : VP) (ρ : Env) (w : World) (h : b17 R C11 (ρ 7) (ρ 11) w) : codeP Try.prog (pan R) (sndC p9) (q7 R C11) ρ w := (b17_eq R C11 ρ w).mp h
noncomputable abbrev p10 : Code := dropC 1 (fstC p9)
noncomputable abbrev p11 : Code := loopC (blkC p10)
def b21_1 (R : EP) (C20 : VP) (x7 x11 x12 : Value) (w14 : World) (_r : Tok R := tok R) (_C20 : Tok C20 := tok C20) : Prop :=
  RUN Try.prog (pan R) (Instr.fieldAt 27 x7 4) w14 fun v15 w16 =>
  RUN Try.prog (pan R) (Instr.loadAt 25 v15) w16 fun v17 w18 =>
  RUN Try.prog (pan R) (Instr.indexAt 25 v17 x11) w18 fun v19 w20 =>
  RUN Try.prog (pan R) (Instr.fieldAt 47 v19 1) w20 fun v21 w22 =>
  RUN Try.prog (pan R) (Instr.loadAt 24 v21) w22 fun v23 w24 =>
  RUN Try.prog (pan R) (Instr.indexAt 24 v23 x12) w24 fun v25 w26 =>
  RUNU Try.prog (pan R) (Instr.storeAt 3 v25 (Go.Value.int Go.IntKind.i64 (-5))) w26 fun w27 =>
  RUN Try.prog (pan R) (bins .add 3 (.tmp 61) (.const (Go.Value.int Go.IntKind.i64 1)) x12 (Go.Value.int Go.IntKind.i64 1)) w27 fun v28 w29 =>
  C20 v28 w29

def b21 (R : EP) (C11 : VP) (C20 : VP) (x7 x11 x12 : Value) (w : World) (_r : Tok R := tok R) (_C11 : Tok C11 := tok C11) (_C20 : Tok C20 := tok C20) : Prop :=
  RUN Try.prog (pan R) (Instr.fieldAt 27 x7 4) w fun v1 w2 =>
  RUN Try.prog (pan R) (Instr.loadAt 25 v1) w2 fun v3 w4 =>
  RUN Try.prog (pan R) (Instr.indexAt 25 v3 x11) w4 fun v5 w6 =>
  RUN Try.prog (pan R) (Instr.fieldAt 47 v5 1) w6 fun v7 w8 =>
  RUN Try.prog (pan R) (Instr.loadAt 24 v7) w8 fun v9 w10 =>
  RUN Try.prog (pan R) (Builtin.len_ #[24] 3 #[v9]) w10 fun v11 w12 =>
  RUN Try.prog (pan R) (bins .lss 3 (.tmp 52) (.tmp 59) x12 v11) w12 fun v13 w14 =>
  SPL v13
  (b21_1 R C20 x7 x11 x12 w14)
  (b17 R C11 x7 x11 w14)
abbrev q8 (R : EP) (C11 : VP) (C20 : VP) : XP := QX (fun ρ w => C20 (ρ 12) w) (fun ρ w => R (.returned (ρ 2)) w) [(4, (fun ρ w => b17 R C11 (ρ 7) (ρ 11) w)), (2, (fun ρ w => b14 R C11 (ρ 11) w)), (0, (fun ρ w => b5 R (ρ 1) (ρ 3) (ρ 4) (ρ 5) (ρ 6) (ρ 7) (ρ 8) (ρ 9) (ρ 10) w))]
theorem b21_eq (R : EP) (C11 : VP) (C20 : VP) (ρ : Env) (w : World) : (b21 R C11 C20 (ρ 7) (ρ 11) (ρ 12) w) = codeP Try.prog (pan R) p11 (q8 R C11 C20) ρ w := by kernel_rfl
theorem b21_ok (R : EP) (C11 : VP) (C20 : VP) (ρ : Env) (w : World) (h : b21 R C11 C20 (ρ 7) (ρ 11) (ρ 12) w) : codeP Try.prog (pan R) p11 (q8 R C11 C20) ρ w := (b21_eq R C11 C20 ρ w).mp h

def l20 (R : EP) (C11 : VP) (x7 x11 x12 : Value) (w : World) (_r : Tok R := tok R) (_C11 : Tok C11 := tok C11) : Prop :=
  ∃ (J : VP) (μ : Value → World → Nat), J x12 w ∧ ∀ y12 w0, J y12 w0 → b21 R C11 (fun z12 w1 => J z12 w1 ∧ μ z12 w1 < μ y12 w0) x7 x11 y12 w0
abbrev q9 (R : EP) (C11 : VP) : XP := QX (fun ρ w => b17 R C11 (ρ 7) (ρ 11) w) (fun ρ w => R (.returned (ρ 2)) w) [(4, (fun ρ w => b17 R C11 (ρ 7) (ρ 11) w)), (2, (fun ρ w => b14 R C11 (ρ 11) w)), (0, (fun ρ w => b5 R (ρ 1) (ρ 3) (ρ 4) (ρ 5) (ρ 6) (ρ 7) (ρ 8) (ρ 9) (ρ 10) w))]
theorem l20_ok (R : EP) (C11 : VP) (ρ : Env) (w : World) (h : l20 R C11 (ρ 7) (ρ 11) (ρ 12) w) : codeP Try.prog (pan R) (blkC p10) (q9 R C11) ρ w := by
  unfold l20 at h
  obtain ⟨J, μ, h0, hr⟩ := h
  have e : Code.loop (loopC (blkC p10)) = (blkC p10) := by kernel_rfl
  rw [← e]
  refine loopQ (fun ρ' w' => J (ρ' 12) w') (fun ρ' w' => μ (ρ' 12) w') h0 fun ρ' w' hA hI => ?_
  have e7 : ρ' 7 = ρ 7 := Agree.at hA 7 (by kernel_rfl)
  have e11 : ρ' 11 = ρ 11 := Agree.at hA 11 (by kernel_rfl)
  have h1 := hr (ρ' 12) w' hI
  rw [← e7, ← e11] at h1
  exact b21_ok R C11 (fun z12 w1 => J z12 w1 ∧ μ z12 w1 < μ (ρ' 12) w') ρ' w' h1
theorem l20_intro (R : EP) (C11 : VP) (x7 x11 x12 : Value) (w : World) (J : VP) (μ : Value → World → Nat) (h0 : J x12 w)
    (hr : ∀ y12 w0, J y12 w0 → ∀ C20 : VP, (∀ z12 w1, J z12 w1 → μ z12 w1 < μ y12 w0 → C20 z12 w1) → b21 R C11 C20 x7 x11 y12 w0) : l20 R C11 x7 x11 x12 w := by
  unfold l20
  exact ⟨J, μ, h0, fun y12 w0 hJ => hr y12 w0 hJ _ (fun z12 w1 h1 h2 => ⟨h1, h2⟩)⟩
abbrev q10 (R : EP) (C11 : VP) : XP := QX (fun ρ w => b17 R C11 (ρ 7) (ρ 11) w) (fun ρ w => R (.returned (ρ 2)) w) [(2, (fun ρ w => b14 R C11 (ρ 11) w)), (0, (fun ρ w => b5 R (ρ 1) (ρ 3) (ρ 4) (ρ 5) (ρ 6) (ρ 7) (ρ 8) (ρ 9) (ρ 10) w))]
theorem k19_ok (R : EP) (C11 : VP) (ρ : Env) (w : World) (h : l20 R C11 (ρ 7) (ρ 11) (ρ 12) w) : codeP Try.prog (pan R) p10 (q10 R C11) ρ w := by
  have e : Code.block 2 (blkC p10) = p10 := by kernel_rfl
  rw [← e]
  exact blockQ (l20_ok R C11 ρ w h)

def b18 (R : EP) (C11 : VP) (x7 x11 : Value) (w : World) (_r : Tok R := tok R) (_C11 : Tok C11 := tok C11) : Prop :=
  l20 R C11 x7 x11 (Go.Value.int Go.IntKind.i64 0) w
abbrev q11 (R : EP) (C11 : VP) : XP := QX (fun ρ w => l20 R C11 (ρ 7) (ρ 11) (ρ 12) w) (fun ρ w => R (.returned (ρ 2)) w) [(2, (fun ρ w => b14 R C11 (ρ 11) w)), (0, (fun ρ w => b5 R (ρ 1) (ρ 3) (ρ 4) (ρ 5) (ρ 6) (ρ 7) (ρ 8) (ρ 9) (ρ 10) w))]
theorem b18_eq (R : EP) (C11 : VP) (ρ : Env) (w : World) : (b18 R C11 (ρ 7) (ρ 11) w) = codeP Try.prog (pan R) (preC 0 (fstC p9)) (q11 R C11) ρ w := by kernel_rfl
theorem b18_ok (R : EP) (C11 : VP) (ρ : Env) (w : World) (h : b18 R C11 (ρ 7) (ρ 11) w) : codeP Try.prog (pan R) (fstC p9) (q10 R C11) ρ w := by
  have e : appC 0 (preC 0 (fstC p9)) (dropC 1 (fstC p9)) = (fstC p9) := by kernel_rfl
  rw [← e]
  exact appQ (fun ρ w => l20 R C11 (ρ 7) (ρ 11) (ρ 12) w) 0 ((b18_eq R C11 ρ w).mp h) (fun ρ w h => k19_ok R C11 ρ w h)
theorem k16_ok (R : EP) (C11 : VP) (ρ : Env) (w : World) (h : b18 R C11 (ρ 7) (ρ 11) w) : codeP Try.prog (pan R) p9 (q7 R C11) ρ w := by
  have e : Code.seq (fstC p9) (sndC p9) = p9 := by kernel_rfl
  rw [← e]
  exact seqQ (fun ρ w => b17 R C11 (ρ 7) (ρ 11) w) (b18_ok R C11 ρ w h) (fun ρ w h => b17_ok R C11 ρ w h)
abbrev q12 (R : EP) (C11 : VP) : XP := QX (fun ρ w => b14 R C11 (ρ 11) w) (fun ρ w => R (.returned (ρ 2)) w) [(0, (fun ρ w => b5 R (ρ 1) (ρ 3) (ρ 4) (ρ 5) (ρ 6) (ρ 7) (ρ 8) (ρ 9) (ρ 10) w))]
theorem k15_ok (R : EP) (C11 : VP) (ρ : Env) (w : World) (h : b18 R C11 (ρ 7) (ρ 11) w) : codeP Try.prog (pan R) (fstC p8) (q12 R C11) ρ w := by
  have e : Code.block 1 (blkC (fstC p8)) = (fstC p8) := by kernel_rfl
  rw [← e]
  exact blockQ (k16_ok R C11 ρ w h)
theorem k13_ok (R : EP) (C11 : VP) (ρ : Env) (w : World) (h : b18 R C11 (ρ 7) (ρ 11) w) : codeP Try.prog (pan R) p8 (q6 R C11) ρ w := by
  have e : Code.seq (fstC p8) (sndC p8) = p8 := by kernel_rfl
  rw [← e]
  exact seqQ (fun ρ w => b14 R C11 (ρ 11) w) (k15_ok R C11 ρ w h) (fun ρ w h => b14_ok R C11 ρ w h)

def b12 (R : EP) (C11 : VP) (x1 x3 x4 x5 x6 x7 x8 x9 x10 x11 : Value) (w : World) (_r : Tok R := tok R) (_C11 : Tok C11 := tok C11) : Prop :=
  RUN Try.prog (pan R) (Instr.fieldAt 27 x7 4) w fun v1 w2 =>
  RUN Try.prog (pan R) (Instr.loadAt 25 v1) w2 fun v3 w4 =>
  RUN Try.prog (pan R) (Builtin.len_ #[25] 3 #[v3]) w4 fun v5 w6 =>
  RUN Try.prog (pan R) (bins .lss 3 (.tmp 45) (.tmp 48) x11 v5) w6 fun v7 w8 =>
  SPL v7
  (b18 R C11 x7 x11 w8)
  (b5 R x1 x3 x4 x5 x6 x7 x8 x9 x10 w8)
abbrev q13 (R : EP) (C11 : VP) : XP := QX (fun ρ w => b18 R C11 (ρ 7) (ρ 11) w) (fun ρ w => R (.returned (ρ 2)) w) [(0, (fun ρ w => b5 R (ρ 1) (ρ 3) (ρ 4) (ρ 5) (ρ 6) (ρ 7) (ρ 8) (ρ 9) (ρ 10) w))]
theorem b12_eq (R : EP) (C11 : VP) (ρ : Env) (w : World) : (b12 R C11 (ρ 1) (ρ 3) (ρ 4) (ρ 5) (ρ 6) (ρ 7) (ρ 8) (ρ 9) (ρ 10) (ρ 11) w) = codeP Try.prog (pan R) (preC 0 p7) (q13 R C11) ρ w := by kernel_rfl
theorem b12_ok (R : EP) (C11 : VP) (ρ : Env) (w : World) (h : b12 R C11 (ρ 1) (ρ 3) (ρ 4) (ρ 5) (ρ 6) (ρ 7) (ρ 8) (ρ 9) (ρ 10) (ρ 11) w) : codeP Try.prog (pan R) p7 (q6 R C11) ρ w := by
  have e : appC 0 (preC 0 p7) (dropC 1 p7) = p7 := by kernel_rfl
  rw [← e]
  exact appQ (fun ρ w => b18 R C11 (ρ 7) (ρ 11) w) 0 ((b12_eq R C11 ρ w).mp h) (fun ρ w h => k13_ok R C11 ρ w h)

def l11 (R : EP) (x1 x3 x4 x5 x6 x7 x8 x9 x10 x11 : Value) (w : World) (_r : Tok R := tok R) : Prop :=
  ∃ (J : VP) (μ : Value → World → Nat), J x11 w ∧ ∀ y11 w0, J y11 w0 → b12 R (fun z11 w1 => J z11 w1 ∧ μ z11 w1 < μ y11 w0) x1 x3 x4 x5 x6 x7 x8 x9 x10 y11 w0
abbrev q14 (R : EP) : XP := QX (fun ρ w => b5 R (ρ 1) (ρ 3) (ρ 4) (ρ 5) (ρ 6) (ρ 7) (ρ 8) (ρ 9) (ρ 10) w) (fun ρ w => R (.returned (ρ 2)) w) [(0, (fun ρ w => b5 R (ρ 1) (ρ 3) (ρ 4) (ρ 5) (ρ 6) (ρ 7) (ρ 8) (ρ 9) (ρ 10) w))]
theorem l11_ok (R : EP) (ρ : Env) (w : World) (h : l11 R (ρ 1) (ρ 3) (ρ 4) (ρ 5) (ρ 6) (ρ 7) (ρ 8) (ρ 9) (ρ 10) (ρ 11) w) : codeP Try.prog (pan R) (blkC p6) (q14 R) ρ w := by
  unfold l11 at h
  obtain ⟨J, μ, h0, hr⟩ := h
  have e : Code.loop (loopC (blkC p6)) = (blkC p6) := by kernel_rfl
  rw [← e]
  refine loopQ (fun ρ' w' => J (ρ' 11) w') (fun ρ' w' => μ (ρ' 11) w') h0 fun ρ' w' hA hI => ?_
  have e1 : ρ' 1 = ρ 1 := Agree.at hA 1 (by kernel_rfl)
  have e3 : ρ' 3 = ρ 3 := Agree.at hA 3 (by kernel_rfl)
  have e4 : ρ' 4 = ρ 4 := Agree.at hA 4 (by kernel_rfl)
  have e5 : ρ' 5 = ρ 5 := Agree.at hA 5 (by kernel_rfl)
  have e6 : ρ' 6 = ρ 6 := Agree.at hA 6 (by kernel_rfl)
  have e7 : ρ' 7 = ρ 7 := Agree.at hA 7 (by kernel_rfl)
  have e8 : ρ' 8 = ρ 8 := Agree.at hA 8 (by kernel_rfl)
  have e9 : ρ' 9 = ρ 9 := Agree.at hA 9 (by kernel_rfl)
  have e10 : ρ' 10 = ρ 10 := Agree.at hA 10 (by kernel_rfl)
  have h1 := hr (ρ' 11) w' hI
  rw [← e1, ← e3, ← e4, ← e5, ← e6, ← e7, ← e8, ← e9, ← e10] at h1
  exact b12_ok R (fun z11 w1 => J z11 w1 ∧ μ z11 w1 < μ (ρ' 11) w') ρ' w' h1
theorem l11_intro (R : EP) (x1 x3 x4 x5 x6 x7 x8 x9 x10 x11 : Value) (w : World) (J : VP) (μ : Value → World → Nat) (h0 : J x11 w)
    (hr : ∀ y11 w0, J y11 w0 → ∀ C11 : VP, (∀ z11 w1, J z11 w1 → μ z11 w1 < μ y11 w0 → C11 z11 w1) → b12 R C11 x1 x3 x4 x5 x6 x7 x8 x9 x10 y11 w0) : l11 R x1 x3 x4 x5 x6 x7 x8 x9 x10 x11 w := by
  unfold l11
  exact ⟨J, μ, h0, fun y11 w0 hJ => hr y11 w0 hJ _ (fun z11 w1 h1 h2 => ⟨h1, h2⟩)⟩
abbrev q15 (R : EP) : XP := QX (fun ρ w => b5 R (ρ 1) (ρ 3) (ρ 4) (ρ 5) (ρ 6) (ρ 7) (ρ 8) (ρ 9) (ρ 10) w) (fun ρ w => R (.returned (ρ 2)) w) []
theorem k10_ok (R : EP) (ρ : Env) (w : World) (h : l11 R (ρ 1) (ρ 3) (ρ 4) (ρ 5) (ρ 6) (ρ 7) (ρ 8) (ρ 9) (ρ 10) (ρ 11) w) : codeP Try.prog (pan R) p6 (q15 R) ρ w := by
  have e : Code.block 0 (blkC p6) = p6 := by kernel_rfl
  rw [← e]
  exact blockQ (l11_ok R ρ w h)

def b9 (R : EP) (x1 x3 x4 x5 x6 x7 x8 x9 x10 : Value) (w : World) (_r : Tok R := tok R) : Prop :=
  l11 R x1 x3 x4 x5 x6 x7 x8 x9 x10 (Go.Value.int Go.IntKind.i64 0) w
abbrev q16 (R : EP) : XP := QX (fun ρ w => l11 R (ρ 1) (ρ 3) (ρ 4) (ρ 5) (ρ 6) (ρ 7) (ρ 8) (ρ 9) (ρ 10) (ρ 11) w) (fun ρ w => R (.returned (ρ 2)) w) []
theorem b9_eq (R : EP) (ρ : Env) (w : World) : (b9 R (ρ 1) (ρ 3) (ρ 4) (ρ 5) (ρ 6) (ρ 7) (ρ 8) (ρ 9) (ρ 10) w) = codeP Try.prog (pan R) (preC 0 (fstC p1)) (q16 R) ρ w := by kernel_rfl
theorem b9_ok (R : EP) (ρ : Env) (w : World) (h : b9 R (ρ 1) (ρ 3) (ρ 4) (ρ 5) (ρ 6) (ρ 7) (ρ 8) (ρ 9) (ρ 10) w) : codeP Try.prog (pan R) (fstC p1) (q15 R) ρ w := by
  have e : appC 0 (preC 0 (fstC p1)) (dropC 1 (fstC p1)) = (fstC p1) := by kernel_rfl
  rw [← e]
  exact appQ (fun ρ w => l11 R (ρ 1) (ρ 3) (ρ 4) (ρ 5) (ρ 6) (ρ 7) (ρ 8) (ρ 9) (ρ 10) (ρ 11) w) 0 ((b9_eq R ρ w).mp h) (fun ρ w h => k10_ok R ρ w h)
theorem k2_ok (R : EP) (ρ : Env) (w : World) (h : b9 R (ρ 1) (ρ 3) (ρ 4) (ρ 5) (ρ 6) (ρ 7) (ρ 8) (ρ 9) (ρ 10) w) : codeP Try.prog (pan R) p1 (q1 R) ρ w := by
  have e : Code.seq (fstC p1) (sndC p1) = p1 := by kernel_rfl
  rw [← e]
  exact seqQ (fun ρ w => b5 R (ρ 1) (ρ 3) (ρ 4) (ρ 5) (ρ 6) (ρ 7) (ρ 8) (ρ 9) (ρ 10) w) (b9_ok R ρ w h) (fun ρ w h => k3_ok R ρ w h)
def b1_1 (R : EP) (v1 v3 v7 v14 v21 v30 v37 v43 : Value) (w44 : World) (_r : Tok R := tok R) : Prop :=
  RUN Try.prog (pan R) (Instr.loadAt 27 v1) w44 fun v45 w46 =>
  CALL Try.prog (pan R) law02_lent_whole.id #[v7, v45] w46 fun v47 w48 =>
  b9 R v1 v3 v7 v14 v21 v30 v37 v43 v47 w48
def b1_2 (R : EP) (v1 v3 v7 v14 v21 v30 v37 : Value) (w38 : World) (_r : Tok R := tok R) : Prop :=
  NILC v7 fun v39 =>
  PUR Try.prog (Instr.fieldAt 87 v39 0) fun v40 =>
  LD Try.prog (Instr.loadAt 27 v40) (World.drew w38) fun v41 =>
  LD Try.prog (Instr.loadAt 27 v30) (World.drew w38) fun v42 =>
  CALL Try.prog (pan R) gram_Same.id #[v41, v42] (World.drew w38) fun v43 w44 =>
  b1_1 R v1 v3 v7 v14 v21 v30 v37 v43 w44
def b1_3 (R : EP) (v1 v3 v7 v14 v21 v28 : Value) (w29 : World) (_r : Tok R := tok R) : Prop :=
  RUN Try.prog (pan R) (Instr.alloc 27 true (.tuple #[])) w29 fun v30 w31 =>
  RUNU Try.prog (pan R) (Instr.storeAt 27 v30 v28) w31 fun w32 =>
  RUN Try.prog (pan R) (Instr.loadAt 27 v30) w32 fun v33 w34 =>
  RUN Try.prog (pan R) (Instr.loadAt 27 v1) w34 fun v35 w36 =>
  CALL Try.prog (pan R) ref02_Same.id #[v33, v35] w36 fun v37 w38 =>
  b1_2 R v1 v3 v7 v14 v21 v30 v37 w38
def b1_4 (R : EP) (v1 v3 v7 v14 v21 : Value) (w22 : World) (_r : Tok R := tok R) : Prop :=
  NILC v7 fun v23 =>
  RUN Try.prog (pan R) (Instr.fieldAt 87 v23 0) w22 fun v24 w25 =>
  RUN Try.prog (pan R) (Instr.loadAt 27 v24) w25 fun v26 w27 =>
  CALL Try.prog (pan R) gram_Copy.id #[v26] w27 fun v28 w29 =>
  b1_3 R v1 v3 v7 v14 v21 v28 w29
def b1_5 (R : EP) (v1 v3 v7 v14 : Value) (w15 : World) (_r : Tok R := tok R) : Prop :=
  NILC v7 fun v16 =>
  RUN Try.prog (pan R) (Instr.fieldAt 87 v16 0) w15 fun v17 w18 =>
  RUN Try.prog (pan R) (Instr.loadAt 27 v17) w18 fun v19 w20 =>
  CALL Try.prog (pan R) gram_Closed.id #[v19] w20 fun v21 w22 =>
  b1_4 R v1 v3 v7 v14 v21 w22
def b1_6 (R : EP) (v1 v3 v7 : Value) (w8 : World) (_r : Tok R := tok R) : Prop :=
  NILC v7 fun v9 =>
  RUN Try.prog (pan R) (Instr.fieldAt 87 v9 0) w8 fun v10 w11 =>
  RUN Try.prog (pan R) (Instr.loadAt 27 v10) w11 fun v12 w13 =>
  CALL Try.prog (pan R) gram_Valid.id #[v12] w13 fun v14 w15 =>
  b1_5 R v1 v3 v7 v14 w15
def b1_7 (R : EP) (v1 v3 : Value) (w4 : World) (_r : Tok R := tok R) : Prop :=
  RUN Try.prog (pan R) (Instr.loadAt 27 v1) w4 fun v5 w6 =>
  CALL Try.prog (pan R) law02_lend.id #[v5] w6 fun v7 w8 =>
  b1_6 R v1 v3 v7 w8

def b1 (R : EP) (x0 : Value) (w : World) (_r : Tok R := tok R) : Prop :=
  RUN Try.prog (pan R) (Instr.box 27 x0) w fun v1 w2 =>
  CALL Try.prog (pan R) law02_awake.id #[] w2 fun v3 w4 =>
  b1_7 R v1 v3 w4
abbrev q17 (R : EP) : XP := QX (fun ρ w => b9 R (ρ 1) (ρ 3) (ρ 4) (ρ 5) (ρ 6) (ρ 7) (ρ 8) (ρ 9) (ρ 10) w) (fun ρ w => R (.returned (ρ 2)) w) []
theorem b1_eq (R : EP) (ρ : Env) (w : World) : (b1 R (ρ 0) w) = codeP Try.prog (pan R) (preC 8 code) (q17 R) ρ w := by kernel_rfl
theorem b1_ok (R : EP) (ρ : Env) (w : World) (h : b1 R (ρ 0) w) : codeP Try.prog (pan R) code (q1 R) ρ w := by
  have e : appC 8 (preC 8 code) (dropC 9 code) = code := by kernel_rfl
  rw [← e]
  exact appQ (fun ρ w => b9 R (ρ 1) (ρ 3) (ρ 4) (ρ 5) (ρ 6) (ρ 7) (ρ 8) (ρ 9) (ρ 10) w) 8 ((b1_eq R ρ w).mp h) (fun ρ w h => k2_ok R ρ w h)
/-- What is owed for a call. -/
def run (R : EP) (a0 : Value) (w : World) : Prop := b1 R a0 w
theorem calls (R : EP) (a0 : Value) (w : World) (h : run R a0 w) : Calls Try.prog id #[a0] w R :=
  calls_of_t (f := id) (fn := Try.f14) (c := code) (by kernel_rfl) Try.func14 (by kernel_rfl) (by kernel_rfl) (args := [a0]) (Nat.le_of_ble_eq_true rfl) rfl (b1_ok R (envOf [a0]) w h)
theorem enters : Enters Try.prog id := fun args w => Try.call14 args w
theorem ct {a0 : Value} {w : World} {S : VP} (h : ∀ R : EP, (∀ v w, S v w → R (.returned v) w) → run R a0 w) : Ct Try.prog id #[a0] w S :=
  Ct.intro enters fun R hR => calls R a0 w (h R hR)
attribute [irreducible] b4_1 b4_2 b4 b8_1 b8 l7 b5 b14 b17 b21_1 b21 l20 b18 b12 l11 b9 b1_1 b1_2 b1_3 b1_4 b1_5 b1_6 b1_7 b1 run
attribute [go_sem] b4_1 b4_2 b4 b8_1 b8 b5 b14 b17 b21_1 b21 b18 b12 b9 b1_1 b1_2 b1_3 b1_4 b1_5 b1_6 b1_7 b1 run
end law02_GramWhich

/-! ### presage/presagelaw02.lend -/
namespace law02_lend
noncomputable def code : Code := bodyOf Try.f57
noncomputable abbrev p1 : Code := dropC 3 code
noncomputable abbrev p2 : Code := dropC 1 p1
noncomputable abbrev p3 : Code := dropC 1 p2

def b5 (R : EP) (x1 x3 : Value) (w : World) (_r : Tok R := tok R) : Prop :=
  NILC x3 fun v1 =>
  RUN Try.prog (pan R) (Instr.fieldAt 87 v1 5) w fun v2 w3 =>
  RUN Try.prog (pan R) (Instr.loadAt 25 v2) w3 fun v4 w5 =>
  RUN Try.prog (pan R) (Instr.build 47 #[(0, (Go.Value.int Go.IntKind.i64 77))]) w5 fun v6 w7 =>
  RUN Try.prog (pan R) (Instr.buildSlice 25 1 #[(0, v6)]) w7 fun v8 w9 =>
  RUN Try.prog (pan R) (Builtin.append_ #[25, 25] 25 #[v4, v8]) w9 fun v10 w11 =>
  NILC x3 fun v12 =>
  RUN Try.prog (pan R) (Instr.fieldAt 87 v12 5) w11 fun v13 w14 =>
  RUNU Try.prog (pan R) (Instr.storeAt 25 v13 v10) w14 fun w15 =>
  NILC x3 fun v16 =>
  PUR Try.prog (Instr.fieldAt 87 v16 1) fun v17 =>
  LD Try.prog (Instr.loadAt 22 v17) (World.drew w15) fun v18 =>
  PUR Try.prog (Instr.fieldAt 27 x1 0) fun v19 =>
  LD Try.prog (Instr.loadAt 22 v19) (World.drew w15) fun v20 =>
  LD Try.prog (Builtin.len_ #[22] 3 #[v20]) (World.drew w15) fun v21 =>
  PUR Try.prog (Instr.sliceAt 22 v18 none (some v21) none) fun v22 =>
  NILC x3 fun v23 =>
  PUR Try.prog (Instr.fieldAt 87 v23 2) fun v24 =>
  LD Try.prog (Instr.loadAt 23 v24) (World.drew w15) fun v25 =>
  PUR Try.prog (Instr.fieldAt 27 x1 1) fun v26 =>
  LD Try.prog (Instr.loadAt 23 v26) (World.drew w15) fun v27 =>
  LD Try.prog (Builtin.len_ #[23] 3 #[v27]) (World.drew w15) fun v28 =>
  PUR Try.prog (Instr.sliceAt 23 v25 none (some v28) none) fun v29 =>
  NILC x3 fun v30 =>
  PUR Try.prog (Instr.fieldAt 87 v30 3) fun v31 =>
  LD Try.prog (Instr.loadAt 24 v31) (World.drew w15) fun v32 =>
  PUR Try.prog (Instr.fieldAt 27 x1 2) fun v33 =>
  LD Try.prog (Instr.loadAt 24 v33) (World.drew w15) fun v34 =>
  LD Try.prog (Builtin.len_ #[24] 3 #[v34]) (World.drew w15) fun v35 =>
  PUR Try.prog (Instr.sliceAt 24 v32 none (some v35) none) fun v36 =>
  PUR Try.prog (Instr.fieldAt 27 x1 3) fun v37 =>
  LD Try.prog (Instr.loadAt 3 v37) (World.drew w15) fun v38 =>
  NILC x3 fun v39 =>
  PUR Try.prog (Instr.fieldAt 87 v39 5) fun v40 =>
  LD Try.prog (Instr.loadAt 25 v40) (World.drew w15) fun v41 =>
  PUR Try.prog (Instr.fieldAt 27 x1 4) fun v42 =>
  LD Try.prog (Instr.loadAt 25 v42) (World.drew w15) fun v43 =>
  LD Try.prog (Builtin.len_ #[25] 3 #[v43]) (World.drew w15) fun v44 =>
  PUR Try.prog (Instr.sliceAt 25 v41 none (some v44) none) fun v45 =>
  PUR Try.prog (Instr.build 27 #[(0, v22), (1, v29), (2, v36), (3, v38), (4, v45)]) fun v46 =>
  NILC x3 fun v47 =>
  PUR Try.prog (Instr.fieldAt 87 v47 0) fun v48 =>
  RUNU Try.prog (pan R) (Instr.storeAt 27 v48 v46) (World.drew w15) fun w49 =>
  R (.returned x3) w49
abbrev q1 (R : EP) : XP := QX (fun ρ w => R (.returned (ρ 2)) w) (fun ρ w => R (.returned (ρ 2)) w) []
theorem b5_eq (R : EP) (ρ : Env) (w : World) : (b5 R (ρ 1) (ρ 3) w) = codeP Try.prog (pan R) (sndC p3) (q1 R) ρ w := by kernel_rfl
theorem b5_ok (R : EP) (ρ : Env) (w : World) (h : b5 R (ρ 1) (ρ 3) w) : codeP Try.prog (pan R) (sndC p3) (q1 R) ρ w := (b5_eq R ρ w).mp h
noncomputable abbrev p4 : Code := dropC 1 (fstC p3)
noncomputable abbrev p5 : Code := loopC (blkC p4)
def b9_1 (R : EP) (C8 : VP) (x1 x3 x4 : Value) (w8 : World) (_r : Tok R := tok R) (_C8 : Tok C8 := tok C8) : Prop :=
  RUN Try.prog (pan R) (Instr.fieldAt 27 x1 4) w8 fun v9 w10 =>
  RUN Try.prog (pan R) (Instr.loadAt 25 v9) w10 fun v11 w12 =>
  RUN Try.prog (pan R) (Instr.indexAt 25 v11 x4) w12 fun v13 w14 =>
  RUN Try.prog (pan R) (Instr.fieldAt 47 v13 1) w14 fun v15 w16 =>
  RUN Try.prog (pan R) (Instr.loadAt 24 v15) w16 fun v17 w18 =>
  RUN Try.prog (pan R) (Builtin.append_ #[24, 24] 24 #[(Go.Value.slice Option.none 0 0), v17]) w18 fun v19 w20 =>
  RUN Try.prog (pan R) (Instr.buildSlice 24 1 #[(0, (Go.Value.int Go.IntKind.i64 77))]) w20 fun v21 w22 =>
  RUN Try.prog (pan R) (Builtin.append_ #[24, 24] 24 #[v19, v21]) w22 fun v23 w24 =>
  NILC x3 fun v25 =>
  RUN Try.prog (pan R) (Instr.fieldAt 87 v25 4) w24 fun v26 w27 =>
  RUN Try.prog (pan R) (Instr.loadAt 85 v26) w27 fun v28 w29 =>
  RUN Try.prog (pan R) (Instr.buildSlice 85 1 #[(0, v23)]) w29 fun v30 w31 =>
  RUN Try.prog (pan R) (Builtin.append_ #[85, 85] 85 #[v28, v30]) w31 fun v32 w33 =>
  NILC x3 fun v34 =>
  RUN Try.prog (pan R) (Instr.fieldAt 87 v34 4) w33 fun v35 w36 =>
  RUNU Try.prog (pan R) (Instr.storeAt 85 v35 v32) w36 fun w37 =>
  NILC x3 fun v38 =>
  PUR Try.prog (Instr.fieldAt 87 v38 5) fun v39 =>
  LD Try.prog (Instr.loadAt 25 v39) (World.drew w37) fun v40 =>
  PUR Try.prog (Instr.fieldAt 27 x1 4) fun v41 =>
  LD Try.prog (Instr.loadAt 25 v41) (World.drew w37) fun v42 =>
  PUR Try.prog (Instr.indexAt 25 v42 x4) fun v43 =>
  PUR Try.prog (Instr.fieldAt 47 v43 0) fun v44 =>
  LD Try.prog (Instr.loadAt 3 v44) (World.drew w37) fun v45 =>
  LD Try.prog (Builtin.len_ #[24] 3 #[v23]) (World.drew w37) fun v46 =>
  PUR Try.prog (bins .sub 3 (.tmp 85) (.const (Go.Value.int Go.IntKind.i64 1)) v46 (Go.Value.int Go.IntKind.i64 1)) fun v47 =>
  PUR Try.prog (Instr.sliceAt 24 v23 none (some v47) none) fun v48 =>
  PUR Try.prog (Instr.fieldAt 27 x1 4) fun v49 =>
  LD Try.prog (Instr.loadAt 25 v49) (World.drew w37) fun v50 =>
  PUR Try.prog (Instr.indexAt 25 v50 x4) fun v51 =>
  PUR Try.prog (Instr.fieldAt 47 v51 2) fun v52 =>
  LD Try.prog (Instr.loadAt 3 v52) (World.drew w37) fun v53 =>
  PUR Try.prog (Instr.build 47 #[(0, v45), (1, v48), (2, v53)]) fun v54 =>
  RUN Try.prog (pan R) (Instr.buildSlice 25 1 #[(0, v54)]) (World.drew w37) fun v55 w56 =>
  Sem.run Try.prog (Instr.loadAt 25 v39) w56 = .ok v40 w56 ∧ (RUN Try.prog (pan R) (Builtin.append_ #[25, 25] 25 #[v40, v55]) w56 fun v57 w58 =>
  NILC x3 fun v59 =>
  PUR Try.prog (Instr.fieldAt 87 v59 5) fun v60 =>
  RUNU Try.prog (pan R) (Instr.storeAt 25 v60 v57) w58 fun w61 =>
  RUN Try.prog (pan R) (bins .add 3 (.tmp 50) (.const (Go.Value.int Go.IntKind.i64 1)) x4 (Go.Value.int Go.IntKind.i64 1)) w61 fun v62 w63 =>
  C8 v62 w63)

def b9 (R : EP) (C8 : VP) (x1 x3 x4 : Value) (w : World) (_r : Tok R := tok R) (_C8 : Tok C8 := tok C8) : Prop :=
  RUN Try.prog (pan R) (Instr.fieldAt 27 x1 4) w fun v1 w2 =>
  RUN Try.prog (pan R) (Instr.loadAt 25 v1) w2 fun v3 w4 =>
  RUN Try.prog (pan R) (Builtin.len_ #[25] 3 #[v3]) w4 fun v5 w6 =>
  RUN Try.prog (pan R) (bins .lss 3 (.tmp 45) (.tmp 48) x4 v5) w6 fun v7 w8 =>
  SPL v7
  (b9_1 R C8 x1 x3 x4 w8)
  (b5 R x1 x3 w8)
abbrev q2 (R : EP) (C8 : VP) : XP := QX (fun ρ w => C8 (ρ 4) w) (fun ρ w => R (.returned (ρ 2)) w) [(0, (fun ρ w => b5 R (ρ 1) (ρ 3) w))]
theorem b9_eq (R : EP) (C8 : VP) (ρ : Env) (w : World) : (b9 R C8 (ρ 1) (ρ 3) (ρ 4) w) = codeP Try.prog (pan R) p5 (q2 R C8) ρ w := by kernel_rfl
theorem b9_ok (R : EP) (C8 : VP) (ρ : Env) (w : World) (h : b9 R C8 (ρ 1) (ρ 3) (ρ 4) w) : codeP Try.prog (pan R) p5 (q2 R C8) ρ w := (b9_eq R C8 ρ w).mp h

def l8 (R : EP) (x1 x3 x4 : Value) (w : World) (_r : Tok R := tok R) : Prop :=
  ∃ (J : VP) (μ : Value → World → Nat), J x4 w ∧ ∀ y4 w0, J y4 w0 → b9 R (fun z4 w1 => J z4 w1 ∧ μ z4 w1 < μ y4 w0) x1 x3 y4 w0
abbrev q3 (R : EP) : XP := QX (fun ρ w => b5 R (ρ 1) (ρ 3) w) (fun ρ w => R (.returned (ρ 2)) w) [(0, (fun ρ w => b5 R (ρ 1) (ρ 3) w))]
theorem l8_ok (R : EP) (ρ : Env) (w : World) (h : l8 R (ρ 1) (ρ 3) (ρ 4) w) : codeP Try.prog (pan R) (blkC p4) (q3 R) ρ w := by
  unfold l8 at h
  obtain ⟨J, μ, h0, hr⟩ := h
  have e : Code.loop (loopC (blkC p4)) = (blkC p4) := by kernel_rfl
  rw [← e]
  refine loopQ (fun ρ' w' => J (ρ' 4) w') (fun ρ' w' => μ (ρ' 4) w') h0 fun ρ' w' hA hI => ?_
  have e1 : ρ' 1 = ρ 1 := Agree.at hA 1 (by kernel_rfl)
  have e3 : ρ' 3 = ρ 3 := Agree.at hA 3 (by kernel_rfl)
  have h1 := hr (ρ' 4) w' hI
  rw [← e1, ← e3] at h1
  exact b9_ok R (fun z4 w1 => J z4 w1 ∧ μ z4 w1 < μ (ρ' 4) w') ρ' w' h1
theorem l8_intro (R : EP) (x1 x3 x4 : Value) (w : World) (J : VP) (μ : Value → World → Nat) (h0 : J x4 w)
    (hr : ∀ y4 w0, J y4 w0 → ∀ C8 : VP, (∀ z4 w1, J z4 w1 → μ z4 w1 < μ y4 w0 → C8 z4 w1) → b9 R C8 x1 x3 y4 w0) : l8 R x1 x3 x4 w := by
  unfold l8
  exact ⟨J, μ, h0, fun y4 w0 hJ => hr y4 w0 hJ _ (fun z4 w1 h1 h2 => ⟨h1, h2⟩)⟩
abbrev q4 (R : EP) : XP := QX (fun ρ w => b5 R (ρ 1) (ρ 3) w) (fun ρ w => R (.returned (ρ 2)) w) []
theorem k7_ok (R : EP) (ρ : Env) (w : World) (h : l8 R (ρ 1) (ρ 3) (ρ 4) w) : codeP Try.prog (pan R) p4 (q4 R) ρ w := by
  have e : Code.block 0 (blkC p4) = p4 := by kernel_rfl
  rw [← e]
  exact blockQ (l8_ok R ρ w h)

def b6 (R : EP) (x1 x3 : Value) (w : World) (_r : Tok R := tok R) : Prop :=
  l8 R x1 x3 (Go.Value.int Go.IntKind.i64 0) w
abbrev q5 (R : EP) : XP := QX (fun ρ w => l8 R (ρ 1) (ρ 3) (ρ 4) w) (fun ρ w => R (.returned (ρ 2)) w) []
theorem b6_eq (R : EP) (ρ : Env) (w : World) : (b6 R (ρ 1) (ρ 3) w) = codeP Try.prog (pan R) (preC 0 (fstC p3)) (q5 R) ρ w := by kernel_rfl
theorem b6_ok (R : EP) (ρ : Env) (w : World) (h : b6 R (ρ 1) (ρ 3) w) : codeP Try.prog (pan R) (fstC p3) (q4 R) ρ w := by
  have e : appC 0 (preC 0 (fstC p3)) (dropC 1 (fstC p3)) = (fstC p3) := by kernel_rfl
  rw [← e]
  exact appQ (fun ρ w => l8 R (ρ 1) (ρ 3) (ρ 4) w) 0 ((b6_eq R ρ w).mp h) (fun ρ w h => k7_ok R ρ w h)
theorem k4_ok (R : EP) (ρ : Env) (w : World) (h : b6 R (ρ 1) (ρ 3) w) : codeP Try.prog (pan R) p3 (q1 R) ρ w := by
  have e : Code.seq (fstC p3) (sndC p3) = p3 := by kernel_rfl
  rw [← e]
  exact seqQ (fun ρ w => b5 R (ρ 1) (ρ 3) w) (b6_ok R ρ w h) (fun ρ w h => b5_ok R ρ w h)

def b3 (R : EP) (x1 x3 : Value) (w : World) (_r : Tok R := tok R) : Prop :=
  NILC x3 fun v1 =>
  PUR Try.prog (Instr.fieldAt 87 v1 3) fun v2 =>
  LD Try.prog (Instr.loadAt 24 v2) (World.drew w) fun v3 =>
  PUR Try.prog (Instr.fieldAt 27 x1 2) fun v4 =>
  LD Try.prog (Instr.loadAt 24 v4) (World.drew w) fun v5 =>
  (RUN Try.prog (pan R) (Builtin.append_ #[24, 24] 24 #[v3, v5]) (World.drew w) fun v6 w7 =>
  RUN Try.prog (pan R) (Instr.buildSlice 24 1 #[(0, (Go.Value.int Go.IntKind.i64 77))]) w7 fun v8 w9 =>
  RUN Try.prog (pan R) (Builtin.append_ #[24, 24] 24 #[v6, v8]) w9 fun v10 w11 =>
  NILC x3 fun v12 =>
  PUR Try.prog (Instr.fieldAt 87 v12 3) fun v13 =>
  RUNU Try.prog (pan R) (Instr.storeAt 24 v13 v10) w11 fun w14 =>
  b6 R x1 x3 w14) ∧
  (RUN Try.prog (pan R) (Instr.buildSlice 24 1 #[(0, (Go.Value.int Go.IntKind.i64 77))]) (World.drew w) fun v15 w16 =>
  Sem.run Try.prog (Instr.loadAt 24 v4) w16 = .ok v5 w16 ∧ (Sem.run Try.prog (Instr.loadAt 24 v2) w16 = .ok v3 w16 ∧ (RUN Try.prog (pan R) (Builtin.append_ #[24, 24] 24 #[v3, v5]) w16 fun v17 w18 =>
  RUN Try.prog (pan R) (Builtin.append_ #[24, 24] 24 #[v17, v15]) w18 fun v19 w20 =>
  NILC x3 fun v21 =>
  PUR Try.prog (Instr.fieldAt 87 v21 3) fun v22 =>
  RUNU Try.prog (pan R) (Instr.storeAt 24 v22 v19) w20 fun w23 =>
  b6 R x1 x3 w23)))
abbrev q6 (R : EP) : XP := QX (fun ρ w => b6 R (ρ 1) (ρ 3) w) (fun ρ w => R (.returned (ρ 2)) w) []
theorem b3_eq (R : EP) (ρ : Env) (w : World) : (b3 R (ρ 1) (ρ 3) w) = codeP Try.prog (pan R) (preC 0 p2) (q6 R) ρ w := by kernel_rfl
theorem b3_ok (R : EP) (ρ : Env) (w : World) (h : b3 R (ρ 1) (ρ 3) w) : codeP Try.prog (pan R) p2 (q1 R) ρ w := by
  have e : appC 0 (preC 0 p2) (dropC 1 p2) = p2 := by kernel_rfl
  rw [← e]
  exact appQ (fun ρ w => b6 R (ρ 1) (ρ 3) w) 0 ((b3_eq R ρ w).mp h) (fun ρ w h => k4_ok R ρ w h)

def b2 (R : EP) (x1 x3 : Value) (w : World) (_r : Tok R := tok R) : Prop :=
  NILC x3 fun v1 =>
  PUR Try.prog (Instr.fieldAt 87 v1 2) fun v2 =>
  LD Try.prog (Instr.loadAt 23 v2) (World.drew w) fun v3 =>
  PUR Try.prog (Instr.fieldAt 27 x1 1) fun v4 =>
  LD Try.prog (Instr.loadAt 23 v4) (World.drew w) fun v5 =>
  (RUN Try.prog (pan R) (Builtin.append_ #[23, 23] 23 #[v3, v5]) (World.drew w) fun v6 w7 =>
  RUN Try.prog (pan R) (Instr.buildSlice 23 1 #[(0, (Go.Value.string { data := #[115, 112, 97, 114, 101] }))]) w7 fun v8 w9 =>
  RUN Try.prog (pan R) (Builtin.append_ #[23, 23] 23 #[v6, v8]) w9 fun v10 w11 =>
  NILC x3 fun v12 =>
  PUR Try.prog (Instr.fieldAt 87 v12 2) fun v13 =>
  RUNU Try.prog (pan R) (Instr.storeAt 23 v13 v10) w11 fun w14 =>
  b3 R x1 x3 w14) ∧
  (RUN Try.prog (pan R) (Instr.buildSlice 23 1 #[(0, (Go.Value.string { data := #[115, 112, 97, 114, 101] }))]) (World.drew w) fun v15 w16 =>
  Sem.run Try.prog (Instr.loadAt 23 v4) w16 = .ok v5 w16 ∧ (Sem.run Try.prog (Instr.loadAt 23 v2) w16 = .ok v3 w16 ∧ (RUN Try.prog (pan R) (Builtin.append_ #[23, 23] 23 #[v3, v5]) w16 fun v17 w18 =>
  RUN Try.prog (pan R) (Builtin.append_ #[23, 23] 23 #[v17, v15]) w18 fun v19 w20 =>
  NILC x3 fun v21 =>
  PUR Try.prog (Instr.fieldAt 87 v21 2) fun v22 =>
  RUNU Try.prog (pan R) (Instr.storeAt 23 v22 v19) w20 fun w23 =>
  b3 R x1 x3 w23)))
abbrev q7 (R : EP) : XP := QX (fun ρ w => b3 R (ρ 1) (ρ 3) w) (fun ρ w => R (.returned (ρ 2)) w) []
theorem b2_eq (R : EP) (ρ : Env) (w : World) : (b2 R (ρ 1) (ρ 3) w) = codeP Try.prog (pan R) (preC 0 p1) (q7 R) ρ w := by kernel_rfl
theorem b2_ok (R : EP) (ρ : Env) (w : World) (h : b2 R (ρ 1) (ρ 3) w) : codeP Try.prog (pan R) p1 (q1 R) ρ w := by
  have e : appC 0 (preC 0 p1) (dropC 1 p1) = p1 := by kernel_rfl
  rw [← e]
  exact appQ (fun ρ w => b3 R (ρ 1) (ρ 3) w) 0 ((b2_eq R ρ w).mp h) (fun ρ w h => b3_ok R ρ w h)

def b1 (R : EP) (x0 : Value) (w : World) (_r : Tok R := tok R) : Prop :=
  RUN Try.prog (pan R) (Instr.box 27 x0) w fun v1 w2 =>
  RUN Try.prog (pan R) (Instr.build 87 #[]) w2 fun v3 w4 =>
  RUN Try.prog (pan R) (Instr.box 87 v3) w4 fun v5 w6 =>
  NILC v5 fun v7 =>
  PUR Try.prog (Instr.fieldAt 87 v7 1) fun v8 =>
  LD Try.prog (Instr.loadAt 22 v8) (World.drew w6) fun v9 =>
  PUR Try.prog (Instr.fieldAt 27 v1 0) fun v10 =>
  LD Try.prog (Instr.loadAt 22 v10) (World.drew w6) fun v11 =>
  PUR Try.prog (Instr.build 106 #[(0, (Go.Value.string { data := #[115, 112, 97, 114, 101] }))]) fun v12 =>
  (RUN Try.prog (pan R) (Builtin.append_ #[22, 22] 22 #[v9, v11]) (World.drew w6) fun v13 w14 =>
  RUN Try.prog (pan R) (Instr.buildSlice 22 1 #[(0, v12)]) w14 fun v15 w16 =>
  RUN Try.prog (pan R) (Builtin.append_ #[22, 22] 22 #[v13, v15]) w16 fun v17 w18 =>
  NILC v5 fun v19 =>
  PUR Try.prog (Instr.fieldAt 87 v19 1) fun v20 =>
  RUNU Try.prog (pan R) (Instr.storeAt 22 v20 v17) w18 fun w21 =>
  b2 R v1 v5 w21) ∧
  (RUN Try.prog (pan R) (Instr.buildSlice 22 1 #[(0, v12)]) (World.drew w6) fun v22 w23 =>
  Sem.run Try.prog (Instr.loadAt 22 v10) w23 = .ok v11 w23 ∧ (Sem.run Try.prog (Instr.loadAt 22 v8) w23 = .ok v9 w23 ∧ (RUN Try.prog (pan R) (Builtin.append_ #[22, 22] 22 #[v9, v11]) w23 fun v24 w25 =>
  RUN Try.prog (pan R) (Builtin.append_ #[22, 22] 22 #[v24, v22]) w25 fun v26 w27 =>
  NILC v5 fun v28 =>
  PUR Try.prog (Instr.fieldAt 87 v28 1) fun v29 =>
  RUNU Try.prog (pan R) (Instr.storeAt 22 v29 v26) w27 fun w30 =>
  b2 R v1 v5 w30)))
abbrev q8 (R : EP) : XP := QX (fun ρ w => b2 R (ρ 1) (ρ 3) w) (fun ρ w => R (.returned (ρ 2)) w) []
theorem b1_eq (R : EP) (ρ : Env) (w : World) : (b1 R (ρ 0) w) = codeP Try.prog (pan R) (preC 2 code) (q8 R) ρ w := by kernel_rfl
theorem b1_ok (R : EP) (ρ : Env) (w : World) (h : b1 R (ρ 0) w) : codeP Try.prog (pan R) code (q1 R) ρ w := by
  have e : appC 2 (preC 2 code) (dropC 3 code) = code := by kernel_rfl
  rw [← e]
  exact appQ (fun ρ w => b2 R (ρ 1) (ρ 3) w) 2 ((b1_eq R ρ w).mp h) (fun ρ w h => b2_ok R ρ w h)
/-- What is owed for a call. -/
def run (R : EP) (a0 : Value) (w : World) : Prop := b1 R a0 w
theorem calls (R : EP) (a0 : Value) (w : World) (h : run R a0 w) : Calls Try.prog id #[a0] w R :=
  calls_of_t (f := id) (fn := Try.f57) (c := code) (by kernel_rfl) Try.func57 (by kernel_rfl) (by kernel_rfl) (args := [a0]) (Nat.le_of_ble_eq_true rfl) rfl (b1_ok R (envOf [a0]) w h)
theorem enters : Enters Try.prog id := fun args w => Try.call57 args w
theorem ct {a0 : Value} {w : World} {S : VP} (h : ∀ R : EP, (∀ v w, S v w → R (.returned v) w) → run R a0 w) : Ct Try.prog id #[a0] w S :=
  Ct.intro enters fun R hR => calls R a0 w (h R hR)
attribute [irreducible] b5 b9_1 b9 l8 b6 b3 b2 b1 run
attribute [go_sem] b5 b9_1 b9 b6 b3 b2 b1 run
end law02_lend

/-! ### (*presage/presagelaw02.lent).whole -/
namespace law02_lent_whole
noncomputable def code : Code := bodyOf Try.f62
noncomputable abbrev p1 : Code := dropC 2 code
def b3_1 (R : EP) (x0 : Value) (w : World) (_r : Tok R := tok R) : Prop :=
  NILC x0 fun v35 =>
  PUR Try.prog (Instr.fieldAt 87 v35 5) fun v36 =>
  LD Try.prog (Instr.loadAt 25 v36) (World.drew w) fun v37 =>
  NILC x0 fun v38 =>
  PUR Try.prog (Instr.fieldAt 87 v38 5) fun v39 =>
  LD Try.prog (Instr.loadAt 25 v39) (World.drew w) fun v40 =>
  LD Try.prog (Builtin.len_ #[25] 3 #[v40]) (World.drew w) fun v41 =>
  PUR Try.prog (bins .sub 3 (.tmp 100) (.const (Go.Value.int Go.IntKind.i64 1)) v41 (Go.Value.int Go.IntKind.i64 1)) fun v42 =>
  PUR Try.prog (Instr.indexAt 25 v37 v42) fun v43 =>
  PUR Try.prog (Instr.fieldAt 47 v43 0) fun v44 =>
  LD Try.prog (Instr.loadAt 3 v44) (World.drew w) fun v45 =>
  PUR Try.prog (bins .eql 3 (.tmp 104) (.const (Go.Value.int Go.IntKind.i64 77)) v45 (Go.Value.int Go.IntKind.i64 77)) fun v46 =>
  R (.returned v46) (World.drew w)
def b3_2 (R : EP) (x0 : Value) (w : World) (_r : Tok R := tok R) : Prop :=
  NILC x0 fun v24 =>
  PUR Try.prog (Instr.fieldAt 87 v24 3) fun v25 =>
  LD Try.prog (Instr.loadAt 24 v25) (World.drew w) fun v26 =>
  NILC x0 fun v27 =>
  PUR Try.prog (Instr.fieldAt 87 v27 3) fun v28 =>
  LD Try.prog (Instr.loadAt 24 v28) (World.drew w) fun v29 =>
  LD Try.prog (Builtin.len_ #[24] 3 #[v29]) (World.drew w) fun v30 =>
  PUR Try.prog (bins .sub 3 (.tmp 85) (.const (Go.Value.int Go.IntKind.i64 1)) v30 (Go.Value.int Go.IntKind.i64 1)) fun v31 =>
  PUR Try.prog (Instr.indexAt 24 v26 v31) fun v32 =>
  LD Try.prog (Instr.loadAt 3 v32) (World.drew w) fun v33 =>
  PUR Try.prog (bins .eql 3 (.tmp 88) (.const (Go.Value.int Go.IntKind.i64 77)) v33 (Go.Value.int Go.IntKind.i64 77)) fun v34 =>
  SPL v34
  (b3_1 R x0 w)
  (R (.returned (Go.Value.bool Bool.false)) (World.drew w))
def b3_3 (R : EP) (x0 : Value) (w : World) (_r : Tok R := tok R) : Prop :=
  NILC x0 fun v13 =>
  PUR Try.prog (Instr.fieldAt 87 v13 2) fun v14 =>
  LD Try.prog (Instr.loadAt 23 v14) (World.drew w) fun v15 =>
  NILC x0 fun v16 =>
  PUR Try.prog (Instr.fieldAt 87 v16 2) fun v17 =>
  LD Try.prog (Instr.loadAt 23 v17) (World.drew w) fun v18 =>
  LD Try.prog (Builtin.len_ #[23] 3 #[v18]) (World.drew w) fun v19 =>
  PUR Try.prog (bins .sub 3 (.tmp 70) (.const (Go.Value.int Go.IntKind.i64 1)) v19 (Go.Value.int Go.IntKind.i64 1)) fun v20 =>
  PUR Try.prog (Instr.indexAt 23 v15 v20) fun v21 =>
  LD Try.prog (Instr.loadAt 9 v21) (World.drew w) fun v22 =>
  PUR Try.prog (bins .eql 9 (.tmp 73) (.const (Go.Value.string { data := #[115, 112, 97, 114, 101] })) v22 (Go.Value.string { data := #[115, 112, 97, 114, 101] })) fun v23 =>
  SPL v23
  (b3_2 R x0 w)
  (R (.returned (Go.Value.bool Bool.false)) (World.drew w))
def b3_4 (R : EP) (x0 : Value) (w : World) (_r : Tok R := tok R) : Prop :=
  NILC x0 fun v1 =>
  PUR Try.prog (Instr.fieldAt 87 v1 1) fun v2 =>
  LD Try.prog (Instr.loadAt 22 v2) (World.drew w) fun v3 =>
  NILC x0 fun v4 =>
  PUR Try.prog (Instr.fieldAt 87 v4 1) fun v5 =>
  LD Try.prog (Instr.loadAt 22 v5) (World.drew w) fun v6 =>
  LD Try.prog (Builtin.len_ #[22] 3 #[v6]) (World.drew w) fun v7 =>
  PUR Try.prog (bins .sub 3 (.tmp 54) (.const (Go.Value.int Go.IntKind.i64 1)) v7 (Go.Value.int Go.IntKind.i64 1)) fun v8 =>
  PUR Try.prog (Instr.indexAt 22 v3 v8) fun v9 =>
  PUR Try.prog (Instr.fieldAt 106 v9 0) fun v10 =>
  LD Try.prog (Instr.loadAt 9 v10) (World.drew w) fun v11 =>
  PUR Try.prog (bins .eql 9 (.tmp 58) (.const (Go.Value.string { data := #[115, 112, 97, 114, 101] })) v11 (Go.Value.string { data := #[115, 112, 97, 114, 101] })) fun v12 =>
  SPL v12
  (b3_3 R x0 w)
  (R (.returned (Go.Value.bool Bool.false)) (World.drew w))

def b3 (R : EP) (x0 x5 : Value) (w : World) (_r : Tok R := tok R) : Prop :=
  SPL x5
  (b3_4 R x0 w)
  (R (.returned (Go.Value.bool Bool.false)) (World.drew w))
abbrev q1 (R : EP) : XP := QX (fun ρ w => R (.returned (ρ 4)) w) (fun ρ w => R (.returned (ρ 4)) w) []
theorem b3_eq (R : EP) (ρ : Env) (w : World) : (b3 R (ρ 0) (ρ 5) w) = codeP Try.prog (pan R) (sndC p1) (q1 R) ρ w := by kernel_rfl
theorem b3_ok (R : EP) (ρ : Env) (w : World) (h : b3 R (ρ 0) (ρ 5) w) : codeP Try.prog (pan R) (sndC p1) (q1 R) ρ w := (b3_eq R ρ w).mp h
noncomputable abbrev p2 : Code := dropC 1 (fstC p1)
noncomputable abbrev p3 : Code := loopC (blkC p2)
noncomputable abbrev p4 : Code := dropC 2 p3

def b8 (R : EP) (C6 : Value → VP) (x5 x6 : Value) (w : World) (_r : Tok R := tok R) (_C6 : Tok C6 := tok C6) : Prop :=
  RUN Try.prog (pan R) (bins .add 3 (.tmp 20) (.const (Go.Value.int Go.IntKind.i64 1)) x6 (Go.Value.int Go.IntKind.i64 1)) w fun v1 w2 =>
  C6 x5 v1 w2
abbrev q2 (R : EP) (C6 : Value → VP) : XP := QX (fun ρ w => C6 (ρ 5) (ρ 6) w) (fun ρ w => R (.returned (ρ 4)) w) [(0, (fun ρ w => b3 R (ρ 0) (ρ 5) w))]
theorem b8_eq (R : EP) (C6 : Value → VP) (ρ : Env) (w : World) : (b8 R C6 (ρ 5) (ρ 6) w) = codeP Try.prog (pan R) p4 (q2 R C6) ρ w := by kernel_rfl
theorem b8_ok (R : EP) (C6 : Value → VP) (ρ : Env) (w : World) (h : b8 R C6 (ρ 5) (ρ 6) w) : codeP Try.prog (pan R) p4 (q2 R C6) ρ w := (b8_eq R C6 ρ w).mp h
def b7_1 (R : EP) (C6 : Value → VP) (x0 x6 : Value) (w9 : World) (_r : Tok R := tok R) (_C6 : Tok C6 := tok C6) : Prop :=
  NILC x0 fun v10 =>
  PUR Try.prog (Instr.fieldAt 87 v10 4) fun v11 =>
  LD Try.prog (Instr.loadAt 85 v11) (World.drew w9) fun v12 =>
  PUR Try.prog (Instr.indexAt 85 v12 x6) fun v13 =>
  LD Try.prog (Instr.loadAt 24 v13) (World.drew w9) fun v14 =>
  NILC x0 fun v15 =>
  PUR Try.prog (Instr.fieldAt 87 v15 4) fun v16 =>
  LD Try.prog (Instr.loadAt 85 v16) (World.drew w9) fun v17 =>
  PUR Try.prog (Instr.indexAt 85 v17 x6) fun v18 =>
  LD Try.prog (Instr.loadAt 24 v18) (World.drew w9) fun v19 =>
  LD Try.prog (Builtin.len_ #[24] 3 #[v19]) (World.drew w9) fun v20 =>
  PUR Try.prog (bins .sub 3 (.tmp 38) (.const (Go.Value.int Go.IntKind.i64 1)) v20 (Go.Value.int Go.IntKind.i64 1)) fun v21 =>
  PUR Try.prog (Instr.indexAt 24 v14 v21) fun v22 =>
  LD Try.prog (Instr.loadAt 3 v22) (World.drew w9) fun v23 =>
  PUR Try.prog (bins .eql 3 (.tmp 41) (.const (Go.Value.int Go.IntKind.i64 77)) v23 (Go.Value.int Go.IntKind.i64 77)) fun v24 =>
  b8 R C6 v24 x6 (World.drew w9)

def b7 (R : EP) (C6 : Value → VP) (x0 x5 x6 : Value) (w : World) (_r : Tok R := tok R) (_C6 : Tok C6 := tok C6) : Prop :=
  NILC x0 fun v1 =>
  RUN Try.prog (pan R) (Instr.fieldAt 87 v1 4) w fun v2 w3 =>
  RUN Try.prog (pan R) (Instr.loadAt 85 v2) w3 fun v4 w5 =>
  RUN Try.prog (pan R) (Builtin.len_ #[85] 3 #[v4]) w5 fun v6 w7 =>
  RUN Try.prog (pan R) (bins .lss 3 (.tmp 13) (.tmp 18) x6 v6) w7 fun v8 w9 =>
  SPL v8
  (SPL x5
  (b7_1 R C6 x0 x6 w9)
  (b8 R C6 (Go.Value.bool Bool.false) x6 (World.drew w9)))
  (b3 R x0 x5 w9)
abbrev q3 (R : EP) (C6 : Value → VP) : XP := QX (fun ρ w => b8 R C6 (ρ 5) (ρ 6) w) (fun ρ w => R (.returned (ρ 4)) w) [(0, (fun ρ w => b3 R (ρ 0) (ρ 5) w))]
theorem b7_eq (R : EP) (C6 : Value → VP) (ρ : Env) (w : World) : (b7 R C6 (ρ 0) (ρ 5) (ρ 6) w) = codeP Try.prog (pan R) (preC 1 p3) (q3 R C6) ρ w := by kernel_rfl
theorem b7_ok (R : EP) (C6 : Value → VP) (ρ : Env) (w : World) (h : b7 R C6 (ρ 0) (ρ 5) (ρ 6) w) : codeP Try.prog (pan R) p3 (q2 R C6) ρ w := by
  have e : appC 1 (preC 1 p3) (dropC 2 p3) = p3 := by kernel_rfl
  rw [← e]
  exact appQ (fun ρ w => b8 R C6 (ρ 5) (ρ 6) w) 1 ((b7_eq R C6 ρ w).mp h) (fun ρ w h => b8_ok R C6 ρ w h)

def l6 (R : EP) (x0 x5 x6 : Value) (w : World) (_r : Tok R := tok R) : Prop :=
  ∃ (J : Value → VP) (μ : Value → Value → World → Nat), J x5 x6 w ∧ ∀ y5 y6 w0, J y5 y6 w0 → b7 R (fun z5 z6 w1 => J z5 z6 w1 ∧ μ z5 z6 w1 < μ y5 y6 w0) x0 y5 y6 w0
abbrev q4 (R : EP) : XP := QX (fun ρ w => b3 R (ρ 0) (ρ 5) w) (fun ρ w => R (.returned (ρ 4)) w) [(0, (fun ρ w => b3 R (ρ 0) (ρ 5) w))]
theorem l6_ok (R : EP) (ρ : Env) (w : World) (h : l6 R (ρ 0) (ρ 5) (ρ 6) w) : codeP Try.prog (pan R) (blkC p2) (q4 R) ρ w := by
  unfold l6 at h
  obtain ⟨J, μ, h0, hr⟩ := h
  have e : Code.loop (loopC (blkC p2)) = (blkC p2) := by kernel_rfl
  rw [← e]
  refine loopQ (fun ρ' w' => J (ρ' 5) (ρ' 6) w') (fun ρ' w' => μ (ρ' 5) (ρ' 6) w') h0 fun ρ' w' hA hI => ?_
  have e0 : ρ' 0 = ρ 0 := Agree.at hA 0 (by kernel_rfl)
  have h1 := hr (ρ' 5) (ρ' 6) w' hI
  rw [← e0] at h1
  exact b7_ok R (fun z5 z6 w1 => J z5 z6 w1 ∧ μ z5 z6 w1 < μ (ρ' 5) (ρ' 6) w') ρ' w' h1
theorem l6_intro (R : EP) (x0 x5 x6 : Value) (w : World) (J : Value → VP) (μ : Value → Value → World → Nat) (h0 : J x5 x6 w)
    (hr : ∀ y5 y6 w0, J y5 y6 w0 → ∀ C6 : Value → VP, (∀ z5 z6 w1, J z5 z6 w1 → μ z5 z6 w1 < μ y5 y6 w0 → C6 z5 z6 w1) → b7 R C6 x0 y5 y6 w0) : l6 R x0 x5 x6 w := by
  unfold l6
  exact ⟨J, μ, h0, fun y5 y6 w0 hJ => hr y5 y6 w0 hJ _ (fun z5 z6 w1 h1 h2 => ⟨h1, h2⟩)⟩
abbrev q5 (R : EP) : XP := QX (fun ρ w => b3 R (ρ 0) (ρ 5) w) (fun ρ w => R (.returned (ρ 4)) w) []
theorem k5_ok (R : EP) (ρ : Env) (w : World) (h : l6 R (ρ 0) (ρ 5) (ρ 6) w) : codeP Try.prog (pan R) p2 (q5 R) ρ w := by
  have e : Code.block 0 (blkC p2) = p2 := by kernel_rfl
  rw [← e]
  exact blockQ (l6_ok R ρ w h)

def b4 (R : EP) (x0 x5 : Value) (w : World) (_r : Tok R := tok R) : Prop :=
  l6 R x0 x5 (Go.Value.int Go.IntKind.i64 0) w
abbrev q6 (R : EP) : XP := QX (fun ρ w => l6 R (ρ 0) (ρ 5) (ρ 6) w) (fun ρ w => R (.returned (ρ 4)) w) []
theorem b4_eq (R : EP) (ρ : Env) (w : World) : (b4 R (ρ 0) (ρ 5) w) = codeP Try.prog (pan R) (preC 0 (fstC p1)) (q6 R) ρ w := by kernel_rfl
theorem b4_ok (R : EP) (ρ : Env) (w : World) (h : b4 R (ρ 0) (ρ 5) w) : codeP Try.prog (pan R) (fstC p1) (q5 R) ρ w := by
  have e : appC 0 (preC 0 (fstC p1)) (dropC 1 (fstC p1)) = (fstC p1) := by kernel_rfl
  rw [← e]
  exact appQ (fun ρ w => l6 R (ρ 0) (ρ 5) (ρ 6) w) 0 ((b4_eq R ρ w).mp h) (fun ρ w h => k5_ok R ρ w h)
theorem k2_ok (R : EP) (ρ : Env) (w : World) (h : b4 R (ρ 0) (ρ 5) w) : codeP Try.prog (pan R) p1 (q1 R) ρ w := by
  have e : Code.seq (fstC p1) (sndC p1) = p1 := by kernel_rfl
  rw [← e]
  exact seqQ (fun ρ w => b3 R (ρ 0) (ρ 5) w) (b4_ok R ρ w h) (fun ρ w h => b3_ok R ρ w h)

def b1 (R : EP) (x0 x1 : Value) (w : World) (_r : Tok R := tok R) : Prop :=
  RUN Try.prog (pan R) (Instr.box 27 x1) w fun v1 w2 =>
  NILC x0 fun v3 =>
  PUR Try.prog (Instr.fieldAt 87 v3 0) fun v4 =>
  LD Try.prog (Instr.loadAt 27 v4) (World.drew w2) fun v5 =>
  LD Try.prog (Instr.loadAt 27 v1) (World.drew w2) fun v6 =>
  CALL Try.prog (pan R) ref02_Same.id #[v5, v6] (World.drew w2) fun v7 w8 =>
  b4 R x0 v7 w8
abbrev q7 (R : EP) : XP := QX (fun ρ w => b4 R (ρ 0) (ρ 5) w) (fun ρ w => R (.returned (ρ 4)) w) []
theorem b1_eq (R : EP) (ρ : Env) (w : World) : (b1 R (ρ 0) (ρ 1) w) = codeP Try.prog (pan R) (preC 1 code) (q7 R) ρ w := by kernel_rfl
theorem b1_ok (R : EP) (ρ : Env) (w : World) (h : b1 R (ρ 0) (ρ 1) w) : codeP Try.prog (pan R) code (q1 R) ρ w := by
  have e : appC 1 (preC 1 code) (dropC 2 code) = code := by kernel_rfl
  rw [← e]
  exact appQ (fun ρ w => b4 R (ρ 0) (ρ 5) w) 1 ((b1_eq R ρ w).mp h) (fun ρ w h => k2_ok R ρ w h)
/-- What is owed for a call. -/
def run (R : EP) (a0 a1 : Value) (w : World) : Prop := b1 R a0 a1 w
theorem calls (R : EP) (a0 a1 : Value) (w : World) (h : run R a0 a1 w) : Calls Try.prog id #[a0, a1] w R :=
  calls_of_t (f := id) (fn := Try.f62) (c := code) (by kernel_rfl) Try.func62 (by kernel_rfl) (by kernel_rfl) (args := [a0, a1]) (Nat.le_of_ble_eq_true rfl) rfl (b1_ok R (envOf [a0, a1]) w h)
theorem enters : Enters Try.prog id := fun args w => Try.call62 args w
theorem ct {a0 a1 : Value} {w : World} {S : VP} (h : ∀ R : EP, (∀ v w, S v w → R (.returned v) w) → run R a0 a1 w) : Ct Try.prog id #[a0, a1] w S :=
  Ct.intro enters fun R hR => calls R a0 a1 w (h R hR)
attribute [irreducible] b3_1 b3_2 b3_3 b3_4 b3 b8 b7_1 b7 l6 b4 b1 run
attribute [go_sem] b3_1 b3_2 b3_3 b3_4 b3 b8 b7_1 b7 b4 b1 run
end law02_lent_whole
end Go.Proofs.Ytkacbjhiobnbfaa

