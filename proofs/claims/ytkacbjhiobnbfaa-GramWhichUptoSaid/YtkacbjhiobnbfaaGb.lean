/-
  Texts of this claim: T02H, T02H2, T02Lib2.
-/
import Derived.Test.YtkacbjhiobnbfaaGa
/- Shallow programs, written by a program of ours (gen.py) off the translation; each is tied to the code by the kernel. -/
set_option linter.unusedVariables false
set_option maxRecDepth 100000
namespace Go.Proofs.Ytkacbjhiobnbfaa
open Go.Px

/-! ### presage/gram.unlike -/
namespace gram_unlike
noncomputable def code : Code := bodyOf Try.f146
noncomputable abbrev p1 : Code := dropC 2 code
def b3 (R : EP) (x0 x3 : Value) (w : World) (_r : Tok R := tok R) : Prop :=
  RUN Try.prog (pan R) (Builtin.len_ #[167] 3 #[x3]) w fun v1 w2 =>
  RUN Try.prog (pan R) (Builtin.len_ #[23] 3 #[x0]) w2 fun v3 w4 =>
  RUN Try.prog (pan R) (bins .eql 3 (.tmp 19) (.tmp 21) v1 v3) w4 fun v5 w6 =>
  R (.returned v5) w6
abbrev q1 (R : EP) : XP := QX (fun ρ w => R (.returned (ρ 2)) w) (fun ρ w => R (.returned (ρ 2)) w) []
theorem b3_eq (R : EP) (ρ : Env) (w : World) : (b3 R (ρ 0) (ρ 3) w) = codeP Try.prog (pan R) (sndC p1) (q1 R) ρ w := by kernel_rfl
theorem b3_ok (R : EP) (ρ : Env) (w : World) (h : b3 R (ρ 0) (ρ 3) w) : codeP Try.prog (pan R) (sndC p1) (q1 R) ρ w := (b3_eq R ρ w).mp h
noncomputable abbrev p2 : Code := dropC 1 (fstC p1)
noncomputable abbrev p3 : Code := loopC (blkC p2)
def b7_1 (R : EP) (C6 : VP) (x3 x7 x9 : Value) (w2 : World) (_r : Tok R := tok R) (_C6 : Tok C6 := tok C6) : Prop :=
  RUN Try.prog (pan R) (Instr.indexAt 23 x7 x9) w2 fun v3 w4 =>
  RUN Try.prog (pan R) (Instr.loadAt 9 v3) w4 fun v5 w6 =>
  RUN Try.prog (pan R) (Instr.lookup 167 x3 v5 false) w6 fun v7 w8 =>
  RUN Try.prog (pan R) (bins .add 3 (.tmp 15) (.const (Go.Value.int Go.IntKind.i64 1)) v7 (Go.Value.int Go.IntKind.i64 1)) w8 fun v9 w10 =>
  RUNU Try.prog (pan R) (Instr.mapUpdate 167 x3 v5 v9) w10 fun w11 =>
  RUN Try.prog (pan R) (bins .add 3 (.tmp 9) (.const (Go.Value.int Go.IntKind.i64 1)) x9 (Go.Value.int Go.IntKind.i64 1)) w11 fun v12 w13 =>
  C6 v12 w13
def b7 (R : EP) (C6 : VP) (x0 x3 x7 x8 x9 : Value) (w : World) (_r : Tok R := tok R) (_C6 : Tok C6 := tok C6) : Prop :=
  RUN Try.prog (pan R) (bins .lss 3 (.tmp 9) (.tmp 8) x9 x8) w fun v1 w2 =>
  SPL v1
  (b7_1 R C6 x3 x7 x9 w2)
  (b3 R x0 x3 w2)
abbrev q2 (R : EP) (C6 : VP) : XP := QX (fun ρ w => C6 (ρ 9) w) (fun ρ w => R (.returned (ρ 2)) w) [(0, (fun ρ w => b3 R (ρ 0) (ρ 3) w))]
theorem b7_eq (R : EP) (C6 : VP) (ρ : Env) (w : World) : (b7 R C6 (ρ 0) (ρ 3) (ρ 7) (ρ 8) (ρ 9) w) = codeP Try.prog (pan R) p3 (q2 R C6) ρ w := by kernel_rfl
theorem b7_ok (R : EP) (C6 : VP) (ρ : Env) (w : World) (h : b7 R C6 (ρ 0) (ρ 3) (ρ 7) (ρ 8) (ρ 9) w) : codeP Try.prog (pan R) p3 (q2 R C6) ρ w := (b7_eq R C6 ρ w).mp h
def l6 (R : EP) (x0 x3 x7 x8 x9 : Value) (w : World) (_r : Tok R := tok R) : Prop :=
  ∃ (J : VP) (μ : Value → World → Nat), J x9 w ∧ ∀ y9 w0, J y9 w0 → b7 R (fun z9 w1 => J z9 w1 ∧ μ z9 w1 < μ y9 w0) x0 x3 x7 x8 y9 w0
abbrev q3 (R : EP) : XP := QX (fun ρ w => b3 R (ρ 0) (ρ 3) w) (fun ρ w => R (.returned (ρ 2)) w) [(0, (fun ρ w => b3 R (ρ 0) (ρ 3) w))]
theorem l6_ok (R : EP) (ρ : Env) (w : World) (h : l6 R (ρ 0) (ρ 3) (ρ 7) (ρ 8) (ρ 9) w) : codeP Try.prog (pan R) (blkC p2) (q3 R) ρ w := by
  unfold l6 at h
  obtain ⟨J, μ, h0, hr⟩ := h
  have e : Code.loop (loopC (blkC p2)) = (blkC p2) := by kernel_rfl
  rw [← e]
  refine loopQ (fun ρ' w' => J (ρ' 9) w') (fun ρ' w' => μ (ρ' 9) w') h0 fun ρ' w' hA hI => ?_
  have e0 : ρ' 0 = ρ 0 := Agree.at hA 0 (by kernel_rfl)
  have e3 : ρ' 3 = ρ 3 := Agree.at hA 3 (by kernel_rfl)
  have e7 : ρ' 7 = ρ 7 := Agree.at hA 7 (by kernel_rfl)
  have e8 : ρ' 8 = ρ 8 := Agree.at hA 8 (by kernel_rfl)
  have h1 := hr (ρ' 9) w' hI
  rw [← e0, ← e3, ← e7, ← e8] at h1
  exact b7_ok R (fun z9 w1 => J z9 w1 ∧ μ z9 w1 < μ (ρ' 9) w') ρ' w' h1
theorem l6_intro (R : EP) (x0 x3 x7 x8 x9 : Value) (w : World) (J : VP) (μ : Value → World → Nat) (h0 : J x9 w)
    (hr : ∀ y9 w0, J y9 w0 → ∀ C6 : VP, (∀ z9 w1, J z9 w1 → μ z9 w1 < μ y9 w0 → C6 z9 w1) → b7 R C6 x0 x3 x7 x8 y9 w0) : l6 R x0 x3 x7 x8 x9 w := by
  unfold l6
  exact ⟨J, μ, h0, fun y9 w0 hJ => hr y9 w0 hJ _ (fun z9 w1 h1 h2 => ⟨h1, h2⟩)⟩
abbrev q4 (R : EP) : XP := QX (fun ρ w => b3 R (ρ 0) (ρ 3) w) (fun ρ w => R (.returned (ρ 2)) w) []
theorem k5_ok (R : EP) (ρ : Env) (w : World) (h : l6 R (ρ 0) (ρ 3) (ρ 7) (ρ 8) (ρ 9) w) : codeP Try.prog (pan R) p2 (q4 R) ρ w := by
  have e : Code.block 0 (blkC p2) = p2 := by kernel_rfl
  rw [← e]
  exact blockQ (l6_ok R ρ w h)
def b4 (R : EP) (x0 x3 : Value) (w : World) (_r : Tok R := tok R) : Prop :=
  RUN Try.prog (pan R) (Builtin.len_ #[23] 3 #[x0]) w fun v1 w2 =>
  l6 R x0 x3 x0 v1 (Go.Value.int Go.IntKind.i64 0) w2
abbrev q5 (R : EP) : XP := QX (fun ρ w => l6 R (ρ 0) (ρ 3) (ρ 7) (ρ 8) (ρ 9) w) (fun ρ w => R (.returned (ρ 2)) w) []
theorem b4_eq (R : EP) (ρ : Env) (w : World) : (b4 R (ρ 0) (ρ 3) w) = codeP Try.prog (pan R) (preC 0 (fstC p1)) (q5 R) ρ w := by kernel_rfl
theorem b4_ok (R : EP) (ρ : Env) (w : World) (h : b4 R (ρ 0) (ρ 3) w) : codeP Try.prog (pan R) (fstC p1) (q4 R) ρ w := by
  have e : appC 0 (preC 0 (fstC p1)) (dropC 1 (fstC p1)) = (fstC p1) := by kernel_rfl
  rw [← e]
  exact appQ (fun ρ w => l6 R (ρ 0) (ρ 3) (ρ 7) (ρ 8) (ρ 9) w) 0 ((b4_eq R ρ w).mp h) (fun ρ w h => k5_ok R ρ w h)
theorem k2_ok (R : EP) (ρ : Env) (w : World) (h : b4 R (ρ 0) (ρ 3) w) : codeP Try.prog (pan R) p1 (q1 R) ρ w := by
  have e : Code.seq (fstC p1) (sndC p1) = p1 := by kernel_rfl
  rw [← e]
  exact seqQ (fun ρ w => b3 R (ρ 0) (ρ 3) w) (b4_ok R ρ w h) (fun ρ w h => b3_ok R ρ w h)
def b1 (R : EP) (x0 : Value) (w : World) (_r : Tok R := tok R) : Prop :=
  RUN Try.prog (pan R) (Instr.makeMap 167 none) w fun v1 w2 =>
  b4 R x0 v1 w2
abbrev q6 (R : EP) : XP := QX (fun ρ w => b4 R (ρ 0) (ρ 3) w) (fun ρ w => R (.returned (ρ 2)) w) []
theorem b1_eq (R : EP) (ρ : Env) (w : World) : (b1 R (ρ 0) w) = codeP Try.prog (pan R) (preC 1 code) (q6 R) ρ w := by kernel_rfl
theorem b1_ok (R : EP) (ρ : Env) (w : World) (h : b1 R (ρ 0) w) : codeP Try.prog (pan R) code (q1 R) ρ w := by
  have e : appC 1 (preC 1 code) (dropC 2 code) = code := by kernel_rfl
  rw [← e]
  exact appQ (fun ρ w => b4 R (ρ 0) (ρ 3) w) 1 ((b1_eq R ρ w).mp h) (fun ρ w h => k2_ok R ρ w h)
/-- What is owed for a call. -/
def run (R : EP) (a0 : Value) (w : World) : Prop := b1 R a0 w
theorem calls (R : EP) (a0 : Value) (w : World) (h : run R a0 w) : Calls Try.prog id #[a0] w R :=
  calls_of_t (f := id) (fn := Try.f146) (c := code) (by kernel_rfl) Try.func146 (by kernel_rfl) (by kernel_rfl) (args := [a0]) (Nat.le_of_ble_eq_true rfl) rfl (b1_ok R (envOf [a0]) w h)
theorem enters : Enters Try.prog id := fun args w => Try.call146 args w
theorem ct {a0 : Value} {w : World} {S : VP} (h : ∀ R : EP, (∀ v w, S v w → R (.returned v) w) → run R a0 w) : Ct Try.prog id #[a0] w S :=
  Ct.intro enters fun R hR => calls R a0 w (h R hR)
attribute [irreducible] b3 b7_1 b7 l6 b4 b1 run
attribute [go_sem] b3 b7_1 b7 b4 b1 run
end gram_unlike

/-! ### presage/gram.symbols -/
namespace gram_symbols
noncomputable def code : Code := bodyOf Try.f106
noncomputable abbrev p1 : Code := dropC 1 code
noncomputable abbrev p2 : Code := dropC 2 (sndC p1)
noncomputable abbrev p3 : Code := sndC (sndC p2)
def b6_1 (R : EP) (v5 : Value) (w10 : World) (_r : Tok R := tok R) : Prop :=
  CALL Try.prog (pan R) slices_ContainsFunc_string_string.id #[v5, (Go.Value.func (.func gram_symbols_1.id) #[] #[])] w10 fun v11 w12 =>
  RUN Try.prog (pan R) (Op.unary .not v11) w12 fun v13 w14 =>
  R (.returned v13) w14

def b6 (R : EP) (x1 x2 x5 : Value) (w : World) (_r : Tok R := tok R) : Prop :=
  RUN Try.prog (pan R) (Instr.fieldAt 27 x2 1) w fun v1 w2 =>
  RUN Try.prog (pan R) (Instr.loadAt 23 v1) w2 fun v3 w4 =>
  RUN Try.prog (pan R) (Instr.sliceAt 23 v3 (some x1) none none) w4 fun v5 w6 =>
  CALL Try.prog (pan R) gram_unlike.id #[x5] w6 fun v7 w8 =>
  SPL v7
  (CALL Try.prog (pan R) gram_unlike.id #[v5] w8 fun v9 w10 =>
  SPL v9
  (b6_1 R v5 w10)
  (R (.returned (Go.Value.bool Bool.false)) w10))
  (R (.returned (Go.Value.bool Bool.false)) w8)
abbrev q1 (R : EP) : XP := QX (fun ρ w => R (.returned (ρ 4)) w) (fun ρ w => R (.returned (ρ 4)) w) []
theorem b6_eq (R : EP) (ρ : Env) (w : World) : (b6 R (ρ 1) (ρ 2) (ρ 5) w) = codeP Try.prog (pan R) p3 (q1 R) ρ w := by kernel_rfl
theorem b6_ok (R : EP) (ρ : Env) (w : World) (h : b6 R (ρ 1) (ρ 2) (ρ 5) w) : codeP Try.prog (pan R) p3 (q1 R) ρ w := (b6_eq R ρ w).mp h
noncomputable abbrev p4 : Code := fstC (sndC p2)
noncomputable abbrev p5 : Code := dropC 1 p4
noncomputable abbrev p6 : Code := loopC (blkC p5)
noncomputable abbrev p7 : Code := dropC 2 p6

def b12 (R : EP) (C9 : VP) (x96 : Value) (w : World) (_r : Tok R := tok R) (_C9 : Tok C9 := tok C9) : Prop :=
  RUN Try.prog (pan R) (bins .add 3 (.tmp 96) (.const (Go.Value.int Go.IntKind.i64 1)) x96 (Go.Value.int Go.IntKind.i64 1)) w fun v1 w2 =>
  C9 v1 w2
abbrev q2 (R : EP) (C9 : VP) : XP := QX (fun ρ w => C9 (ρ 96) w) (fun ρ w => R (.returned (ρ 4)) w) [(4, (fun ρ w => b6 R (ρ 1) (ρ 2) (ρ 5) w))]
theorem b12_eq (R : EP) (C9 : VP) (ρ : Env) (w : World) : (b12 R C9 (ρ 96) w) = codeP Try.prog (pan R) (sndC p7) (q2 R C9) ρ w := by kernel_rfl
theorem b12_ok (R : EP) (C9 : VP) (ρ : Env) (w : World) (h : b12 R C9 (ρ 96) w) : codeP Try.prog (pan R) (sndC p7) (q2 R C9) ρ w := (b12_eq R C9 ρ w).mp h
noncomputable abbrev p8 : Code := blkC (fstC p7)
noncomputable abbrev p9 : Code := dropC 2 p8

def b15 (R : EP) (C9 : VP) (x96 x113 : Value) (w : World) (_r : Tok R := tok R) (_C9 : Tok C9 := tok C9) : Prop :=
  SPL x113
  (R (.returned (Go.Value.bool Bool.false)) w)
  (b12 R C9 x96 w)
abbrev q3 (R : EP) (C9 : VP) : XP := QX (fun ρ w => b12 R C9 (ρ 96) w) (fun ρ w => R (.returned (ρ 4)) w) [(6, (fun ρ w => b12 R C9 (ρ 96) w)), (4, (fun ρ w => b6 R (ρ 1) (ρ 2) (ρ 5) w))]
theorem b15_eq (R : EP) (C9 : VP) (ρ : Env) (w : World) : (b15 R C9 (ρ 96) (ρ 113) w) = codeP Try.prog (pan R) p9 (q3 R C9) ρ w := by kernel_rfl
theorem b15_ok (R : EP) (C9 : VP) (ρ : Env) (w : World) (h : b15 R C9 (ρ 96) (ρ 113) w) : codeP Try.prog (pan R) p9 (q3 R C9) ρ w := (b15_eq R C9 ρ w).mp h
def b14_1 (R : EP) (C9 : VP) (x6 x96 : Value) (w8 : World) (_r : Tok R := tok R) (_C9 : Tok C9 := tok C9) : Prop :=
  RUN Try.prog (pan R) (bins .add 3 (.tmp 109) (.const (Go.Value.int Go.IntKind.i64 1)) x96 (Go.Value.int Go.IntKind.i64 1)) w8 fun v9 w10 =>
  RUN Try.prog (pan R) (Instr.lookup 179 x6 v9 false) w10 fun v11 w12 =>
  RUN Try.prog (pan R) (bins .eql 3 (.tmp 111) (.const (Go.Value.int Go.IntKind.i64 0)) v11 (Go.Value.int Go.IntKind.i64 0)) w12 fun v13 w14 =>
  b15 R C9 x96 v13 w14

def b14 (R : EP) (C9 : VP) (x6 x94 x96 : Value) (w : World) (_r : Tok R := tok R) (_C9 : Tok C9 := tok C9) : Prop :=
  RUN Try.prog (pan R) (Instr.indexAt 24 x94 x96) w fun v1 w2 =>
  RUN Try.prog (pan R) (Instr.loadAt 3 v1) w2 fun v3 w4 =>
  RUN Try.prog (pan R) (bins .lss 3 (.tmp 101) (.const (Go.Value.int Go.IntKind.i64 1)) v3 (Go.Value.int Go.IntKind.i64 1)) w4 fun v5 w6 =>
  SPL v5
  (b15 R C9 x96 (Go.Value.bool Bool.true) w6)
  (RUN Try.prog (pan R) (bins .gtr 3 (.tmp 104) (.const (Go.Value.int Go.IntKind.i64 3)) v3 (Go.Value.int Go.IntKind.i64 3)) w6 fun v7 w8 =>
  SPL v7
  (b15 R C9 x96 (Go.Value.bool Bool.true) w8)
  (b14_1 R C9 x6 x96 w8))
abbrev q4 (R : EP) (C9 : VP) : XP := QX (fun ρ w => b15 R C9 (ρ 96) (ρ 113) w) (fun ρ w => R (.returned (ρ 4)) w) [(6, (fun ρ w => b12 R C9 (ρ 96) w)), (4, (fun ρ w => b6 R (ρ 1) (ρ 2) (ρ 5) w))]
theorem b14_eq (R : EP) (C9 : VP) (ρ : Env) (w : World) : (b14 R C9 (ρ 6) (ρ 94) (ρ 96) w) = codeP Try.prog (pan R) (preC 1 p8) (q4 R C9) ρ w := by kernel_rfl
theorem b14_ok (R : EP) (C9 : VP) (ρ : Env) (w : World) (h : b14 R C9 (ρ 6) (ρ 94) (ρ 96) w) : codeP Try.prog (pan R) p8 (q3 R C9) ρ w := by
  have e : appC 1 (preC 1 p8) (dropC 2 p8) = p8 := by kernel_rfl
  rw [← e]
  exact appQ (fun ρ w => b15 R C9 (ρ 96) (ρ 113) w) 1 ((b14_eq R C9 ρ w).mp h) (fun ρ w h => b15_ok R C9 ρ w h)
abbrev q5 (R : EP) (C9 : VP) : XP := QX (fun ρ w => b12 R C9 (ρ 96) w) (fun ρ w => R (.returned (ρ 4)) w) [(4, (fun ρ w => b6 R (ρ 1) (ρ 2) (ρ 5) w))]
theorem k13_ok (R : EP) (C9 : VP) (ρ : Env) (w : World) (h : b14 R C9 (ρ 6) (ρ 94) (ρ 96) w) : codeP Try.prog (pan R) (fstC p7) (q5 R C9) ρ w := by
  have e : Code.block 3 (blkC (fstC p7)) = (fstC p7) := by kernel_rfl
  rw [← e]
  exact blockQ (b14_ok R C9 ρ w h)
theorem k11_ok (R : EP) (C9 : VP) (ρ : Env) (w : World) (h : b14 R C9 (ρ 6) (ρ 94) (ρ 96) w) : codeP Try.prog (pan R) p7 (q2 R C9) ρ w := by
  have e : Code.seq (fstC p7) (sndC p7) = p7 := by kernel_rfl
  rw [← e]
  exact seqQ (fun ρ w => b12 R C9 (ρ 96) w) (k13_ok R C9 ρ w h) (fun ρ w h => b12_ok R C9 ρ w h)

def b10 (R : EP) (C9 : VP) (x1 x2 x5 x6 x94 x95 x96 : Value) (w : World) (_r : Tok R := tok R) (_C9 : Tok C9 := tok C9) : Prop :=
  RUN Try.prog (pan R) (bins .lss 3 (.tmp 96) (.tmp 95) x96 x95) w fun v1 w2 =>
  SPL v1
  (b14 R C9 x6 x94 x96 w2)
  (b6 R x1 x2 x5 w2)
abbrev q6 (R : EP) (C9 : VP) : XP := QX (fun ρ w => b14 R C9 (ρ 6) (ρ 94) (ρ 96) w) (fun ρ w => R (.returned (ρ 4)) w) [(4, (fun ρ w => b6 R (ρ 1) (ρ 2) (ρ 5) w))]
theorem b10_eq (R : EP) (C9 : VP) (ρ : Env) (w : World) : (b10 R C9 (ρ 1) (ρ 2) (ρ 5) (ρ 6) (ρ 94) (ρ 95) (ρ 96) w) = codeP Try.prog (pan R) (preC 1 p6) (q6 R C9) ρ w := by kernel_rfl
theorem b10_ok (R : EP) (C9 : VP) (ρ : Env) (w : World) (h : b10 R C9 (ρ 1) (ρ 2) (ρ 5) (ρ 6) (ρ 94) (ρ 95) (ρ 96) w) : codeP Try.prog (pan R) p6 (q2 R C9) ρ w := by
  have e : appC 1 (preC 1 p6) (dropC 2 p6) = p6 := by kernel_rfl
  rw [← e]
  exact appQ (fun ρ w => b14 R C9 (ρ 6) (ρ 94) (ρ 96) w) 1 ((b10_eq R C9 ρ w).mp h) (fun ρ w h => k11_ok R C9 ρ w h)

def l9 (R : EP) (x1 x2 x5 x6 x94 x95 x96 : Value) (w : World) (_r : Tok R := tok R) : Prop :=
  ∃ (J : VP) (μ : Value → World → Nat), J x96 w ∧ ∀ y96 w0, J y96 w0 → b10 R (fun z96 w1 => J z96 w1 ∧ μ z96 w1 < μ y96 w0) x1 x2 x5 x6 x94 x95 y96 w0
abbrev q7 (R : EP) : XP := QX (fun ρ w => b6 R (ρ 1) (ρ 2) (ρ 5) w) (fun ρ w => R (.returned (ρ 4)) w) [(4, (fun ρ w => b6 R (ρ 1) (ρ 2) (ρ 5) w))]
theorem l9_ok (R : EP) (ρ : Env) (w : World) (h : l9 R (ρ 1) (ρ 2) (ρ 5) (ρ 6) (ρ 94) (ρ 95) (ρ 96) w) : codeP Try.prog (pan R) (blkC p5) (q7 R) ρ w := by
  unfold l9 at h
  obtain ⟨J, μ, h0, hr⟩ := h
  have e : Code.loop (loopC (blkC p5)) = (blkC p5) := by kernel_rfl
  rw [← e]
  refine loopQ (fun ρ' w' => J (ρ' 96) w') (fun ρ' w' => μ (ρ' 96) w') h0 fun ρ' w' hA hI => ?_
  have e1 : ρ' 1 = ρ 1 := Agree.at hA 1 (by kernel_rfl)
  have e2 : ρ' 2 = ρ 2 := Agree.at hA 2 (by kernel_rfl)
  have e5 : ρ' 5 = ρ 5 := Agree.at hA 5 (by kernel_rfl)
  have e6 : ρ' 6 = ρ 6 := Agree.at hA 6 (by kernel_rfl)
  have e94 : ρ' 94 = ρ 94 := Agree.at hA 94 (by kernel_rfl)
  have e95 : ρ' 95 = ρ 95 := Agree.at hA 95 (by kernel_rfl)
  have h1 := hr (ρ' 96) w' hI
  rw [← e1, ← e2, ← e5, ← e6, ← e94, ← e95] at h1
  exact b10_ok R (fun z96 w1 => J z96 w1 ∧ μ z96 w1 < μ (ρ' 96) w') ρ' w' h1
theorem l9_intro (R : EP) (x1 x2 x5 x6 x94 x95 x96 : Value) (w : World) (J : VP) (μ : Value → World → Nat) (h0 : J x96 w)
    (hr : ∀ y96 w0, J y96 w0 → ∀ C9 : VP, (∀ z96 w1, J z96 w1 → μ z96 w1 < μ y96 w0 → C9 z96 w1) → b10 R C9 x1 x2 x5 x6 x94 x95 y96 w0) : l9 R x1 x2 x5 x6 x94 x95 x96 w := by
  unfold l9
  exact ⟨J, μ, h0, fun y96 w0 hJ => hr y96 w0 hJ _ (fun z96 w1 h1 h2 => ⟨h1, h2⟩)⟩
abbrev q8 (R : EP) : XP := QX (fun ρ w => b6 R (ρ 1) (ρ 2) (ρ 5) w) (fun ρ w => R (.returned (ρ 4)) w) []
theorem k8_ok (R : EP) (ρ : Env) (w : World) (h : l9 R (ρ 1) (ρ 2) (ρ 5) (ρ 6) (ρ 94) (ρ 95) (ρ 96) w) : codeP Try.prog (pan R) p5 (q8 R) ρ w := by
  have e : Code.block 2 (blkC p5) = p5 := by kernel_rfl
  rw [← e]
  exact blockQ (l9_ok R ρ w h)

def b7 (R : EP) (x1 x2 x5 x6 : Value) (w : World) (_r : Tok R := tok R) : Prop :=
  RUN Try.prog (pan R) (Instr.fieldAt 27 x2 2) w fun v1 w2 =>
  RUN Try.prog (pan R) (Instr.loadAt 24 v1) w2 fun v3 w4 =>
  RUN Try.prog (pan R) (Builtin.len_ #[24] 3 #[v3]) w4 fun v5 w6 =>
  l9 R x1 x2 x5 x6 v3 v5 (Go.Value.int Go.IntKind.i64 0) w6
abbrev q9 (R : EP) : XP := QX (fun ρ w => l9 R (ρ 1) (ρ 2) (ρ 5) (ρ 6) (ρ 94) (ρ 95) (ρ 96) w) (fun ρ w => R (.returned (ρ 4)) w) []
theorem b7_eq (R : EP) (ρ : Env) (w : World) : (b7 R (ρ 1) (ρ 2) (ρ 5) (ρ 6) w) = codeP Try.prog (pan R) (preC 0 p4) (q9 R) ρ w := by kernel_rfl
theorem b7_ok (R : EP) (ρ : Env) (w : World) (h : b7 R (ρ 1) (ρ 2) (ρ 5) (ρ 6) w) : codeP Try.prog (pan R) p4 (q8 R) ρ w := by
  have e : appC 0 (preC 0 p4) (dropC 1 p4) = p4 := by kernel_rfl
  rw [← e]
  exact appQ (fun ρ w => l9 R (ρ 1) (ρ 2) (ρ 5) (ρ 6) (ρ 94) (ρ 95) (ρ 96) w) 0 ((b7_eq R ρ w).mp h) (fun ρ w h => k8_ok R ρ w h)
theorem k5_ok (R : EP) (ρ : Env) (w : World) (h : b7 R (ρ 1) (ρ 2) (ρ 5) (ρ 6) w) : codeP Try.prog (pan R) (sndC p2) (q1 R) ρ w := by
  have e : Code.seq (fstC (sndC p2)) (sndC (sndC p2)) = (sndC p2) := by kernel_rfl
  rw [← e]
  exact seqQ (fun ρ w => b6 R (ρ 1) (ρ 2) (ρ 5) w) (b7_ok R ρ w h) (fun ρ w h => b6_ok R ρ w h)
noncomputable abbrev p10 : Code := dropC 1 (fstC p2)
noncomputable abbrev p11 : Code := loopC (blkC p10)
noncomputable abbrev p12 : Code := dropC 2 p11

def b21 (R : EP) (C18 : Value → VP) (x5 x63 : Value) (w : World) (_r : Tok R := tok R) (_C18 : Tok C18 := tok C18) : Prop :=
  RUN Try.prog (pan R) (bins .add 3 (.tmp 63) (.const (Go.Value.int Go.IntKind.i64 1)) x63 (Go.Value.int Go.IntKind.i64 1)) w fun v1 w2 =>
  C18 x5 v1 w2
abbrev q10 (R : EP) (C18 : Value → VP) : XP := QX (fun ρ w => C18 (ρ 5) (ρ 63) w) (fun ρ w => R (.returned (ρ 4)) w) [(0, (fun ρ w => b7 R (ρ 1) (ρ 2) (ρ 5) (ρ 6) w))]
theorem b21_eq (R : EP) (C18 : Value → VP) (ρ : Env) (w : World) : (b21 R C18 (ρ 5) (ρ 63) w) = codeP Try.prog (pan R) (sndC p12) (q10 R C18) ρ w := by kernel_rfl
theorem b21_ok (R : EP) (C18 : Value → VP) (ρ : Env) (w : World) (h : b21 R C18 (ρ 5) (ρ 63) w) : codeP Try.prog (pan R) (sndC p12) (q10 R C18) ρ w := (b21_eq R C18 ρ w).mp h
noncomputable abbrev p13 : Code := blkC (fstC p12)
noncomputable abbrev p14 : Code := dropC 1 p13

def b25 (R : EP) (C18 : Value → VP) (x5 x6 x8 x63 : Value) (w : World) (_r : Tok R := tok R) (_C18 : Tok C18 := tok C18) : Prop :=
  RUN Try.prog (pan R) (Instr.fieldAt 106 x8 0) w fun v1 w2 =>
  RUN Try.prog (pan R) (Instr.loadAt 9 v1) w2 fun v3 w4 =>
  RUN Try.prog (pan R) (Instr.buildSlice 23 1 #[(0, v3)]) w4 fun v5 w6 =>
  RUN Try.prog (pan R) (Builtin.append_ #[23, 23] 23 #[x5, v5]) w6 fun v7 w8 =>
  RUN Try.prog (pan R) (Instr.fieldAt 106 x8 1) w8 fun v9 w10 =>
  RUN Try.prog (pan R) (Instr.loadAt 3 v9) w10 fun v11 w12 =>
  RUNU Try.prog (pan R) (Instr.mapUpdate 179 x6 v11 (Go.Value.int Go.IntKind.i64 1)) w12 fun w13 =>
  b21 R C18 v7 x63 w13
abbrev q11 (R : EP) (C18 : Value → VP) : XP := QX (fun ρ w => b21 R C18 (ρ 5) (ρ 63) w) (fun ρ w => R (.returned (ρ 4)) w) [(2, (fun ρ w => b21 R C18 (ρ 5) (ρ 63) w)), (0, (fun ρ w => b7 R (ρ 1) (ρ 2) (ρ 5) (ρ 6) w))]
theorem b25_eq (R : EP) (C18 : Value → VP) (ρ : Env) (w : World) : (b25 R C18 (ρ 5) (ρ 6) (ρ 8) (ρ 63) w) = codeP Try.prog (pan R) (sndC p14) (q11 R C18) ρ w := by kernel_rfl
theorem b25_ok (R : EP) (C18 : Value → VP) (ρ : Env) (w : World) (h : b25 R C18 (ρ 5) (ρ 6) (ρ 8) (ρ 63) w) : codeP Try.prog (pan R) (sndC p14) (q11 R C18) ρ w := (b25_eq R C18 ρ w).mp h
noncomputable abbrev p15 : Code := dropC 1 (fstC p14)

def b27 (R : EP) (C18 : Value → VP) (x5 x6 x8 x63 x83 : Value) (w : World) (_r : Tok R := tok R) (_C18 : Tok C18 := tok C18) : Prop :=
  SPL x83
  (R (.returned (Go.Value.bool Bool.false)) w)
  (b25 R C18 x5 x6 x8 x63 w)
abbrev q12 (R : EP) (C18 : Value → VP) : XP := QX (fun ρ w => b25 R C18 (ρ 5) (ρ 6) (ρ 8) (ρ 63) w) (fun ρ w => R (.returned (ρ 4)) w) [(2, (fun ρ w => b21 R C18 (ρ 5) (ρ 63) w)), (0, (fun ρ w => b7 R (ρ 1) (ρ 2) (ρ 5) (ρ 6) w))]
theorem b27_eq (R : EP) (C18 : Value → VP) (ρ : Env) (w : World) : (b27 R C18 (ρ 5) (ρ 6) (ρ 8) (ρ 63) (ρ 83) w) = codeP Try.prog (pan R) p15 (q12 R C18) ρ w := by kernel_rfl
theorem b27_ok (R : EP) (C18 : Value → VP) (ρ : Env) (w : World) (h : b27 R C18 (ρ 5) (ρ 6) (ρ 8) (ρ 63) (ρ 83) w) : codeP Try.prog (pan R) p15 (q12 R C18) ρ w := (b27_eq R C18 ρ w).mp h
def b26_1 (R : EP) (C18 : Value → VP) (x2 x5 x6 x8 x63 : Value) (w14 : World) (_r : Tok R := tok R) (_C18 : Tok C18 := tok C18) : Prop :=
  RUN Try.prog (pan R) (Instr.fieldAt 106 x8 1) w14 fun v15 w16 =>
  RUN Try.prog (pan R) (Instr.loadAt 3 v15) w16 fun v17 w18 =>
  RUN Try.prog (pan R) (Instr.fieldAt 27 x2 2) w18 fun v19 w20 =>
  RUN Try.prog (pan R) (Instr.loadAt 24 v19) w20 fun v21 w22 =>
  RUN Try.prog (pan R) (Builtin.len_ #[24] 3 #[v21]) w22 fun v23 w24 =>
  RUN Try.prog (pan R) (bins .gtr 3 (.tmp 78) (.tmp 81) v17 v23) w24 fun v25 w26 =>
  b27 R C18 x5 x6 x8 x63 v25 w26
def b26_2 (R : EP) (C18 : Value → VP) (x2 x5 x6 x8 x63 : Value) (w8 : World) (_r : Tok R := tok R) (_C18 : Tok C18 := tok C18) : Prop :=
  RUN Try.prog (pan R) (Instr.fieldAt 106 x8 1) w8 fun v9 w10 =>
  RUN Try.prog (pan R) (Instr.loadAt 3 v9) w10 fun v11 w12 =>
  RUN Try.prog (pan R) (bins .lss 3 (.tmp 73) (.const (Go.Value.int Go.IntKind.i64 0)) v11 (Go.Value.int Go.IntKind.i64 0)) w12 fun v13 w14 =>
  SPL v13
  (b27 R C18 x5 x6 x8 x63 (Go.Value.bool Bool.true) w14)
  (b26_1 R C18 x2 x5 x6 x8 x63 w14)

def b26 (R : EP) (C18 : Value → VP) (x2 x5 x6 x8 x63 : Value) (w : World) (_r : Tok R := tok R) (_C18 : Tok C18 := tok C18) : Prop :=
  RUN Try.prog (pan R) (Instr.fieldAt 106 x8 0) w fun v1 w2 =>
  RUN Try.prog (pan R) (Instr.loadAt 9 v1) w2 fun v3 w4 =>
  CALL Try.prog (pan R) gram_isTerm.id #[v3] w4 fun v5 w6 =>
  RUN Try.prog (pan R) (Op.unary .not v5) w6 fun v7 w8 =>
  SPL v7
  (b27 R C18 x5 x6 x8 x63 (Go.Value.bool Bool.true) w8)
  (b26_2 R C18 x2 x5 x6 x8 x63 w8)
abbrev q13 (R : EP) (C18 : Value → VP) : XP := QX (fun ρ w => b27 R C18 (ρ 5) (ρ 6) (ρ 8) (ρ 63) (ρ 83) w) (fun ρ w => R (.returned (ρ 4)) w) [(2, (fun ρ w => b21 R C18 (ρ 5) (ρ 63) w)), (0, (fun ρ w => b7 R (ρ 1) (ρ 2) (ρ 5) (ρ 6) w))]
theorem b26_eq (R : EP) (C18 : Value → VP) (ρ : Env) (w : World) : (b26 R C18 (ρ 2) (ρ 5) (ρ 6) (ρ 8) (ρ 63) w) = codeP Try.prog (pan R) (preC 0 (fstC p14)) (q13 R C18) ρ w := by kernel_rfl
theorem b26_ok (R : EP) (C18 : Value → VP) (ρ : Env) (w : World) (h : b26 R C18 (ρ 2) (ρ 5) (ρ 6) (ρ 8) (ρ 63) w) : codeP Try.prog (pan R) (fstC p14) (q12 R C18) ρ w := by
  have e : appC 0 (preC 0 (fstC p14)) (dropC 1 (fstC p14)) = (fstC p14) := by kernel_rfl
  rw [← e]
  exact appQ (fun ρ w => b27 R C18 (ρ 5) (ρ 6) (ρ 8) (ρ 63) (ρ 83) w) 0 ((b26_eq R C18 ρ w).mp h) (fun ρ w h => b27_ok R C18 ρ w h)
theorem k24_ok (R : EP) (C18 : Value → VP) (ρ : Env) (w : World) (h : b26 R C18 (ρ 2) (ρ 5) (ρ 6) (ρ 8) (ρ 63) w) : codeP Try.prog (pan R) p14 (q11 R C18) ρ w := by
  have e : Code.seq (fstC p14) (sndC p14) = p14 := by kernel_rfl
  rw [← e]
  exact seqQ (fun ρ w => b25 R C18 (ρ 5) (ρ 6) (ρ 8) (ρ 63) w) (b26_ok R C18 ρ w h) (fun ρ w h => b25_ok R C18 ρ w h)

def b23 (R : EP) (C18 : Value → VP) (x2 x5 x6 x61 x63 : Value) (w : World) (_r : Tok R := tok R) (_C18 : Tok C18 := tok C18) : Prop :=
  RUN Try.prog (pan R) (Instr.indexAt 22 x61 x63) w fun v1 w2 =>
  RUN Try.prog (pan R) (Instr.loadAt 106 v1) w2 fun v3 w4 =>
  RUN Try.prog (pan R) (Instr.alloc 106 true (.tuple #[])) w4 fun v5 w6 =>
  RUNU Try.prog (pan R) (Instr.storeAt 106 v5 v3) w6 fun w7 =>
  b26 R C18 x2 x5 x6 v5 x63 w7
abbrev q14 (R : EP) (C18 : Value → VP) : XP := QX (fun ρ w => b26 R C18 (ρ 2) (ρ 5) (ρ 6) (ρ 8) (ρ 63) w) (fun ρ w => R (.returned (ρ 4)) w) [(2, (fun ρ w => b21 R C18 (ρ 5) (ρ 63) w)), (0, (fun ρ w => b7 R (ρ 1) (ρ 2) (ρ 5) (ρ 6) w))]
theorem b23_eq (R : EP) (C18 : Value → VP) (ρ : Env) (w : World) : (b23 R C18 (ρ 2) (ρ 5) (ρ 6) (ρ 61) (ρ 63) w) = codeP Try.prog (pan R) (preC 0 p13) (q14 R C18) ρ w := by kernel_rfl
theorem b23_ok (R : EP) (C18 : Value → VP) (ρ : Env) (w : World) (h : b23 R C18 (ρ 2) (ρ 5) (ρ 6) (ρ 61) (ρ 63) w) : codeP Try.prog (pan R) p13 (q11 R C18) ρ w := by
  have e : appC 0 (preC 0 p13) (dropC 1 p13) = p13 := by kernel_rfl
  rw [← e]
  exact appQ (fun ρ w => b26 R C18 (ρ 2) (ρ 5) (ρ 6) (ρ 8) (ρ 63) w) 0 ((b23_eq R C18 ρ w).mp h) (fun ρ w h => k24_ok R C18 ρ w h)
abbrev q15 (R : EP) (C18 : Value → VP) : XP := QX (fun ρ w => b21 R C18 (ρ 5) (ρ 63) w) (fun ρ w => R (.returned (ρ 4)) w) [(0, (fun ρ w => b7 R (ρ 1) (ρ 2) (ρ 5) (ρ 6) w))]
theorem k22_ok (R : EP) (C18 : Value → VP) (ρ : Env) (w : World) (h : b23 R C18 (ρ 2) (ρ 5) (ρ 6) (ρ 61) (ρ 63) w) : codeP Try.prog (pan R) (fstC p12) (q15 R C18) ρ w := by
  have e : Code.block 1 (blkC (fstC p12)) = (fstC p12) := by kernel_rfl
  rw [← e]
  exact blockQ (b23_ok R C18 ρ w h)
theorem k20_ok (R : EP) (C18 : Value → VP) (ρ : Env) (w : World) (h : b23 R C18 (ρ 2) (ρ 5) (ρ 6) (ρ 61) (ρ 63) w) : codeP Try.prog (pan R) p12 (q10 R C18) ρ w := by
  have e : Code.seq (fstC p12) (sndC p12) = p12 := by kernel_rfl
  rw [← e]
  exact seqQ (fun ρ w => b21 R C18 (ρ 5) (ρ 63) w) (k22_ok R C18 ρ w h) (fun ρ w h => b21_ok R C18 ρ w h)

def b19 (R : EP) (C18 : Value → VP) (x1 x2 x5 x6 x61 x62 x63 : Value) (w : World) (_r : Tok R := tok R) (_C18 : Tok C18 := tok C18) : Prop :=
  RUN Try.prog (pan R) (bins .lss 3 (.tmp 63) (.tmp 62) x63 x62) w fun v1 w2 =>
  SPL v1
  (b23 R C18 x2 x5 x6 x61 x63 w2)
  (b7 R x1 x2 x5 x6 w2)
abbrev q16 (R : EP) (C18 : Value → VP) : XP := QX (fun ρ w => b23 R C18 (ρ 2) (ρ 5) (ρ 6) (ρ 61) (ρ 63) w) (fun ρ w => R (.returned (ρ 4)) w) [(0, (fun ρ w => b7 R (ρ 1) (ρ 2) (ρ 5) (ρ 6) w))]
theorem b19_eq (R : EP) (C18 : Value → VP) (ρ : Env) (w : World) : (b19 R C18 (ρ 1) (ρ 2) (ρ 5) (ρ 6) (ρ 61) (ρ 62) (ρ 63) w) = codeP Try.prog (pan R) (preC 1 p11) (q16 R C18) ρ w := by kernel_rfl
theorem b19_ok (R : EP) (C18 : Value → VP) (ρ : Env) (w : World) (h : b19 R C18 (ρ 1) (ρ 2) (ρ 5) (ρ 6) (ρ 61) (ρ 62) (ρ 63) w) : codeP Try.prog (pan R) p11 (q10 R C18) ρ w := by
  have e : appC 1 (preC 1 p11) (dropC 2 p11) = p11 := by kernel_rfl
  rw [← e]
  exact appQ (fun ρ w => b23 R C18 (ρ 2) (ρ 5) (ρ 6) (ρ 61) (ρ 63) w) 1 ((b19_eq R C18 ρ w).mp h) (fun ρ w h => k20_ok R C18 ρ w h)

def l18 (R : EP) (x1 x2 x5 x6 x61 x62 x63 : Value) (w : World) (_r : Tok R := tok R) : Prop :=
  ∃ (J : Value → VP) (μ : Value → Value → World → Nat), J x5 x63 w ∧ ∀ y5 y63 w0, J y5 y63 w0 → b19 R (fun z5 z63 w1 => J z5 z63 w1 ∧ μ z5 z63 w1 < μ y5 y63 w0) x1 x2 y5 x6 x61 x62 y63 w0
abbrev q17 (R : EP) : XP := QX (fun ρ w => b7 R (ρ 1) (ρ 2) (ρ 5) (ρ 6) w) (fun ρ w => R (.returned (ρ 4)) w) [(0, (fun ρ w => b7 R (ρ 1) (ρ 2) (ρ 5) (ρ 6) w))]
theorem l18_ok (R : EP) (ρ : Env) (w : World) (h : l18 R (ρ 1) (ρ 2) (ρ 5) (ρ 6) (ρ 61) (ρ 62) (ρ 63) w) : codeP Try.prog (pan R) (blkC p10) (q17 R) ρ w := by
  unfold l18 at h
  obtain ⟨J, μ, h0, hr⟩ := h
  have e : Code.loop (loopC (blkC p10)) = (blkC p10) := by kernel_rfl
  rw [← e]
  refine loopQ (fun ρ' w' => J (ρ' 5) (ρ' 63) w') (fun ρ' w' => μ (ρ' 5) (ρ' 63) w') h0 fun ρ' w' hA hI => ?_
  have e1 : ρ' 1 = ρ 1 := Agree.at hA 1 (by kernel_rfl)
  have e2 : ρ' 2 = ρ 2 := Agree.at hA 2 (by kernel_rfl)
  have e6 : ρ' 6 = ρ 6 := Agree.at hA 6 (by kernel_rfl)
  have e61 : ρ' 61 = ρ 61 := Agree.at hA 61 (by kernel_rfl)
  have e62 : ρ' 62 = ρ 62 := Agree.at hA 62 (by kernel_rfl)
  have h1 := hr (ρ' 5) (ρ' 63) w' hI
  rw [← e1, ← e2, ← e6, ← e61, ← e62] at h1
  exact b19_ok R (fun z5 z63 w1 => J z5 z63 w1 ∧ μ z5 z63 w1 < μ (ρ' 5) (ρ' 63) w') ρ' w' h1
theorem l18_intro (R : EP) (x1 x2 x5 x6 x61 x62 x63 : Value) (w : World) (J : Value → VP) (μ : Value → Value → World → Nat) (h0 : J x5 x63 w)
    (hr : ∀ y5 y63 w0, J y5 y63 w0 → ∀ C18 : Value → VP, (∀ z5 z63 w1, J z5 z63 w1 → μ z5 z63 w1 < μ y5 y63 w0 → C18 z5 z63 w1) → b19 R C18 x1 x2 y5 x6 x61 x62 y63 w0) : l18 R x1 x2 x5 x6 x61 x62 x63 w := by
  unfold l18
  exact ⟨J, μ, h0, fun y5 y63 w0 hJ => hr y5 y63 w0 hJ _ (fun z5 z63 w1 h1 h2 => ⟨h1, h2⟩)⟩
abbrev q18 (R : EP) : XP := QX (fun ρ w => b7 R (ρ 1) (ρ 2) (ρ 5) (ρ 6) w) (fun ρ w => R (.returned (ρ 4)) w) []
theorem k17_ok (R : EP) (ρ : Env) (w : World) (h : l18 R (ρ 1) (ρ 2) (ρ 5) (ρ 6) (ρ 61) (ρ 62) (ρ 63) w) : codeP Try.prog (pan R) p10 (q18 R) ρ w := by
  have e : Code.block 0 (blkC p10) = p10 := by kernel_rfl
  rw [← e]
  exact blockQ (l18_ok R ρ w h)

def b16 (R : EP) (x1 x2 x5 x6 : Value) (w : World) (_r : Tok R := tok R) : Prop :=
  RUN Try.prog (pan R) (Instr.fieldAt 27 x2 0) w fun v1 w2 =>
  RUN Try.prog (pan R) (Instr.loadAt 22 v1) w2 fun v3 w4 =>
  RUN Try.prog (pan R) (Instr.sliceAt 22 v3 (some (Go.Value.int Go.IntKind.i64 1)) none none) w4 fun v5 w6 =>
  RUN Try.prog (pan R) (Builtin.len_ #[22] 3 #[v5]) w6 fun v7 w8 =>
  l18 R x1 x2 x5 x6 v5 v7 (Go.Value.int Go.IntKind.i64 0) w8
abbrev q19 (R : EP) : XP := QX (fun ρ w => l18 R (ρ 1) (ρ 2) (ρ 5) (ρ 6) (ρ 61) (ρ 62) (ρ 63) w) (fun ρ w => R (.returned (ρ 4)) w) []
theorem b16_eq (R : EP) (ρ : Env) (w : World) : (b16 R (ρ 1) (ρ 2) (ρ 5) (ρ 6) w) = codeP Try.prog (pan R) (preC 0 (fstC p2)) (q19 R) ρ w := by kernel_rfl
theorem b16_ok (R : EP) (ρ : Env) (w : World) (h : b16 R (ρ 1) (ρ 2) (ρ 5) (ρ 6) w) : codeP Try.prog (pan R) (fstC p2) (q18 R) ρ w := by
  have e : appC 0 (preC 0 (fstC p2)) (dropC 1 (fstC p2)) = (fstC p2) := by kernel_rfl
  rw [← e]
  exact appQ (fun ρ w => l18 R (ρ 1) (ρ 2) (ρ 5) (ρ 6) (ρ 61) (ρ 62) (ρ 63) w) 0 ((b16_eq R ρ w).mp h) (fun ρ w h => k17_ok R ρ w h)
theorem k4_ok (R : EP) (ρ : Env) (w : World) (h : b16 R (ρ 1) (ρ 2) (ρ 5) (ρ 6) w) : codeP Try.prog (pan R) p2 (q1 R) ρ w := by
  have e : Code.seq (fstC p2) (sndC p2) = p2 := by kernel_rfl
  rw [← e]
  exact seqQ (fun ρ w => b7 R (ρ 1) (ρ 2) (ρ 5) (ρ 6) w) (b16_ok R ρ w h) (fun ρ w h => k5_ok R ρ w h)

def b3 (R : EP) (x1 x2 : Value) (w : World) (_r : Tok R := tok R) : Prop :=
  RUN Try.prog (pan R) (Instr.makeMap 179 none) w fun v1 w2 =>
  b16 R x1 x2 (Go.Value.slice Option.none 0 0) v1 w2
abbrev q20 (R : EP) : XP := QX (fun ρ w => b16 R (ρ 1) (ρ 2) (ρ 5) (ρ 6) w) (fun ρ w => R (.returned (ρ 4)) w) []
theorem b3_eq (R : EP) (ρ : Env) (w : World) : (b3 R (ρ 1) (ρ 2) w) = codeP Try.prog (pan R) (preC 1 (sndC p1)) (q20 R) ρ w := by kernel_rfl
theorem b3_ok (R : EP) (ρ : Env) (w : World) (h : b3 R (ρ 1) (ρ 2) w) : codeP Try.prog (pan R) (sndC p1) (q1 R) ρ w := by
  have e : appC 1 (preC 1 (sndC p1)) (dropC 2 (sndC p1)) = (sndC p1) := by kernel_rfl
  rw [← e]
  exact appQ (fun ρ w => b16 R (ρ 1) (ρ 2) (ρ 5) (ρ 6) w) 1 ((b3_eq R ρ w).mp h) (fun ρ w h => k4_ok R ρ w h)
noncomputable abbrev p16 : Code := dropC 1 (fstC p1)

def b29 (R : EP) (x1 x2 x57 : Value) (w : World) (_r : Tok R := tok R) : Prop :=
  SPL x57
  (R (.returned (Go.Value.bool Bool.false)) w)
  (b3 R x1 x2 w)
abbrev q21 (R : EP) : XP := QX (fun ρ w => b3 R (ρ 1) (ρ 2) w) (fun ρ w => R (.returned (ρ 4)) w) []
theorem b29_eq (R : EP) (ρ : Env) (w : World) : (b29 R (ρ 1) (ρ 2) (ρ 57) w) = codeP Try.prog (pan R) p16 (q21 R) ρ w := by kernel_rfl
theorem b29_ok (R : EP) (ρ : Env) (w : World) (h : b29 R (ρ 1) (ρ 2) (ρ 57) w) : codeP Try.prog (pan R) p16 (q21 R) ρ w := (b29_eq R ρ w).mp h
def b28_1 (R : EP) (x1 x2 : Value) (w46 : World) (_r : Tok R := tok R) : Prop :=
  RUN Try.prog (pan R) (Instr.fieldAt 27 x2 0) w46 fun v47 w48 =>
  RUN Try.prog (pan R) (Instr.loadAt 22 v47) w48 fun v49 w50 =>
  RUN Try.prog (pan R) (Builtin.len_ #[22] 3 #[v49]) w50 fun v51 w52 =>
  RUN Try.prog (pan R) (bins .sub 3 (.tmp 48) (.const (Go.Value.int Go.IntKind.i64 1)) v51 (Go.Value.int Go.IntKind.i64 1)) w52 fun v53 w54 =>
  RUN Try.prog (pan R) (Instr.fieldAt 27 x2 1) w54 fun v55 w56 =>
  RUN Try.prog (pan R) (Instr.loadAt 23 v55) w56 fun v57 w58 =>
  RUN Try.prog (pan R) (Builtin.len_ #[23] 3 #[v57]) w58 fun v59 w60 =>
  RUN Try.prog (pan R) (bins .add 3 (.tmp 49) (.tmp 52) v53 v59) w60 fun v61 w62 =>
  RUN Try.prog (pan R) (bins .sub 3 (.tmp 53) (.tmp 54) v61 x1) w62 fun v63 w64 =>
  RUN Try.prog (pan R) (bins .gtr 3 (.tmp 55) (.const (Go.Value.int Go.IntKind.i64 64)) v63 (Go.Value.int Go.IntKind.i64 64)) w64 fun v65 w66 =>
  b29 R x1 x2 v65 w66
def b28_2 (R : EP) (x1 x2 : Value) (w36 : World) (_r : Tok R := tok R) : Prop :=
  RUN Try.prog (pan R) (Instr.fieldAt 27 x2 1) w36 fun v37 w38 =>
  RUN Try.prog (pan R) (Instr.loadAt 23 v37) w38 fun v39 w40 =>
  RUN Try.prog (pan R) (Builtin.len_ #[23] 3 #[v39]) w40 fun v41 w42 =>
  RUN Try.prog (pan R) (bins .add 3 (.const (Go.Value.int Go.IntKind.i64 64)) (.tmp 41) (Go.Value.int Go.IntKind.i64 64) x1) w42 fun v43 w44 =>
  RUN Try.prog (pan R) (bins .gtr 3 (.tmp 40) (.tmp 42) v41 v43) w44 fun v45 w46 =>
  SPL v45
  (b29 R x1 x2 (Go.Value.bool Bool.true) w46)
  (b28_1 R x1 x2 w46)
def b28_3 (R : EP) (x1 x2 : Value) (w28 : World) (_r : Tok R := tok R) : Prop :=
  RUN Try.prog (pan R) (Instr.fieldAt 27 x2 0) w28 fun v29 w30 =>
  RUN Try.prog (pan R) (Instr.loadAt 22 v29) w30 fun v31 w32 =>
  RUN Try.prog (pan R) (Builtin.len_ #[22] 3 #[v31]) w32 fun v33 w34 =>
  RUN Try.prog (pan R) (bins .gtr 3 (.tmp 34) (.const (Go.Value.int Go.IntKind.i64 65)) v33 (Go.Value.int Go.IntKind.i64 65)) w34 fun v35 w36 =>
  SPL v35
  (b29 R x1 x2 (Go.Value.bool Bool.true) w36)
  (b28_2 R x1 x2 w36)
def b28_4 (R : EP) (x1 x2 : Value) (w20 : World) (_r : Tok R := tok R) : Prop :=
  RUN Try.prog (pan R) (Instr.fieldAt 27 x2 1) w20 fun v21 w22 =>
  RUN Try.prog (pan R) (Instr.loadAt 23 v21) w22 fun v23 w24 =>
  RUN Try.prog (pan R) (Builtin.len_ #[23] 3 #[v23]) w24 fun v25 w26 =>
  RUN Try.prog (pan R) (bins .leq 3 (.tmp 27) (.tmp 28) v25 x1) w26 fun v27 w28 =>
  SPL v27
  (b29 R x1 x2 (Go.Value.bool Bool.true) w28)
  (b28_3 R x1 x2 w28)
def b28_5 (R : EP) (x1 x2 : Value) (w8 : World) (_r : Tok R := tok R) : Prop :=
  RUN Try.prog (pan R) (Instr.fieldAt 27 x2 0) w8 fun v9 w10 =>
  RUN Try.prog (pan R) (Instr.loadAt 22 v9) w10 fun v11 w12 =>
  RUN Try.prog (pan R) (Instr.indexAt 22 v11 (Go.Value.int Go.IntKind.i64 0)) w12 fun v13 w14 =>
  RUN Try.prog (pan R) (Instr.loadAt 106 v13) w14 fun v15 w16 =>
  RUN Try.prog (pan R) (Instr.build 106 #[]) w16 fun v17 w18 =>
  RUN Try.prog (pan R) (bins .neq 106 (.tmp 20) (.tmp 21) v15 v17) w18 fun v19 w20 =>
  SPL v19
  (b29 R x1 x2 (Go.Value.bool Bool.true) w20)
  (b28_4 R x1 x2 w20)

def b28 (R : EP) (x1 x2 : Value) (w : World) (_r : Tok R := tok R) : Prop :=
  RUN Try.prog (pan R) (Instr.fieldAt 27 x2 0) w fun v1 w2 =>
  RUN Try.prog (pan R) (Instr.loadAt 22 v1) w2 fun v3 w4 =>
  RUN Try.prog (pan R) (Builtin.len_ #[22] 3 #[v3]) w4 fun v5 w6 =>
  RUN Try.prog (pan R) (bins .eql 3 (.tmp 14) (.const (Go.Value.int Go.IntKind.i64 0)) v5 (Go.Value.int Go.IntKind.i64 0)) w6 fun v7 w8 =>
  SPL v7
  (b29 R x1 x2 (Go.Value.bool Bool.true) w8)
  (b28_5 R x1 x2 w8)
abbrev q22 (R : EP) : XP := QX (fun ρ w => b29 R (ρ 1) (ρ 2) (ρ 57) w) (fun ρ w => R (.returned (ρ 4)) w) []
theorem b28_eq (R : EP) (ρ : Env) (w : World) : (b28 R (ρ 1) (ρ 2) w) = codeP Try.prog (pan R) (preC 0 (fstC p1)) (q22 R) ρ w := by kernel_rfl
theorem b28_ok (R : EP) (ρ : Env) (w : World) (h : b28 R (ρ 1) (ρ 2) w) : codeP Try.prog (pan R) (fstC p1) (q21 R) ρ w := by
  have e : appC 0 (preC 0 (fstC p1)) (dropC 1 (fstC p1)) = (fstC p1) := by kernel_rfl
  rw [← e]
  exact appQ (fun ρ w => b29 R (ρ 1) (ρ 2) (ρ 57) w) 0 ((b28_eq R ρ w).mp h) (fun ρ w h => b29_ok R ρ w h)
theorem k2_ok (R : EP) (ρ : Env) (w : World) (h : b28 R (ρ 1) (ρ 2) w) : codeP Try.prog (pan R) p1 (q1 R) ρ w := by
  have e : Code.seq (fstC p1) (sndC p1) = p1 := by kernel_rfl
  rw [← e]
  exact seqQ (fun ρ w => b3 R (ρ 1) (ρ 2) w) (b28_ok R ρ w h) (fun ρ w h => b3_ok R ρ w h)

def b1 (R : EP) (x0 x1 : Value) (w : World) (_r : Tok R := tok R) : Prop :=
  RUN Try.prog (pan R) (Instr.box 27 x0) w fun v1 w2 =>
  b28 R x1 v1 w2
abbrev q23 (R : EP) : XP := QX (fun ρ w => b28 R (ρ 1) (ρ 2) w) (fun ρ w => R (.returned (ρ 4)) w) []
theorem b1_eq (R : EP) (ρ : Env) (w : World) : (b1 R (ρ 0) (ρ 1) w) = codeP Try.prog (pan R) (preC 0 code) (q23 R) ρ w := by kernel_rfl
theorem b1_ok (R : EP) (ρ : Env) (w : World) (h : b1 R (ρ 0) (ρ 1) w) : codeP Try.prog (pan R) code (q1 R) ρ w := by
  have e : appC 0 (preC 0 code) (dropC 1 code) = code := by kernel_rfl
  rw [← e]
  exact appQ (fun ρ w => b28 R (ρ 1) (ρ 2) w) 0 ((b1_eq R ρ w).mp h) (fun ρ w h => k2_ok R ρ w h)
/-- What is owed for a call. -/
def run (R : EP) (a0 a1 : Value) (w : World) : Prop := b1 R a0 a1 w
theorem calls (R : EP) (a0 a1 : Value) (w : World) (h : run R a0 a1 w) : Calls Try.prog id #[a0, a1] w R :=
  calls_of_t (f := id) (fn := Try.f106) (c := code) (by kernel_rfl) Try.func106 (by kernel_rfl) (by kernel_rfl) (args := [a0, a1]) (Nat.le_of_ble_eq_true rfl) rfl (b1_ok R (envOf [a0, a1]) w h)
theorem enters : Enters Try.prog id := fun args w => Try.call106 args w
theorem ct {a0 a1 : Value} {w : World} {S : VP} (h : ∀ R : EP, (∀ v w, S v w → R (.returned v) w) → run R a0 a1 w) : Ct Try.prog id #[a0, a1] w S :=
  Ct.intro enters fun R hR => calls R a0 a1 w (h R hR)
attribute [irreducible] b6_1 b6 b12 b15 b14_1 b14 b10 l9 b7 b21 b25 b27 b26_1 b26_2 b26 b23 b19 l18 b16 b3 b29 b28_1 b28_2 b28_3 b28_4 b28_5 b28 b1 run
attribute [go_sem] b6_1 b6 b12 b15 b14_1 b14 b10 b7 b21 b25 b27 b26_1 b26_2 b26 b23 b19 b16 b3 b29 b28_1 b28_2 b28_3 b28_4 b28_5 b28 b1 run
end gram_symbols

/-! ### presage/gram.symbols$1 -/
namespace gram_symbols_1
noncomputable def code : Code := bodyOf Try.f148
def b1 (R : EP) (x0 : Value) (w : World) (_r : Tok R := tok R) : Prop :=
  CALL Try.prog (pan R) gram_isName.id #[x0] w fun v1 w2 =>
  RUN Try.prog (pan R) (Op.unary .not v1) w2 fun v3 w4 =>
  R (.returned v3) w4
abbrev q1 (R : EP) : XP := QX (fun ρ w => R (.returned (ρ 2)) w) (fun ρ w => R (.returned (ρ 2)) w) []
theorem b1_eq (R : EP) (ρ : Env) (w : World) : (b1 R (ρ 0) w) = codeP Try.prog (pan R) code (q1 R) ρ w := by kernel_rfl
theorem b1_ok (R : EP) (ρ : Env) (w : World) (h : b1 R (ρ 0) w) : codeP Try.prog (pan R) code (q1 R) ρ w := (b1_eq R ρ w).mp h
/-- What is owed for a call. -/
def run (R : EP) (a0 : Value) (w : World) : Prop := b1 R a0 w
theorem calls (R : EP) (a0 : Value) (w : World) (h : run R a0 w) : Calls Try.prog id #[a0] w R :=
  calls_of_t (f := id) (fn := Try.f148) (c := code) (by kernel_rfl) Try.func148 (by kernel_rfl) (by kernel_rfl) (args := [a0]) (Nat.le_of_ble_eq_true rfl) rfl (b1_ok R (envOf [a0]) w h)
theorem enters : Enters Try.prog id := fun args w => Try.call148 args w
theorem ct {a0 : Value} {w : World} {S : VP} (h : ∀ R : EP, (∀ v w, S v w → R (.returned v) w) → run R a0 w) : Ct Try.prog id #[a0] w S :=
  Ct.intro enters fun R hR => calls R a0 w (h R hR)
attribute [irreducible] b1 run
attribute [go_sem] b1 run
end gram_symbols_1

/-! ### presage/gram.productions -/
namespace gram_productions
noncomputable def code : Code := bodyOf Try.f107
noncomputable abbrev p1 : Code := dropC 1 code
noncomputable abbrev p2 : Code := dropC 3 (sndC p1)
def b5_1 (R : EP) (x2 x6 x8 : Value) (w : World) (_r : Tok R := tok R) : Prop :=
  PUR Try.prog (Instr.fieldAt 27 x2 3) fun v10 =>
  LD Try.prog (Instr.loadAt 3 v10) (World.drew w) fun v11 =>
  PUR Try.prog (bins .lss 3 (.tmp 125) (.tmp 126) v11 x6) fun v12 =>
  R (.returned (.tuple #[x8, v12])) (World.drew w)
def b5_2 (R : EP) (x2 x6 x7 x8 : Value) (w : World) (_r : Tok R := tok R) : Prop :=
  PUR Try.prog (Instr.fieldAt 27 x2 3) fun v7 =>
  LD Try.prog (Instr.loadAt 3 v7) (World.drew w) fun v8 =>
  PUR Try.prog (bins .geq 3 (.tmp 119) (.tmp 120) v8 x7) fun v9 =>
  SPL v9
  (b5_1 R x2 x6 x8 w)
  (R (.returned (.tuple #[x8, (Go.Value.bool Bool.false)])) (World.drew w))

def b5 (R : EP) (x1 x2 x6 x7 x8 : Value) (w : World) (_r : Tok R := tok R) : Prop :=
  LD Try.prog (Builtin.len_ #[24] 3 #[x8]) (World.drew w) fun v1 =>
  PUR Try.prog (Instr.fieldAt 27 x2 1) fun v2 =>
  LD Try.prog (Instr.loadAt 23 v2) (World.drew w) fun v3 =>
  LD Try.prog (Builtin.len_ #[23] 3 #[v3]) (World.drew w) fun v4 =>
  PUR Try.prog (bins .sub 3 (.tmp 113) (.tmp 114) v4 x1) fun v5 =>
  PUR Try.prog (bins .eql 3 (.tmp 110) (.tmp 115) v1 v5) fun v6 =>
  SPL v6
  (b5_2 R x2 x6 x7 x8 w)
  (R (.returned (.tuple #[x8, (Go.Value.bool Bool.false)])) (World.drew w))
abbrev q1 (R : EP) : XP := QX (fun ρ w => R (.returned (.tuple #[(ρ 4), (ρ 5)])) w) (fun ρ w => R (.returned (.tuple #[(ρ 4), (ρ 5)])) w) []
theorem b5_eq (R : EP) (ρ : Env) (w : World) : (b5 R (ρ 1) (ρ 2) (ρ 6) (ρ 7) (ρ 8) w) = codeP Try.prog (pan R) (sndC p2) (q1 R) ρ w := by kernel_rfl
theorem b5_ok (R : EP) (ρ : Env) (w : World) (h : b5 R (ρ 1) (ρ 2) (ρ 6) (ρ 7) (ρ 8) w) : codeP Try.prog (pan R) (sndC p2) (q1 R) ρ w := (b5_eq R ρ w).mp h
noncomputable abbrev p3 : Code := dropC 1 (fstC p2)
noncomputable abbrev p4 : Code := loopC (blkC p3)
noncomputable abbrev p5 : Code := dropC 2 p4

def b11 (R : EP) (C8 : Value → VP) (x8 x43 : Value) (w : World) (_r : Tok R := tok R) (_C8 : Tok C8 := tok C8) : Prop :=
  RUN Try.prog (pan R) (bins .add 3 (.tmp 43) (.const (Go.Value.int Go.IntKind.i64 1)) x43 (Go.Value.int Go.IntKind.i64 1)) w fun v1 w2 =>
  C8 x8 v1 w2
abbrev q2 (R : EP) (C8 : Value → VP) : XP := QX (fun ρ w => C8 (ρ 8) (ρ 43) w) (fun ρ w => R (.returned (.tuple #[(ρ 4), (ρ 5)])) w) [(0, (fun ρ w => b5 R (ρ 1) (ρ 2) (ρ 6) (ρ 7) (ρ 8) w))]
theorem b11_eq (R : EP) (C8 : Value → VP) (ρ : Env) (w : World) : (b11 R C8 (ρ 8) (ρ 43) w) = codeP Try.prog (pan R) (sndC p5) (q2 R C8) ρ w := by kernel_rfl
theorem b11_ok (R : EP) (C8 : Value → VP) (ρ : Env) (w : World) (h : b11 R C8 (ρ 8) (ρ 43) w) : codeP Try.prog (pan R) (sndC p5) (q2 R C8) ρ w := (b11_eq R C8 ρ w).mp h
noncomputable abbrev p6 : Code := blkC (fstC p5)
noncomputable abbrev p7 : Code := dropC 1 p6
noncomputable abbrev p8 : Code := sndC (sndC p7)
def b16_1 (R : EP) (C8 : Value → VP) (x8 x10 x43 : Value) (w8 : World) (_r : Tok R := tok R) (_C8 : Tok C8 := tok C8) : Prop :=
  RUN Try.prog (pan R) (Instr.fieldAt 47 x10 0) w8 fun v9 w10 =>
  RUN Try.prog (pan R) (Instr.loadAt 3 v9) w10 fun v11 w12 =>
  RUN Try.prog (pan R) (Instr.buildSlice 24 1 #[(0, v11)]) w12 fun v13 w14 =>
  RUN Try.prog (pan R) (Builtin.append_ #[24, 24] 24 #[x8, v13]) w14 fun v15 w16 =>
  b11 R C8 v15 x43 w16

def b16 (R : EP) (C8 : Value → VP) (x8 x10 x43 : Value) (w : World) (_r : Tok R := tok R) (_C8 : Tok C8 := tok C8) : Prop :=
  RUN Try.prog (pan R) (Instr.fieldAt 47 x10 0) w fun v1 w2 =>
  RUN Try.prog (pan R) (Instr.loadAt 3 v1) w2 fun v3 w4 =>
  CALL Try.prog (pan R) slices_Contains_int_int.id #[x8, v3] w4 fun v5 w6 =>
  RUN Try.prog (pan R) (Op.unary .not v5) w6 fun v7 w8 =>
  SPL v7
  (b16_1 R C8 x8 x10 x43 w8)
  (b11 R C8 x8 x43 w8)
abbrev q3 (R : EP) (C8 : Value → VP) : XP := QX (fun ρ w => b11 R C8 (ρ 8) (ρ 43) w) (fun ρ w => R (.returned (.tuple #[(ρ 4), (ρ 5)])) w) [(2, (fun ρ w => b11 R C8 (ρ 8) (ρ 43) w)), (0, (fun ρ w => b5 R (ρ 1) (ρ 2) (ρ 6) (ρ 7) (ρ 8) w))]
theorem b16_eq (R : EP) (C8 : Value → VP) (ρ : Env) (w : World) : (b16 R C8 (ρ 8) (ρ 10) (ρ 43) w) = codeP Try.prog (pan R) p8 (q3 R C8) ρ w := by kernel_rfl
theorem b16_ok (R : EP) (C8 : Value → VP) (ρ : Env) (w : World) (h : b16 R C8 (ρ 8) (ρ 10) (ρ 43) w) : codeP Try.prog (pan R) p8 (q3 R C8) ρ w := (b16_eq R C8 ρ w).mp h
noncomputable abbrev p9 : Code := fstC (sndC p7)
noncomputable abbrev p10 : Code := dropC 1 p9
noncomputable abbrev p11 : Code := loopC (blkC p10)
noncomputable abbrev p12 : Code := dropC 2 p11

def b22 (R : EP) (C8 : Value → VP) (C19 : VP) (x73 : Value) (w : World) (_r : Tok R := tok R) (_C8 : Tok C8 := tok C8) (_C19 : Tok C19 := tok C19) : Prop :=
  RUN Try.prog (pan R) (bins .add 3 (.tmp 73) (.const (Go.Value.int Go.IntKind.i64 1)) x73 (Go.Value.int Go.IntKind.i64 1)) w fun v1 w2 =>
  C19 v1 w2
abbrev q4 (R : EP) (C8 : Value → VP) (C19 : VP) : XP := QX (fun ρ w => C19 (ρ 73) w) (fun ρ w => R (.returned (.tuple #[(ρ 4), (ρ 5)])) w) [(4, (fun ρ w => b16 R C8 (ρ 8) (ρ 10) (ρ 43) w)), (2, (fun ρ w => b11 R C8 (ρ 8) (ρ 43) w)), (0, (fun ρ w => b5 R (ρ 1) (ρ 2) (ρ 6) (ρ 7) (ρ 8) w))]
theorem b22_eq (R : EP) (C8 : Value → VP) (C19 : VP) (ρ : Env) (w : World) : (b22 R C8 C19 (ρ 73) w) = codeP Try.prog (pan R) (sndC p12) (q4 R C8 C19) ρ w := by kernel_rfl
theorem b22_ok (R : EP) (C8 : Value → VP) (C19 : VP) (ρ : Env) (w : World) (h : b22 R C8 C19 (ρ 73) w) : codeP Try.prog (pan R) (sndC p12) (q4 R C8 C19) ρ w := (b22_eq R C8 C19 ρ w).mp h
noncomputable abbrev p13 : Code := blkC (fstC p12)
noncomputable abbrev p14 : Code := dropC 2 p13

def b25 (R : EP) (C8 : Value → VP) (C19 : VP) (x73 x95 : Value) (w : World) (_r : Tok R := tok R) (_C8 : Tok C8 := tok C8) (_C19 : Tok C19 := tok C19) : Prop :=
  SPL x95
  (R (.returned (.tuple #[(Go.Value.slice Option.none 0 0), (Go.Value.bool Bool.false)])) w)
  (b22 R C8 C19 x73 w)
abbrev q5 (R : EP) (C8 : Value → VP) (C19 : VP) : XP := QX (fun ρ w => b22 R C8 C19 (ρ 73) w) (fun ρ w => R (.returned (.tuple #[(ρ 4), (ρ 5)])) w) [(6, (fun ρ w => b22 R C8 C19 (ρ 73) w)), (4, (fun ρ w => b16 R C8 (ρ 8) (ρ 10) (ρ 43) w)), (2, (fun ρ w => b11 R C8 (ρ 8) (ρ 43) w)), (0, (fun ρ w => b5 R (ρ 1) (ρ 2) (ρ 6) (ρ 7) (ρ 8) w))]
theorem b25_eq (R : EP) (C8 : Value → VP) (C19 : VP) (ρ : Env) (w : World) : (b25 R C8 C19 (ρ 73) (ρ 95) w) = codeP Try.prog (pan R) p14 (q5 R C8 C19) ρ w := by kernel_rfl
theorem b25_ok (R : EP) (C8 : Value → VP) (C19 : VP) (ρ : Env) (w : World) (h : b25 R C8 C19 (ρ 73) (ρ 95) w) : codeP Try.prog (pan R) p14 (q5 R C8 C19) ρ w := (b25_eq R C8 C19 ρ w).mp h
def b24_1 (R : EP) (C8 : Value → VP) (C19 : VP) (x2 x7 x73 v3 : Value) (w8 : World) (_r : Tok R := tok R) (_C8 : Tok C8 := tok C8) (_C19 : Tok C19 := tok C19) : Prop :=
  RUN Try.prog (pan R) (Instr.fieldAt 27 x2 0) w8 fun v9 w10 =>
  RUN Try.prog (pan R) (Instr.loadAt 22 v9) w10 fun v11 w12 =>
  RUN Try.prog (pan R) (Builtin.len_ #[22] 3 #[v11]) w12 fun v13 w14 =>
  RUN Try.prog (pan R) (bins .geq 3 (.tmp 85) (.tmp 88) v3 v13) w14 fun v15 w16 =>
  SPL v15
  (RUN Try.prog (pan R) (bins .lss 3 (.tmp 91) (.tmp 92) v3 x7) w16 fun v17 w18 =>
  b25 R C8 C19 x73 v17 w18)
  (b25 R C8 C19 x73 (Go.Value.bool Bool.false) w16)

def b24 (R : EP) (C8 : Value → VP) (C19 : VP) (x2 x6 x7 x71 x73 : Value) (w : World) (_r : Tok R := tok R) (_C8 : Tok C8 := tok C8) (_C19 : Tok C19 := tok C19) : Prop :=
  RUN Try.prog (pan R) (Instr.indexAt 24 x71 x73) w fun v1 w2 =>
  RUN Try.prog (pan R) (Instr.loadAt 3 v1) w2 fun v3 w4 =>
  RUN Try.prog (pan R) (bins .lss 3 (.tmp 77) (.const (Go.Value.int Go.IntKind.i64 1)) v3 (Go.Value.int Go.IntKind.i64 1)) w4 fun v5 w6 =>
  SPL v5
  (b25 R C8 C19 x73 (Go.Value.bool Bool.true) w6)
  (RUN Try.prog (pan R) (bins .geq 3 (.tmp 80) (.tmp 81) v3 x6) w6 fun v7 w8 =>
  SPL v7
  (b25 R C8 C19 x73 (Go.Value.bool Bool.true) w8)
  (b24_1 R C8 C19 x2 x7 x73 v3 w8))
abbrev q6 (R : EP) (C8 : Value → VP) (C19 : VP) : XP := QX (fun ρ w => b25 R C8 C19 (ρ 73) (ρ 95) w) (fun ρ w => R (.returned (.tuple #[(ρ 4), (ρ 5)])) w) [(6, (fun ρ w => b22 R C8 C19 (ρ 73) w)), (4, (fun ρ w => b16 R C8 (ρ 8) (ρ 10) (ρ 43) w)), (2, (fun ρ w => b11 R C8 (ρ 8) (ρ 43) w)), (0, (fun ρ w => b5 R (ρ 1) (ρ 2) (ρ 6) (ρ 7) (ρ 8) w))]
theorem b24_eq (R : EP) (C8 : Value → VP) (C19 : VP) (ρ : Env) (w : World) : (b24 R C8 C19 (ρ 2) (ρ 6) (ρ 7) (ρ 71) (ρ 73) w) = codeP Try.prog (pan R) (preC 1 p13) (q6 R C8 C19) ρ w := by kernel_rfl
theorem b24_ok (R : EP) (C8 : Value → VP) (C19 : VP) (ρ : Env) (w : World) (h : b24 R C8 C19 (ρ 2) (ρ 6) (ρ 7) (ρ 71) (ρ 73) w) : codeP Try.prog (pan R) p13 (q5 R C8 C19) ρ w := by
  have e : appC 1 (preC 1 p13) (dropC 2 p13) = p13 := by kernel_rfl
  rw [← e]
  exact appQ (fun ρ w => b25 R C8 C19 (ρ 73) (ρ 95) w) 1 ((b24_eq R C8 C19 ρ w).mp h) (fun ρ w h => b25_ok R C8 C19 ρ w h)
abbrev q7 (R : EP) (C8 : Value → VP) (C19 : VP) : XP := QX (fun ρ w => b22 R C8 C19 (ρ 73) w) (fun ρ w => R (.returned (.tuple #[(ρ 4), (ρ 5)])) w) [(4, (fun ρ w => b16 R C8 (ρ 8) (ρ 10) (ρ 43) w)), (2, (fun ρ w => b11 R C8 (ρ 8) (ρ 43) w)), (0, (fun ρ w => b5 R (ρ 1) (ρ 2) (ρ 6) (ρ 7) (ρ 8) w))]
theorem k23_ok (R : EP) (C8 : Value → VP) (C19 : VP) (ρ : Env) (w : World) (h : b24 R C8 C19 (ρ 2) (ρ 6) (ρ 7) (ρ 71) (ρ 73) w) : codeP Try.prog (pan R) (fstC p12) (q7 R C8 C19) ρ w := by
  have e : Code.block 3 (blkC (fstC p12)) = (fstC p12) := by kernel_rfl
  rw [← e]
  exact blockQ (b24_ok R C8 C19 ρ w h)
theorem k21_ok (R : EP) (C8 : Value → VP) (C19 : VP) (ρ : Env) (w : World) (h : b24 R C8 C19 (ρ 2) (ρ 6) (ρ 7) (ρ 71) (ρ 73) w) : codeP Try.prog (pan R) p12 (q4 R C8 C19) ρ w := by
  have e : Code.seq (fstC p12) (sndC p12) = p12 := by kernel_rfl
  rw [← e]
  exact seqQ (fun ρ w => b22 R C8 C19 (ρ 73) w) (k23_ok R C8 C19 ρ w h) (fun ρ w h => b22_ok R C8 C19 ρ w h)

def b20 (R : EP) (C8 : Value → VP) (C19 : VP) (x2 x6 x7 x8 x10 x43 x71 x72 x73 : Value) (w : World) (_r : Tok R := tok R) (_C8 : Tok C8 := tok C8) (_C19 : Tok C19 := tok C19) : Prop :=
  RUN Try.prog (pan R) (bins .lss 3 (.tmp 73) (.tmp 72) x73 x72) w fun v1 w2 =>
  SPL v1
  (b24 R C8 C19 x2 x6 x7 x71 x73 w2)
  (b16 R C8 x8 x10 x43 w2)
abbrev q8 (R : EP) (C8 : Value → VP) (C19 : VP) : XP := QX (fun ρ w => b24 R C8 C19 (ρ 2) (ρ 6) (ρ 7) (ρ 71) (ρ 73) w) (fun ρ w => R (.returned (.tuple #[(ρ 4), (ρ 5)])) w) [(4, (fun ρ w => b16 R C8 (ρ 8) (ρ 10) (ρ 43) w)), (2, (fun ρ w => b11 R C8 (ρ 8) (ρ 43) w)), (0, (fun ρ w => b5 R (ρ 1) (ρ 2) (ρ 6) (ρ 7) (ρ 8) w))]
theorem b20_eq (R : EP) (C8 : Value → VP) (C19 : VP) (ρ : Env) (w : World) : (b20 R C8 C19 (ρ 2) (ρ 6) (ρ 7) (ρ 8) (ρ 10) (ρ 43) (ρ 71) (ρ 72) (ρ 73) w) = codeP Try.prog (pan R) (preC 1 p11) (q8 R C8 C19) ρ w := by kernel_rfl
theorem b20_ok (R : EP) (C8 : Value → VP) (C19 : VP) (ρ : Env) (w : World) (h : b20 R C8 C19 (ρ 2) (ρ 6) (ρ 7) (ρ 8) (ρ 10) (ρ 43) (ρ 71) (ρ 72) (ρ 73) w) : codeP Try.prog (pan R) p11 (q4 R C8 C19) ρ w := by
  have e : appC 1 (preC 1 p11) (dropC 2 p11) = p11 := by kernel_rfl
  rw [← e]
  exact appQ (fun ρ w => b24 R C8 C19 (ρ 2) (ρ 6) (ρ 7) (ρ 71) (ρ 73) w) 1 ((b20_eq R C8 C19 ρ w).mp h) (fun ρ w h => k21_ok R C8 C19 ρ w h)

def l19 (R : EP) (C8 : Value → VP) (x2 x6 x7 x8 x10 x43 x71 x72 x73 : Value) (w : World) (_r : Tok R := tok R) (_C8 : Tok C8 := tok C8) : Prop :=
  ∃ (J : VP) (μ : Value → World → Nat), J x73 w ∧ ∀ y73 w0, J y73 w0 → b20 R C8 (fun z73 w1 => J z73 w1 ∧ μ z73 w1 < μ y73 w0) x2 x6 x7 x8 x10 x43 x71 x72 y73 w0
abbrev q9 (R : EP) (C8 : Value → VP) : XP := QX (fun ρ w => b16 R C8 (ρ 8) (ρ 10) (ρ 43) w) (fun ρ w => R (.returned (.tuple #[(ρ 4), (ρ 5)])) w) [(4, (fun ρ w => b16 R C8 (ρ 8) (ρ 10) (ρ 43) w)), (2, (fun ρ w => b11 R C8 (ρ 8) (ρ 43) w)), (0, (fun ρ w => b5 R (ρ 1) (ρ 2) (ρ 6) (ρ 7) (ρ 8) w))]
theorem l19_ok (R : EP) (C8 : Value → VP) (ρ : Env) (w : World) (h : l19 R C8 (ρ 2) (ρ 6) (ρ 7) (ρ 8) (ρ 10) (ρ 43) (ρ 71) (ρ 72) (ρ 73) w) : codeP Try.prog (pan R) (blkC p10) (q9 R C8) ρ w := by
  unfold l19 at h
  obtain ⟨J, μ, h0, hr⟩ := h
  have e : Code.loop (loopC (blkC p10)) = (blkC p10) := by kernel_rfl
  rw [← e]
  refine loopQ (fun ρ' w' => J (ρ' 73) w') (fun ρ' w' => μ (ρ' 73) w') h0 fun ρ' w' hA hI => ?_
  have e2 : ρ' 2 = ρ 2 := Agree.at hA 2 (by kernel_rfl)
  have e6 : ρ' 6 = ρ 6 := Agree.at hA 6 (by kernel_rfl)
  have e7 : ρ' 7 = ρ 7 := Agree.at hA 7 (by kernel_rfl)
  have e8 : ρ' 8 = ρ 8 := Agree.at hA 8 (by kernel_rfl)
  have e10 : ρ' 10 = ρ 10 := Agree.at hA 10 (by kernel_rfl)
  have e43 : ρ' 43 = ρ 43 := Agree.at hA 43 (by kernel_rfl)
  have e71 : ρ' 71 = ρ 71 := Agree.at hA 71 (by kernel_rfl)
  have e72 : ρ' 72 = ρ 72 := Agree.at hA 72 (by kernel_rfl)
  have h1 := hr (ρ' 73) w' hI
  rw [← e2, ← e6, ← e7, ← e8, ← e10, ← e43, ← e71, ← e72] at h1
  exact b20_ok R C8 (fun z73 w1 => J z73 w1 ∧ μ z73 w1 < μ (ρ' 73) w') ρ' w' h1
theorem l19_intro (R : EP) (C8 : Value → VP) (x2 x6 x7 x8 x10 x43 x71 x72 x73 : Value) (w : World) (J : VP) (μ : Value → World → Nat) (h0 : J x73 w)
    (hr : ∀ y73 w0, J y73 w0 → ∀ C19 : VP, (∀ z73 w1, J z73 w1 → μ z73 w1 < μ y73 w0 → C19 z73 w1) → b20 R C8 C19 x2 x6 x7 x8 x10 x43 x71 x72 y73 w0) : l19 R C8 x2 x6 x7 x8 x10 x43 x71 x72 x73 w := by
  unfold l19
  exact ⟨J, μ, h0, fun y73 w0 hJ => hr y73 w0 hJ _ (fun z73 w1 h1 h2 => ⟨h1, h2⟩)⟩
abbrev q10 (R : EP) (C8 : Value → VP) : XP := QX (fun ρ w => b16 R C8 (ρ 8) (ρ 10) (ρ 43) w) (fun ρ w => R (.returned (.tuple #[(ρ 4), (ρ 5)])) w) [(2, (fun ρ w => b11 R C8 (ρ 8) (ρ 43) w)), (0, (fun ρ w => b5 R (ρ 1) (ρ 2) (ρ 6) (ρ 7) (ρ 8) w))]
theorem k18_ok (R : EP) (C8 : Value → VP) (ρ : Env) (w : World) (h : l19 R C8 (ρ 2) (ρ 6) (ρ 7) (ρ 8) (ρ 10) (ρ 43) (ρ 71) (ρ 72) (ρ 73) w) : codeP Try.prog (pan R) p10 (q10 R C8) ρ w := by
  have e : Code.block 2 (blkC p10) = p10 := by kernel_rfl
  rw [← e]
  exact blockQ (l19_ok R C8 ρ w h)

def b17 (R : EP) (C8 : Value → VP) (x2 x6 x7 x8 x10 x43 : Value) (w : World) (_r : Tok R := tok R) (_C8 : Tok C8 := tok C8) : Prop :=
  RUN Try.prog (pan R) (Instr.fieldAt 47 x10 1) w fun v1 w2 =>
  RUN Try.prog (pan R) (Instr.loadAt 24 v1) w2 fun v3 w4 =>
  RUN Try.prog (pan R) (Builtin.len_ #[24] 3 #[v3]) w4 fun v5 w6 =>
  l19 R C8 x2 x6 x7 x8 x10 x43 v3 v5 (Go.Value.int Go.IntKind.i64 0) w6
abbrev q11 (R : EP) (C8 : Value → VP) : XP := QX (fun ρ w => l19 R C8 (ρ 2) (ρ 6) (ρ 7) (ρ 8) (ρ 10) (ρ 43) (ρ 71) (ρ 72) (ρ 73) w) (fun ρ w => R (.returned (.tuple #[(ρ 4), (ρ 5)])) w) [(2, (fun ρ w => b11 R C8 (ρ 8) (ρ 43) w)), (0, (fun ρ w => b5 R (ρ 1) (ρ 2) (ρ 6) (ρ 7) (ρ 8) w))]
theorem b17_eq (R : EP) (C8 : Value → VP) (ρ : Env) (w : World) : (b17 R C8 (ρ 2) (ρ 6) (ρ 7) (ρ 8) (ρ 10) (ρ 43) w) = codeP Try.prog (pan R) (preC 0 p9) (q11 R C8) ρ w := by kernel_rfl
theorem b17_ok (R : EP) (C8 : Value → VP) (ρ : Env) (w : World) (h : b17 R C8 (ρ 2) (ρ 6) (ρ 7) (ρ 8) (ρ 10) (ρ 43) w) : codeP Try.prog (pan R) p9 (q10 R C8) ρ w := by
  have e : appC 0 (preC 0 p9) (dropC 1 p9) = p9 := by kernel_rfl
  rw [← e]
  exact appQ (fun ρ w => l19 R C8 (ρ 2) (ρ 6) (ρ 7) (ρ 8) (ρ 10) (ρ 43) (ρ 71) (ρ 72) (ρ 73) w) 0 ((b17_eq R C8 ρ w).mp h) (fun ρ w h => k18_ok R C8 ρ w h)
theorem k15_ok (R : EP) (C8 : Value → VP) (ρ : Env) (w : World) (h : b17 R C8 (ρ 2) (ρ 6) (ρ 7) (ρ 8) (ρ 10) (ρ 43) w) : codeP Try.prog (pan R) (sndC p7) (q3 R C8) ρ w := by
  have e : Code.seq (fstC (sndC p7)) (sndC (sndC p7)) = (sndC p7) := by kernel_rfl
  rw [← e]
  exact seqQ (fun ρ w => b16 R C8 (ρ 8) (ρ 10) (ρ 43) w) (b17_ok R C8 ρ w h) (fun ρ w h => b16_ok R C8 ρ w h)
noncomputable abbrev p15 : Code := dropC 1 (fstC p7)

def b27 (R : EP) (C8 : Value → VP) (x2 x6 x7 x8 x10 x43 x69 : Value) (w : World) (_r : Tok R := tok R) (_C8 : Tok C8 := tok C8) : Prop :=
  SPL x69
  (R (.returned (.tuple #[(Go.Value.slice Option.none 0 0), (Go.Value.bool Bool.false)])) w)
  (b17 R C8 x2 x6 x7 x8 x10 x43 w)
abbrev q12 (R : EP) (C8 : Value → VP) : XP := QX (fun ρ w => b17 R C8 (ρ 2) (ρ 6) (ρ 7) (ρ 8) (ρ 10) (ρ 43) w) (fun ρ w => R (.returned (.tuple #[(ρ 4), (ρ 5)])) w) [(2, (fun ρ w => b11 R C8 (ρ 8) (ρ 43) w)), (0, (fun ρ w => b5 R (ρ 1) (ρ 2) (ρ 6) (ρ 7) (ρ 8) w))]
theorem b27_eq (R : EP) (C8 : Value → VP) (ρ : Env) (w : World) : (b27 R C8 (ρ 2) (ρ 6) (ρ 7) (ρ 8) (ρ 10) (ρ 43) (ρ 69) w) = codeP Try.prog (pan R) p15 (q12 R C8) ρ w := by kernel_rfl
theorem b27_ok (R : EP) (C8 : Value → VP) (ρ : Env) (w : World) (h : b27 R C8 (ρ 2) (ρ 6) (ρ 7) (ρ 8) (ρ 10) (ρ 43) (ρ 69) w) : codeP Try.prog (pan R) p15 (q12 R C8) ρ w := (b27_eq R C8 ρ w).mp h
def b26_1 (R : EP) (C8 : Value → VP) (x2 x6 x7 x8 x10 x43 : Value) (w18 : World) (_r : Tok R := tok R) (_C8 : Tok C8 := tok C8) : Prop :=
  RUN Try.prog (pan R) (Instr.fieldAt 47 x10 2) w18 fun v19 w20 =>
  RUN Try.prog (pan R) (Instr.loadAt 3 v19) w20 fun v21 w22 =>
  RUN Try.prog (pan R) (Instr.fieldAt 27 x2 2) w22 fun v23 w24 =>
  RUN Try.prog (pan R) (Instr.loadAt 24 v23) w24 fun v25 w26 =>
  RUN Try.prog (pan R) (Builtin.len_ #[24] 3 #[v25]) w26 fun v27 w28 =>
  RUN Try.prog (pan R) (bins .gtr 3 (.tmp 64) (.tmp 67) v21 v27) w28 fun v29 w30 =>
  b27 R C8 x2 x6 x7 x8 x10 x43 v29 w30
def b26_2 (R : EP) (C8 : Value → VP) (x2 x6 x7 x8 x10 x43 : Value) (w12 : World) (_r : Tok R := tok R) (_C8 : Tok C8 := tok C8) : Prop :=
  RUN Try.prog (pan R) (Instr.fieldAt 47 x10 2) w12 fun v13 w14 =>
  RUN Try.prog (pan R) (Instr.loadAt 3 v13) w14 fun v15 w16 =>
  RUN Try.prog (pan R) (bins .lss 3 (.tmp 59) (.const (Go.Value.int Go.IntKind.i64 0)) v15 (Go.Value.int Go.IntKind.i64 0)) w16 fun v17 w18 =>
  SPL v17
  (b27 R C8 x2 x6 x7 x8 x10 x43 (Go.Value.bool Bool.true) w18)
  (b26_1 R C8 x2 x6 x7 x8 x10 x43 w18)
def b26_3 (R : EP) (C8 : Value → VP) (x2 x6 x7 x8 x10 x43 : Value) (w6 : World) (_r : Tok R := tok R) (_C8 : Tok C8 := tok C8) : Prop :=
  RUN Try.prog (pan R) (Instr.fieldAt 47 x10 0) w6 fun v7 w8 =>
  RUN Try.prog (pan R) (Instr.loadAt 3 v7) w8 fun v9 w10 =>
  RUN Try.prog (pan R) (bins .geq 3 (.tmp 53) (.tmp 54) v9 x6) w10 fun v11 w12 =>
  SPL v11
  (b27 R C8 x2 x6 x7 x8 x10 x43 (Go.Value.bool Bool.true) w12)
  (b26_2 R C8 x2 x6 x7 x8 x10 x43 w12)

def b26 (R : EP) (C8 : Value → VP) (x2 x6 x7 x8 x10 x43 : Value) (w : World) (_r : Tok R := tok R) (_C8 : Tok C8 := tok C8) : Prop :=
  RUN Try.prog (pan R) (Instr.fieldAt 47 x10 0) w fun v1 w2 =>
  RUN Try.prog (pan R) (Instr.loadAt 3 v1) w2 fun v3 w4 =>
  RUN Try.prog (pan R) (bins .lss 3 (.tmp 48) (.tmp 49) v3 x7) w4 fun v5 w6 =>
  SPL v5
  (b27 R C8 x2 x6 x7 x8 x10 x43 (Go.Value.bool Bool.true) w6)
  (b26_3 R C8 x2 x6 x7 x8 x10 x43 w6)
abbrev q13 (R : EP) (C8 : Value → VP) : XP := QX (fun ρ w => b27 R C8 (ρ 2) (ρ 6) (ρ 7) (ρ 8) (ρ 10) (ρ 43) (ρ 69) w) (fun ρ w => R (.returned (.tuple #[(ρ 4), (ρ 5)])) w) [(2, (fun ρ w => b11 R C8 (ρ 8) (ρ 43) w)), (0, (fun ρ w => b5 R (ρ 1) (ρ 2) (ρ 6) (ρ 7) (ρ 8) w))]
theorem b26_eq (R : EP) (C8 : Value → VP) (ρ : Env) (w : World) : (b26 R C8 (ρ 2) (ρ 6) (ρ 7) (ρ 8) (ρ 10) (ρ 43) w) = codeP Try.prog (pan R) (preC 0 (fstC p7)) (q13 R C8) ρ w := by kernel_rfl
theorem b26_ok (R : EP) (C8 : Value → VP) (ρ : Env) (w : World) (h : b26 R C8 (ρ 2) (ρ 6) (ρ 7) (ρ 8) (ρ 10) (ρ 43) w) : codeP Try.prog (pan R) (fstC p7) (q12 R C8) ρ w := by
  have e : appC 0 (preC 0 (fstC p7)) (dropC 1 (fstC p7)) = (fstC p7) := by kernel_rfl
  rw [← e]
  exact appQ (fun ρ w => b27 R C8 (ρ 2) (ρ 6) (ρ 7) (ρ 8) (ρ 10) (ρ 43) (ρ 69) w) 0 ((b26_eq R C8 ρ w).mp h) (fun ρ w h => b27_ok R C8 ρ w h)
theorem k14_ok (R : EP) (C8 : Value → VP) (ρ : Env) (w : World) (h : b26 R C8 (ρ 2) (ρ 6) (ρ 7) (ρ 8) (ρ 10) (ρ 43) w) : codeP Try.prog (pan R) p7 (q3 R C8) ρ w := by
  have e : Code.seq (fstC p7) (sndC p7) = p7 := by kernel_rfl
  rw [← e]
  exact seqQ (fun ρ w => b17 R C8 (ρ 2) (ρ 6) (ρ 7) (ρ 8) (ρ 10) (ρ 43) w) (b26_ok R C8 ρ w h) (fun ρ w h => k15_ok R C8 ρ w h)

def b13 (R : EP) (C8 : Value → VP) (x2 x6 x7 x8 x41 x43 : Value) (w : World) (_r : Tok R := tok R) (_C8 : Tok C8 := tok C8) : Prop :=
  RUN Try.prog (pan R) (Instr.indexAt 25 x41 x43) w fun v1 w2 =>
  RUN Try.prog (pan R) (Instr.loadAt 47 v1) w2 fun v3 w4 =>
  RUN Try.prog (pan R) (Instr.alloc 47 true (.tuple #[])) w4 fun v5 w6 =>
  RUNU Try.prog (pan R) (Instr.storeAt 47 v5 v3) w6 fun w7 =>
  b26 R C8 x2 x6 x7 x8 v5 x43 w7
abbrev q14 (R : EP) (C8 : Value → VP) : XP := QX (fun ρ w => b26 R C8 (ρ 2) (ρ 6) (ρ 7) (ρ 8) (ρ 10) (ρ 43) w) (fun ρ w => R (.returned (.tuple #[(ρ 4), (ρ 5)])) w) [(2, (fun ρ w => b11 R C8 (ρ 8) (ρ 43) w)), (0, (fun ρ w => b5 R (ρ 1) (ρ 2) (ρ 6) (ρ 7) (ρ 8) w))]
theorem b13_eq (R : EP) (C8 : Value → VP) (ρ : Env) (w : World) : (b13 R C8 (ρ 2) (ρ 6) (ρ 7) (ρ 8) (ρ 41) (ρ 43) w) = codeP Try.prog (pan R) (preC 0 p6) (q14 R C8) ρ w := by kernel_rfl
theorem b13_ok (R : EP) (C8 : Value → VP) (ρ : Env) (w : World) (h : b13 R C8 (ρ 2) (ρ 6) (ρ 7) (ρ 8) (ρ 41) (ρ 43) w) : codeP Try.prog (pan R) p6 (q3 R C8) ρ w := by
  have e : appC 0 (preC 0 p6) (dropC 1 p6) = p6 := by kernel_rfl
  rw [← e]
  exact appQ (fun ρ w => b26 R C8 (ρ 2) (ρ 6) (ρ 7) (ρ 8) (ρ 10) (ρ 43) w) 0 ((b13_eq R C8 ρ w).mp h) (fun ρ w h => k14_ok R C8 ρ w h)
abbrev q15 (R : EP) (C8 : Value → VP) : XP := QX (fun ρ w => b11 R C8 (ρ 8) (ρ 43) w) (fun ρ w => R (.returned (.tuple #[(ρ 4), (ρ 5)])) w) [(0, (fun ρ w => b5 R (ρ 1) (ρ 2) (ρ 6) (ρ 7) (ρ 8) w))]
theorem k12_ok (R : EP) (C8 : Value → VP) (ρ : Env) (w : World) (h : b13 R C8 (ρ 2) (ρ 6) (ρ 7) (ρ 8) (ρ 41) (ρ 43) w) : codeP Try.prog (pan R) (fstC p5) (q15 R C8) ρ w := by
  have e : Code.block 1 (blkC (fstC p5)) = (fstC p5) := by kernel_rfl
  rw [← e]
  exact blockQ (b13_ok R C8 ρ w h)
theorem k10_ok (R : EP) (C8 : Value → VP) (ρ : Env) (w : World) (h : b13 R C8 (ρ 2) (ρ 6) (ρ 7) (ρ 8) (ρ 41) (ρ 43) w) : codeP Try.prog (pan R) p5 (q2 R C8) ρ w := by
  have e : Code.seq (fstC p5) (sndC p5) = p5 := by kernel_rfl
  rw [← e]
  exact seqQ (fun ρ w => b11 R C8 (ρ 8) (ρ 43) w) (k12_ok R C8 ρ w h) (fun ρ w h => b11_ok R C8 ρ w h)

def b9 (R : EP) (C8 : Value → VP) (x1 x2 x6 x7 x8 x41 x42 x43 : Value) (w : World) (_r : Tok R := tok R) (_C8 : Tok C8 := tok C8) : Prop :=
  RUN Try.prog (pan R) (bins .lss 3 (.tmp 43) (.tmp 42) x43 x42) w fun v1 w2 =>
  SPL v1
  (b13 R C8 x2 x6 x7 x8 x41 x43 w2)
  (b5 R x1 x2 x6 x7 x8 w2)
abbrev q16 (R : EP) (C8 : Value → VP) : XP := QX (fun ρ w => b13 R C8 (ρ 2) (ρ 6) (ρ 7) (ρ 8) (ρ 41) (ρ 43) w) (fun ρ w => R (.returned (.tuple #[(ρ 4), (ρ 5)])) w) [(0, (fun ρ w => b5 R (ρ 1) (ρ 2) (ρ 6) (ρ 7) (ρ 8) w))]
theorem b9_eq (R : EP) (C8 : Value → VP) (ρ : Env) (w : World) : (b9 R C8 (ρ 1) (ρ 2) (ρ 6) (ρ 7) (ρ 8) (ρ 41) (ρ 42) (ρ 43) w) = codeP Try.prog (pan R) (preC 1 p4) (q16 R C8) ρ w := by kernel_rfl
theorem b9_ok (R : EP) (C8 : Value → VP) (ρ : Env) (w : World) (h : b9 R C8 (ρ 1) (ρ 2) (ρ 6) (ρ 7) (ρ 8) (ρ 41) (ρ 42) (ρ 43) w) : codeP Try.prog (pan R) p4 (q2 R C8) ρ w := by
  have e : appC 1 (preC 1 p4) (dropC 2 p4) = p4 := by kernel_rfl
  rw [← e]
  exact appQ (fun ρ w => b13 R C8 (ρ 2) (ρ 6) (ρ 7) (ρ 8) (ρ 41) (ρ 43) w) 1 ((b9_eq R C8 ρ w).mp h) (fun ρ w h => k10_ok R C8 ρ w h)

def l8 (R : EP) (x1 x2 x6 x7 x8 x41 x42 x43 : Value) (w : World) (_r : Tok R := tok R) : Prop :=
  ∃ (J : Value → VP) (μ : Value → Value → World → Nat), J x8 x43 w ∧ ∀ y8 y43 w0, J y8 y43 w0 → b9 R (fun z8 z43 w1 => J z8 z43 w1 ∧ μ z8 z43 w1 < μ y8 y43 w0) x1 x2 x6 x7 y8 x41 x42 y43 w0
abbrev q17 (R : EP) : XP := QX (fun ρ w => b5 R (ρ 1) (ρ 2) (ρ 6) (ρ 7) (ρ 8) w) (fun ρ w => R (.returned (.tuple #[(ρ 4), (ρ 5)])) w) [(0, (fun ρ w => b5 R (ρ 1) (ρ 2) (ρ 6) (ρ 7) (ρ 8) w))]
theorem l8_ok (R : EP) (ρ : Env) (w : World) (h : l8 R (ρ 1) (ρ 2) (ρ 6) (ρ 7) (ρ 8) (ρ 41) (ρ 42) (ρ 43) w) : codeP Try.prog (pan R) (blkC p3) (q17 R) ρ w := by
  unfold l8 at h
  obtain ⟨J, μ, h0, hr⟩ := h
  have e : Code.loop (loopC (blkC p3)) = (blkC p3) := by kernel_rfl
  rw [← e]
  refine loopQ (fun ρ' w' => J (ρ' 8) (ρ' 43) w') (fun ρ' w' => μ (ρ' 8) (ρ' 43) w') h0 fun ρ' w' hA hI => ?_
  have e1 : ρ' 1 = ρ 1 := Agree.at hA 1 (by kernel_rfl)
  have e2 : ρ' 2 = ρ 2 := Agree.at hA 2 (by kernel_rfl)
  have e6 : ρ' 6 = ρ 6 := Agree.at hA 6 (by kernel_rfl)
  have e7 : ρ' 7 = ρ 7 := Agree.at hA 7 (by kernel_rfl)
  have e41 : ρ' 41 = ρ 41 := Agree.at hA 41 (by kernel_rfl)
  have e42 : ρ' 42 = ρ 42 := Agree.at hA 42 (by kernel_rfl)
  have h1 := hr (ρ' 8) (ρ' 43) w' hI
  rw [← e1, ← e2, ← e6, ← e7, ← e41, ← e42] at h1
  exact b9_ok R (fun z8 z43 w1 => J z8 z43 w1 ∧ μ z8 z43 w1 < μ (ρ' 8) (ρ' 43) w') ρ' w' h1
theorem l8_intro (R : EP) (x1 x2 x6 x7 x8 x41 x42 x43 : Value) (w : World) (J : Value → VP) (μ : Value → Value → World → Nat) (h0 : J x8 x43 w)
    (hr : ∀ y8 y43 w0, J y8 y43 w0 → ∀ C8 : Value → VP, (∀ z8 z43 w1, J z8 z43 w1 → μ z8 z43 w1 < μ y8 y43 w0 → C8 z8 z43 w1) → b9 R C8 x1 x2 x6 x7 y8 x41 x42 y43 w0) : l8 R x1 x2 x6 x7 x8 x41 x42 x43 w := by
  unfold l8
  exact ⟨J, μ, h0, fun y8 y43 w0 hJ => hr y8 y43 w0 hJ _ (fun z8 z43 w1 h1 h2 => ⟨h1, h2⟩)⟩
abbrev q18 (R : EP) : XP := QX (fun ρ w => b5 R (ρ 1) (ρ 2) (ρ 6) (ρ 7) (ρ 8) w) (fun ρ w => R (.returned (.tuple #[(ρ 4), (ρ 5)])) w) []
theorem k7_ok (R : EP) (ρ : Env) (w : World) (h : l8 R (ρ 1) (ρ 2) (ρ 6) (ρ 7) (ρ 8) (ρ 41) (ρ 42) (ρ 43) w) : codeP Try.prog (pan R) p3 (q18 R) ρ w := by
  have e : Code.block 0 (blkC p3) = p3 := by kernel_rfl
  rw [← e]
  exact blockQ (l8_ok R ρ w h)

def b6 (R : EP) (x1 x2 x6 x7 x8 : Value) (w : World) (_r : Tok R := tok R) : Prop :=
  RUN Try.prog (pan R) (Instr.fieldAt 27 x2 4) w fun v1 w2 =>
  RUN Try.prog (pan R) (Instr.loadAt 25 v1) w2 fun v3 w4 =>
  RUN Try.prog (pan R) (Instr.sliceAt 25 v3 (some x1) none none) w4 fun v5 w6 =>
  RUN Try.prog (pan R) (Builtin.len_ #[25] 3 #[v5]) w6 fun v7 w8 =>
  l8 R x1 x2 x6 x7 x8 v5 v7 (Go.Value.int Go.IntKind.i64 0) w8
abbrev q19 (R : EP) : XP := QX (fun ρ w => l8 R (ρ 1) (ρ 2) (ρ 6) (ρ 7) (ρ 8) (ρ 41) (ρ 42) (ρ 43) w) (fun ρ w => R (.returned (.tuple #[(ρ 4), (ρ 5)])) w) []
theorem b6_eq (R : EP) (ρ : Env) (w : World) : (b6 R (ρ 1) (ρ 2) (ρ 6) (ρ 7) (ρ 8) w) = codeP Try.prog (pan R) (preC 0 (fstC p2)) (q19 R) ρ w := by kernel_rfl
theorem b6_ok (R : EP) (ρ : Env) (w : World) (h : b6 R (ρ 1) (ρ 2) (ρ 6) (ρ 7) (ρ 8) w) : codeP Try.prog (pan R) (fstC p2) (q18 R) ρ w := by
  have e : appC 0 (preC 0 (fstC p2)) (dropC 1 (fstC p2)) = (fstC p2) := by kernel_rfl
  rw [← e]
  exact appQ (fun ρ w => l8 R (ρ 1) (ρ 2) (ρ 6) (ρ 7) (ρ 8) (ρ 41) (ρ 42) (ρ 43) w) 0 ((b6_eq R ρ w).mp h) (fun ρ w h => k7_ok R ρ w h)
theorem k4_ok (R : EP) (ρ : Env) (w : World) (h : b6 R (ρ 1) (ρ 2) (ρ 6) (ρ 7) (ρ 8) w) : codeP Try.prog (pan R) p2 (q1 R) ρ w := by
  have e : Code.seq (fstC p2) (sndC p2) = p2 := by kernel_rfl
  rw [← e]
  exact seqQ (fun ρ w => b5 R (ρ 1) (ρ 2) (ρ 6) (ρ 7) (ρ 8) w) (b6_ok R ρ w h) (fun ρ w h => b5_ok R ρ w h)

def b3 (R : EP) (x1 x2 : Value) (w : World) (_r : Tok R := tok R) : Prop :=
  RUN Try.prog (pan R) (Instr.fieldAt 27 x2 0) w fun v1 w2 =>
  RUN Try.prog (pan R) (Instr.loadAt 22 v1) w2 fun v3 w4 =>
  RUN Try.prog (pan R) (Builtin.len_ #[22] 3 #[v3]) w4 fun v5 w6 =>
  RUN Try.prog (pan R) (Instr.fieldAt 27 x2 1) w6 fun v7 w8 =>
  RUN Try.prog (pan R) (Instr.loadAt 23 v7) w8 fun v9 w10 =>
  RUN Try.prog (pan R) (Builtin.len_ #[23] 3 #[v9]) w10 fun v11 w12 =>
  RUN Try.prog (pan R) (bins .add 3 (.tmp 28) (.tmp 31) v5 v11) w12 fun v13 w14 =>
  RUN Try.prog (pan R) (Instr.fieldAt 27 x2 0) w14 fun v15 w16 =>
  RUN Try.prog (pan R) (Instr.loadAt 22 v15) w16 fun v17 w18 =>
  RUN Try.prog (pan R) (Builtin.len_ #[22] 3 #[v17]) w18 fun v19 w20 =>
  RUN Try.prog (pan R) (bins .add 3 (.tmp 35) (.tmp 36) v19 x1) w20 fun v21 w22 =>
  b6 R x1 x2 v13 v21 (Go.Value.slice Option.none 0 0) w22
abbrev q20 (R : EP) : XP := QX (fun ρ w => b6 R (ρ 1) (ρ 2) (ρ 6) (ρ 7) (ρ 8) w) (fun ρ w => R (.returned (.tuple #[(ρ 4), (ρ 5)])) w) []
theorem b3_eq (R : EP) (ρ : Env) (w : World) : (b3 R (ρ 1) (ρ 2) w) = codeP Try.prog (pan R) (preC 2 (sndC p1)) (q20 R) ρ w := by kernel_rfl
theorem b3_ok (R : EP) (ρ : Env) (w : World) (h : b3 R (ρ 1) (ρ 2) w) : codeP Try.prog (pan R) (sndC p1) (q1 R) ρ w := by
  have e : appC 2 (preC 2 (sndC p1)) (dropC 3 (sndC p1)) = (sndC p1) := by kernel_rfl
  rw [← e]
  exact appQ (fun ρ w => b6 R (ρ 1) (ρ 2) (ρ 6) (ρ 7) (ρ 8) w) 2 ((b3_eq R ρ w).mp h) (fun ρ w h => k4_ok R ρ w h)
noncomputable abbrev p16 : Code := dropC 1 (fstC p1)

def b29 (R : EP) (x1 x2 x25 : Value) (w : World) (_r : Tok R := tok R) : Prop :=
  SPL x25
  (R (.returned (.tuple #[(Go.Value.slice Option.none 0 0), (Go.Value.bool Bool.false)])) w)
  (b3 R x1 x2 w)
abbrev q21 (R : EP) : XP := QX (fun ρ w => b3 R (ρ 1) (ρ 2) w) (fun ρ w => R (.returned (.tuple #[(ρ 4), (ρ 5)])) w) []
theorem b29_eq (R : EP) (ρ : Env) (w : World) : (b29 R (ρ 1) (ρ 2) (ρ 25) w) = codeP Try.prog (pan R) p16 (q21 R) ρ w := by kernel_rfl
theorem b29_ok (R : EP) (ρ : Env) (w : World) (h : b29 R (ρ 1) (ρ 2) (ρ 25) w) : codeP Try.prog (pan R) p16 (q21 R) ρ w := (b29_eq R ρ w).mp h
def b28_1 (R : EP) (x1 x2 : Value) (w8 : World) (_r : Tok R := tok R) : Prop :=
  RUN Try.prog (pan R) (Instr.fieldAt 27 x2 4) w8 fun v9 w10 =>
  RUN Try.prog (pan R) (Instr.loadAt 25 v9) w10 fun v11 w12 =>
  RUN Try.prog (pan R) (Builtin.len_ #[25] 3 #[v11]) w12 fun v13 w14 =>
  RUN Try.prog (pan R) (bins .add 3 (.const (Go.Value.int Go.IntKind.i64 96)) (.tmp 22) (Go.Value.int Go.IntKind.i64 96) x1) w14 fun v15 w16 =>
  RUN Try.prog (pan R) (bins .gtr 3 (.tmp 21) (.tmp 23) v13 v15) w16 fun v17 w18 =>
  b29 R x1 x2 v17 w18

def b28 (R : EP) (x1 x2 : Value) (w : World) (_r : Tok R := tok R) : Prop :=
  RUN Try.prog (pan R) (Instr.fieldAt 27 x2 4) w fun v1 w2 =>
  RUN Try.prog (pan R) (Instr.loadAt 25 v1) w2 fun v3 w4 =>
  RUN Try.prog (pan R) (Builtin.len_ #[25] 3 #[v3]) w4 fun v5 w6 =>
  RUN Try.prog (pan R) (bins .leq 3 (.tmp 15) (.tmp 16) v5 x1) w6 fun v7 w8 =>
  SPL v7
  (b29 R x1 x2 (Go.Value.bool Bool.true) w8)
  (b28_1 R x1 x2 w8)
abbrev q22 (R : EP) : XP := QX (fun ρ w => b29 R (ρ 1) (ρ 2) (ρ 25) w) (fun ρ w => R (.returned (.tuple #[(ρ 4), (ρ 5)])) w) []
theorem b28_eq (R : EP) (ρ : Env) (w : World) : (b28 R (ρ 1) (ρ 2) w) = codeP Try.prog (pan R) (preC 0 (fstC p1)) (q22 R) ρ w := by kernel_rfl
theorem b28_ok (R : EP) (ρ : Env) (w : World) (h : b28 R (ρ 1) (ρ 2) w) : codeP Try.prog (pan R) (fstC p1) (q21 R) ρ w := by
  have e : appC 0 (preC 0 (fstC p1)) (dropC 1 (fstC p1)) = (fstC p1) := by kernel_rfl
  rw [← e]
  exact appQ (fun ρ w => b29 R (ρ 1) (ρ 2) (ρ 25) w) 0 ((b28_eq R ρ w).mp h) (fun ρ w h => b29_ok R ρ w h)
theorem k2_ok (R : EP) (ρ : Env) (w : World) (h : b28 R (ρ 1) (ρ 2) w) : codeP Try.prog (pan R) p1 (q1 R) ρ w := by
  have e : Code.seq (fstC p1) (sndC p1) = p1 := by kernel_rfl
  rw [← e]
  exact seqQ (fun ρ w => b3 R (ρ 1) (ρ 2) w) (b28_ok R ρ w h) (fun ρ w h => b3_ok R ρ w h)

def b1 (R : EP) (x0 x1 : Value) (w : World) (_r : Tok R := tok R) : Prop :=
  RUN Try.prog (pan R) (Instr.box 27 x0) w fun v1 w2 =>
  b28 R x1 v1 w2
abbrev q23 (R : EP) : XP := QX (fun ρ w => b28 R (ρ 1) (ρ 2) w) (fun ρ w => R (.returned (.tuple #[(ρ 4), (ρ 5)])) w) []
theorem b1_eq (R : EP) (ρ : Env) (w : World) : (b1 R (ρ 0) (ρ 1) w) = codeP Try.prog (pan R) (preC 0 code) (q23 R) ρ w := by kernel_rfl
theorem b1_ok (R : EP) (ρ : Env) (w : World) (h : b1 R (ρ 0) (ρ 1) w) : codeP Try.prog (pan R) code (q1 R) ρ w := by
  have e : appC 0 (preC 0 code) (dropC 1 code) = code := by kernel_rfl
  rw [← e]
  exact appQ (fun ρ w => b28 R (ρ 1) (ρ 2) w) 0 ((b1_eq R ρ w).mp h) (fun ρ w h => k2_ok R ρ w h)
/-- What is owed for a call. -/
def run (R : EP) (a0 a1 : Value) (w : World) : Prop := b1 R a0 a1 w
theorem calls (R : EP) (a0 a1 : Value) (w : World) (h : run R a0 a1 w) : Calls Try.prog id #[a0, a1] w R :=
  calls_of_tt (f := id) (fn := Try.f107) (c := code) (by kernel_rfl) Try.func107 (by kernel_rfl) (by kernel_rfl) (args := [a0, a1]) (Nat.le_of_ble_eq_true rfl) rfl (b1_ok R (envOf [a0, a1]) w h)
theorem enters : Enters Try.prog id := fun args w => Try.call107 args w
theorem ct {a0 a1 : Value} {w : World} {S : VP} (h : ∀ R : EP, (∀ v w, S v w → R (.returned v) w) → run R a0 a1 w) : Ct Try.prog id #[a0, a1] w S :=
  Ct.intro enters fun R hR => calls R a0 a1 w (h R hR)
attribute [irreducible] b5_1 b5_2 b5 b11 b16_1 b16 b22 b25 b24_1 b24 b20 l19 b17 b27 b26_1 b26_2 b26_3 b26 b13 b9 l8 b6 b3 b29 b28_1 b28 b1 run
attribute [go_sem] b5_1 b5_2 b5 b11 b16_1 b16 b22 b25 b24_1 b24 b20 b17 b27 b26_1 b26_2 b26_3 b26 b13 b9 b6 b3 b29 b28_1 b28 b1 run
end gram_productions

/-! ### presage/gram.Valid -/
namespace gram_Valid
noncomputable def code : Code := bodyOf Try.f58
def b1_1 (R : EP) (v11 : Value) (w12 : World) (_r : Tok R := tok R) : Prop :=
  RUN Try.prog (pan R) (Instr.extract v11 0) w12 fun v13 w14 =>
  RUN Try.prog (pan R) (Instr.extract v11 1) w14 fun v15 w16 =>
  SPL v15
  (CALL Try.prog (pan R) slices_IsSorted_int_int.id #[v13] w16 fun v17 w18 =>
  R (.returned v17) w18)
  (R (.returned (Go.Value.bool Bool.false)) w16)
def b1_2 (R : EP) (v1 : Value) (w8 : World) (_r : Tok R := tok R) : Prop :=
  RUN Try.prog (pan R) (Instr.loadAt 27 v1) w8 fun v9 w10 =>
  CALL Try.prog (pan R) gram_productions.id #[v9, (Go.Value.int Go.IntKind.i64 0)] w10 fun v11 w12 =>
  b1_1 R v11 w12
def b1 (R : EP) (x0 : Value) (w : World) (_r : Tok R := tok R) : Prop :=
  RUN Try.prog (pan R) (Instr.box 27 x0) w fun v1 w2 =>
  RUN Try.prog (pan R) (Instr.loadAt 27 v1) w2 fun v3 w4 =>
  CALL Try.prog (pan R) gram_symbols.id #[v3, (Go.Value.int Go.IntKind.i64 0)] w4 fun v5 w6 =>
  RUN Try.prog (pan R) (Op.unary .not v5) w6 fun v7 w8 =>
  SPL v7
  (R (.returned (Go.Value.bool Bool.false)) w8)
  (b1_2 R v1 w8)
abbrev q1 (R : EP) : XP := QX (fun ρ w => R (.returned (ρ 2)) w) (fun ρ w => R (.returned (ρ 2)) w) []
theorem b1_eq (R : EP) (ρ : Env) (w : World) : (b1 R (ρ 0) w) = codeP Try.prog (pan R) code (q1 R) ρ w := by kernel_rfl
theorem b1_ok (R : EP) (ρ : Env) (w : World) (h : b1 R (ρ 0) w) : codeP Try.prog (pan R) code (q1 R) ρ w := (b1_eq R ρ w).mp h
/-- What is owed for a call. -/
def run (R : EP) (a0 : Value) (w : World) : Prop := b1 R a0 w
theorem calls (R : EP) (a0 : Value) (w : World) (h : run R a0 w) : Calls Try.prog id #[a0] w R :=
  calls_of_t (f := id) (fn := Try.f58) (c := code) (by kernel_rfl) Try.func58 (by kernel_rfl) (by kernel_rfl) (args := [a0]) (Nat.le_of_ble_eq_true rfl) rfl (b1_ok R (envOf [a0]) w h)
theorem enters : Enters Try.prog id := fun args w => Try.call58 args w
theorem ct {a0 : Value} {w : World} {S : VP} (h : ∀ R : EP, (∀ v w, S v w → R (.returned v) w) → run R a0 w) : Ct Try.prog id #[a0] w S :=
  Ct.intro enters fun R hR => calls R a0 w (h R hR)
attribute [irreducible] b1_1 b1_2 b1 run
attribute [go_sem] b1_1 b1_2 b1 run
end gram_Valid

/-! ### presage/gram.Closed -/
namespace gram_Closed
noncomputable def code : Code := bodyOf Try.f59
noncomputable abbrev p1 : Code := dropC 1 code
def b3_1 (R : EP) (v11 : Value) (w12 : World) (_r : Tok R := tok R) : Prop :=
  PUR Try.prog (Instr.indexAt 25 v11 (Go.Value.int Go.IntKind.i64 0)) fun v33 =>
  PUR Try.prog (Instr.fieldAt 47 v33 2) fun v34 =>
  LD Try.prog (Instr.loadAt 3 v34) (World.drew w12) fun v35 =>
  PUR Try.prog (bins .eql 3 (.tmp 63) (.const (Go.Value.int Go.IntKind.i64 0)) v35 (Go.Value.int Go.IntKind.i64 0)) fun v36 =>
  R (.returned v36) (World.drew w12)
def b3_2 (R : EP) (x1 v11 : Value) (w12 : World) (_r : Tok R := tok R) : Prop :=
  PUR Try.prog (Instr.indexAt 25 v11 (Go.Value.int Go.IntKind.i64 0)) fun v25 =>
  PUR Try.prog (Instr.fieldAt 47 v25 1) fun v26 =>
  LD Try.prog (Instr.loadAt 24 v26) (World.drew w12) fun v27 =>
  PUR Try.prog (Instr.indexAt 24 v27 (Go.Value.int Go.IntKind.i64 0)) fun v28 =>
  LD Try.prog (Instr.loadAt 3 v28) (World.drew w12) fun v29 =>
  PUR Try.prog (Instr.fieldAt 27 x1 3) fun v30 =>
  LD Try.prog (Instr.loadAt 3 v30) (World.drew w12) fun v31 =>
  PUR Try.prog (bins .eql 3 (.tmp 54) (.tmp 56) v29 v31) fun v32 =>
  SPL v32
  (b3_1 R v11 w12)
  (R (.returned (Go.Value.bool Bool.false)) (World.drew w12))
def b3_3 (R : EP) (x1 v11 : Value) (w12 : World) (_r : Tok R := tok R) : Prop :=
  PUR Try.prog (Instr.indexAt 25 v11 (Go.Value.int Go.IntKind.i64 0)) fun v20 =>
  PUR Try.prog (Instr.fieldAt 47 v20 1) fun v21 =>
  LD Try.prog (Instr.loadAt 24 v21) (World.drew w12) fun v22 =>
  LD Try.prog (Builtin.len_ #[24] 3 #[v22]) (World.drew w12) fun v23 =>
  PUR Try.prog (bins .eql 3 (.tmp 45) (.const (Go.Value.int Go.IntKind.i64 1)) v23 (Go.Value.int Go.IntKind.i64 1)) fun v24 =>
  SPL v24
  (b3_2 R x1 v11 w12)
  (R (.returned (Go.Value.bool Bool.false)) (World.drew w12))
def b3_4 (R : EP) (x1 v11 : Value) (w12 : World) (_r : Tok R := tok R) : Prop :=
  PUR Try.prog (Instr.indexAt 25 v11 (Go.Value.int Go.IntKind.i64 0)) fun v13 =>
  PUR Try.prog (Instr.fieldAt 47 v13 0) fun v14 =>
  LD Try.prog (Instr.loadAt 3 v14) (World.drew w12) fun v15 =>
  PUR Try.prog (Instr.fieldAt 27 x1 0) fun v16 =>
  LD Try.prog (Instr.loadAt 22 v16) (World.drew w12) fun v17 =>
  LD Try.prog (Builtin.len_ #[22] 3 #[v17]) (World.drew w12) fun v18 =>
  PUR Try.prog (bins .eql 3 (.tmp 34) (.tmp 37) v15 v18) fun v19 =>
  SPL v19
  (b3_3 R x1 v11 w12)
  (R (.returned (Go.Value.bool Bool.false)) (World.drew w12))
def b3_5 (R : EP) (x1 v3 : Value) (w4 : World) (_r : Tok R := tok R) : Prop :=
  RUN Try.prog (pan R) (Instr.extract v3 0) w4 fun v5 w6 =>
  RUN Try.prog (pan R) (Instr.extract v3 1) w6 fun v7 w8 =>
  RUN Try.prog (pan R) (Instr.fieldAt 27 x1 4) w8 fun v9 w10 =>
  RUN Try.prog (pan R) (Instr.loadAt 25 v9) w10 fun v11 w12 =>
  SPL v7
  (b3_4 R x1 v11 w12)
  (R (.returned (Go.Value.bool Bool.false)) (World.drew w12))

def b3 (R : EP) (x1 : Value) (w : World) (_r : Tok R := tok R) : Prop :=
  RUN Try.prog (pan R) (Instr.loadAt 27 x1) w fun v1 w2 =>
  CALL Try.prog (pan R) gram_productions.id #[v1, (Go.Value.int Go.IntKind.i64 1)] w2 fun v3 w4 =>
  b3_5 R x1 v3 w4
abbrev q1 (R : EP) : XP := QX (fun ρ w => R (.returned (ρ 2)) w) (fun ρ w => R (.returned (ρ 2)) w) []
theorem b3_eq (R : EP) (ρ : Env) (w : World) : (b3 R (ρ 1) w) = codeP Try.prog (pan R) (sndC p1) (q1 R) ρ w := by kernel_rfl
theorem b3_ok (R : EP) (ρ : Env) (w : World) (h : b3 R (ρ 1) w) : codeP Try.prog (pan R) (sndC p1) (q1 R) ρ w := (b3_eq R ρ w).mp h
noncomputable abbrev p2 : Code := dropC 1 (fstC p1)

def b5 (R : EP) (x1 x21 : Value) (w : World) (_r : Tok R := tok R) : Prop :=
  SPL x21
  (R (.returned (Go.Value.bool Bool.false)) w)
  (b3 R x1 w)
abbrev q2 (R : EP) : XP := QX (fun ρ w => b3 R (ρ 1) w) (fun ρ w => R (.returned (ρ 2)) w) []
theorem b5_eq (R : EP) (ρ : Env) (w : World) : (b5 R (ρ 1) (ρ 21) w) = codeP Try.prog (pan R) p2 (q2 R) ρ w := by kernel_rfl
theorem b5_ok (R : EP) (ρ : Env) (w : World) (h : b5 R (ρ 1) (ρ 21) w) : codeP Try.prog (pan R) p2 (q2 R) ρ w := (b5_eq R ρ w).mp h
def b4_1 (R : EP) (x1 : Value) (w18 : World) (_r : Tok R := tok R) : Prop :=
  RUN Try.prog (pan R) (Instr.loadAt 27 x1) w18 fun v19 w20 =>
  CALL Try.prog (pan R) gram_symbols.id #[v19, (Go.Value.int Go.IntKind.i64 1)] w20 fun v21 w22 =>
  RUN Try.prog (pan R) (Op.unary .not v21) w22 fun v23 w24 =>
  b5 R x1 v23 w24
def b4_2 (R : EP) (x1 : Value) (w8 : World) (_r : Tok R := tok R) : Prop :=
  RUN Try.prog (pan R) (Instr.fieldAt 27 x1 1) w8 fun v9 w10 =>
  RUN Try.prog (pan R) (Instr.loadAt 23 v9) w10 fun v11 w12 =>
  RUN Try.prog (pan R) (Instr.indexAt 23 v11 (Go.Value.int Go.IntKind.i64 0)) w12 fun v13 w14 =>
  RUN Try.prog (pan R) (Instr.loadAt 9 v13) w14 fun v15 w16 =>
  RUN Try.prog (pan R) (bins .neq 9 (.tmp 14) (.const (Go.Value.string { data := #[] })) v15 (Go.Value.string { data := #[] })) w16 fun v17 w18 =>
  SPL v17
  (b5 R x1 (Go.Value.bool Bool.true) w18)
  (b4_1 R x1 w18)

def b4 (R : EP) (x1 : Value) (w : World) (_r : Tok R := tok R) : Prop :=
  RUN Try.prog (pan R) (Instr.fieldAt 27 x1 1) w fun v1 w2 =>
  RUN Try.prog (pan R) (Instr.loadAt 23 v1) w2 fun v3 w4 =>
  RUN Try.prog (pan R) (Builtin.len_ #[23] 3 #[v3]) w4 fun v5 w6 =>
  RUN Try.prog (pan R) (bins .eql 3 (.tmp 8) (.const (Go.Value.int Go.IntKind.i64 0)) v5 (Go.Value.int Go.IntKind.i64 0)) w6 fun v7 w8 =>
  SPL v7
  (b5 R x1 (Go.Value.bool Bool.true) w8)
  (b4_2 R x1 w8)
abbrev q3 (R : EP) : XP := QX (fun ρ w => b5 R (ρ 1) (ρ 21) w) (fun ρ w => R (.returned (ρ 2)) w) []
theorem b4_eq (R : EP) (ρ : Env) (w : World) : (b4 R (ρ 1) w) = codeP Try.prog (pan R) (preC 0 (fstC p1)) (q3 R) ρ w := by kernel_rfl
theorem b4_ok (R : EP) (ρ : Env) (w : World) (h : b4 R (ρ 1) w) : codeP Try.prog (pan R) (fstC p1) (q2 R) ρ w := by
  have e : appC 0 (preC 0 (fstC p1)) (dropC 1 (fstC p1)) = (fstC p1) := by kernel_rfl
  rw [← e]
  exact appQ (fun ρ w => b5 R (ρ 1) (ρ 21) w) 0 ((b4_eq R ρ w).mp h) (fun ρ w h => b5_ok R ρ w h)
theorem k2_ok (R : EP) (ρ : Env) (w : World) (h : b4 R (ρ 1) w) : codeP Try.prog (pan R) p1 (q1 R) ρ w := by
  have e : Code.seq (fstC p1) (sndC p1) = p1 := by kernel_rfl
  rw [← e]
  exact seqQ (fun ρ w => b3 R (ρ 1) w) (b4_ok R ρ w h) (fun ρ w h => b3_ok R ρ w h)

def b1 (R : EP) (x0 : Value) (w : World) (_r : Tok R := tok R) : Prop :=
  RUN Try.prog (pan R) (Instr.box 27 x0) w fun v1 w2 =>
  b4 R v1 w2
abbrev q4 (R : EP) : XP := QX (fun ρ w => b4 R (ρ 1) w) (fun ρ w => R (.returned (ρ 2)) w) []
theorem b1_eq (R : EP) (ρ : Env) (w : World) : (b1 R (ρ 0) w) = codeP Try.prog (pan R) (preC 0 code) (q4 R) ρ w := by kernel_rfl
theorem b1_ok (R : EP) (ρ : Env) (w : World) (h : b1 R (ρ 0) w) : codeP Try.prog (pan R) code (q1 R) ρ w := by
  have e : appC 0 (preC 0 code) (dropC 1 code) = code := by kernel_rfl
  rw [← e]
  exact appQ (fun ρ w => b4 R (ρ 1) w) 0 ((b1_eq R ρ w).mp h) (fun ρ w h => k2_ok R ρ w h)
/-- What is owed for a call. -/
def run (R : EP) (a0 : Value) (w : World) : Prop := b1 R a0 w
theorem calls (R : EP) (a0 : Value) (w : World) (h : run R a0 w) : Calls Try.prog id #[a0] w R :=
  calls_of_t (f := id) (fn := Try.f59) (c := code) (by kernel_rfl) Try.func59 (by kernel_rfl) (by kernel_rfl) (args := [a0]) (Nat.le_of_ble_eq_true rfl) rfl (b1_ok R (envOf [a0]) w h)
theorem enters : Enters Try.prog id := fun args w => Try.call59 args w
theorem ct {a0 : Value} {w : World} {S : VP} (h : ∀ R : EP, (∀ v w, S v w → R (.returned v) w) → run R a0 w) : Ct Try.prog id #[a0] w S :=
  Ct.intro enters fun R hR => calls R a0 w (h R hR)
attribute [irreducible] b3_1 b3_2 b3_3 b3_4 b3_5 b3 b5 b4_1 b4_2 b4 b1 run
attribute [go_sem] b3_1 b3_2 b3_3 b3_4 b3_5 b3 b5 b4_1 b4_2 b4 b1 run
end gram_Closed

/-! ### presage/gram.Same -/
namespace gram_Same
noncomputable def code : Code := bodyOf Try.f61
def b1_1 (R : EP) (v1 v3 : Value) (w44 : World) (_r : Tok R := tok R) : Prop :=
  RUN Try.prog (pan R) (Instr.fieldAt 27 v1 4) w44 fun v45 w46 =>
  RUN Try.prog (pan R) (Instr.loadAt 25 v45) w46 fun v47 w48 =>
  RUN Try.prog (pan R) (Instr.fieldAt 27 v3 4) w48 fun v49 w50 =>
  RUN Try.prog (pan R) (Instr.loadAt 25 v49) w50 fun v51 w52 =>
  CALL Try.prog (pan R) slices_EqualFunc_api_Prod_api_Prod_api_Prod_api_Prod.id #[v47, v51, (Go.Value.func (.func gram_Same_1.id) #[] #[])] w52 fun v53 w54 =>
  R (.returned v53) w54
def b1_2 (R : EP) (v1 v3 : Value) (w34 : World) (_r : Tok R := tok R) : Prop :=
  RUN Try.prog (pan R) (Instr.fieldAt 27 v1 2) w34 fun v35 w36 =>
  RUN Try.prog (pan R) (Instr.loadAt 24 v35) w36 fun v37 w38 =>
  RUN Try.prog (pan R) (Instr.fieldAt 27 v3 2) w38 fun v39 w40 =>
  RUN Try.prog (pan R) (Instr.loadAt 24 v39) w40 fun v41 w42 =>
  CALL Try.prog (pan R) slices_Equal_int_int.id #[v37, v41] w42 fun v43 w44 =>
  SPL v43
  (b1_1 R v1 v3 w44)
  (R (.returned (Go.Value.bool Bool.false)) w44)
def b1_3 (R : EP) (v1 v3 : Value) (w24 : World) (_r : Tok R := tok R) : Prop :=
  RUN Try.prog (pan R) (Instr.fieldAt 27 v1 1) w24 fun v25 w26 =>
  RUN Try.prog (pan R) (Instr.loadAt 23 v25) w26 fun v27 w28 =>
  RUN Try.prog (pan R) (Instr.fieldAt 27 v3 1) w28 fun v29 w30 =>
  RUN Try.prog (pan R) (Instr.loadAt 23 v29) w30 fun v31 w32 =>
  CALL Try.prog (pan R) slices_Equal_string_string.id #[v27, v31] w32 fun v33 w34 =>
  SPL v33
  (b1_2 R v1 v3 w34)
  (R (.returned (Go.Value.bool Bool.false)) w34)
def b1_4 (R : EP) (v1 v3 : Value) (w14 : World) (_r : Tok R := tok R) : Prop :=
  RUN Try.prog (pan R) (Instr.fieldAt 27 v1 0) w14 fun v15 w16 =>
  RUN Try.prog (pan R) (Instr.loadAt 22 v15) w16 fun v17 w18 =>
  RUN Try.prog (pan R) (Instr.fieldAt 27 v3 0) w18 fun v19 w20 =>
  RUN Try.prog (pan R) (Instr.loadAt 22 v19) w20 fun v21 w22 =>
  CALL Try.prog (pan R) slices_Equal_api_Term_api_Term.id #[v17, v21] w22 fun v23 w24 =>
  SPL v23
  (b1_3 R v1 v3 w24)
  (R (.returned (Go.Value.bool Bool.false)) w24)
def b1 (R : EP) (x0 x1 : Value) (w : World) (_r : Tok R := tok R) : Prop :=
  RUN Try.prog (pan R) (Instr.box 27 x0) w fun v1 w2 =>
  RUN Try.prog (pan R) (Instr.box 27 x1) w2 fun v3 w4 =>
  RUN Try.prog (pan R) (Instr.fieldAt 27 v1 3) w4 fun v5 w6 =>
  RUN Try.prog (pan R) (Instr.loadAt 3 v5) w6 fun v7 w8 =>
  RUN Try.prog (pan R) (Instr.fieldAt 27 v3 3) w8 fun v9 w10 =>
  RUN Try.prog (pan R) (Instr.loadAt 3 v9) w10 fun v11 w12 =>
  RUN Try.prog (pan R) (bins .eql 3 (.tmp 7) (.tmp 9) v7 v11) w12 fun v13 w14 =>
  SPL v13
  (b1_4 R v1 v3 w14)
  (R (.returned (Go.Value.bool Bool.false)) w14)
abbrev q1 (R : EP) : XP := QX (fun ρ w => R (.returned (ρ 4)) w) (fun ρ w => R (.returned (ρ 4)) w) []
theorem b1_eq (R : EP) (ρ : Env) (w : World) : (b1 R (ρ 0) (ρ 1) w) = codeP Try.prog (pan R) code (q1 R) ρ w := by kernel_rfl
theorem b1_ok (R : EP) (ρ : Env) (w : World) (h : b1 R (ρ 0) (ρ 1) w) : codeP Try.prog (pan R) code (q1 R) ρ w := (b1_eq R ρ w).mp h
/-- What is owed for a call. -/
def run (R : EP) (a0 a1 : Value) (w : World) : Prop := b1 R a0 a1 w
theorem calls (R : EP) (a0 a1 : Value) (w : World) (h : run R a0 a1 w) : Calls Try.prog id #[a0, a1] w R :=
  calls_of_t (f := id) (fn := Try.f61) (c := code) (by kernel_rfl) Try.func61 (by kernel_rfl) (by kernel_rfl) (args := [a0, a1]) (Nat.le_of_ble_eq_true rfl) rfl (b1_ok R (envOf [a0, a1]) w h)
theorem enters : Enters Try.prog id := fun args w => Try.call61 args w
theorem ct {a0 a1 : Value} {w : World} {S : VP} (h : ∀ R : EP, (∀ v w, S v w → R (.returned v) w) → run R a0 a1 w) : Ct Try.prog id #[a0, a1] w S :=
  Ct.intro enters fun R hR => calls R a0 a1 w (h R hR)
attribute [irreducible] b1_1 b1_2 b1_3 b1_4 b1 run
attribute [go_sem] b1_1 b1_2 b1_3 b1_4 b1 run
end gram_Same

/-! ### presage/gram.Same$1 -/
namespace gram_Same_1
noncomputable def code : Code := bodyOf Try.f114
def b1_1 (R : EP) (v1 v3 : Value) (w24 : World) (_r : Tok R := tok R) : Prop :=
  RUN Try.prog (pan R) (Instr.fieldAt 47 v1 1) w24 fun v25 w26 =>
  RUN Try.prog (pan R) (Instr.loadAt 24 v25) w26 fun v27 w28 =>
  RUN Try.prog (pan R) (Instr.fieldAt 47 v3 1) w28 fun v29 w30 =>
  RUN Try.prog (pan R) (Instr.loadAt 24 v29) w30 fun v31 w32 =>
  CALL Try.prog (pan R) slices_Equal_int_int.id #[v27, v31] w32 fun v33 w34 =>
  R (.returned v33) w34
def b1_2 (R : EP) (v1 v3 : Value) (w14 : World) (_r : Tok R := tok R) : Prop :=
  RUN Try.prog (pan R) (Instr.fieldAt 47 v1 2) w14 fun v15 w16 =>
  RUN Try.prog (pan R) (Instr.loadAt 3 v15) w16 fun v17 w18 =>
  RUN Try.prog (pan R) (Instr.fieldAt 47 v3 2) w18 fun v19 w20 =>
  RUN Try.prog (pan R) (Instr.loadAt 3 v19) w20 fun v21 w22 =>
  RUN Try.prog (pan R) (bins .eql 3 (.tmp 12) (.tmp 14) v17 v21) w22 fun v23 w24 =>
  SPL v23
  (b1_1 R v1 v3 w24)
  (R (.returned (Go.Value.bool Bool.false)) w24)
def b1 (R : EP) (x0 x1 : Value) (w : World) (_r : Tok R := tok R) : Prop :=
  RUN Try.prog (pan R) (Instr.box 47 x0) w fun v1 w2 =>
  RUN Try.prog (pan R) (Instr.box 47 x1) w2 fun v3 w4 =>
  RUN Try.prog (pan R) (Instr.fieldAt 47 v1 0) w4 fun v5 w6 =>
  RUN Try.prog (pan R) (Instr.loadAt 3 v5) w6 fun v7 w8 =>
  RUN Try.prog (pan R) (Instr.fieldAt 47 v3 0) w8 fun v9 w10 =>
  RUN Try.prog (pan R) (Instr.loadAt 3 v9) w10 fun v11 w12 =>
  RUN Try.prog (pan R) (bins .eql 3 (.tmp 6) (.tmp 8) v7 v11) w12 fun v13 w14 =>
  SPL v13
  (b1_2 R v1 v3 w14)
  (R (.returned (Go.Value.bool Bool.false)) w14)
abbrev q1 (R : EP) : XP := QX (fun ρ w => R (.returned (ρ 4)) w) (fun ρ w => R (.returned (ρ 4)) w) []
theorem b1_eq (R : EP) (ρ : Env) (w : World) : (b1 R (ρ 0) (ρ 1) w) = codeP Try.prog (pan R) code (q1 R) ρ w := by kernel_rfl
theorem b1_ok (R : EP) (ρ : Env) (w : World) (h : b1 R (ρ 0) (ρ 1) w) : codeP Try.prog (pan R) code (q1 R) ρ w := (b1_eq R ρ w).mp h
/-- What is owed for a call. -/
def run (R : EP) (a0 a1 : Value) (w : World) : Prop := b1 R a0 a1 w
theorem calls (R : EP) (a0 a1 : Value) (w : World) (h : run R a0 a1 w) : Calls Try.prog id #[a0, a1] w R :=
  calls_of_t (f := id) (fn := Try.f114) (c := code) (by kernel_rfl) Try.func114 (by kernel_rfl) (by kernel_rfl) (args := [a0, a1]) (Nat.le_of_ble_eq_true rfl) rfl (b1_ok R (envOf [a0, a1]) w h)
theorem enters : Enters Try.prog id := fun args w => Try.call114 args w
theorem ct {a0 a1 : Value} {w : World} {S : VP} (h : ∀ R : EP, (∀ v w, S v w → R (.returned v) w) → run R a0 a1 w) : Ct Try.prog id #[a0, a1] w S :=
  Ct.intro enters fun R hR => calls R a0 a1 w (h R hR)
attribute [irreducible] b1_1 b1_2 b1 run
attribute [go_sem] b1_1 b1_2 b1 run
end gram_Same_1

/-! ### presage/gram.Copy -/
namespace gram_Copy
noncomputable def code : Code := bodyOf Try.f60
noncomputable abbrev p1 : Code := dropC 2 code
def b3 (R : EP) (x2 x3 : Value) (w : World) (_r : Tok R := tok R) : Prop :=
  RUN Try.prog (pan R) (Instr.loadAt 27 x3) w fun v1 w2 =>
  RUNU Try.prog (pan R) (Instr.storeAt 27 x2 v1) w2 fun w3 =>
  LD Try.prog (Instr.loadAt 27 x2) w3 fun r0 => R (.returned r0) w3
abbrev q1 (R : EP) : XP := QX (fun ρ w => LD Try.prog (Instr.loadAt 27 (ρ 2)) w fun r0 => R (.returned r0) w) (fun ρ w => LD Try.prog (Instr.loadAt 27 (ρ 2)) w fun r0 => R (.returned r0) w) []
theorem b3_eq (R : EP) (ρ : Env) (w : World) : (b3 R (ρ 2) (ρ 3) w) = codeP Try.prog (pan R) (sndC p1) (q1 R) ρ w := by kernel_rfl
theorem b3_ok (R : EP) (ρ : Env) (w : World) (h : b3 R (ρ 2) (ρ 3) w) : codeP Try.prog (pan R) (sndC p1) (q1 R) ρ w := (b3_eq R ρ w).mp h
noncomputable abbrev p2 : Code := dropC 1 (fstC p1)
noncomputable abbrev p3 : Code := loopC (blkC p2)
def b7_1 (R : EP) (C6 : VP) (x3 x24 v7 v16 : Value) (w17 : World) (_r : Tok R := tok R) (_C6 : Tok C6 := tok C6) : Prop :=
  RUN Try.prog (pan R) (Instr.fieldAt 47 v7 1) w17 fun v18 w19 =>
  RUNU Try.prog (pan R) (Instr.storeAt 24 v18 v16) w19 fun w20 =>
  RUN Try.prog (pan R) (Instr.fieldAt 27 x3 4) w20 fun v21 w22 =>
  RUN Try.prog (pan R) (Instr.loadAt 25 v21) w22 fun v23 w24 =>
  RUN Try.prog (pan R) (Instr.loadAt 47 v7) w24 fun v25 w26 =>
  RUN Try.prog (pan R) (Instr.buildSlice 25 1 #[(0, v25)]) w26 fun v27 w28 =>
  RUN Try.prog (pan R) (Builtin.append_ #[25, 25] 25 #[v23, v27]) w28 fun v29 w30 =>
  RUN Try.prog (pan R) (Instr.fieldAt 27 x3 4) w30 fun v31 w32 =>
  RUNU Try.prog (pan R) (Instr.storeAt 25 v31 v29) w32 fun w33 =>
  RUN Try.prog (pan R) (bins .add 3 (.tmp 24) (.const (Go.Value.int Go.IntKind.i64 1)) x24 (Go.Value.int Go.IntKind.i64 1)) w33 fun v34 w35 =>
  C6 v34 w35
def b7_2 (R : EP) (C6 : VP) (x3 x22 x24 : Value) (w2 : World) (_r : Tok R := tok R) (_C6 : Tok C6 := tok C6) : Prop :=
  RUN Try.prog (pan R) (Instr.indexAt 25 x22 x24) w2 fun v3 w4 =>
  RUN Try.prog (pan R) (Instr.loadAt 47 v3) w4 fun v5 w6 =>
  RUN Try.prog (pan R) (Instr.alloc 47 true (.tuple #[])) w6 fun v7 w8 =>
  RUNU Try.prog (pan R) (Instr.storeAt 47 v7 v5) w8 fun w9 =>
  RUN Try.prog (pan R) (Instr.fieldAt 47 v7 1) w9 fun v10 w11 =>
  RUN Try.prog (pan R) (Instr.loadAt 24 v10) w11 fun v12 w13 =>
  CALL Try.prog (pan R) slices_Clone_int_int.id #[v12] w13 fun v14 w15 =>
  CALL Try.prog (pan R) slices_Clip_int_int.id #[v14] w15 fun v16 w17 =>
  b7_1 R C6 x3 x24 v7 v16 w17
def b7 (R : EP) (C6 : VP) (x2 x3 x22 x23 x24 : Value) (w : World) (_r : Tok R := tok R) (_C6 : Tok C6 := tok C6) : Prop :=
  RUN Try.prog (pan R) (bins .lss 3 (.tmp 24) (.tmp 23) x24 x23) w fun v1 w2 =>
  SPL v1
  (b7_2 R C6 x3 x22 x24 w2)
  (b3 R x2 x3 w2)
abbrev q2 (R : EP) (C6 : VP) : XP := QX (fun ρ w => C6 (ρ 24) w) (fun ρ w => LD Try.prog (Instr.loadAt 27 (ρ 2)) w fun r0 => R (.returned r0) w) [(0, (fun ρ w => b3 R (ρ 2) (ρ 3) w))]
theorem b7_eq (R : EP) (C6 : VP) (ρ : Env) (w : World) : (b7 R C6 (ρ 2) (ρ 3) (ρ 22) (ρ 23) (ρ 24) w) = codeP Try.prog (pan R) p3 (q2 R C6) ρ w := by kernel_rfl
theorem b7_ok (R : EP) (C6 : VP) (ρ : Env) (w : World) (h : b7 R C6 (ρ 2) (ρ 3) (ρ 22) (ρ 23) (ρ 24) w) : codeP Try.prog (pan R) p3 (q2 R C6) ρ w := (b7_eq R C6 ρ w).mp h
def l6 (R : EP) (x2 x3 x22 x23 x24 : Value) (w : World) (_r : Tok R := tok R) : Prop :=
  ∃ (J : VP) (μ : Value → World → Nat), J x24 w ∧ ∀ y24 w0, J y24 w0 → b7 R (fun z24 w1 => J z24 w1 ∧ μ z24 w1 < μ y24 w0) x2 x3 x22 x23 y24 w0
abbrev q3 (R : EP) : XP := QX (fun ρ w => b3 R (ρ 2) (ρ 3) w) (fun ρ w => LD Try.prog (Instr.loadAt 27 (ρ 2)) w fun r0 => R (.returned r0) w) [(0, (fun ρ w => b3 R (ρ 2) (ρ 3) w))]
theorem l6_ok (R : EP) (ρ : Env) (w : World) (h : l6 R (ρ 2) (ρ 3) (ρ 22) (ρ 23) (ρ 24) w) : codeP Try.prog (pan R) (blkC p2) (q3 R) ρ w := by
  unfold l6 at h
  obtain ⟨J, μ, h0, hr⟩ := h
  have e : Code.loop (loopC (blkC p2)) = (blkC p2) := by kernel_rfl
  rw [← e]
  refine loopQ (fun ρ' w' => J (ρ' 24) w') (fun ρ' w' => μ (ρ' 24) w') h0 fun ρ' w' hA hI => ?_
  have e2 : ρ' 2 = ρ 2 := Agree.at hA 2 (by kernel_rfl)
  have e3 : ρ' 3 = ρ 3 := Agree.at hA 3 (by kernel_rfl)
  have e22 : ρ' 22 = ρ 22 := Agree.at hA 22 (by kernel_rfl)
  have e23 : ρ' 23 = ρ 23 := Agree.at hA 23 (by kernel_rfl)
  have h1 := hr (ρ' 24) w' hI
  rw [← e2, ← e3, ← e22, ← e23] at h1
  exact b7_ok R (fun z24 w1 => J z24 w1 ∧ μ z24 w1 < μ (ρ' 24) w') ρ' w' h1
theorem l6_intro (R : EP) (x2 x3 x22 x23 x24 : Value) (w : World) (J : VP) (μ : Value → World → Nat) (h0 : J x24 w)
    (hr : ∀ y24 w0, J y24 w0 → ∀ C6 : VP, (∀ z24 w1, J z24 w1 → μ z24 w1 < μ y24 w0 → C6 z24 w1) → b7 R C6 x2 x3 x22 x23 y24 w0) : l6 R x2 x3 x22 x23 x24 w := by
  unfold l6
  exact ⟨J, μ, h0, fun y24 w0 hJ => hr y24 w0 hJ _ (fun z24 w1 h1 h2 => ⟨h1, h2⟩)⟩
abbrev q4 (R : EP) : XP := QX (fun ρ w => b3 R (ρ 2) (ρ 3) w) (fun ρ w => LD Try.prog (Instr.loadAt 27 (ρ 2)) w fun r0 => R (.returned r0) w) []
theorem k5_ok (R : EP) (ρ : Env) (w : World) (h : l6 R (ρ 2) (ρ 3) (ρ 22) (ρ 23) (ρ 24) w) : codeP Try.prog (pan R) p2 (q4 R) ρ w := by
  have e : Code.block 0 (blkC p2) = p2 := by kernel_rfl
  rw [← e]
  exact blockQ (l6_ok R ρ w h)
def b4 (R : EP) (x1 x2 x3 : Value) (w : World) (_r : Tok R := tok R) : Prop :=
  RUN Try.prog (pan R) (Instr.fieldAt 27 x1 4) w fun v1 w2 =>
  RUN Try.prog (pan R) (Instr.loadAt 25 v1) w2 fun v3 w4 =>
  RUN Try.prog (pan R) (Builtin.len_ #[25] 3 #[v3]) w4 fun v5 w6 =>
  l6 R x2 x3 v3 v5 (Go.Value.int Go.IntKind.i64 0) w6
abbrev q5 (R : EP) : XP := QX (fun ρ w => l6 R (ρ 2) (ρ 3) (ρ 22) (ρ 23) (ρ 24) w) (fun ρ w => LD Try.prog (Instr.loadAt 27 (ρ 2)) w fun r0 => R (.returned r0) w) []
theorem b4_eq (R : EP) (ρ : Env) (w : World) : (b4 R (ρ 1) (ρ 2) (ρ 3) w) = codeP Try.prog (pan R) (preC 0 (fstC p1)) (q5 R) ρ w := by kernel_rfl
theorem b4_ok (R : EP) (ρ : Env) (w : World) (h : b4 R (ρ 1) (ρ 2) (ρ 3) w) : codeP Try.prog (pan R) (fstC p1) (q4 R) ρ w := by
  have e : appC 0 (preC 0 (fstC p1)) (dropC 1 (fstC p1)) = (fstC p1) := by kernel_rfl
  rw [← e]
  exact appQ (fun ρ w => l6 R (ρ 2) (ρ 3) (ρ 22) (ρ 23) (ρ 24) w) 0 ((b4_eq R ρ w).mp h) (fun ρ w h => k5_ok R ρ w h)
theorem k2_ok (R : EP) (ρ : Env) (w : World) (h : b4 R (ρ 1) (ρ 2) (ρ 3) w) : codeP Try.prog (pan R) p1 (q1 R) ρ w := by
  have e : Code.seq (fstC p1) (sndC p1) = p1 := by kernel_rfl
  rw [← e]
  exact seqQ (fun ρ w => b3 R (ρ 2) (ρ 3) w) (b4_ok R ρ w h) (fun ρ w h => b3_ok R ρ w h)
def b1_1 (R : EP) (v1 v3 v11 v12 v15 v19 v23 : Value) (w24 : World) (_r : Tok R := tok R) : Prop :=
  Sem.run Try.prog (Instr.loadAt 3 v11) w24 = .ok v12 w24 ∧ (PUR Try.prog (Instr.build 27 #[(0, v15), (1, v19), (2, v23), (3, v12)]) fun v25 =>
  RUN Try.prog (pan R) (Instr.alloc 27 true (.tuple #[])) w24 fun v26 w27 =>
  Sem.run Try.prog (Instr.loadAt 3 v11) w27 = .ok v12 w27 ∧ (RUNU Try.prog (pan R) (Instr.storeAt 27 v26 v25) w27 fun w28 =>
  b4 R v1 v3 v26 w28))
def b1_2 (R : EP) (v1 v3 v11 v12 v15 v19 v29 v31 : Value) (w32 : World) (_r : Tok R := tok R) : Prop :=
  Sem.run Try.prog (Instr.loadAt 3 v11) w32 = .ok v12 w32 ∧ (PUR Try.prog (Instr.build 27 #[(0, v15), (1, v19), (2, v31), (3, v12)]) fun v33 =>
  RUNU Try.prog (pan R) (Instr.storeAt 27 v29 v33) w32 fun w34 =>
  b4 R v1 v3 v29 w34)
def b1_3 (R : EP) (v1 v3 v11 v12 v15 v19 v21 : Value) (w22 : World) (_r : Tok R := tok R) : Prop :=
  Sem.run Try.prog (Instr.loadAt 3 v11) w22 = .ok v12 w22 ∧ ((CALL Try.prog (pan R) slices_Clip_int_int.id #[v21] w22 fun v23 w24 =>
  b1_1 R v1 v3 v11 v12 v15 v19 v23 w24) ∧
  (RUN Try.prog (pan R) (Instr.alloc 27 true (.tuple #[])) w22 fun v29 w30 =>
  Sem.run Try.prog (Instr.loadAt 3 v11) w30 = .ok v12 w30 ∧ (CALL Try.prog (pan R) slices_Clip_int_int.id #[v21] w30 fun v31 w32 =>
  b1_2 R v1 v3 v11 v12 v15 v19 v29 v31 w32)))
def b1_4 (R : EP) (v1 v3 v11 v12 v15 v19 v35 v39 : Value) (w40 : World) (_r : Tok R := tok R) : Prop :=
  Sem.run Try.prog (Instr.loadAt 3 v11) w40 = .ok v12 w40 ∧ (PUR Try.prog (Instr.build 27 #[(0, v15), (1, v19), (2, v39), (3, v12)]) fun v41 =>
  RUNU Try.prog (pan R) (Instr.storeAt 27 v35 v41) w40 fun w42 =>
  b4 R v1 v3 v35 w42)
def b1_5 (R : EP) (v1 v3 v9 v10 v11 v12 v15 v19 : Value) (w20 : World) (_r : Tok R := tok R) : Prop :=
  Sem.run Try.prog (Instr.loadAt 3 v11) w20 = .ok v12 w20 ∧ (Sem.run Try.prog (Instr.loadAt 24 v9) w20 = .ok v10 w20 ∧ ((CALL Try.prog (pan R) slices_Clone_int_int.id #[v10] w20 fun v21 w22 =>
  b1_3 R v1 v3 v11 v12 v15 v19 v21 w22) ∧
  (RUN Try.prog (pan R) (Instr.alloc 27 true (.tuple #[])) w20 fun v35 w36 =>
  Sem.run Try.prog (Instr.loadAt 3 v11) w36 = .ok v12 w36 ∧ (Sem.run Try.prog (Instr.loadAt 24 v9) w36 = .ok v10 w36 ∧ (CALL Try.prog (pan R) slices_Clone_int_int.id #[v10] w36 fun v37 w38 =>
  Sem.run Try.prog (Instr.loadAt 3 v11) w38 = .ok v12 w38 ∧ (CALL Try.prog (pan R) slices_Clip_int_int.id #[v37] w38 fun v39 w40 =>
  b1_4 R v1 v3 v11 v12 v15 v19 v35 v39 w40))))))
def b1_6 (R : EP) (v1 v3 v11 v12 v15 v43 v45 v49 : Value) (w50 : World) (_r : Tok R := tok R) : Prop :=
  Sem.run Try.prog (Instr.loadAt 3 v11) w50 = .ok v12 w50 ∧ (PUR Try.prog (Instr.build 27 #[(0, v15), (1, v45), (2, v49), (3, v12)]) fun v51 =>
  RUNU Try.prog (pan R) (Instr.storeAt 27 v43 v51) w50 fun w52 =>
  b4 R v1 v3 v43 w52)
def b1_7 (R : EP) (v1 v3 v9 v10 v11 v12 v15 v43 v45 : Value) (w46 : World) (_r : Tok R := tok R) : Prop :=
  Sem.run Try.prog (Instr.loadAt 3 v11) w46 = .ok v12 w46 ∧ (Sem.run Try.prog (Instr.loadAt 24 v9) w46 = .ok v10 w46 ∧ (CALL Try.prog (pan R) slices_Clone_int_int.id #[v10] w46 fun v47 w48 =>
  Sem.run Try.prog (Instr.loadAt 3 v11) w48 = .ok v12 w48 ∧ (CALL Try.prog (pan R) slices_Clip_int_int.id #[v47] w48 fun v49 w50 =>
  b1_6 R v1 v3 v11 v12 v15 v43 v45 v49 w50)))
def b1_8 (R : EP) (v1 v3 v9 v10 v11 v12 v15 v17 : Value) (w18 : World) (_r : Tok R := tok R) : Prop :=
  Sem.run Try.prog (Instr.loadAt 3 v11) w18 = .ok v12 w18 ∧ (Sem.run Try.prog (Instr.loadAt 24 v9) w18 = .ok v10 w18 ∧ ((CALL Try.prog (pan R) slices_Clip_string_string.id #[v17] w18 fun v19 w20 =>
  b1_5 R v1 v3 v9 v10 v11 v12 v15 v19 w20) ∧
  (RUN Try.prog (pan R) (Instr.alloc 27 true (.tuple #[])) w18 fun v43 w44 =>
  Sem.run Try.prog (Instr.loadAt 3 v11) w44 = .ok v12 w44 ∧ (Sem.run Try.prog (Instr.loadAt 24 v9) w44 = .ok v10 w44 ∧ (CALL Try.prog (pan R) slices_Clip_string_string.id #[v17] w44 fun v45 w46 =>
  b1_7 R v1 v3 v9 v10 v11 v12 v15 v43 v45 w46)))))
def b1_9 (R : EP) (v1 v3 v11 v12 v15 v53 v57 v61 : Value) (w62 : World) (_r : Tok R := tok R) : Prop :=
  Sem.run Try.prog (Instr.loadAt 3 v11) w62 = .ok v12 w62 ∧ (PUR Try.prog (Instr.build 27 #[(0, v15), (1, v57), (2, v61), (3, v12)]) fun v63 =>
  RUNU Try.prog (pan R) (Instr.storeAt 27 v53 v63) w62 fun w64 =>
  b4 R v1 v3 v53 w64)
def b1_10 (R : EP) (v1 v3 v9 v10 v11 v12 v15 v53 v57 : Value) (w58 : World) (_r : Tok R := tok R) : Prop :=
  Sem.run Try.prog (Instr.loadAt 3 v11) w58 = .ok v12 w58 ∧ (Sem.run Try.prog (Instr.loadAt 24 v9) w58 = .ok v10 w58 ∧ (CALL Try.prog (pan R) slices_Clone_int_int.id #[v10] w58 fun v59 w60 =>
  Sem.run Try.prog (Instr.loadAt 3 v11) w60 = .ok v12 w60 ∧ (CALL Try.prog (pan R) slices_Clip_int_int.id #[v59] w60 fun v61 w62 =>
  b1_9 R v1 v3 v11 v12 v15 v53 v57 v61 w62)))
def b1_11 (R : EP) (v1 v3 v7 v8 v9 v10 v11 v12 v15 : Value) (w16 : World) (_r : Tok R := tok R) : Prop :=
  Sem.run Try.prog (Instr.loadAt 3 v11) w16 = .ok v12 w16 ∧ (Sem.run Try.prog (Instr.loadAt 24 v9) w16 = .ok v10 w16 ∧ (Sem.run Try.prog (Instr.loadAt 23 v7) w16 = .ok v8 w16 ∧ ((CALL Try.prog (pan R) slices_Clone_string_string.id #[v8] w16 fun v17 w18 =>
  b1_8 R v1 v3 v9 v10 v11 v12 v15 v17 w18) ∧
  (RUN Try.prog (pan R) (Instr.alloc 27 true (.tuple #[])) w16 fun v53 w54 =>
  Sem.run Try.prog (Instr.loadAt 3 v11) w54 = .ok v12 w54 ∧ (Sem.run Try.prog (Instr.loadAt 24 v9) w54 = .ok v10 w54 ∧ (Sem.run Try.prog (Instr.loadAt 23 v7) w54 = .ok v8 w54 ∧ (CALL Try.prog (pan R) slices_Clone_string_string.id #[v8] w54 fun v55 w56 =>
  Sem.run Try.prog (Instr.loadAt 3 v11) w56 = .ok v12 w56 ∧ (Sem.run Try.prog (Instr.loadAt 24 v9) w56 = .ok v10 w56 ∧ (CALL Try.prog (pan R) slices_Clip_string_string.id #[v55] w56 fun v57 w58 =>
  b1_10 R v1 v3 v9 v10 v11 v12 v15 v53 v57 w58)))))))))
def b1_12 (R : EP) (v1 v3 v11 v12 v65 v67 v71 v75 : Value) (w76 : World) (_r : Tok R := tok R) : Prop :=
  Sem.run Try.prog (Instr.loadAt 3 v11) w76 = .ok v12 w76 ∧ (PUR Try.prog (Instr.build 27 #[(0, v67), (1, v71), (2, v75), (3, v12)]) fun v77 =>
  RUNU Try.prog (pan R) (Instr.storeAt 27 v65 v77) w76 fun w78 =>
  b4 R v1 v3 v65 w78)
def b1_13 (R : EP) (v1 v3 v9 v10 v11 v12 v65 v67 v71 : Value) (w72 : World) (_r : Tok R := tok R) : Prop :=
  Sem.run Try.prog (Instr.loadAt 3 v11) w72 = .ok v12 w72 ∧ (Sem.run Try.prog (Instr.loadAt 24 v9) w72 = .ok v10 w72 ∧ (CALL Try.prog (pan R) slices_Clone_int_int.id #[v10] w72 fun v73 w74 =>
  Sem.run Try.prog (Instr.loadAt 3 v11) w74 = .ok v12 w74 ∧ (CALL Try.prog (pan R) slices_Clip_int_int.id #[v73] w74 fun v75 w76 =>
  b1_12 R v1 v3 v11 v12 v65 v67 v71 v75 w76)))
def b1_14 (R : EP) (v1 v3 v7 v8 v9 v10 v11 v12 v65 v67 : Value) (w68 : World) (_r : Tok R := tok R) : Prop :=
  Sem.run Try.prog (Instr.loadAt 3 v11) w68 = .ok v12 w68 ∧ (Sem.run Try.prog (Instr.loadAt 24 v9) w68 = .ok v10 w68 ∧ (Sem.run Try.prog (Instr.loadAt 23 v7) w68 = .ok v8 w68 ∧ (CALL Try.prog (pan R) slices_Clone_string_string.id #[v8] w68 fun v69 w70 =>
  Sem.run Try.prog (Instr.loadAt 3 v11) w70 = .ok v12 w70 ∧ (Sem.run Try.prog (Instr.loadAt 24 v9) w70 = .ok v10 w70 ∧ (CALL Try.prog (pan R) slices_Clip_string_string.id #[v69] w70 fun v71 w72 =>
  b1_13 R v1 v3 v9 v10 v11 v12 v65 v67 v71 w72)))))
def b1_15 (R : EP) (v1 v3 v7 v8 v9 v10 v11 v12 v13 : Value) (w14 : World) (_r : Tok R := tok R) : Prop :=
  Sem.run Try.prog (Instr.loadAt 3 v11) w14 = .ok v12 w14 ∧ (Sem.run Try.prog (Instr.loadAt 24 v9) w14 = .ok v10 w14 ∧ (Sem.run Try.prog (Instr.loadAt 23 v7) w14 = .ok v8 w14 ∧ ((CALL Try.prog (pan R) slices_Clip_api_Term_api_Term.id #[v13] w14 fun v15 w16 =>
  b1_11 R v1 v3 v7 v8 v9 v10 v11 v12 v15 w16) ∧
  (RUN Try.prog (pan R) (Instr.alloc 27 true (.tuple #[])) w14 fun v65 w66 =>
  Sem.run Try.prog (Instr.loadAt 3 v11) w66 = .ok v12 w66 ∧ (Sem.run Try.prog (Instr.loadAt 24 v9) w66 = .ok v10 w66 ∧ (Sem.run Try.prog (Instr.loadAt 23 v7) w66 = .ok v8 w66 ∧ (CALL Try.prog (pan R) slices_Clip_api_Term_api_Term.id #[v13] w66 fun v67 w68 =>
  b1_14 R v1 v3 v7 v8 v9 v10 v11 v12 v65 v67 w68)))))))
def b1_16 (R : EP) (v1 v3 v11 v12 v79 v83 v87 v91 : Value) (w92 : World) (_r : Tok R := tok R) : Prop :=
  Sem.run Try.prog (Instr.loadAt 3 v11) w92 = .ok v12 w92 ∧ (PUR Try.prog (Instr.build 27 #[(0, v83), (1, v87), (2, v91), (3, v12)]) fun v93 =>
  RUNU Try.prog (pan R) (Instr.storeAt 27 v79 v93) w92 fun w94 =>
  b4 R v1 v3 v79 w94)
def b1_17 (R : EP) (v1 v3 v9 v10 v11 v12 v79 v83 v87 : Value) (w88 : World) (_r : Tok R := tok R) : Prop :=
  Sem.run Try.prog (Instr.loadAt 3 v11) w88 = .ok v12 w88 ∧ (Sem.run Try.prog (Instr.loadAt 24 v9) w88 = .ok v10 w88 ∧ (CALL Try.prog (pan R) slices_Clone_int_int.id #[v10] w88 fun v89 w90 =>
  Sem.run Try.prog (Instr.loadAt 3 v11) w90 = .ok v12 w90 ∧ (CALL Try.prog (pan R) slices_Clip_int_int.id #[v89] w90 fun v91 w92 =>
  b1_16 R v1 v3 v11 v12 v79 v83 v87 v91 w92)))
def b1_18 (R : EP) (v1 v3 v7 v8 v9 v10 v11 v12 v79 v83 : Value) (w84 : World) (_r : Tok R := tok R) : Prop :=
  Sem.run Try.prog (Instr.loadAt 3 v11) w84 = .ok v12 w84 ∧ (Sem.run Try.prog (Instr.loadAt 24 v9) w84 = .ok v10 w84 ∧ (Sem.run Try.prog (Instr.loadAt 23 v7) w84 = .ok v8 w84 ∧ (CALL Try.prog (pan R) slices_Clone_string_string.id #[v8] w84 fun v85 w86 =>
  Sem.run Try.prog (Instr.loadAt 3 v11) w86 = .ok v12 w86 ∧ (Sem.run Try.prog (Instr.loadAt 24 v9) w86 = .ok v10 w86 ∧ (CALL Try.prog (pan R) slices_Clip_string_string.id #[v85] w86 fun v87 w88 =>
  b1_17 R v1 v3 v9 v10 v11 v12 v79 v83 v87 w88)))))
def b1 (R : EP) (x0 : Value) (w : World) (_r : Tok R := tok R) : Prop :=
  RUN Try.prog (pan R) (Instr.box 27 x0) w fun v1 w2 =>
  RUN Try.prog (pan R) (Instr.alloc 27 true (.tuple #[])) w2 fun v3 w4 =>
  PUR Try.prog (Instr.fieldAt 27 v1 0) fun v5 =>
  LD Try.prog (Instr.loadAt 22 v5) (World.drew w4) fun v6 =>
  PUR Try.prog (Instr.fieldAt 27 v1 1) fun v7 =>
  LD Try.prog (Instr.loadAt 23 v7) (World.drew w4) fun v8 =>
  PUR Try.prog (Instr.fieldAt 27 v1 2) fun v9 =>
  LD Try.prog (Instr.loadAt 24 v9) (World.drew w4) fun v10 =>
  PUR Try.prog (Instr.fieldAt 27 v1 3) fun v11 =>
  LD Try.prog (Instr.loadAt 3 v11) (World.drew w4) fun v12 =>
  (CALL Try.prog (pan R) slices_Clone_api_Term_api_Term.id #[v6] (World.drew w4) fun v13 w14 =>
  b1_15 R v1 v3 v7 v8 v9 v10 v11 v12 v13 w14) ∧
  (RUN Try.prog (pan R) (Instr.alloc 27 true (.tuple #[])) (World.drew w4) fun v79 w80 =>
  Sem.run Try.prog (Instr.loadAt 3 v11) w80 = .ok v12 w80 ∧ (Sem.run Try.prog (Instr.loadAt 24 v9) w80 = .ok v10 w80 ∧ (Sem.run Try.prog (Instr.loadAt 23 v7) w80 = .ok v8 w80 ∧ (Sem.run Try.prog (Instr.loadAt 22 v5) w80 = .ok v6 w80 ∧ (CALL Try.prog (pan R) slices_Clone_api_Term_api_Term.id #[v6] w80 fun v81 w82 =>
  Sem.run Try.prog (Instr.loadAt 3 v11) w82 = .ok v12 w82 ∧ (Sem.run Try.prog (Instr.loadAt 24 v9) w82 = .ok v10 w82 ∧ (Sem.run Try.prog (Instr.loadAt 23 v7) w82 = .ok v8 w82 ∧ (CALL Try.prog (pan R) slices_Clip_api_Term_api_Term.id #[v81] w82 fun v83 w84 =>
  b1_18 R v1 v3 v7 v8 v9 v10 v11 v12 v79 v83 w84))))))))
abbrev q6 (R : EP) : XP := QX (fun ρ w => b4 R (ρ 1) (ρ 2) (ρ 3) w) (fun ρ w => LD Try.prog (Instr.loadAt 27 (ρ 2)) w fun r0 => R (.returned r0) w) []
theorem b1_eq (R : EP) (ρ : Env) (w : World) : (b1 R (ρ 0) w) = codeP Try.prog (pan R) (preC 1 code) (q6 R) ρ w := by kernel_rfl
theorem b1_ok (R : EP) (ρ : Env) (w : World) (h : b1 R (ρ 0) w) : codeP Try.prog (pan R) code (q1 R) ρ w := by
  have e : appC 1 (preC 1 code) (dropC 2 code) = code := by kernel_rfl
  rw [← e]
  exact appQ (fun ρ w => b4 R (ρ 1) (ρ 2) (ρ 3) w) 1 ((b1_eq R ρ w).mp h) (fun ρ w h => k2_ok R ρ w h)
/-- What is owed for a call. -/
def run (R : EP) (a0 : Value) (w : World) : Prop := b1 R a0 w
theorem calls (R : EP) (a0 : Value) (w : World) (h : run R a0 w) : Calls Try.prog id #[a0] w R :=
  calls_of_c (f := id) (fn := Try.f60) (c := code) (by kernel_rfl) Try.func60 (by kernel_rfl) (by kernel_rfl) (args := [a0]) (Nat.le_of_ble_eq_true rfl) rfl (b1_ok R (envOf [a0]) w h)
theorem enters : Enters Try.prog id := fun args w => Try.call60 args w
theorem ct {a0 : Value} {w : World} {S : VP} (h : ∀ R : EP, (∀ v w, S v w → R (.returned v) w) → run R a0 w) : Ct Try.prog id #[a0] w S :=
  Ct.intro enters fun R hR => calls R a0 w (h R hR)
attribute [irreducible] b3 b7_1 b7_2 b7 l6 b4 b1_1 b1_2 b1_3 b1_4 b1_5 b1_6 b1_7 b1_8 b1_9 b1_10 b1_11 b1_12 b1_13 b1_14 b1_15 b1_16 b1_17 b1_18 b1 run
attribute [go_sem] b3 b7_1 b7_2 b7 b4 b1_1 b1_2 b1_3 b1_4 b1_5 b1_6 b1_7 b1_8 b1_9 b1_10 b1_11 b1_12 b1_13 b1_14 b1_15 b1_16 b1_17 b1_18 b1 run
end gram_Copy
end Go.Proofs.Ytkacbjhiobnbfaa

/- Shallow programs, written by a program of ours (gen.py) off the translation; each is tied to the code by the kernel. -/
set_option linter.unusedVariables false
set_option maxRecDepth 100000
namespace Go.Proofs.Ytkacbjhiobnbfaa
open Go.Px

/-! ### (*presage/gram.Builder).Grammar -/
namespace gram_Builder_Grammar
noncomputable def code : Code := bodyOf Try.f105
noncomputable abbrev p1 : Code := dropC 1 code
noncomputable abbrev p2 : Code := dropC 1 (sndC p1)
noncomputable abbrev p3 : Code := dropC 1 (sndC p2)
noncomputable abbrev p4 : Code := dropC 1 (sndC p3)
noncomputable abbrev p5 : Code := dropC 2 (sndC p4)

def b10 (R : EP) (x2 x4 : Value) (w : World) (_r : Tok R := tok R) : Prop :=
  RUN Try.prog (pan R) (Instr.loadAt 27 x4) w fun v1 w2 =>
  RUNU Try.prog (pan R) (Instr.storeAt 27 x2 v1) w2 fun w3 =>
  LD Try.prog (Instr.loadAt 27 x2) w3 fun r0 => R (.returned (.tuple #[r0, (Go.Value.int Go.IntKind.i64 0)])) w3
abbrev q1 (R : EP) : XP := QX (fun ρ w => LD Try.prog (Instr.loadAt 27 (ρ 2)) w fun r0 => R (.returned (.tuple #[r0, (ρ 3)])) w) (fun ρ w => LD Try.prog (Instr.loadAt 27 (ρ 2)) w fun r0 => R (.returned (.tuple #[r0, (ρ 3)])) w) []
theorem b10_eq (R : EP) (ρ : Env) (w : World) : (b10 R (ρ 2) (ρ 4) w) = codeP Try.prog (pan R) p5 (q1 R) ρ w := by kernel_rfl
theorem b10_ok (R : EP) (ρ : Env) (w : World) (h : b10 R (ρ 2) (ρ 4) w) : codeP Try.prog (pan R) p5 (q1 R) ρ w := (b10_eq R ρ w).mp h
def b9_1 (R : EP) (x0 x2 x4 x7 : Value) (w20 : World) (_r : Tok R := tok R) : Prop :=
  NILC x0 fun v21 =>
  RUN Try.prog (pan R) (Instr.fieldAt 174 v21 5) w20 fun v22 w23 =>
  RUN Try.prog (pan R) (Instr.loadAt 3 v22) w23 fun v24 w25 =>
  RUN Try.prog (pan R) (Instr.lookup 179 x7 v24 false) w25 fun v26 w27 =>
  RUN Try.prog (pan R) (Instr.fieldAt 27 x4 3) w27 fun v28 w29 =>
  RUNU Try.prog (pan R) (Instr.storeAt 3 v28 v26) w29 fun w30 =>
  b10 R x2 x4 w30

def b9 (R : EP) (x0 x2 x4 x7 : Value) (w : World) (_r : Tok R := tok R) : Prop :=
  RUN Try.prog (pan R) (Instr.fieldAt 27 x4 4) w fun v1 w2 =>
  RUN Try.prog (pan R) (Instr.loadAt 25 v1) w2 fun v3 w4 =>
  RUN Try.prog (pan R) (Instr.indexAt 25 v3 (Go.Value.int Go.IntKind.i64 0)) w4 fun v5 w6 =>
  RUN Try.prog (pan R) (Instr.fieldAt 47 v5 0) w6 fun v7 w8 =>
  RUN Try.prog (pan R) (Instr.loadAt 3 v7) w8 fun v9 w10 =>
  RUN Try.prog (pan R) (Instr.fieldAt 27 x4 3) w10 fun v11 w12 =>
  RUNU Try.prog (pan R) (Instr.storeAt 3 v11 v9) w12 fun w13 =>
  NILC x0 fun v14 =>
  RUN Try.prog (pan R) (Instr.fieldAt 174 v14 5) w13 fun v15 w16 =>
  RUN Try.prog (pan R) (Instr.loadAt 3 v15) w16 fun v17 w18 =>
  RUN Try.prog (pan R) (bins .neq 3 (.tmp 163) (.const (Go.Value.int Go.IntKind.i64 0)) v17 (Go.Value.int Go.IntKind.i64 0)) w18 fun v19 w20 =>
  SPL v19
  (b9_1 R x0 x2 x4 x7 w20)
  (b10 R x2 x4 w20)
abbrev q2 (R : EP) : XP := QX (fun ρ w => b10 R (ρ 2) (ρ 4) w) (fun ρ w => LD Try.prog (Instr.loadAt 27 (ρ 2)) w fun r0 => R (.returned (.tuple #[r0, (ρ 3)])) w) []
theorem b9_eq (R : EP) (ρ : Env) (w : World) : (b9 R (ρ 0) (ρ 2) (ρ 4) (ρ 7) w) = codeP Try.prog (pan R) (preC 1 (sndC p4)) (q2 R) ρ w := by kernel_rfl
theorem b9_ok (R : EP) (ρ : Env) (w : World) (h : b9 R (ρ 0) (ρ 2) (ρ 4) (ρ 7) w) : codeP Try.prog (pan R) (sndC p4) (q1 R) ρ w := by
  have e : appC 1 (preC 1 (sndC p4)) (dropC 2 (sndC p4)) = (sndC p4) := by kernel_rfl
  rw [← e]
  exact appQ (fun ρ w => b10 R (ρ 2) (ρ 4) w) 1 ((b9_eq R ρ w).mp h) (fun ρ w h => b10_ok R ρ w h)
noncomputable abbrev p6 : Code := dropC 1 (fstC p4)
noncomputable abbrev p7 : Code := loopC (blkC p6)
noncomputable abbrev p8 : Code := dropC 2 p7

def b16 (R : EP) (C13 : VP) (x117 : Value) (w : World) (_r : Tok R := tok R) (_C13 : Tok C13 := tok C13) : Prop :=
  RUN Try.prog (pan R) (bins .add 3 (.tmp 117) (.const (Go.Value.int Go.IntKind.i64 1)) x117 (Go.Value.int Go.IntKind.i64 1)) w fun v1 w2 =>
  C13 v1 w2
abbrev q3 (R : EP) (C13 : VP) : XP := QX (fun ρ w => C13 (ρ 117) w) (fun ρ w => LD Try.prog (Instr.loadAt 27 (ρ 2)) w fun r0 => R (.returned (.tuple #[r0, (ρ 3)])) w) [(8, (fun ρ w => b9 R (ρ 0) (ρ 2) (ρ 4) (ρ 7) w))]
theorem b16_eq (R : EP) (C13 : VP) (ρ : Env) (w : World) : (b16 R C13 (ρ 117) w) = codeP Try.prog (pan R) (sndC p8) (q3 R C13) ρ w := by kernel_rfl
theorem b16_ok (R : EP) (C13 : VP) (ρ : Env) (w : World) (h : b16 R C13 (ρ 117) w) : codeP Try.prog (pan R) (sndC p8) (q3 R C13) ρ w := (b16_eq R C13 ρ w).mp h
noncomputable abbrev p9 : Code := blkC (fstC p8)
noncomputable abbrev p10 : Code := dropC 2 p9

def b20 (R : EP) (C13 : VP) (x4 x12 x117 : Value) (w : World) (_r : Tok R := tok R) (_C13 : Tok C13 := tok C13) : Prop :=
  RUN Try.prog (pan R) (Instr.fieldAt 27 x4 4) w fun v1 w2 =>
  RUN Try.prog (pan R) (Instr.loadAt 25 v1) w2 fun v3 w4 =>
  RUN Try.prog (pan R) (Instr.loadAt 47 x12) w4 fun v5 w6 =>
  RUN Try.prog (pan R) (Instr.buildSlice 25 1 #[(0, v5)]) w6 fun v7 w8 =>
  RUN Try.prog (pan R) (Builtin.append_ #[25, 25] 25 #[v3, v7]) w8 fun v9 w10 =>
  RUN Try.prog (pan R) (Instr.fieldAt 27 x4 4) w10 fun v11 w12 =>
  RUNU Try.prog (pan R) (Instr.storeAt 25 v11 v9) w12 fun w13 =>
  b16 R C13 x117 w13
abbrev q4 (R : EP) (C13 : VP) : XP := QX (fun ρ w => b16 R C13 (ρ 117) w) (fun ρ w => LD Try.prog (Instr.loadAt 27 (ρ 2)) w fun r0 => R (.returned (.tuple #[r0, (ρ 3)])) w) [(10, (fun ρ w => b16 R C13 (ρ 117) w)), (8, (fun ρ w => b9 R (ρ 0) (ρ 2) (ρ 4) (ρ 7) w))]
theorem b20_eq (R : EP) (C13 : VP) (ρ : Env) (w : World) : (b20 R C13 (ρ 4) (ρ 12) (ρ 117) w) = codeP Try.prog (pan R) (sndC p10) (q4 R C13) ρ w := by kernel_rfl
theorem b20_ok (R : EP) (C13 : VP) (ρ : Env) (w : World) (h : b20 R C13 (ρ 4) (ρ 12) (ρ 117) w) : codeP Try.prog (pan R) (sndC p10) (q4 R C13) ρ w := (b20_eq R C13 ρ w).mp h
noncomputable abbrev p11 : Code := dropC 1 (fstC p10)
noncomputable abbrev p12 : Code := loopC (blkC p11)
noncomputable abbrev p13 : Code := dropC 2 p12

def b26 (R : EP) (C13 : VP) (C23 : VP) (x131 : Value) (w : World) (_r : Tok R := tok R) (_C13 : Tok C13 := tok C13) (_C23 : Tok C23 := tok C23) : Prop :=
  RUN Try.prog (pan R) (bins .add 3 (.tmp 131) (.const (Go.Value.int Go.IntKind.i64 1)) x131 (Go.Value.int Go.IntKind.i64 1)) w fun v1 w2 =>
  C23 v1 w2
abbrev q5 (R : EP) (C13 : VP) (C23 : VP) : XP := QX (fun ρ w => C23 (ρ 131) w) (fun ρ w => LD Try.prog (Instr.loadAt 27 (ρ 2)) w fun r0 => R (.returned (.tuple #[r0, (ρ 3)])) w) [(12, (fun ρ w => b20 R C13 (ρ 4) (ρ 12) (ρ 117) w)), (10, (fun ρ w => b16 R C13 (ρ 117) w)), (8, (fun ρ w => b9 R (ρ 0) (ρ 2) (ρ 4) (ρ 7) w))]
theorem b26_eq (R : EP) (C13 : VP) (C23 : VP) (ρ : Env) (w : World) : (b26 R C13 C23 (ρ 131) w) = codeP Try.prog (pan R) (sndC p13) (q5 R C13 C23) ρ w := by kernel_rfl
theorem b26_ok (R : EP) (C13 : VP) (C23 : VP) (ρ : Env) (w : World) (h : b26 R C13 C23 (ρ 131) w) : codeP Try.prog (pan R) (sndC p13) (q5 R C13 C23) ρ w := (b26_eq R C13 C23 ρ w).mp h
noncomputable abbrev p14 : Code := blkC (fstC p13)
noncomputable abbrev p15 : Code := dropC 2 p14

def b29 (R : EP) (C13 : VP) (C23 : VP) (x12 x14 x131 : Value) (w : World) (_r : Tok R := tok R) (_C13 : Tok C13 := tok C13) (_C23 : Tok C23 := tok C23) : Prop :=
  RUN Try.prog (pan R) (Instr.fieldAt 47 x12 1) w fun v1 w2 =>
  RUN Try.prog (pan R) (Instr.loadAt 24 v1) w2 fun v3 w4 =>
  RUN Try.prog (pan R) (Instr.buildSlice 24 1 #[(0, x14)]) w4 fun v5 w6 =>
  RUN Try.prog (pan R) (Builtin.append_ #[24, 24] 24 #[v3, v5]) w6 fun v7 w8 =>
  RUN Try.prog (pan R) (Instr.fieldAt 47 x12 1) w8 fun v9 w10 =>
  RUNU Try.prog (pan R) (Instr.storeAt 24 v9 v7) w10 fun w11 =>
  b26 R C13 C23 x131 w11
abbrev q6 (R : EP) (C13 : VP) (C23 : VP) : XP := QX (fun ρ w => b26 R C13 C23 (ρ 131) w) (fun ρ w => LD Try.prog (Instr.loadAt 27 (ρ 2)) w fun r0 => R (.returned (.tuple #[r0, (ρ 3)])) w) [(14, (fun ρ w => b26 R C13 C23 (ρ 131) w)), (12, (fun ρ w => b20 R C13 (ρ 4) (ρ 12) (ρ 117) w)), (10, (fun ρ w => b16 R C13 (ρ 117) w)), (8, (fun ρ w => b9 R (ρ 0) (ρ 2) (ρ 4) (ρ 7) w))]
theorem b29_eq (R : EP) (C13 : VP) (C23 : VP) (ρ : Env) (w : World) : (b29 R C13 C23 (ρ 12) (ρ 14) (ρ 131) w) = codeP Try.prog (pan R) p15 (q6 R C13 C23) ρ w := by kernel_rfl
theorem b29_ok (R : EP) (C13 : VP) (C23 : VP) (ρ : Env) (w : World) (h : b29 R C13 C23 (ρ 12) (ρ 14) (ρ 131) w) : codeP Try.prog (pan R) p15 (q6 R C13 C23) ρ w := (b29_eq R C13 C23 ρ w).mp h

def b28 (R : EP) (C13 : VP) (C23 : VP) (x7 x12 x129 x131 : Value) (w : World) (_r : Tok R := tok R) (_C13 : Tok C13 := tok C13) (_C23 : Tok C23 := tok C23) : Prop :=
  RUN Try.prog (pan R) (Instr.indexAt 24 x129 x131) w fun v1 w2 =>
  RUN Try.prog (pan R) (Instr.loadAt 3 v1) w2 fun v3 w4 =>
  RUN Try.prog (pan R) (bins .lss 3 (.tmp 135) (.const (Go.Value.int Go.IntKind.i64 0)) v3 (Go.Value.int Go.IntKind.i64 0)) w4 fun v5 w6 =>
  SPL v5
  (RUN Try.prog (pan R) (Instr.lookup 179 x7 v3 false) w6 fun v7 w8 =>
  b29 R C13 C23 x12 v7 x131 w8)
  (b29 R C13 C23 x12 v3 x131 w6)
abbrev q7 (R : EP) (C13 : VP) (C23 : VP) : XP := QX (fun ρ w => b29 R C13 C23 (ρ 12) (ρ 14) (ρ 131) w) (fun ρ w => LD Try.prog (Instr.loadAt 27 (ρ 2)) w fun r0 => R (.returned (.tuple #[r0, (ρ 3)])) w) [(14, (fun ρ w => b26 R C13 C23 (ρ 131) w)), (12, (fun ρ w => b20 R C13 (ρ 4) (ρ 12) (ρ 117) w)), (10, (fun ρ w => b16 R C13 (ρ 117) w)), (8, (fun ρ w => b9 R (ρ 0) (ρ 2) (ρ 4) (ρ 7) w))]
theorem b28_eq (R : EP) (C13 : VP) (C23 : VP) (ρ : Env) (w : World) : (b28 R C13 C23 (ρ 7) (ρ 12) (ρ 129) (ρ 131) w) = codeP Try.prog (pan R) (preC 1 p14) (q7 R C13 C23) ρ w := by kernel_rfl
theorem b28_ok (R : EP) (C13 : VP) (C23 : VP) (ρ : Env) (w : World) (h : b28 R C13 C23 (ρ 7) (ρ 12) (ρ 129) (ρ 131) w) : codeP Try.prog (pan R) p14 (q6 R C13 C23) ρ w := by
  have e : appC 1 (preC 1 p14) (dropC 2 p14) = p14 := by kernel_rfl
  rw [← e]
  exact appQ (fun ρ w => b29 R C13 C23 (ρ 12) (ρ 14) (ρ 131) w) 1 ((b28_eq R C13 C23 ρ w).mp h) (fun ρ w h => b29_ok R C13 C23 ρ w h)
abbrev q8 (R : EP) (C13 : VP) (C23 : VP) : XP := QX (fun ρ w => b26 R C13 C23 (ρ 131) w) (fun ρ w => LD Try.prog (Instr.loadAt 27 (ρ 2)) w fun r0 => R (.returned (.tuple #[r0, (ρ 3)])) w) [(12, (fun ρ w => b20 R C13 (ρ 4) (ρ 12) (ρ 117) w)), (10, (fun ρ w => b16 R C13 (ρ 117) w)), (8, (fun ρ w => b9 R (ρ 0) (ρ 2) (ρ 4) (ρ 7) w))]
theorem k27_ok (R : EP) (C13 : VP) (C23 : VP) (ρ : Env) (w : World) (h : b28 R C13 C23 (ρ 7) (ρ 12) (ρ 129) (ρ 131) w) : codeP Try.prog (pan R) (fstC p13) (q8 R C13 C23) ρ w := by
  have e : Code.block 7 (blkC (fstC p13)) = (fstC p13) := by kernel_rfl
  rw [← e]
  exact blockQ (b28_ok R C13 C23 ρ w h)
theorem k25_ok (R : EP) (C13 : VP) (C23 : VP) (ρ : Env) (w : World) (h : b28 R C13 C23 (ρ 7) (ρ 12) (ρ 129) (ρ 131) w) : codeP Try.prog (pan R) p13 (q5 R C13 C23) ρ w := by
  have e : Code.seq (fstC p13) (sndC p13) = p13 := by kernel_rfl
  rw [← e]
  exact seqQ (fun ρ w => b26 R C13 C23 (ρ 131) w) (k27_ok R C13 C23 ρ w h) (fun ρ w h => b26_ok R C13 C23 ρ w h)

def b24 (R : EP) (C13 : VP) (C23 : VP) (x4 x7 x12 x117 x129 x130 x131 : Value) (w : World) (_r : Tok R := tok R) (_C13 : Tok C13 := tok C13) (_C23 : Tok C23 := tok C23) : Prop :=
  RUN Try.prog (pan R) (bins .lss 3 (.tmp 131) (.tmp 130) x131 x130) w fun v1 w2 =>
  SPL v1
  (b28 R C13 C23 x7 x12 x129 x131 w2)
  (b20 R C13 x4 x12 x117 w2)
abbrev q9 (R : EP) (C13 : VP) (C23 : VP) : XP := QX (fun ρ w => b28 R C13 C23 (ρ 7) (ρ 12) (ρ 129) (ρ 131) w) (fun ρ w => LD Try.prog (Instr.loadAt 27 (ρ 2)) w fun r0 => R (.returned (.tuple #[r0, (ρ 3)])) w) [(12, (fun ρ w => b20 R C13 (ρ 4) (ρ 12) (ρ 117) w)), (10, (fun ρ w => b16 R C13 (ρ 117) w)), (8, (fun ρ w => b9 R (ρ 0) (ρ 2) (ρ 4) (ρ 7) w))]
theorem b24_eq (R : EP) (C13 : VP) (C23 : VP) (ρ : Env) (w : World) : (b24 R C13 C23 (ρ 4) (ρ 7) (ρ 12) (ρ 117) (ρ 129) (ρ 130) (ρ 131) w) = codeP Try.prog (pan R) (preC 1 p12) (q9 R C13 C23) ρ w := by kernel_rfl
theorem b24_ok (R : EP) (C13 : VP) (C23 : VP) (ρ : Env) (w : World) (h : b24 R C13 C23 (ρ 4) (ρ 7) (ρ 12) (ρ 117) (ρ 129) (ρ 130) (ρ 131) w) : codeP Try.prog (pan R) p12 (q5 R C13 C23) ρ w := by
  have e : appC 1 (preC 1 p12) (dropC 2 p12) = p12 := by kernel_rfl
  rw [← e]
  exact appQ (fun ρ w => b28 R C13 C23 (ρ 7) (ρ 12) (ρ 129) (ρ 131) w) 1 ((b24_eq R C13 C23 ρ w).mp h) (fun ρ w h => k25_ok R C13 C23 ρ w h)

def l23 (R : EP) (C13 : VP) (x4 x7 x12 x117 x129 x130 x131 : Value) (w : World) (_r : Tok R := tok R) (_C13 : Tok C13 := tok C13) : Prop :=
  ∃ (J : VP) (μ : Value → World → Nat), J x131 w ∧ ∀ y131 w0, J y131 w0 → b24 R C13 (fun z131 w1 => J z131 w1 ∧ μ z131 w1 < μ y131 w0) x4 x7 x12 x117 x129 x130 y131 w0
abbrev q10 (R : EP) (C13 : VP) : XP := QX (fun ρ w => b20 R C13 (ρ 4) (ρ 12) (ρ 117) w) (fun ρ w => LD Try.prog (Instr.loadAt 27 (ρ 2)) w fun r0 => R (.returned (.tuple #[r0, (ρ 3)])) w) [(12, (fun ρ w => b20 R C13 (ρ 4) (ρ 12) (ρ 117) w)), (10, (fun ρ w => b16 R C13 (ρ 117) w)), (8, (fun ρ w => b9 R (ρ 0) (ρ 2) (ρ 4) (ρ 7) w))]
theorem l23_ok (R : EP) (C13 : VP) (ρ : Env) (w : World) (h : l23 R C13 (ρ 4) (ρ 7) (ρ 12) (ρ 117) (ρ 129) (ρ 130) (ρ 131) w) : codeP Try.prog (pan R) (blkC p11) (q10 R C13) ρ w := by
  unfold l23 at h
  obtain ⟨J, μ, h0, hr⟩ := h
  have e : Code.loop (loopC (blkC p11)) = (blkC p11) := by kernel_rfl
  rw [← e]
  refine loopQ (fun ρ' w' => J (ρ' 131) w') (fun ρ' w' => μ (ρ' 131) w') h0 fun ρ' w' hA hI => ?_
  have e4 : ρ' 4 = ρ 4 := Agree.at hA 4 (by kernel_rfl)
  have e7 : ρ' 7 = ρ 7 := Agree.at hA 7 (by kernel_rfl)
  have e12 : ρ' 12 = ρ 12 := Agree.at hA 12 (by kernel_rfl)
  have e117 : ρ' 117 = ρ 117 := Agree.at hA 117 (by kernel_rfl)
  have e129 : ρ' 129 = ρ 129 := Agree.at hA 129 (by kernel_rfl)
  have e130 : ρ' 130 = ρ 130 := Agree.at hA 130 (by kernel_rfl)
  have h1 := hr (ρ' 131) w' hI
  rw [← e4, ← e7, ← e12, ← e117, ← e129, ← e130] at h1
  exact b24_ok R C13 (fun z131 w1 => J z131 w1 ∧ μ z131 w1 < μ (ρ' 131) w') ρ' w' h1
theorem l23_intro (R : EP) (C13 : VP) (x4 x7 x12 x117 x129 x130 x131 : Value) (w : World) (J : VP) (μ : Value → World → Nat) (h0 : J x131 w)
    (hr : ∀ y131 w0, J y131 w0 → ∀ C23 : VP, (∀ z131 w1, J z131 w1 → μ z131 w1 < μ y131 w0 → C23 z131 w1) → b24 R C13 C23 x4 x7 x12 x117 x129 x130 y131 w0) : l23 R C13 x4 x7 x12 x117 x129 x130 x131 w := by
  unfold l23
  exact ⟨J, μ, h0, fun y131 w0 hJ => hr y131 w0 hJ _ (fun z131 w1 h1 h2 => ⟨h1, h2⟩)⟩
abbrev q11 (R : EP) (C13 : VP) : XP := QX (fun ρ w => b20 R C13 (ρ 4) (ρ 12) (ρ 117) w) (fun ρ w => LD Try.prog (Instr.loadAt 27 (ρ 2)) w fun r0 => R (.returned (.tuple #[r0, (ρ 3)])) w) [(10, (fun ρ w => b16 R C13 (ρ 117) w)), (8, (fun ρ w => b9 R (ρ 0) (ρ 2) (ρ 4) (ρ 7) w))]
theorem k22_ok (R : EP) (C13 : VP) (ρ : Env) (w : World) (h : l23 R C13 (ρ 4) (ρ 7) (ρ 12) (ρ 117) (ρ 129) (ρ 130) (ρ 131) w) : codeP Try.prog (pan R) p11 (q11 R C13) ρ w := by
  have e : Code.block 6 (blkC p11) = p11 := by kernel_rfl
  rw [← e]
  exact blockQ (l23_ok R C13 ρ w h)

def b21 (R : EP) (C13 : VP) (x4 x7 x11 x12 x117 : Value) (w : World) (_r : Tok R := tok R) (_C13 : Tok C13 := tok C13) : Prop :=
  RUN Try.prog (pan R) (Instr.fieldAt 178 x11 1) w fun v1 w2 =>
  RUN Try.prog (pan R) (Instr.loadAt 24 v1) w2 fun v3 w4 =>
  RUN Try.prog (pan R) (Builtin.len_ #[24] 3 #[v3]) w4 fun v5 w6 =>
  l23 R C13 x4 x7 x12 x117 v3 v5 (Go.Value.int Go.IntKind.i64 0) w6
abbrev q12 (R : EP) (C13 : VP) : XP := QX (fun ρ w => l23 R C13 (ρ 4) (ρ 7) (ρ 12) (ρ 117) (ρ 129) (ρ 130) (ρ 131) w) (fun ρ w => LD Try.prog (Instr.loadAt 27 (ρ 2)) w fun r0 => R (.returned (.tuple #[r0, (ρ 3)])) w) [(10, (fun ρ w => b16 R C13 (ρ 117) w)), (8, (fun ρ w => b9 R (ρ 0) (ρ 2) (ρ 4) (ρ 7) w))]
theorem b21_eq (R : EP) (C13 : VP) (ρ : Env) (w : World) : (b21 R C13 (ρ 4) (ρ 7) (ρ 11) (ρ 12) (ρ 117) w) = codeP Try.prog (pan R) (preC 0 (fstC p10)) (q12 R C13) ρ w := by kernel_rfl
theorem b21_ok (R : EP) (C13 : VP) (ρ : Env) (w : World) (h : b21 R C13 (ρ 4) (ρ 7) (ρ 11) (ρ 12) (ρ 117) w) : codeP Try.prog (pan R) (fstC p10) (q11 R C13) ρ w := by
  have e : appC 0 (preC 0 (fstC p10)) (dropC 1 (fstC p10)) = (fstC p10) := by kernel_rfl
  rw [← e]
  exact appQ (fun ρ w => l23 R C13 (ρ 4) (ρ 7) (ρ 12) (ρ 117) (ρ 129) (ρ 130) (ρ 131) w) 0 ((b21_eq R C13 ρ w).mp h) (fun ρ w h => k22_ok R C13 ρ w h)
theorem k19_ok (R : EP) (C13 : VP) (ρ : Env) (w : World) (h : b21 R C13 (ρ 4) (ρ 7) (ρ 11) (ρ 12) (ρ 117) w) : codeP Try.prog (pan R) p10 (q4 R C13) ρ w := by
  have e : Code.seq (fstC p10) (sndC p10) = p10 := by kernel_rfl
  rw [← e]
  exact seqQ (fun ρ w => b20 R C13 (ρ 4) (ρ 12) (ρ 117) w) (b21_ok R C13 ρ w h) (fun ρ w h => b20_ok R C13 ρ w h)

def b18 (R : EP) (C13 : VP) (x4 x7 x115 x117 : Value) (w : World) (_r : Tok R := tok R) (_C13 : Tok C13 := tok C13) : Prop :=
  RUN Try.prog (pan R) (Instr.indexAt 172 x115 x117) w fun v1 w2 =>
  RUN Try.prog (pan R) (Instr.loadAt 178 v1) w2 fun v3 w4 =>
  RUN Try.prog (pan R) (Instr.alloc 178 true (.tuple #[])) w4 fun v5 w6 =>
  RUNU Try.prog (pan R) (Instr.storeAt 178 v5 v3) w6 fun w7 =>
  RUN Try.prog (pan R) (Instr.fieldAt 178 v5 0) w7 fun v8 w9 =>
  RUN Try.prog (pan R) (Instr.loadAt 3 v8) w9 fun v10 w11 =>
  RUN Try.prog (pan R) (Instr.lookup 179 x7 v10 false) w11 fun v12 w13 =>
  RUN Try.prog (pan R) (Instr.fieldAt 178 v5 2) w13 fun v14 w15 =>
  RUN Try.prog (pan R) (Instr.loadAt 3 v14) w15 fun v16 w17 =>
  RUN Try.prog (pan R) (Instr.build 47 #[(0, v12), (2, v16)]) w17 fun v18 w19 =>
  RUN Try.prog (pan R) (Instr.alloc 47 true (.tuple #[])) w19 fun v20 w21 =>
  RUNU Try.prog (pan R) (Instr.storeAt 47 v20 v18) w21 fun w22 =>
  b21 R C13 x4 x7 v5 v20 x117 w22
abbrev q13 (R : EP) (C13 : VP) : XP := QX (fun ρ w => b21 R C13 (ρ 4) (ρ 7) (ρ 11) (ρ 12) (ρ 117) w) (fun ρ w => LD Try.prog (Instr.loadAt 27 (ρ 2)) w fun r0 => R (.returned (.tuple #[r0, (ρ 3)])) w) [(10, (fun ρ w => b16 R C13 (ρ 117) w)), (8, (fun ρ w => b9 R (ρ 0) (ρ 2) (ρ 4) (ρ 7) w))]
theorem b18_eq (R : EP) (C13 : VP) (ρ : Env) (w : World) : (b18 R C13 (ρ 4) (ρ 7) (ρ 115) (ρ 117) w) = codeP Try.prog (pan R) (preC 1 p9) (q13 R C13) ρ w := by kernel_rfl
theorem b18_ok (R : EP) (C13 : VP) (ρ : Env) (w : World) (h : b18 R C13 (ρ 4) (ρ 7) (ρ 115) (ρ 117) w) : codeP Try.prog (pan R) p9 (q4 R C13) ρ w := by
  have e : appC 1 (preC 1 p9) (dropC 2 p9) = p9 := by kernel_rfl
  rw [← e]
  exact appQ (fun ρ w => b21 R C13 (ρ 4) (ρ 7) (ρ 11) (ρ 12) (ρ 117) w) 1 ((b18_eq R C13 ρ w).mp h) (fun ρ w h => k19_ok R C13 ρ w h)
abbrev q14 (R : EP) (C13 : VP) : XP := QX (fun ρ w => b16 R C13 (ρ 117) w) (fun ρ w => LD Try.prog (Instr.loadAt 27 (ρ 2)) w fun r0 => R (.returned (.tuple #[r0, (ρ 3)])) w) [(8, (fun ρ w => b9 R (ρ 0) (ρ 2) (ρ 4) (ρ 7) w))]
theorem k17_ok (R : EP) (C13 : VP) (ρ : Env) (w : World) (h : b18 R C13 (ρ 4) (ρ 7) (ρ 115) (ρ 117) w) : codeP Try.prog (pan R) (fstC p8) (q14 R C13) ρ w := by
  have e : Code.block 5 (blkC (fstC p8)) = (fstC p8) := by kernel_rfl
  rw [← e]
  exact blockQ (b18_ok R C13 ρ w h)
theorem k15_ok (R : EP) (C13 : VP) (ρ : Env) (w : World) (h : b18 R C13 (ρ 4) (ρ 7) (ρ 115) (ρ 117) w) : codeP Try.prog (pan R) p8 (q3 R C13) ρ w := by
  have e : Code.seq (fstC p8) (sndC p8) = p8 := by kernel_rfl
  rw [← e]
  exact seqQ (fun ρ w => b16 R C13 (ρ 117) w) (k17_ok R C13 ρ w h) (fun ρ w h => b16_ok R C13 ρ w h)

def b14 (R : EP) (C13 : VP) (x0 x2 x4 x7 x115 x116 x117 : Value) (w : World) (_r : Tok R := tok R) (_C13 : Tok C13 := tok C13) : Prop :=
  RUN Try.prog (pan R) (bins .lss 3 (.tmp 117) (.tmp 116) x117 x116) w fun v1 w2 =>
  SPL v1
  (b18 R C13 x4 x7 x115 x117 w2)
  (b9 R x0 x2 x4 x7 w2)
abbrev q15 (R : EP) (C13 : VP) : XP := QX (fun ρ w => b18 R C13 (ρ 4) (ρ 7) (ρ 115) (ρ 117) w) (fun ρ w => LD Try.prog (Instr.loadAt 27 (ρ 2)) w fun r0 => R (.returned (.tuple #[r0, (ρ 3)])) w) [(8, (fun ρ w => b9 R (ρ 0) (ρ 2) (ρ 4) (ρ 7) w))]
theorem b14_eq (R : EP) (C13 : VP) (ρ : Env) (w : World) : (b14 R C13 (ρ 0) (ρ 2) (ρ 4) (ρ 7) (ρ 115) (ρ 116) (ρ 117) w) = codeP Try.prog (pan R) (preC 1 p7) (q15 R C13) ρ w := by kernel_rfl
theorem b14_ok (R : EP) (C13 : VP) (ρ : Env) (w : World) (h : b14 R C13 (ρ 0) (ρ 2) (ρ 4) (ρ 7) (ρ 115) (ρ 116) (ρ 117) w) : codeP Try.prog (pan R) p7 (q3 R C13) ρ w := by
  have e : appC 1 (preC 1 p7) (dropC 2 p7) = p7 := by kernel_rfl
  rw [← e]
  exact appQ (fun ρ w => b18 R C13 (ρ 4) (ρ 7) (ρ 115) (ρ 117) w) 1 ((b14_eq R C13 ρ w).mp h) (fun ρ w h => k15_ok R C13 ρ w h)

def l13 (R : EP) (x0 x2 x4 x7 x115 x116 x117 : Value) (w : World) (_r : Tok R := tok R) : Prop :=
  ∃ (J : VP) (μ : Value → World → Nat), J x117 w ∧ ∀ y117 w0, J y117 w0 → b14 R (fun z117 w1 => J z117 w1 ∧ μ z117 w1 < μ y117 w0) x0 x2 x4 x7 x115 x116 y117 w0
abbrev q16 (R : EP) : XP := QX (fun ρ w => b9 R (ρ 0) (ρ 2) (ρ 4) (ρ 7) w) (fun ρ w => LD Try.prog (Instr.loadAt 27 (ρ 2)) w fun r0 => R (.returned (.tuple #[r0, (ρ 3)])) w) [(8, (fun ρ w => b9 R (ρ 0) (ρ 2) (ρ 4) (ρ 7) w))]
theorem l13_ok (R : EP) (ρ : Env) (w : World) (h : l13 R (ρ 0) (ρ 2) (ρ 4) (ρ 7) (ρ 115) (ρ 116) (ρ 117) w) : codeP Try.prog (pan R) (blkC p6) (q16 R) ρ w := by
  unfold l13 at h
  obtain ⟨J, μ, h0, hr⟩ := h
  have e : Code.loop (loopC (blkC p6)) = (blkC p6) := by kernel_rfl
  rw [← e]
  refine loopQ (fun ρ' w' => J (ρ' 117) w') (fun ρ' w' => μ (ρ' 117) w') h0 fun ρ' w' hA hI => ?_
  have e0 : ρ' 0 = ρ 0 := Agree.at hA 0 (by kernel_rfl)
  have e2 : ρ' 2 = ρ 2 := Agree.at hA 2 (by kernel_rfl)
  have e4 : ρ' 4 = ρ 4 := Agree.at hA 4 (by kernel_rfl)
  have e7 : ρ' 7 = ρ 7 := Agree.at hA 7 (by kernel_rfl)
  have e115 : ρ' 115 = ρ 115 := Agree.at hA 115 (by kernel_rfl)
  have e116 : ρ' 116 = ρ 116 := Agree.at hA 116 (by kernel_rfl)
  have h1 := hr (ρ' 117) w' hI
  rw [← e0, ← e2, ← e4, ← e7, ← e115, ← e116] at h1
  exact b14_ok R (fun z117 w1 => J z117 w1 ∧ μ z117 w1 < μ (ρ' 117) w') ρ' w' h1
theorem l13_intro (R : EP) (x0 x2 x4 x7 x115 x116 x117 : Value) (w : World) (J : VP) (μ : Value → World → Nat) (h0 : J x117 w)
    (hr : ∀ y117 w0, J y117 w0 → ∀ C13 : VP, (∀ z117 w1, J z117 w1 → μ z117 w1 < μ y117 w0 → C13 z117 w1) → b14 R C13 x0 x2 x4 x7 x115 x116 y117 w0) : l13 R x0 x2 x4 x7 x115 x116 x117 w := by
  unfold l13
  exact ⟨J, μ, h0, fun y117 w0 hJ => hr y117 w0 hJ _ (fun z117 w1 h1 h2 => ⟨h1, h2⟩)⟩
abbrev q17 (R : EP) : XP := QX (fun ρ w => b9 R (ρ 0) (ρ 2) (ρ 4) (ρ 7) w) (fun ρ w => LD Try.prog (Instr.loadAt 27 (ρ 2)) w fun r0 => R (.returned (.tuple #[r0, (ρ 3)])) w) []
theorem k12_ok (R : EP) (ρ : Env) (w : World) (h : l13 R (ρ 0) (ρ 2) (ρ 4) (ρ 7) (ρ 115) (ρ 116) (ρ 117) w) : codeP Try.prog (pan R) p6 (q17 R) ρ w := by
  have e : Code.block 4 (blkC p6) = p6 := by kernel_rfl
  rw [← e]
  exact blockQ (l13_ok R ρ w h)

def b11 (R : EP) (x0 x2 x4 x7 : Value) (w : World) (_r : Tok R := tok R) : Prop :=
  NILC x0 fun v1 =>
  RUN Try.prog (pan R) (Instr.fieldAt 174 v1 4) w fun v2 w3 =>
  RUN Try.prog (pan R) (Instr.loadAt 172 v2) w3 fun v4 w5 =>
  RUN Try.prog (pan R) (Builtin.len_ #[172] 3 #[v4]) w5 fun v6 w7 =>
  l13 R x0 x2 x4 x7 v4 v6 (Go.Value.int Go.IntKind.i64 0) w7
abbrev q18 (R : EP) : XP := QX (fun ρ w => l13 R (ρ 0) (ρ 2) (ρ 4) (ρ 7) (ρ 115) (ρ 116) (ρ 117) w) (fun ρ w => LD Try.prog (Instr.loadAt 27 (ρ 2)) w fun r0 => R (.returned (.tuple #[r0, (ρ 3)])) w) []
theorem b11_eq (R : EP) (ρ : Env) (w : World) : (b11 R (ρ 0) (ρ 2) (ρ 4) (ρ 7) w) = codeP Try.prog (pan R) (preC 0 (fstC p4)) (q18 R) ρ w := by kernel_rfl
theorem b11_ok (R : EP) (ρ : Env) (w : World) (h : b11 R (ρ 0) (ρ 2) (ρ 4) (ρ 7) w) : codeP Try.prog (pan R) (fstC p4) (q17 R) ρ w := by
  have e : appC 0 (preC 0 (fstC p4)) (dropC 1 (fstC p4)) = (fstC p4) := by kernel_rfl
  rw [← e]
  exact appQ (fun ρ w => l13 R (ρ 0) (ρ 2) (ρ 4) (ρ 7) (ρ 115) (ρ 116) (ρ 117) w) 0 ((b11_eq R ρ w).mp h) (fun ρ w h => k12_ok R ρ w h)
theorem k8_ok (R : EP) (ρ : Env) (w : World) (h : b11 R (ρ 0) (ρ 2) (ρ 4) (ρ 7) w) : codeP Try.prog (pan R) p4 (q1 R) ρ w := by
  have e : Code.seq (fstC p4) (sndC p4) = p4 := by kernel_rfl
  rw [← e]
  exact seqQ (fun ρ w => b9 R (ρ 0) (ρ 2) (ρ 4) (ρ 7) w) (b11_ok R ρ w h) (fun ρ w h => b9_ok R ρ w h)
def b7_1 (R : EP) (x2 : Value) (w8 : World) (_r : Tok R := tok R) : Prop :=
  RUN Try.prog (pan R) (Instr.build 27 #[]) w8 fun v10 w11 =>
  RUNU Try.prog (pan R) (Instr.storeAt 27 x2 v10) w11 fun w12 =>
  LD Try.prog (Instr.loadAt 27 x2) w12 fun r0 => R (.returned (.tuple #[r0, (Go.Value.int Go.IntKind.i64 1)])) w12

def b7 (R : EP) (x0 x2 x4 x7 : Value) (w : World) (_r : Tok R := tok R) : Prop :=
  PUR Try.prog (Instr.fieldAt 27 x4 1) fun v1 =>
  LD Try.prog (Instr.loadAt 23 v1) (World.drew w) fun v2 =>
  LD Try.prog (Builtin.len_ #[23] 3 #[v2]) (World.drew w) fun v3 =>
  NILC x0 fun v4 =>
  PUR Try.prog (Instr.fieldAt 174 v4 1) fun v5 =>
  PUR Try.prog (Instr.fieldAt 171 v5 0) fun v6 =>
  CALL Try.prog (pan R) gram_names_size.id #[v6] (World.drew w) fun v7 w8 =>
  Sem.run Try.prog (Builtin.len_ #[23] 3 #[v2]) w8 = .ok v3 w8 ∧ (Sem.run Try.prog (Instr.loadAt 23 v1) w8 = .ok v2 w8 ∧ (PUR Try.prog (bins .lss 3 (.tmp 104) (.tmp 109) v3 v7) fun v9 =>
  SPL v9
  (b7_1 R x2 w8)
  (b11 R x0 x2 x4 x7 w8)))
abbrev q19 (R : EP) : XP := QX (fun ρ w => b11 R (ρ 0) (ρ 2) (ρ 4) (ρ 7) w) (fun ρ w => LD Try.prog (Instr.loadAt 27 (ρ 2)) w fun r0 => R (.returned (.tuple #[r0, (ρ 3)])) w) []
theorem b7_eq (R : EP) (ρ : Env) (w : World) : (b7 R (ρ 0) (ρ 2) (ρ 4) (ρ 7) w) = codeP Try.prog (pan R) (preC 0 (sndC p3)) (q19 R) ρ w := by kernel_rfl
theorem b7_ok (R : EP) (ρ : Env) (w : World) (h : b7 R (ρ 0) (ρ 2) (ρ 4) (ρ 7) w) : codeP Try.prog (pan R) (sndC p3) (q1 R) ρ w := by
  have e : appC 0 (preC 0 (sndC p3)) (dropC 1 (sndC p3)) = (sndC p3) := by kernel_rfl
  rw [← e]
  exact appQ (fun ρ w => b11 R (ρ 0) (ρ 2) (ρ 4) (ρ 7) w) 0 ((b7_eq R ρ w).mp h) (fun ρ w h => k8_ok R ρ w h)
noncomputable abbrev p16 : Code := dropC 1 (fstC p3)
noncomputable abbrev p17 : Code := loopC (blkC p16)
noncomputable abbrev p18 : Code := dropC 3 p17

def b34 (R : EP) (C32 : VP) (x66 : Value) (w : World) (_r : Tok R := tok R) (_C32 : Tok C32 := tok C32) : Prop :=
  RUN Try.prog (pan R) (bins .add 3 (.tmp 66) (.const (Go.Value.int Go.IntKind.i64 1)) x66 (Go.Value.int Go.IntKind.i64 1)) w fun v1 w2 =>
  C32 v1 w2
abbrev q20 (R : EP) (C32 : VP) : XP := QX (fun ρ w => C32 (ρ 66) w) (fun ρ w => LD Try.prog (Instr.loadAt 27 (ρ 2)) w fun r0 => R (.returned (.tuple #[r0, (ρ 3)])) w) [(4, (fun ρ w => b7 R (ρ 0) (ρ 2) (ρ 4) (ρ 7) w))]
theorem b34_eq (R : EP) (C32 : VP) (ρ : Env) (w : World) : (b34 R C32 (ρ 66) w) = codeP Try.prog (pan R) p18 (q20 R C32) ρ w := by kernel_rfl
theorem b34_ok (R : EP) (C32 : VP) (ρ : Env) (w : World) (h : b34 R C32 (ρ 66) w) : codeP Try.prog (pan R) p18 (q20 R C32) ρ w := (b34_eq R C32 ρ w).mp h
def b33_1 (R : EP) (C32 : VP) (x0 x4 x7 x66 v7 : Value) (w17 : World) (_r : Tok R := tok R) (_C32 : Tok C32 := tok C32) : Prop :=
  RUN Try.prog (pan R) (Instr.fieldAt 178 v7 0) w17 fun v18 w19 =>
  RUN Try.prog (pan R) (Instr.loadAt 3 v18) w19 fun v20 w21 =>
  RUN Try.prog (pan R) (Instr.fieldAt 27 x4 0) w21 fun v22 w23 =>
  RUN Try.prog (pan R) (Instr.loadAt 22 v22) w23 fun v24 w25 =>
  RUN Try.prog (pan R) (Builtin.len_ #[22] 3 #[v24]) w25 fun v26 w27 =>
  RUN Try.prog (pan R) (Instr.fieldAt 27 x4 1) w27 fun v28 w29 =>
  RUN Try.prog (pan R) (Instr.loadAt 23 v28) w29 fun v30 w31 =>
  RUN Try.prog (pan R) (Builtin.len_ #[23] 3 #[v30]) w31 fun v32 w33 =>
  RUN Try.prog (pan R) (bins .add 3 (.tmp 80) (.tmp 83) v26 v32) w33 fun v34 w35 =>
  RUNU Try.prog (pan R) (Instr.mapUpdate 179 x7 v20 v34) w35 fun w36 =>
  PUR Try.prog (Instr.fieldAt 27 x4 1) fun v37 =>
  LD Try.prog (Instr.loadAt 23 v37) (World.drew w36) fun v38 =>
  NILC x0 fun v39 =>
  PUR Try.prog (Instr.fieldAt 174 v39 1) fun v40 =>
  PUR Try.prog (Instr.fieldAt 171 v40 0) fun v41 =>
  PUR Try.prog (Instr.fieldAt 169 v41 0) fun v42 =>
  LD Try.prog (Instr.loadAt 23 v42) (World.drew w36) fun v43 =>
  PUR Try.prog (Instr.fieldAt 178 v7 0) fun v44 =>
  LD Try.prog (Instr.loadAt 3 v44) (World.drew w36) fun v45 =>
  PUR Try.prog (bins .sub 3 (.const (Go.Value.int Go.IntKind.i64 (-1))) (.tmp 94) (Go.Value.int Go.IntKind.i64 (-1)) v45) fun v46 =>
  PUR Try.prog (Instr.indexAt 23 v43 v46) fun v47 =>
  LD Try.prog (Instr.loadAt 9 v47) (World.drew w36) fun v48 =>
  RUN Try.prog (pan R) (Instr.buildSlice 23 1 #[(0, v48)]) (World.drew w36) fun v49 w50 =>
  Sem.run Try.prog (Instr.loadAt 23 v37) w50 = .ok v38 w50 ∧ (RUN Try.prog (pan R) (Builtin.append_ #[23, 23] 23 #[v38, v49]) w50 fun v51 w52 =>
  PUR Try.prog (Instr.fieldAt 27 x4 1) fun v53 =>
  RUNU Try.prog (pan R) (Instr.storeAt 23 v53 v51) w52 fun w54 =>
  b34 R C32 x66 w54)
def b33_2 (R : EP) (C32 : VP) (x0 x4 x7 x64 x66 : Value) (w2 : World) (_r : Tok R := tok R) (_C32 : Tok C32 := tok C32) : Prop :=
  RUN Try.prog (pan R) (Instr.indexAt 172 x64 x66) w2 fun v3 w4 =>
  RUN Try.prog (pan R) (Instr.loadAt 178 v3) w4 fun v5 w6 =>
  RUN Try.prog (pan R) (Instr.alloc 178 true (.tuple #[])) w6 fun v7 w8 =>
  RUNU Try.prog (pan R) (Instr.storeAt 178 v7 v5) w8 fun w9 =>
  RUN Try.prog (pan R) (Instr.fieldAt 178 v7 0) w9 fun v10 w11 =>
  RUN Try.prog (pan R) (Instr.loadAt 3 v10) w11 fun v12 w13 =>
  RUN Try.prog (pan R) (Instr.lookup 179 x7 v12 false) w13 fun v14 w15 =>
  RUN Try.prog (pan R) (bins .eql 3 (.tmp 73) (.const (Go.Value.int Go.IntKind.i64 0)) v14 (Go.Value.int Go.IntKind.i64 0)) w15 fun v16 w17 =>
  SPL v16
  (b33_1 R C32 x0 x4 x7 x66 v7 w17)
  (b34 R C32 x66 w17)

def b33 (R : EP) (C32 : VP) (x0 x2 x4 x7 x64 x65 x66 : Value) (w : World) (_r : Tok R := tok R) (_C32 : Tok C32 := tok C32) : Prop :=
  RUN Try.prog (pan R) (bins .lss 3 (.tmp 66) (.tmp 65) x66 x65) w fun v1 w2 =>
  SPL v1
  (b33_2 R C32 x0 x4 x7 x64 x66 w2)
  (b7 R x0 x2 x4 x7 w2)
abbrev q21 (R : EP) (C32 : VP) : XP := QX (fun ρ w => b34 R C32 (ρ 66) w) (fun ρ w => LD Try.prog (Instr.loadAt 27 (ρ 2)) w fun r0 => R (.returned (.tuple #[r0, (ρ 3)])) w) [(4, (fun ρ w => b7 R (ρ 0) (ρ 2) (ρ 4) (ρ 7) w))]
theorem b33_eq (R : EP) (C32 : VP) (ρ : Env) (w : World) : (b33 R C32 (ρ 0) (ρ 2) (ρ 4) (ρ 7) (ρ 64) (ρ 65) (ρ 66) w) = codeP Try.prog (pan R) (preC 2 p17) (q21 R C32) ρ w := by kernel_rfl
theorem b33_ok (R : EP) (C32 : VP) (ρ : Env) (w : World) (h : b33 R C32 (ρ 0) (ρ 2) (ρ 4) (ρ 7) (ρ 64) (ρ 65) (ρ 66) w) : codeP Try.prog (pan R) p17 (q20 R C32) ρ w := by
  have e : appC 2 (preC 2 p17) (dropC 3 p17) = p17 := by kernel_rfl
  rw [← e]
  exact appQ (fun ρ w => b34 R C32 (ρ 66) w) 2 ((b33_eq R C32 ρ w).mp h) (fun ρ w h => b34_ok R C32 ρ w h)

def l32 (R : EP) (x0 x2 x4 x7 x64 x65 x66 : Value) (w : World) (_r : Tok R := tok R) : Prop :=
  ∃ (J : VP) (μ : Value → World → Nat), J x66 w ∧ ∀ y66 w0, J y66 w0 → b33 R (fun z66 w1 => J z66 w1 ∧ μ z66 w1 < μ y66 w0) x0 x2 x4 x7 x64 x65 y66 w0
abbrev q22 (R : EP) : XP := QX (fun ρ w => b7 R (ρ 0) (ρ 2) (ρ 4) (ρ 7) w) (fun ρ w => LD Try.prog (Instr.loadAt 27 (ρ 2)) w fun r0 => R (.returned (.tuple #[r0, (ρ 3)])) w) [(4, (fun ρ w => b7 R (ρ 0) (ρ 2) (ρ 4) (ρ 7) w))]
theorem l32_ok (R : EP) (ρ : Env) (w : World) (h : l32 R (ρ 0) (ρ 2) (ρ 4) (ρ 7) (ρ 64) (ρ 65) (ρ 66) w) : codeP Try.prog (pan R) (blkC p16) (q22 R) ρ w := by
  unfold l32 at h
  obtain ⟨J, μ, h0, hr⟩ := h
  have e : Code.loop (loopC (blkC p16)) = (blkC p16) := by kernel_rfl
  rw [← e]
  refine loopQ (fun ρ' w' => J (ρ' 66) w') (fun ρ' w' => μ (ρ' 66) w') h0 fun ρ' w' hA hI => ?_
  have e0 : ρ' 0 = ρ 0 := Agree.at hA 0 (by kernel_rfl)
  have e2 : ρ' 2 = ρ 2 := Agree.at hA 2 (by kernel_rfl)
  have e4 : ρ' 4 = ρ 4 := Agree.at hA 4 (by kernel_rfl)
  have e7 : ρ' 7 = ρ 7 := Agree.at hA 7 (by kernel_rfl)
  have e64 : ρ' 64 = ρ 64 := Agree.at hA 64 (by kernel_rfl)
  have e65 : ρ' 65 = ρ 65 := Agree.at hA 65 (by kernel_rfl)
  have h1 := hr (ρ' 66) w' hI
  rw [← e0, ← e2, ← e4, ← e7, ← e64, ← e65] at h1
  exact b33_ok R (fun z66 w1 => J z66 w1 ∧ μ z66 w1 < μ (ρ' 66) w') ρ' w' h1
theorem l32_intro (R : EP) (x0 x2 x4 x7 x64 x65 x66 : Value) (w : World) (J : VP) (μ : Value → World → Nat) (h0 : J x66 w)
    (hr : ∀ y66 w0, J y66 w0 → ∀ C32 : VP, (∀ z66 w1, J z66 w1 → μ z66 w1 < μ y66 w0 → C32 z66 w1) → b33 R C32 x0 x2 x4 x7 x64 x65 y66 w0) : l32 R x0 x2 x4 x7 x64 x65 x66 w := by
  unfold l32
  exact ⟨J, μ, h0, fun y66 w0 hJ => hr y66 w0 hJ _ (fun z66 w1 h1 h2 => ⟨h1, h2⟩)⟩
abbrev q23 (R : EP) : XP := QX (fun ρ w => b7 R (ρ 0) (ρ 2) (ρ 4) (ρ 7) w) (fun ρ w => LD Try.prog (Instr.loadAt 27 (ρ 2)) w fun r0 => R (.returned (.tuple #[r0, (ρ 3)])) w) []
theorem k31_ok (R : EP) (ρ : Env) (w : World) (h : l32 R (ρ 0) (ρ 2) (ρ 4) (ρ 7) (ρ 64) (ρ 65) (ρ 66) w) : codeP Try.prog (pan R) p16 (q23 R) ρ w := by
  have e : Code.block 2 (blkC p16) = p16 := by kernel_rfl
  rw [← e]
  exact blockQ (l32_ok R ρ w h)

def b30 (R : EP) (x0 x2 x4 x7 : Value) (w : World) (_r : Tok R := tok R) : Prop :=
  NILC x0 fun v1 =>
  RUN Try.prog (pan R) (Instr.fieldAt 174 v1 4) w fun v2 w3 =>
  RUN Try.prog (pan R) (Instr.loadAt 172 v2) w3 fun v4 w5 =>
  RUN Try.prog (pan R) (Builtin.len_ #[172] 3 #[v4]) w5 fun v6 w7 =>
  l32 R x0 x2 x4 x7 v4 v6 (Go.Value.int Go.IntKind.i64 0) w7
abbrev q24 (R : EP) : XP := QX (fun ρ w => l32 R (ρ 0) (ρ 2) (ρ 4) (ρ 7) (ρ 64) (ρ 65) (ρ 66) w) (fun ρ w => LD Try.prog (Instr.loadAt 27 (ρ 2)) w fun r0 => R (.returned (.tuple #[r0, (ρ 3)])) w) []
theorem b30_eq (R : EP) (ρ : Env) (w : World) : (b30 R (ρ 0) (ρ 2) (ρ 4) (ρ 7) w) = codeP Try.prog (pan R) (preC 0 (fstC p3)) (q24 R) ρ w := by kernel_rfl
theorem b30_ok (R : EP) (ρ : Env) (w : World) (h : b30 R (ρ 0) (ρ 2) (ρ 4) (ρ 7) w) : codeP Try.prog (pan R) (fstC p3) (q23 R) ρ w := by
  have e : appC 0 (preC 0 (fstC p3)) (dropC 1 (fstC p3)) = (fstC p3) := by kernel_rfl
  rw [← e]
  exact appQ (fun ρ w => l32 R (ρ 0) (ρ 2) (ρ 4) (ρ 7) (ρ 64) (ρ 65) (ρ 66) w) 0 ((b30_eq R ρ w).mp h) (fun ρ w h => k31_ok R ρ w h)
theorem k6_ok (R : EP) (ρ : Env) (w : World) (h : b30 R (ρ 0) (ρ 2) (ρ 4) (ρ 7) w) : codeP Try.prog (pan R) p3 (q1 R) ρ w := by
  have e : Code.seq (fstC p3) (sndC p3) = p3 := by kernel_rfl
  rw [← e]
  exact seqQ (fun ρ w => b7 R (ρ 0) (ρ 2) (ρ 4) (ρ 7) w) (b30_ok R ρ w h) (fun ρ w h => b7_ok R ρ w h)

def b5 (R : EP) (x0 x2 x4 : Value) (w : World) (_r : Tok R := tok R) : Prop :=
  RUN Try.prog (pan R) (Instr.makeMap 179 none) w fun v1 w2 =>
  b30 R x0 x2 x4 v1 w2
abbrev q25 (R : EP) : XP := QX (fun ρ w => b30 R (ρ 0) (ρ 2) (ρ 4) (ρ 7) w) (fun ρ w => LD Try.prog (Instr.loadAt 27 (ρ 2)) w fun r0 => R (.returned (.tuple #[r0, (ρ 3)])) w) []
theorem b5_eq (R : EP) (ρ : Env) (w : World) : (b5 R (ρ 0) (ρ 2) (ρ 4) w) = codeP Try.prog (pan R) (preC 0 (sndC p2)) (q25 R) ρ w := by kernel_rfl
theorem b5_ok (R : EP) (ρ : Env) (w : World) (h : b5 R (ρ 0) (ρ 2) (ρ 4) w) : codeP Try.prog (pan R) (sndC p2) (q1 R) ρ w := by
  have e : appC 0 (preC 0 (sndC p2)) (dropC 1 (sndC p2)) = (sndC p2) := by kernel_rfl
  rw [← e]
  exact appQ (fun ρ w => b30 R (ρ 0) (ρ 2) (ρ 4) (ρ 7) w) 0 ((b5_eq R ρ w).mp h) (fun ρ w h => k6_ok R ρ w h)
noncomputable abbrev p19 : Code := dropC 1 (fstC p2)
noncomputable abbrev p20 : Code := loopC (blkC p19)
def b38_1 (R : EP) (C37 : VP) (x0 x4 x38 x40 : Value) (w2 : World) (_r : Tok R := tok R) (_C37 : Tok C37 := tok C37) : Prop :=
  RUN Try.prog (pan R) (Instr.indexAt 23 x38 x40) w2 fun v3 w4 =>
  RUN Try.prog (pan R) (Instr.loadAt 9 v3) w4 fun v5 w6 =>
  PUR Try.prog (Instr.fieldAt 27 x4 0) fun v7 =>
  LD Try.prog (Instr.loadAt 22 v7) (World.drew w6) fun v8 =>
  NILC x0 fun v9 =>
  PUR Try.prog (Instr.fieldAt 174 v9 2) fun v10 =>
  LD Try.prog (Instr.loadAt 24 v10) (World.drew w6) fun v11 =>
  PUR Try.prog (Instr.indexAt 24 v11 x40) fun v12 =>
  LD Try.prog (Instr.loadAt 3 v12) (World.drew w6) fun v13 =>
  PUR Try.prog (Instr.build 106 #[(0, v5), (1, v13)]) fun v14 =>
  RUN Try.prog (pan R) (Instr.buildSlice 22 1 #[(0, v14)]) (World.drew w6) fun v15 w16 =>
  Sem.run Try.prog (Instr.loadAt 22 v7) w16 = .ok v8 w16 ∧ (RUN Try.prog (pan R) (Builtin.append_ #[22, 22] 22 #[v8, v15]) w16 fun v17 w18 =>
  PUR Try.prog (Instr.fieldAt 27 x4 0) fun v19 =>
  RUNU Try.prog (pan R) (Instr.storeAt 22 v19 v17) w18 fun w20 =>
  RUN Try.prog (pan R) (bins .add 3 (.tmp 40) (.const (Go.Value.int Go.IntKind.i64 1)) x40 (Go.Value.int Go.IntKind.i64 1)) w20 fun v21 w22 =>
  C37 v21 w22)

def b38 (R : EP) (C37 : VP) (x0 x2 x4 x38 x39 x40 : Value) (w : World) (_r : Tok R := tok R) (_C37 : Tok C37 := tok C37) : Prop :=
  RUN Try.prog (pan R) (bins .lss 3 (.tmp 40) (.tmp 39) x40 x39) w fun v1 w2 =>
  SPL v1
  (b38_1 R C37 x0 x4 x38 x40 w2)
  (b5 R x0 x2 x4 w2)
abbrev q26 (R : EP) (C37 : VP) : XP := QX (fun ρ w => C37 (ρ 40) w) (fun ρ w => LD Try.prog (Instr.loadAt 27 (ρ 2)) w fun r0 => R (.returned (.tuple #[r0, (ρ 3)])) w) [(0, (fun ρ w => b5 R (ρ 0) (ρ 2) (ρ 4) w))]
theorem b38_eq (R : EP) (C37 : VP) (ρ : Env) (w : World) : (b38 R C37 (ρ 0) (ρ 2) (ρ 4) (ρ 38) (ρ 39) (ρ 40) w) = codeP Try.prog (pan R) p20 (q26 R C37) ρ w := by kernel_rfl
theorem b38_ok (R : EP) (C37 : VP) (ρ : Env) (w : World) (h : b38 R C37 (ρ 0) (ρ 2) (ρ 4) (ρ 38) (ρ 39) (ρ 40) w) : codeP Try.prog (pan R) p20 (q26 R C37) ρ w := (b38_eq R C37 ρ w).mp h

def l37 (R : EP) (x0 x2 x4 x38 x39 x40 : Value) (w : World) (_r : Tok R := tok R) : Prop :=
  ∃ (J : VP) (μ : Value → World → Nat), J x40 w ∧ ∀ y40 w0, J y40 w0 → b38 R (fun z40 w1 => J z40 w1 ∧ μ z40 w1 < μ y40 w0) x0 x2 x4 x38 x39 y40 w0
abbrev q27 (R : EP) : XP := QX (fun ρ w => b5 R (ρ 0) (ρ 2) (ρ 4) w) (fun ρ w => LD Try.prog (Instr.loadAt 27 (ρ 2)) w fun r0 => R (.returned (.tuple #[r0, (ρ 3)])) w) [(0, (fun ρ w => b5 R (ρ 0) (ρ 2) (ρ 4) w))]
theorem l37_ok (R : EP) (ρ : Env) (w : World) (h : l37 R (ρ 0) (ρ 2) (ρ 4) (ρ 38) (ρ 39) (ρ 40) w) : codeP Try.prog (pan R) (blkC p19) (q27 R) ρ w := by
  unfold l37 at h
  obtain ⟨J, μ, h0, hr⟩ := h
  have e : Code.loop (loopC (blkC p19)) = (blkC p19) := by kernel_rfl
  rw [← e]
  refine loopQ (fun ρ' w' => J (ρ' 40) w') (fun ρ' w' => μ (ρ' 40) w') h0 fun ρ' w' hA hI => ?_
  have e0 : ρ' 0 = ρ 0 := Agree.at hA 0 (by kernel_rfl)
  have e2 : ρ' 2 = ρ 2 := Agree.at hA 2 (by kernel_rfl)
  have e4 : ρ' 4 = ρ 4 := Agree.at hA 4 (by kernel_rfl)
  have e38 : ρ' 38 = ρ 38 := Agree.at hA 38 (by kernel_rfl)
  have e39 : ρ' 39 = ρ 39 := Agree.at hA 39 (by kernel_rfl)
  have h1 := hr (ρ' 40) w' hI
  rw [← e0, ← e2, ← e4, ← e38, ← e39] at h1
  exact b38_ok R (fun z40 w1 => J z40 w1 ∧ μ z40 w1 < μ (ρ' 40) w') ρ' w' h1
theorem l37_intro (R : EP) (x0 x2 x4 x38 x39 x40 : Value) (w : World) (J : VP) (μ : Value → World → Nat) (h0 : J x40 w)
    (hr : ∀ y40 w0, J y40 w0 → ∀ C37 : VP, (∀ z40 w1, J z40 w1 → μ z40 w1 < μ y40 w0 → C37 z40 w1) → b38 R C37 x0 x2 x4 x38 x39 y40 w0) : l37 R x0 x2 x4 x38 x39 x40 w := by
  unfold l37
  exact ⟨J, μ, h0, fun y40 w0 hJ => hr y40 w0 hJ _ (fun z40 w1 h1 h2 => ⟨h1, h2⟩)⟩
abbrev q28 (R : EP) : XP := QX (fun ρ w => b5 R (ρ 0) (ρ 2) (ρ 4) w) (fun ρ w => LD Try.prog (Instr.loadAt 27 (ρ 2)) w fun r0 => R (.returned (.tuple #[r0, (ρ 3)])) w) []
theorem k36_ok (R : EP) (ρ : Env) (w : World) (h : l37 R (ρ 0) (ρ 2) (ρ 4) (ρ 38) (ρ 39) (ρ 40) w) : codeP Try.prog (pan R) p19 (q28 R) ρ w := by
  have e : Code.block 0 (blkC p19) = p19 := by kernel_rfl
  rw [← e]
  exact blockQ (l37_ok R ρ w h)

def b35 (R : EP) (x0 x2 x4 : Value) (w : World) (_r : Tok R := tok R) : Prop :=
  NILC x0 fun v1 =>
  RUN Try.prog (pan R) (Instr.fieldAt 174 v1 0) w fun v2 w3 =>
  RUN Try.prog (pan R) (Instr.fieldAt 169 v2 0) w3 fun v4 w5 =>
  RUN Try.prog (pan R) (Instr.loadAt 23 v4) w5 fun v6 w7 =>
  RUN Try.prog (pan R) (Builtin.len_ #[23] 3 #[v6]) w7 fun v8 w9 =>
  l37 R x0 x2 x4 v6 v8 (Go.Value.int Go.IntKind.i64 0) w9
abbrev q29 (R : EP) : XP := QX (fun ρ w => l37 R (ρ 0) (ρ 2) (ρ 4) (ρ 38) (ρ 39) (ρ 40) w) (fun ρ w => LD Try.prog (Instr.loadAt 27 (ρ 2)) w fun r0 => R (.returned (.tuple #[r0, (ρ 3)])) w) []
theorem b35_eq (R : EP) (ρ : Env) (w : World) : (b35 R (ρ 0) (ρ 2) (ρ 4) w) = codeP Try.prog (pan R) (preC 0 (fstC p2)) (q29 R) ρ w := by kernel_rfl
theorem b35_ok (R : EP) (ρ : Env) (w : World) (h : b35 R (ρ 0) (ρ 2) (ρ 4) w) : codeP Try.prog (pan R) (fstC p2) (q28 R) ρ w := by
  have e : appC 0 (preC 0 (fstC p2)) (dropC 1 (fstC p2)) = (fstC p2) := by kernel_rfl
  rw [← e]
  exact appQ (fun ρ w => l37 R (ρ 0) (ρ 2) (ρ 4) (ρ 38) (ρ 39) (ρ 40) w) 0 ((b35_eq R ρ w).mp h) (fun ρ w h => k36_ok R ρ w h)
theorem k4_ok (R : EP) (ρ : Env) (w : World) (h : b35 R (ρ 0) (ρ 2) (ρ 4) w) : codeP Try.prog (pan R) p2 (q1 R) ρ w := by
  have e : Code.seq (fstC p2) (sndC p2) = p2 := by kernel_rfl
  rw [← e]
  exact seqQ (fun ρ w => b5 R (ρ 0) (ρ 2) (ρ 4) w) (b35_ok R ρ w h) (fun ρ w h => b5_ok R ρ w h)
def b3_1 (R : EP) (x0 x2 v3 v10 : Value) (w11 : World) (_r : Tok R := tok R) : Prop :=
  RUN Try.prog (pan R) (Instr.build 27 #[(0, v3), (2, v10)]) w11 fun v12 w13 =>
  RUN Try.prog (pan R) (Instr.alloc 27 true (.tuple #[])) w13 fun v14 w15 =>
  RUNU Try.prog (pan R) (Instr.storeAt 27 v14 v12) w15 fun w16 =>
  b35 R x0 x2 v14 w16

def b3 (R : EP) (x0 x2 : Value) (w : World) (_r : Tok R := tok R) : Prop :=
  RUN Try.prog (pan R) (Instr.build 106 #[]) w fun v1 w2 =>
  RUN Try.prog (pan R) (Instr.buildSlice 22 1 #[(0, v1)]) w2 fun v3 w4 =>
  NILC x0 fun v5 =>
  RUN Try.prog (pan R) (Instr.fieldAt 174 v5 3) w4 fun v6 w7 =>
  RUN Try.prog (pan R) (Instr.loadAt 24 v6) w7 fun v8 w9 =>
  CALL Try.prog (pan R) slices_Clone_int_int.id #[v8] w9 fun v10 w11 =>
  b3_1 R x0 x2 v3 v10 w11
abbrev q30 (R : EP) : XP := QX (fun ρ w => b35 R (ρ 0) (ρ 2) (ρ 4) w) (fun ρ w => LD Try.prog (Instr.loadAt 27 (ρ 2)) w fun r0 => R (.returned (.tuple #[r0, (ρ 3)])) w) []
theorem b3_eq (R : EP) (ρ : Env) (w : World) : (b3 R (ρ 0) (ρ 2) w) = codeP Try.prog (pan R) (preC 0 (sndC p1)) (q30 R) ρ w := by kernel_rfl
theorem b3_ok (R : EP) (ρ : Env) (w : World) (h : b3 R (ρ 0) (ρ 2) w) : codeP Try.prog (pan R) (sndC p1) (q1 R) ρ w := by
  have e : appC 0 (preC 0 (sndC p1)) (dropC 1 (sndC p1)) = (sndC p1) := by kernel_rfl
  rw [← e]
  exact appQ (fun ρ w => b35 R (ρ 0) (ρ 2) (ρ 4) w) 0 ((b3_eq R ρ w).mp h) (fun ρ w h => k4_ok R ρ w h)
noncomputable abbrev p21 : Code := dropC 1 (fstC p1)
def b40_1 (R : EP) (x2 : Value) (w : World) (_r : Tok R := tok R) : Prop :=
  RUN Try.prog (pan R) (Instr.build 27 #[]) w fun v1 w2 =>
  RUNU Try.prog (pan R) (Instr.storeAt 27 x2 v1) w2 fun w3 =>
  LD Try.prog (Instr.loadAt 27 x2) w3 fun r0 => R (.returned (.tuple #[r0, (Go.Value.int Go.IntKind.i64 1)])) w3

def b40 (R : EP) (x0 x2 x24 : Value) (w : World) (_r : Tok R := tok R) : Prop :=
  SPL x24
  (b40_1 R x2 w)
  (b3 R x0 x2 w)
abbrev q31 (R : EP) : XP := QX (fun ρ w => b3 R (ρ 0) (ρ 2) w) (fun ρ w => LD Try.prog (Instr.loadAt 27 (ρ 2)) w fun r0 => R (.returned (.tuple #[r0, (ρ 3)])) w) []
theorem b40_eq (R : EP) (ρ : Env) (w : World) : (b40 R (ρ 0) (ρ 2) (ρ 24) w) = codeP Try.prog (pan R) p21 (q31 R) ρ w := by kernel_rfl
theorem b40_ok (R : EP) (ρ : Env) (w : World) (h : b40 R (ρ 0) (ρ 2) (ρ 24) w) : codeP Try.prog (pan R) p21 (q31 R) ρ w := (b40_eq R ρ w).mp h
def b39_1 (R : EP) (x0 x2 : Value) (w2 : World) (_r : Tok R := tok R) : Prop :=
  NILC x0 fun v3 =>
  RUN Try.prog (pan R) (Instr.fieldAt 174 v3 4) w2 fun v4 w5 =>
  RUN Try.prog (pan R) (Instr.loadAt 172 v4) w5 fun v6 w7 =>
  RUN Try.prog (pan R) (Builtin.len_ #[172] 3 #[v6]) w7 fun v8 w9 =>
  RUN Try.prog (pan R) (bins .eql 3 (.tmp 22) (.const (Go.Value.int Go.IntKind.i64 0)) v8 (Go.Value.int Go.IntKind.i64 0)) w9 fun v10 w11 =>
  b40 R x0 x2 v10 w11

def b39 (R : EP) (x0 x2 : Value) (w : World) (_r : Tok R := tok R) : Prop :=
  RUN Try.prog (pan R) (bins .eql 141 (.tmp 15) (.const (Go.Value.pointer Option.none)) x0 (Go.Value.pointer Option.none)) w fun v1 w2 =>
  SPL v1
  (b40 R x0 x2 (Go.Value.bool Bool.true) w2)
  (b39_1 R x0 x2 w2)
abbrev q32 (R : EP) : XP := QX (fun ρ w => b40 R (ρ 0) (ρ 2) (ρ 24) w) (fun ρ w => LD Try.prog (Instr.loadAt 27 (ρ 2)) w fun r0 => R (.returned (.tuple #[r0, (ρ 3)])) w) []
theorem b39_eq (R : EP) (ρ : Env) (w : World) : (b39 R (ρ 0) (ρ 2) w) = codeP Try.prog (pan R) (preC 0 (fstC p1)) (q32 R) ρ w := by kernel_rfl
theorem b39_ok (R : EP) (ρ : Env) (w : World) (h : b39 R (ρ 0) (ρ 2) w) : codeP Try.prog (pan R) (fstC p1) (q31 R) ρ w := by
  have e : appC 0 (preC 0 (fstC p1)) (dropC 1 (fstC p1)) = (fstC p1) := by kernel_rfl
  rw [← e]
  exact appQ (fun ρ w => b40 R (ρ 0) (ρ 2) (ρ 24) w) 0 ((b39_eq R ρ w).mp h) (fun ρ w h => b40_ok R ρ w h)
theorem k2_ok (R : EP) (ρ : Env) (w : World) (h : b39 R (ρ 0) (ρ 2) w) : codeP Try.prog (pan R) p1 (q1 R) ρ w := by
  have e : Code.seq (fstC p1) (sndC p1) = p1 := by kernel_rfl
  rw [← e]
  exact seqQ (fun ρ w => b3 R (ρ 0) (ρ 2) w) (b39_ok R ρ w h) (fun ρ w h => b3_ok R ρ w h)

def b1 (R : EP) (x0 : Value) (w : World) (_r : Tok R := tok R) : Prop :=
  RUN Try.prog (pan R) (Instr.alloc 27 true (.tuple #[])) w fun v1 w2 =>
  b39 R x0 v1 w2
abbrev q33 (R : EP) : XP := QX (fun ρ w => b39 R (ρ 0) (ρ 2) w) (fun ρ w => LD Try.prog (Instr.loadAt 27 (ρ 2)) w fun r0 => R (.returned (.tuple #[r0, (ρ 3)])) w) []
theorem b1_eq (R : EP) (ρ : Env) (w : World) : (b1 R (ρ 0) w) = codeP Try.prog (pan R) (preC 0 code) (q33 R) ρ w := by kernel_rfl
theorem b1_ok (R : EP) (ρ : Env) (w : World) (h : b1 R (ρ 0) w) : codeP Try.prog (pan R) code (q1 R) ρ w := by
  have e : appC 0 (preC 0 code) (dropC 1 code) = code := by kernel_rfl
  rw [← e]
  exact appQ (fun ρ w => b39 R (ρ 0) (ρ 2) w) 0 ((b1_eq R ρ w).mp h) (fun ρ w h => k2_ok R ρ w h)
/-- What is owed for a call. -/
def run (R : EP) (a0 : Value) (w : World) : Prop := b1 R a0 w
theorem calls (R : EP) (a0 : Value) (w : World) (h : run R a0 w) : Calls Try.prog id #[a0] w R :=
  calls_of_ct (f := id) (fn := Try.f105) (c := code) (by kernel_rfl) Try.func105 (by kernel_rfl) (by kernel_rfl) (args := [a0]) (Nat.le_of_ble_eq_true rfl) rfl (b1_ok R (envOf [a0]) w h)
theorem enters : Enters Try.prog id := fun args w => Try.call105 args w
theorem ct {a0 : Value} {w : World} {S : VP} (h : ∀ R : EP, (∀ v w, S v w → R (.returned v) w) → run R a0 w) : Ct Try.prog id #[a0] w S :=
  Ct.intro enters fun R hR => calls R a0 w (h R hR)
attribute [irreducible] b10 b9_1 b9 b16 b20 b26 b29 b28 b24 l23 b21 b18 b14 l13 b11 b7_1 b7 b34 b33_1 b33_2 b33 l32 b30 b5 b38_1 b38 l37 b35 b3_1 b3 b40_1 b40 b39_1 b39 b1 run
attribute [go_sem] b10 b9_1 b9 b16 b20 b26 b29 b28 b24 b21 b18 b14 b11 b7_1 b7 b34 b33_1 b33_2 b33 b30 b5 b38_1 b38 b35 b3_1 b3 b40_1 b40 b39_1 b39 b1 run
end gram_Builder_Grammar
end Go.Proofs.Ytkacbjhiobnbfaa

/- Shallow programs, written by a program of ours (gen.py) off the translation; each is tied to the code by the kernel. -/
set_option linter.unusedVariables false
set_option maxRecDepth 100000
namespace Go.Proofs.Ytkacbjhiobnbfaa
open Go.Px


/-! ### slices.IsSorted[[]int,int] -/
namespace slices_IsSorted_int_int
noncomputable def code : Code := bodyOf Try.f108
noncomputable abbrev p1 : Code := dropC 1 code

def b3 (R : EP) (w : World) (_r : Tok R := tok R) : Prop :=
  R (.returned (Go.Value.bool Bool.true)) w
abbrev q1 (R : EP) : XP := QX (fun ρ w => R (.returned (ρ 2)) w) (fun ρ w => R (.returned (ρ 2)) w) []
theorem b3_eq (R : EP) (ρ : Env) (w : World) : (b3 R w) = codeP Try.prog (pan R) (sndC p1) (q1 R) ρ w := by kernel_rfl
theorem b3_ok (R : EP) (ρ : Env) (w : World) (h : b3 R w) : codeP Try.prog (pan R) (sndC p1) (q1 R) ρ w := (b3_eq R ρ w).mp h
noncomputable abbrev p2 : Code := dropC 1 (fstC p1)
noncomputable abbrev p3 : Code := loopC (blkC p2)
def b7_1 (R : EP) (C6 : VP) (x0 x3 : Value) (w2 : World) (_r : Tok R := tok R) (_C6 : Tok C6 := tok C6) : Prop :=
  PUR Try.prog (Instr.indexAt 24 x0 x3) fun v3 =>
  LD Try.prog (Instr.loadAt 3 v3) (World.drew w2) fun v4 =>
  PUR Try.prog (bins .sub 3 (.tmp 16) (.const (Go.Value.int Go.IntKind.i64 1)) x3 (Go.Value.int Go.IntKind.i64 1)) fun v5 =>
  PUR Try.prog (Instr.indexAt 24 x0 v5) fun v6 =>
  LD Try.prog (Instr.loadAt 3 v6) (World.drew w2) fun v7 =>
  CALL Try.prog (pan R) cmp_Less_int.id #[v4, v7] (World.drew w2) fun v8 w9 =>
  SPL v8
  (R (.returned (Go.Value.bool Bool.false)) w9)
  (RUN Try.prog (pan R) (bins .sub 3 (.tmp 9) (.const (Go.Value.int Go.IntKind.i64 1)) x3 (Go.Value.int Go.IntKind.i64 1)) w9 fun v10 w11 =>
  C6 v10 w11)
def b7 (R : EP) (C6 : VP) (x0 x3 : Value) (w : World) (_r : Tok R := tok R) (_C6 : Tok C6 := tok C6) : Prop :=
  RUN Try.prog (pan R) (bins .gtr 3 (.tmp 7) (.const (Go.Value.int Go.IntKind.i64 0)) x3 (Go.Value.int Go.IntKind.i64 0)) w fun v1 w2 =>
  SPL v1
  (b7_1 R C6 x0 x3 w2)
  (b3 R w2)
abbrev q2 (R : EP) (C6 : VP) : XP := QX (fun ρ w => C6 (ρ 3) w) (fun ρ w => R (.returned (ρ 2)) w) [(0, (fun ρ w => b3 R  w))]
theorem b7_eq (R : EP) (C6 : VP) (ρ : Env) (w : World) : (b7 R C6 (ρ 0) (ρ 3) w) = codeP Try.prog (pan R) p3 (q2 R C6) ρ w := by kernel_rfl
theorem b7_ok (R : EP) (C6 : VP) (ρ : Env) (w : World) (h : b7 R C6 (ρ 0) (ρ 3) w) : codeP Try.prog (pan R) p3 (q2 R C6) ρ w := (b7_eq R C6 ρ w).mp h
def l6 (R : EP) (x0 x3 : Value) (w : World) (_r : Tok R := tok R) : Prop :=
  ∃ (J : VP) (μ : Value → World → Nat), J x3 w ∧ ∀ y3 w0, J y3 w0 → b7 R (fun z3 w1 => J z3 w1 ∧ μ z3 w1 < μ y3 w0) x0 y3 w0
abbrev q3 (R : EP) : XP := QX (fun ρ w => b3 R  w) (fun ρ w => R (.returned (ρ 2)) w) [(0, (fun ρ w => b3 R  w))]
theorem l6_ok (R : EP) (ρ : Env) (w : World) (h : l6 R (ρ 0) (ρ 3) w) : codeP Try.prog (pan R) (blkC p2) (q3 R) ρ w := by
  unfold l6 at h
  obtain ⟨J, μ, h0, hr⟩ := h
  have e : Code.loop (loopC (blkC p2)) = (blkC p2) := by kernel_rfl
  rw [← e]
  refine loopQ (fun ρ' w' => J (ρ' 3) w') (fun ρ' w' => μ (ρ' 3) w') h0 fun ρ' w' hA hI => ?_
  have e0 : ρ' 0 = ρ 0 := Agree.at hA 0 (by kernel_rfl)
  have h1 := hr (ρ' 3) w' hI
  rw [← e0] at h1
  exact b7_ok R (fun z3 w1 => J z3 w1 ∧ μ z3 w1 < μ (ρ' 3) w') ρ' w' h1
theorem l6_intro (R : EP) (x0 x3 : Value) (w : World) (J : VP) (μ : Value → World → Nat) (h0 : J x3 w)
    (hr : ∀ y3 w0, J y3 w0 → ∀ C6 : VP, (∀ z3 w1, J z3 w1 → μ z3 w1 < μ y3 w0 → C6 z3 w1) → b7 R C6 x0 y3 w0) : l6 R x0 x3 w := by
  unfold l6
  exact ⟨J, μ, h0, fun y3 w0 hJ => hr y3 w0 hJ _ (fun z3 w1 h1 h2 => ⟨h1, h2⟩)⟩
abbrev q4 (R : EP) : XP := QX (fun ρ w => b3 R  w) (fun ρ w => R (.returned (ρ 2)) w) []
theorem k5_ok (R : EP) (ρ : Env) (w : World) (h : l6 R (ρ 0) (ρ 3) w) : codeP Try.prog (pan R) p2 (q4 R) ρ w := by
  have e : Code.block 0 (blkC p2) = p2 := by kernel_rfl
  rw [← e]
  exact blockQ (l6_ok R ρ w h)
def b4 (R : EP) (x0 : Value) (w : World) (_r : Tok R := tok R) : Prop :=
  RUN Try.prog (pan R) (Builtin.len_ #[24] 3 #[x0]) w fun v1 w2 =>
  RUN Try.prog (pan R) (bins .sub 3 (.tmp 5) (.const (Go.Value.int Go.IntKind.i64 1)) v1 (Go.Value.int Go.IntKind.i64 1)) w2 fun v3 w4 =>
  l6 R x0 v3 w4
abbrev q5 (R : EP) : XP := QX (fun ρ w => l6 R (ρ 0) (ρ 3) w) (fun ρ w => R (.returned (ρ 2)) w) []
theorem b4_eq (R : EP) (ρ : Env) (w : World) : (b4 R (ρ 0) w) = codeP Try.prog (pan R) (preC 0 (fstC p1)) (q5 R) ρ w := by kernel_rfl
theorem b4_ok (R : EP) (ρ : Env) (w : World) (h : b4 R (ρ 0) w) : codeP Try.prog (pan R) (fstC p1) (q4 R) ρ w := by
  have e : appC 0 (preC 0 (fstC p1)) (dropC 1 (fstC p1)) = (fstC p1) := by kernel_rfl
  rw [← e]
  exact appQ (fun ρ w => l6 R (ρ 0) (ρ 3) w) 0 ((b4_eq R ρ w).mp h) (fun ρ w h => k5_ok R ρ w h)
theorem k2_ok (R : EP) (ρ : Env) (w : World) (h : b4 R (ρ 0) w) : codeP Try.prog (pan R) p1 (q1 R) ρ w := by
  have e : Code.seq (fstC p1) (sndC p1) = p1 := by kernel_rfl
  rw [← e]
  exact seqQ (fun ρ w => b3 R  w) (b4_ok R ρ w h) (fun ρ w h => b3_ok R ρ w h)
def b1 (R : EP) (x0 : Value) (w : World) (_r : Tok R := tok R) : Prop :=
  b4 R x0 w
abbrev q6 (R : EP) : XP := QX (fun ρ w => b4 R (ρ 0) w) (fun ρ w => R (.returned (ρ 2)) w) []
theorem b1_eq (R : EP) (ρ : Env) (w : World) : (b1 R (ρ 0) w) = codeP Try.prog (pan R) (preC 0 code) (q6 R) ρ w := by kernel_rfl
theorem b1_ok (R : EP) (ρ : Env) (w : World) (h : b1 R (ρ 0) w) : codeP Try.prog (pan R) code (q1 R) ρ w := by
  have e : appC 0 (preC 0 code) (dropC 1 code) = code := by kernel_rfl
  rw [← e]
  exact appQ (fun ρ w => b4 R (ρ 0) w) 0 ((b1_eq R ρ w).mp h) (fun ρ w h => k2_ok R ρ w h)
/-- What is owed for a call. -/
def run (R : EP) (a0 : Value) (w : World) : Prop := b1 R a0 w
theorem calls (R : EP) (a0 : Value) (w : World) (h : run R a0 w) : Calls Try.prog id #[a0] w R :=
  calls_of_t (f := id) (fn := Try.f108) (c := code) (by kernel_rfl) Try.func108 (by kernel_rfl) (by kernel_rfl) (args := [a0]) (Nat.le_of_ble_eq_true rfl) rfl (b1_ok R (envOf [a0]) w h)
theorem enters : Enters Try.prog id := fun args w => Try.call108 args w
theorem ct {a0 : Value} {w : World} {S : VP} (h : ∀ R : EP, (∀ v w, S v w → R (.returned v) w) → run R a0 w) : Ct Try.prog id #[a0] w S :=
  Ct.intro enters fun R hR => calls R a0 w (h R hR)
attribute [irreducible] b3 b7_1 b7 l6 b4 b1 run
attribute [go_sem] b3 b7_1 b7 b4 b1 run
end slices_IsSorted_int_int

/-! ### slices.Clip[[]presage/api.Term,presage/api.Term] -/
namespace slices_Clip_api_Term_api_Term
noncomputable def code : Code := bodyOf Try.f109
def b1 (R : EP) (x0 : Value) (w : World) (_r : Tok R := tok R) : Prop :=
  RUN Try.prog (pan R) (Builtin.len_ #[22] 3 #[x0]) w fun v1 w2 =>
  RUN Try.prog (pan R) (Builtin.len_ #[22] 3 #[x0]) w2 fun v3 w4 =>
  RUN Try.prog (pan R) (Instr.sliceAt 22 x0 none (some v1) (some v3)) w4 fun v5 w6 =>
  R (.returned v5) w6
abbrev q1 (R : EP) : XP := QX (fun ρ w => R (.returned (ρ 2)) w) (fun ρ w => R (.returned (ρ 2)) w) []
theorem b1_eq (R : EP) (ρ : Env) (w : World) : (b1 R (ρ 0) w) = codeP Try.prog (pan R) code (q1 R) ρ w := by kernel_rfl
theorem b1_ok (R : EP) (ρ : Env) (w : World) (h : b1 R (ρ 0) w) : codeP Try.prog (pan R) code (q1 R) ρ w := (b1_eq R ρ w).mp h
/-- What is owed for a call. -/
def run (R : EP) (a0 : Value) (w : World) : Prop := b1 R a0 w
theorem calls (R : EP) (a0 : Value) (w : World) (h : run R a0 w) : Calls Try.prog id #[a0] w R :=
  calls_of_t (f := id) (fn := Try.f109) (c := code) (by kernel_rfl) Try.func109 (by kernel_rfl) (by kernel_rfl) (args := [a0]) (Nat.le_of_ble_eq_true rfl) rfl (b1_ok R (envOf [a0]) w h)
theorem enters : Enters Try.prog id := fun args w => Try.call109 args w
theorem ct {a0 : Value} {w : World} {S : VP} (h : ∀ R : EP, (∀ v w, S v w → R (.returned v) w) → run R a0 w) : Ct Try.prog id #[a0] w S :=
  Ct.intro enters fun R hR => calls R a0 w (h R hR)
attribute [irreducible] b1 run
attribute [go_sem] b1 run
end slices_Clip_api_Term_api_Term

/-! ### slices.Clone[[]presage/api.Term,presage/api.Term] -/
namespace slices_Clone_api_Term_api_Term
noncomputable def code : Code := bodyOf Try.f110
def b1_1 (R : EP) (x0 : Value) (w2 : World) (_r : Tok R := tok R) : Prop :=
  RUN Try.prog (pan R) (Instr.buildSlice 22 0 #[]) w2 fun v3 w4 =>
  RUN Try.prog (pan R) (Builtin.append_ #[22, 22] 22 #[v3, x0]) w4 fun v5 w6 =>
  R (.returned v5) w6
def b1 (R : EP) (x0 : Value) (w : World) (_r : Tok R := tok R) : Prop :=
  RUN Try.prog (pan R) (bins .eql 22 (.tmp 3) (.const (Go.Value.slice Option.none 0 0)) x0 (Go.Value.slice Option.none 0 0)) w fun v1 w2 =>
  SPL v1
  (R (.returned (Go.Value.slice Option.none 0 0)) w2)
  (b1_1 R x0 w2)
abbrev q1 (R : EP) : XP := QX (fun ρ w => R (.returned (ρ 2)) w) (fun ρ w => R (.returned (ρ 2)) w) []
theorem b1_eq (R : EP) (ρ : Env) (w : World) : (b1 R (ρ 0) w) = codeP Try.prog (pan R) code (q1 R) ρ w := by kernel_rfl
theorem b1_ok (R : EP) (ρ : Env) (w : World) (h : b1 R (ρ 0) w) : codeP Try.prog (pan R) code (q1 R) ρ w := (b1_eq R ρ w).mp h
/-- What is owed for a call. -/
def run (R : EP) (a0 : Value) (w : World) : Prop := b1 R a0 w
theorem calls (R : EP) (a0 : Value) (w : World) (h : run R a0 w) : Calls Try.prog id #[a0] w R :=
  calls_of_t (f := id) (fn := Try.f110) (c := code) (by kernel_rfl) Try.func110 (by kernel_rfl) (by kernel_rfl) (args := [a0]) (Nat.le_of_ble_eq_true rfl) rfl (b1_ok R (envOf [a0]) w h)
theorem enters : Enters Try.prog id := fun args w => Try.call110 args w
theorem ct {a0 : Value} {w : World} {S : VP} (h : ∀ R : EP, (∀ v w, S v w → R (.returned v) w) → run R a0 w) : Ct Try.prog id #[a0] w S :=
  Ct.intro enters fun R hR => calls R a0 w (h R hR)
attribute [irreducible] b1_1 b1 run
attribute [go_sem] b1_1 b1 run
end slices_Clone_api_Term_api_Term

/-! ### slices.Clip[[]string,string] -/
namespace slices_Clip_string_string
noncomputable def code : Code := bodyOf Try.f111
def b1 (R : EP) (x0 : Value) (w : World) (_r : Tok R := tok R) : Prop :=
  RUN Try.prog (pan R) (Builtin.len_ #[23] 3 #[x0]) w fun v1 w2 =>
  RUN Try.prog (pan R) (Builtin.len_ #[23] 3 #[x0]) w2 fun v3 w4 =>
  RUN Try.prog (pan R) (Instr.sliceAt 23 x0 none (some v1) (some v3)) w4 fun v5 w6 =>
  R (.returned v5) w6
abbrev q1 (R : EP) : XP := QX (fun ρ w => R (.returned (ρ 2)) w) (fun ρ w => R (.returned (ρ 2)) w) []
theorem b1_eq (R : EP) (ρ : Env) (w : World) : (b1 R (ρ 0) w) = codeP Try.prog (pan R) code (q1 R) ρ w := by kernel_rfl
theorem b1_ok (R : EP) (ρ : Env) (w : World) (h : b1 R (ρ 0) w) : codeP Try.prog (pan R) code (q1 R) ρ w := (b1_eq R ρ w).mp h
/-- What is owed for a call. -/
def run (R : EP) (a0 : Value) (w : World) : Prop := b1 R a0 w
theorem calls (R : EP) (a0 : Value) (w : World) (h : run R a0 w) : Calls Try.prog id #[a0] w R :=
  calls_of_t (f := id) (fn := Try.f111) (c := code) (by kernel_rfl) Try.func111 (by kernel_rfl) (by kernel_rfl) (args := [a0]) (Nat.le_of_ble_eq_true rfl) rfl (b1_ok R (envOf [a0]) w h)
theorem enters : Enters Try.prog id := fun args w => Try.call111 args w
theorem ct {a0 : Value} {w : World} {S : VP} (h : ∀ R : EP, (∀ v w, S v w → R (.returned v) w) → run R a0 w) : Ct Try.prog id #[a0] w S :=
  Ct.intro enters fun R hR => calls R a0 w (h R hR)
attribute [irreducible] b1 run
attribute [go_sem] b1 run
end slices_Clip_string_string

/-! ### slices.Clone[[]string,string] -/
namespace slices_Clone_string_string
noncomputable def code : Code := bodyOf Try.f112
def b1_1 (R : EP) (x0 : Value) (w2 : World) (_r : Tok R := tok R) : Prop :=
  RUN Try.prog (pan R) (Instr.buildSlice 23 0 #[]) w2 fun v3 w4 =>
  RUN Try.prog (pan R) (Builtin.append_ #[23, 23] 23 #[v3, x0]) w4 fun v5 w6 =>
  R (.returned v5) w6
def b1 (R : EP) (x0 : Value) (w : World) (_r : Tok R := tok R) : Prop :=
  RUN Try.prog (pan R) (bins .eql 23 (.tmp 3) (.const (Go.Value.slice Option.none 0 0)) x0 (Go.Value.slice Option.none 0 0)) w fun v1 w2 =>
  SPL v1
  (R (.returned (Go.Value.slice Option.none 0 0)) w2)
  (b1_1 R x0 w2)
abbrev q1 (R : EP) : XP := QX (fun ρ w => R (.returned (ρ 2)) w) (fun ρ w => R (.returned (ρ 2)) w) []
theorem b1_eq (R : EP) (ρ : Env) (w : World) : (b1 R (ρ 0) w) = codeP Try.prog (pan R) code (q1 R) ρ w := by kernel_rfl
theorem b1_ok (R : EP) (ρ : Env) (w : World) (h : b1 R (ρ 0) w) : codeP Try.prog (pan R) code (q1 R) ρ w := (b1_eq R ρ w).mp h
/-- What is owed for a call. -/
def run (R : EP) (a0 : Value) (w : World) : Prop := b1 R a0 w
theorem calls (R : EP) (a0 : Value) (w : World) (h : run R a0 w) : Calls Try.prog id #[a0] w R :=
  calls_of_t (f := id) (fn := Try.f112) (c := code) (by kernel_rfl) Try.func112 (by kernel_rfl) (by kernel_rfl) (args := [a0]) (Nat.le_of_ble_eq_true rfl) rfl (b1_ok R (envOf [a0]) w h)
theorem enters : Enters Try.prog id := fun args w => Try.call112 args w
theorem ct {a0 : Value} {w : World} {S : VP} (h : ∀ R : EP, (∀ v w, S v w → R (.returned v) w) → run R a0 w) : Ct Try.prog id #[a0] w S :=
  Ct.intro enters fun R hR => calls R a0 w (h R hR)
attribute [irreducible] b1_1 b1 run
attribute [go_sem] b1_1 b1 run
end slices_Clone_string_string

/-! ### slices.Clip[[]int,int] -/
namespace slices_Clip_int_int
noncomputable def code : Code := bodyOf Try.f113
def b1 (R : EP) (x0 : Value) (w : World) (_r : Tok R := tok R) : Prop :=
  RUN Try.prog (pan R) (Builtin.len_ #[24] 3 #[x0]) w fun v1 w2 =>
  RUN Try.prog (pan R) (Builtin.len_ #[24] 3 #[x0]) w2 fun v3 w4 =>
  RUN Try.prog (pan R) (Instr.sliceAt 24 x0 none (some v1) (some v3)) w4 fun v5 w6 =>
  R (.returned v5) w6
abbrev q1 (R : EP) : XP := QX (fun ρ w => R (.returned (ρ 2)) w) (fun ρ w => R (.returned (ρ 2)) w) []
theorem b1_eq (R : EP) (ρ : Env) (w : World) : (b1 R (ρ 0) w) = codeP Try.prog (pan R) code (q1 R) ρ w := by kernel_rfl
theorem b1_ok (R : EP) (ρ : Env) (w : World) (h : b1 R (ρ 0) w) : codeP Try.prog (pan R) code (q1 R) ρ w := (b1_eq R ρ w).mp h
/-- What is owed for a call. -/
def run (R : EP) (a0 : Value) (w : World) : Prop := b1 R a0 w
theorem calls (R : EP) (a0 : Value) (w : World) (h : run R a0 w) : Calls Try.prog id #[a0] w R :=
  calls_of_t (f := id) (fn := Try.f113) (c := code) (by kernel_rfl) Try.func113 (by kernel_rfl) (by kernel_rfl) (args := [a0]) (Nat.le_of_ble_eq_true rfl) rfl (b1_ok R (envOf [a0]) w h)
theorem enters : Enters Try.prog id := fun args w => Try.call113 args w
theorem ct {a0 : Value} {w : World} {S : VP} (h : ∀ R : EP, (∀ v w, S v w → R (.returned v) w) → run R a0 w) : Ct Try.prog id #[a0] w S :=
  Ct.intro enters fun R hR => calls R a0 w (h R hR)
attribute [irreducible] b1 run
attribute [go_sem] b1 run
end slices_Clip_int_int

/-! ### slices.Equal[[]int,int] -/
namespace slices_Equal_int_int
noncomputable def code : Code := bodyOf Try.f115
noncomputable abbrev p1 : Code := dropC 2 code

def b3 (R : EP) (w : World) (_r : Tok R := tok R) : Prop :=
  R (.returned (Go.Value.bool Bool.true)) w
abbrev q1 (R : EP) : XP := QX (fun ρ w => R (.returned (ρ 4)) w) (fun ρ w => R (.returned (ρ 4)) w) []
theorem b3_eq (R : EP) (ρ : Env) (w : World) : (b3 R w) = codeP Try.prog (pan R) (sndC p1) (q1 R) ρ w := by kernel_rfl
theorem b3_ok (R : EP) (ρ : Env) (w : World) (h : b3 R w) : codeP Try.prog (pan R) (sndC p1) (q1 R) ρ w := (b3_eq R ρ w).mp h
noncomputable abbrev p2 : Code := dropC 1 (fstC p1)
noncomputable abbrev p3 : Code := loopC (blkC p2)
def b7_1 (R : EP) (C6 : VP) (x0 x1 x13 : Value) (w2 : World) (_r : Tok R := tok R) (_C6 : Tok C6 := tok C6) : Prop :=
  PUR Try.prog (Instr.indexAt 24 x0 x13) fun v3 =>
  LD Try.prog (Instr.loadAt 3 v3) (World.drew w2) fun v4 =>
  PUR Try.prog (Instr.indexAt 24 x1 x13) fun v5 =>
  LD Try.prog (Instr.loadAt 3 v5) (World.drew w2) fun v6 =>
  PUR Try.prog (bins .neq 3 (.tmp 19) (.tmp 23) v4 v6) fun v7 =>
  SPL v7
  (R (.returned (Go.Value.bool Bool.false)) (World.drew w2))
  (RUN Try.prog (pan R) (bins .add 3 (.tmp 13) (.const (Go.Value.int Go.IntKind.i64 1)) x13 (Go.Value.int Go.IntKind.i64 1)) (World.drew w2) fun v8 w9 =>
  C6 v8 w9)
def b7 (R : EP) (C6 : VP) (x0 x1 x12 x13 : Value) (w : World) (_r : Tok R := tok R) (_C6 : Tok C6 := tok C6) : Prop :=
  RUN Try.prog (pan R) (bins .lss 3 (.tmp 13) (.tmp 12) x13 x12) w fun v1 w2 =>
  SPL v1
  (b7_1 R C6 x0 x1 x13 w2)
  (b3 R w2)
abbrev q2 (R : EP) (C6 : VP) : XP := QX (fun ρ w => C6 (ρ 13) w) (fun ρ w => R (.returned (ρ 4)) w) [(0, (fun ρ w => b3 R  w))]
theorem b7_eq (R : EP) (C6 : VP) (ρ : Env) (w : World) : (b7 R C6 (ρ 0) (ρ 1) (ρ 12) (ρ 13) w) = codeP Try.prog (pan R) p3 (q2 R C6) ρ w := by kernel_rfl
theorem b7_ok (R : EP) (C6 : VP) (ρ : Env) (w : World) (h : b7 R C6 (ρ 0) (ρ 1) (ρ 12) (ρ 13) w) : codeP Try.prog (pan R) p3 (q2 R C6) ρ w := (b7_eq R C6 ρ w).mp h
def l6 (R : EP) (x0 x1 x12 x13 : Value) (w : World) (_r : Tok R := tok R) : Prop :=
  ∃ (J : VP) (μ : Value → World → Nat), J x13 w ∧ ∀ y13 w0, J y13 w0 → b7 R (fun z13 w1 => J z13 w1 ∧ μ z13 w1 < μ y13 w0) x0 x1 x12 y13 w0
abbrev q3 (R : EP) : XP := QX (fun ρ w => b3 R  w) (fun ρ w => R (.returned (ρ 4)) w) [(0, (fun ρ w => b3 R  w))]
theorem l6_ok (R : EP) (ρ : Env) (w : World) (h : l6 R (ρ 0) (ρ 1) (ρ 12) (ρ 13) w) : codeP Try.prog (pan R) (blkC p2) (q3 R) ρ w := by
  unfold l6 at h
  obtain ⟨J, μ, h0, hr⟩ := h
  have e : Code.loop (loopC (blkC p2)) = (blkC p2) := by kernel_rfl
  rw [← e]
  refine loopQ (fun ρ' w' => J (ρ' 13) w') (fun ρ' w' => μ (ρ' 13) w') h0 fun ρ' w' hA hI => ?_
  have e0 : ρ' 0 = ρ 0 := Agree.at hA 0 (by kernel_rfl)
  have e1 : ρ' 1 = ρ 1 := Agree.at hA 1 (by kernel_rfl)
  have e12 : ρ' 12 = ρ 12 := Agree.at hA 12 (by kernel_rfl)
  have h1 := hr (ρ' 13) w' hI
  rw [← e0, ← e1, ← e12] at h1
  exact b7_ok R (fun z13 w1 => J z13 w1 ∧ μ z13 w1 < μ (ρ' 13) w') ρ' w' h1
theorem l6_intro (R : EP) (x0 x1 x12 x13 : Value) (w : World) (J : VP) (μ : Value → World → Nat) (h0 : J x13 w)
    (hr : ∀ y13 w0, J y13 w0 → ∀ C6 : VP, (∀ z13 w1, J z13 w1 → μ z13 w1 < μ y13 w0 → C6 z13 w1) → b7 R C6 x0 x1 x12 y13 w0) : l6 R x0 x1 x12 x13 w := by
  unfold l6
  exact ⟨J, μ, h0, fun y13 w0 hJ => hr y13 w0 hJ _ (fun z13 w1 h1 h2 => ⟨h1, h2⟩)⟩
abbrev q4 (R : EP) : XP := QX (fun ρ w => b3 R  w) (fun ρ w => R (.returned (ρ 4)) w) []
theorem k5_ok (R : EP) (ρ : Env) (w : World) (h : l6 R (ρ 0) (ρ 1) (ρ 12) (ρ 13) w) : codeP Try.prog (pan R) p2 (q4 R) ρ w := by
  have e : Code.block 0 (blkC p2) = p2 := by kernel_rfl
  rw [← e]
  exact blockQ (l6_ok R ρ w h)
def b4 (R : EP) (x0 x1 : Value) (w : World) (_r : Tok R := tok R) : Prop :=
  RUN Try.prog (pan R) (Builtin.len_ #[24] 3 #[x0]) w fun v1 w2 =>
  l6 R x0 x1 v1 (Go.Value.int Go.IntKind.i64 0) w2
abbrev q5 (R : EP) : XP := QX (fun ρ w => l6 R (ρ 0) (ρ 1) (ρ 12) (ρ 13) w) (fun ρ w => R (.returned (ρ 4)) w) []
theorem b4_eq (R : EP) (ρ : Env) (w : World) : (b4 R (ρ 0) (ρ 1) w) = codeP Try.prog (pan R) (preC 0 (fstC p1)) (q5 R) ρ w := by kernel_rfl
theorem b4_ok (R : EP) (ρ : Env) (w : World) (h : b4 R (ρ 0) (ρ 1) w) : codeP Try.prog (pan R) (fstC p1) (q4 R) ρ w := by
  have e : appC 0 (preC 0 (fstC p1)) (dropC 1 (fstC p1)) = (fstC p1) := by kernel_rfl
  rw [← e]
  exact appQ (fun ρ w => l6 R (ρ 0) (ρ 1) (ρ 12) (ρ 13) w) 0 ((b4_eq R ρ w).mp h) (fun ρ w h => k5_ok R ρ w h)
theorem k2_ok (R : EP) (ρ : Env) (w : World) (h : b4 R (ρ 0) (ρ 1) w) : codeP Try.prog (pan R) p1 (q1 R) ρ w := by
  have e : Code.seq (fstC p1) (sndC p1) = p1 := by kernel_rfl
  rw [← e]
  exact seqQ (fun ρ w => b3 R  w) (b4_ok R ρ w h) (fun ρ w h => b3_ok R ρ w h)
def b1 (R : EP) (x0 x1 : Value) (w : World) (_r : Tok R := tok R) : Prop :=
  RUN Try.prog (pan R) (Builtin.len_ #[24] 3 #[x0]) w fun v1 w2 =>
  RUN Try.prog (pan R) (Builtin.len_ #[24] 3 #[x1]) w2 fun v3 w4 =>
  RUN Try.prog (pan R) (bins .neq 3 (.tmp 7) (.tmp 9) v1 v3) w4 fun v5 w6 =>
  SPL v5
  (R (.returned (Go.Value.bool Bool.false)) w6)
  (b4 R x0 x1 w6)
abbrev q6 (R : EP) : XP := QX (fun ρ w => b4 R (ρ 0) (ρ 1) w) (fun ρ w => R (.returned (ρ 4)) w) []
theorem b1_eq (R : EP) (ρ : Env) (w : World) : (b1 R (ρ 0) (ρ 1) w) = codeP Try.prog (pan R) (preC 1 code) (q6 R) ρ w := by kernel_rfl
theorem b1_ok (R : EP) (ρ : Env) (w : World) (h : b1 R (ρ 0) (ρ 1) w) : codeP Try.prog (pan R) code (q1 R) ρ w := by
  have e : appC 1 (preC 1 code) (dropC 2 code) = code := by kernel_rfl
  rw [← e]
  exact appQ (fun ρ w => b4 R (ρ 0) (ρ 1) w) 1 ((b1_eq R ρ w).mp h) (fun ρ w h => k2_ok R ρ w h)
/-- What is owed for a call. -/
def run (R : EP) (a0 a1 : Value) (w : World) : Prop := b1 R a0 a1 w
theorem calls (R : EP) (a0 a1 : Value) (w : World) (h : run R a0 a1 w) : Calls Try.prog id #[a0, a1] w R :=
  calls_of_t (f := id) (fn := Try.f115) (c := code) (by kernel_rfl) Try.func115 (by kernel_rfl) (by kernel_rfl) (args := [a0, a1]) (Nat.le_of_ble_eq_true rfl) rfl (b1_ok R (envOf [a0, a1]) w h)
theorem enters : Enters Try.prog id := fun args w => Try.call115 args w
theorem ct {a0 a1 : Value} {w : World} {S : VP} (h : ∀ R : EP, (∀ v w, S v w → R (.returned v) w) → run R a0 a1 w) : Ct Try.prog id #[a0, a1] w S :=
  Ct.intro enters fun R hR => calls R a0 a1 w (h R hR)
attribute [irreducible] b3 b7_1 b7 l6 b4 b1 run
attribute [go_sem] b3 b7_1 b7 b4 b1 run
end slices_Equal_int_int

/-! ### slices.Equal[[]presage/api.Term,presage/api.Term] -/
namespace slices_Equal_api_Term_api_Term
noncomputable def code : Code := bodyOf Try.f116
noncomputable abbrev p1 : Code := dropC 2 code

def b3 (R : EP) (w : World) (_r : Tok R := tok R) : Prop :=
  R (.returned (Go.Value.bool Bool.true)) w
abbrev q1 (R : EP) : XP := QX (fun ρ w => R (.returned (ρ 4)) w) (fun ρ w => R (.returned (ρ 4)) w) []
theorem b3_eq (R : EP) (ρ : Env) (w : World) : (b3 R w) = codeP Try.prog (pan R) (sndC p1) (q1 R) ρ w := by kernel_rfl
theorem b3_ok (R : EP) (ρ : Env) (w : World) (h : b3 R w) : codeP Try.prog (pan R) (sndC p1) (q1 R) ρ w := (b3_eq R ρ w).mp h
noncomputable abbrev p2 : Code := dropC 1 (fstC p1)
noncomputable abbrev p3 : Code := loopC (blkC p2)
def b7_1 (R : EP) (C6 : VP) (x0 x1 x13 : Value) (w2 : World) (_r : Tok R := tok R) (_C6 : Tok C6 := tok C6) : Prop :=
  PUR Try.prog (Instr.indexAt 22 x0 x13) fun v3 =>
  LD Try.prog (Instr.loadAt 106 v3) (World.drew w2) fun v4 =>
  PUR Try.prog (Instr.indexAt 22 x1 x13) fun v5 =>
  LD Try.prog (Instr.loadAt 106 v5) (World.drew w2) fun v6 =>
  PUR Try.prog (bins .neq 106 (.tmp 19) (.tmp 23) v4 v6) fun v7 =>
  SPL v7
  (R (.returned (Go.Value.bool Bool.false)) (World.drew w2))
  (RUN Try.prog (pan R) (bins .add 3 (.tmp 13) (.const (Go.Value.int Go.IntKind.i64 1)) x13 (Go.Value.int Go.IntKind.i64 1)) (World.drew w2) fun v8 w9 =>
  C6 v8 w9)
def b7 (R : EP) (C6 : VP) (x0 x1 x12 x13 : Value) (w : World) (_r : Tok R := tok R) (_C6 : Tok C6 := tok C6) : Prop :=
  RUN Try.prog (pan R) (bins .lss 3 (.tmp 13) (.tmp 12) x13 x12) w fun v1 w2 =>
  SPL v1
  (b7_1 R C6 x0 x1 x13 w2)
  (b3 R w2)
abbrev q2 (R : EP) (C6 : VP) : XP := QX (fun ρ w => C6 (ρ 13) w) (fun ρ w => R (.returned (ρ 4)) w) [(0, (fun ρ w => b3 R  w))]
theorem b7_eq (R : EP) (C6 : VP) (ρ : Env) (w : World) : (b7 R C6 (ρ 0) (ρ 1) (ρ 12) (ρ 13) w) = codeP Try.prog (pan R) p3 (q2 R C6) ρ w := by kernel_rfl
theorem b7_ok (R : EP) (C6 : VP) (ρ : Env) (w : World) (h : b7 R C6 (ρ 0) (ρ 1) (ρ 12) (ρ 13) w) : codeP Try.prog (pan R) p3 (q2 R C6) ρ w := (b7_eq R C6 ρ w).mp h
def l6 (R : EP) (x0 x1 x12 x13 : Value) (w : World) (_r : Tok R := tok R) : Prop :=
  ∃ (J : VP) (μ : Value → World → Nat), J x13 w ∧ ∀ y13 w0, J y13 w0 → b7 R (fun z13 w1 => J z13 w1 ∧ μ z13 w1 < μ y13 w0) x0 x1 x12 y13 w0
abbrev q3 (R : EP) : XP := QX (fun ρ w => b3 R  w) (fun ρ w => R (.returned (ρ 4)) w) [(0, (fun ρ w => b3 R  w))]
theorem l6_ok (R : EP) (ρ : Env) (w : World) (h : l6 R (ρ 0) (ρ 1) (ρ 12) (ρ 13) w) : codeP Try.prog (pan R) (blkC p2) (q3 R) ρ w := by
  unfold l6 at h
  obtain ⟨J, μ, h0, hr⟩ := h
  have e : Code.loop (loopC (blkC p2)) = (blkC p2) := by kernel_rfl
  rw [← e]
  refine loopQ (fun ρ' w' => J (ρ' 13) w') (fun ρ' w' => μ (ρ' 13) w') h0 fun ρ' w' hA hI => ?_
  have e0 : ρ' 0 = ρ 0 := Agree.at hA 0 (by kernel_rfl)
  have e1 : ρ' 1 = ρ 1 := Agree.at hA 1 (by kernel_rfl)
  have e12 : ρ' 12 = ρ 12 := Agree.at hA 12 (by kernel_rfl)
  have h1 := hr (ρ' 13) w' hI
  rw [← e0, ← e1, ← e12] at h1
  exact b7_ok R (fun z13 w1 => J z13 w1 ∧ μ z13 w1 < μ (ρ' 13) w') ρ' w' h1
theorem l6_intro (R : EP) (x0 x1 x12 x13 : Value) (w : World) (J : VP) (μ : Value → World → Nat) (h0 : J x13 w)
    (hr : ∀ y13 w0, J y13 w0 → ∀ C6 : VP, (∀ z13 w1, J z13 w1 → μ z13 w1 < μ y13 w0 → C6 z13 w1) → b7 R C6 x0 x1 x12 y13 w0) : l6 R x0 x1 x12 x13 w := by
  unfold l6
  exact ⟨J, μ, h0, fun y13 w0 hJ => hr y13 w0 hJ _ (fun z13 w1 h1 h2 => ⟨h1, h2⟩)⟩
abbrev q4 (R : EP) : XP := QX (fun ρ w => b3 R  w) (fun ρ w => R (.returned (ρ 4)) w) []
theorem k5_ok (R : EP) (ρ : Env) (w : World) (h : l6 R (ρ 0) (ρ 1) (ρ 12) (ρ 13) w) : codeP Try.prog (pan R) p2 (q4 R) ρ w := by
  have e : Code.block 0 (blkC p2) = p2 := by kernel_rfl
  rw [← e]
  exact blockQ (l6_ok R ρ w h)
def b4 (R : EP) (x0 x1 : Value) (w : World) (_r : Tok R := tok R) : Prop :=
  RUN Try.prog (pan R) (Builtin.len_ #[22] 3 #[x0]) w fun v1 w2 =>
  l6 R x0 x1 v1 (Go.Value.int Go.IntKind.i64 0) w2
abbrev q5 (R : EP) : XP := QX (fun ρ w => l6 R (ρ 0) (ρ 1) (ρ 12) (ρ 13) w) (fun ρ w => R (.returned (ρ 4)) w) []
theorem b4_eq (R : EP) (ρ : Env) (w : World) : (b4 R (ρ 0) (ρ 1) w) = codeP Try.prog (pan R) (preC 0 (fstC p1)) (q5 R) ρ w := by kernel_rfl
theorem b4_ok (R : EP) (ρ : Env) (w : World) (h : b4 R (ρ 0) (ρ 1) w) : codeP Try.prog (pan R) (fstC p1) (q4 R) ρ w := by
  have e : appC 0 (preC 0 (fstC p1)) (dropC 1 (fstC p1)) = (fstC p1) := by kernel_rfl
  rw [← e]
  exact appQ (fun ρ w => l6 R (ρ 0) (ρ 1) (ρ 12) (ρ 13) w) 0 ((b4_eq R ρ w).mp h) (fun ρ w h => k5_ok R ρ w h)
theorem k2_ok (R : EP) (ρ : Env) (w : World) (h : b4 R (ρ 0) (ρ 1) w) : codeP Try.prog (pan R) p1 (q1 R) ρ w := by
  have e : Code.seq (fstC p1) (sndC p1) = p1 := by kernel_rfl
  rw [← e]
  exact seqQ (fun ρ w => b3 R  w) (b4_ok R ρ w h) (fun ρ w h => b3_ok R ρ w h)
def b1 (R : EP) (x0 x1 : Value) (w : World) (_r : Tok R := tok R) : Prop :=
  RUN Try.prog (pan R) (Builtin.len_ #[22] 3 #[x0]) w fun v1 w2 =>
  RUN Try.prog (pan R) (Builtin.len_ #[22] 3 #[x1]) w2 fun v3 w4 =>
  RUN Try.prog (pan R) (bins .neq 3 (.tmp 7) (.tmp 9) v1 v3) w4 fun v5 w6 =>
  SPL v5
  (R (.returned (Go.Value.bool Bool.false)) w6)
  (b4 R x0 x1 w6)
abbrev q6 (R : EP) : XP := QX (fun ρ w => b4 R (ρ 0) (ρ 1) w) (fun ρ w => R (.returned (ρ 4)) w) []
theorem b1_eq (R : EP) (ρ : Env) (w : World) : (b1 R (ρ 0) (ρ 1) w) = codeP Try.prog (pan R) (preC 1 code) (q6 R) ρ w := by kernel_rfl
theorem b1_ok (R : EP) (ρ : Env) (w : World) (h : b1 R (ρ 0) (ρ 1) w) : codeP Try.prog (pan R) code (q1 R) ρ w := by
  have e : appC 1 (preC 1 code) (dropC 2 code) = code := by kernel_rfl
  rw [← e]
  exact appQ (fun ρ w => b4 R (ρ 0) (ρ 1) w) 1 ((b1_eq R ρ w).mp h) (fun ρ w h => k2_ok R ρ w h)
/-- What is owed for a call. -/
def run (R : EP) (a0 a1 : Value) (w : World) : Prop := b1 R a0 a1 w
theorem calls (R : EP) (a0 a1 : Value) (w : World) (h : run R a0 a1 w) : Calls Try.prog id #[a0, a1] w R :=
  calls_of_t (f := id) (fn := Try.f116) (c := code) (by kernel_rfl) Try.func116 (by kernel_rfl) (by kernel_rfl) (args := [a0, a1]) (Nat.le_of_ble_eq_true rfl) rfl (b1_ok R (envOf [a0, a1]) w h)
theorem enters : Enters Try.prog id := fun args w => Try.call116 args w
theorem ct {a0 a1 : Value} {w : World} {S : VP} (h : ∀ R : EP, (∀ v w, S v w → R (.returned v) w) → run R a0 a1 w) : Ct Try.prog id #[a0, a1] w S :=
  Ct.intro enters fun R hR => calls R a0 a1 w (h R hR)
attribute [irreducible] b3 b7_1 b7 l6 b4 b1 run
attribute [go_sem] b3 b7_1 b7 b4 b1 run
end slices_Equal_api_Term_api_Term

/-! ### slices.Equal[[]string,string] -/
namespace slices_Equal_string_string
noncomputable def code : Code := bodyOf Try.f117
noncomputable abbrev p1 : Code := dropC 2 code

def b3 (R : EP) (w : World) (_r : Tok R := tok R) : Prop :=
  R (.returned (Go.Value.bool Bool.true)) w
abbrev q1 (R : EP) : XP := QX (fun ρ w => R (.returned (ρ 4)) w) (fun ρ w => R (.returned (ρ 4)) w) []
theorem b3_eq (R : EP) (ρ : Env) (w : World) : (b3 R w) = codeP Try.prog (pan R) (sndC p1) (q1 R) ρ w := by kernel_rfl
theorem b3_ok (R : EP) (ρ : Env) (w : World) (h : b3 R w) : codeP Try.prog (pan R) (sndC p1) (q1 R) ρ w := (b3_eq R ρ w).mp h
noncomputable abbrev p2 : Code := dropC 1 (fstC p1)
noncomputable abbrev p3 : Code := loopC (blkC p2)
def b7_1 (R : EP) (C6 : VP) (x0 x1 x13 : Value) (w2 : World) (_r : Tok R := tok R) (_C6 : Tok C6 := tok C6) : Prop :=
  PUR Try.prog (Instr.indexAt 23 x0 x13) fun v3 =>
  LD Try.prog (Instr.loadAt 9 v3) (World.drew w2) fun v4 =>
  PUR Try.prog (Instr.indexAt 23 x1 x13) fun v5 =>
  LD Try.prog (Instr.loadAt 9 v5) (World.drew w2) fun v6 =>
  PUR Try.prog (bins .neq 9 (.tmp 19) (.tmp 23) v4 v6) fun v7 =>
  SPL v7
  (R (.returned (Go.Value.bool Bool.false)) (World.drew w2))
  (RUN Try.prog (pan R) (bins .add 3 (.tmp 13) (.const (Go.Value.int Go.IntKind.i64 1)) x13 (Go.Value.int Go.IntKind.i64 1)) (World.drew w2) fun v8 w9 =>
  C6 v8 w9)
def b7 (R : EP) (C6 : VP) (x0 x1 x12 x13 : Value) (w : World) (_r : Tok R := tok R) (_C6 : Tok C6 := tok C6) : Prop :=
  RUN Try.prog (pan R) (bins .lss 3 (.tmp 13) (.tmp 12) x13 x12) w fun v1 w2 =>
  SPL v1
  (b7_1 R C6 x0 x1 x13 w2)
  (b3 R w2)
abbrev q2 (R : EP) (C6 : VP) : XP := QX (fun ρ w => C6 (ρ 13) w) (fun ρ w => R (.returned (ρ 4)) w) [(0, (fun ρ w => b3 R  w))]
theorem b7_eq (R : EP) (C6 : VP) (ρ : Env) (w : World) : (b7 R C6 (ρ 0) (ρ 1) (ρ 12) (ρ 13) w) = codeP Try.prog (pan R) p3 (q2 R C6) ρ w := by kernel_rfl
theorem b7_ok (R : EP) (C6 : VP) (ρ : Env) (w : World) (h : b7 R C6 (ρ 0) (ρ 1) (ρ 12) (ρ 13) w) : codeP Try.prog (pan R) p3 (q2 R C6) ρ w := (b7_eq R C6 ρ w).mp h
def l6 (R : EP) (x0 x1 x12 x13 : Value) (w : World) (_r : Tok R := tok R) : Prop :=
  ∃ (J : VP) (μ : Value → World → Nat), J x13 w ∧ ∀ y13 w0, J y13 w0 → b7 R (fun z13 w1 => J z13 w1 ∧ μ z13 w1 < μ y13 w0) x0 x1 x12 y13 w0
abbrev q3 (R : EP) : XP := QX (fun ρ w => b3 R  w) (fun ρ w => R (.returned (ρ 4)) w) [(0, (fun ρ w => b3 R  w))]
theorem l6_ok (R : EP) (ρ : Env) (w : World) (h : l6 R (ρ 0) (ρ 1) (ρ 12) (ρ 13) w) : codeP Try.prog (pan R) (blkC p2) (q3 R) ρ w := by
  unfold l6 at h
  obtain ⟨J, μ, h0, hr⟩ := h
  have e : Code.loop (loopC (blkC p2)) = (blkC p2) := by kernel_rfl
  rw [← e]
  refine loopQ (fun ρ' w' => J (ρ' 13) w') (fun ρ' w' => μ (ρ' 13) w') h0 fun ρ' w' hA hI => ?_
  have e0 : ρ' 0 = ρ 0 := Agree.at hA 0 (by kernel_rfl)
  have e1 : ρ' 1 = ρ 1 := Agree.at hA 1 (by kernel_rfl)
  have e12 : ρ' 12 = ρ 12 := Agree.at hA 12 (by kernel_rfl)
  have h1 := hr (ρ' 13) w' hI
  rw [← e0, ← e1, ← e12] at h1
  exact b7_ok R (fun z13 w1 => J z13 w1 ∧ μ z13 w1 < μ (ρ' 13) w') ρ' w' h1
theorem l6_intro (R : EP) (x0 x1 x12 x13 : Value) (w : World) (J : VP) (μ : Value → World → Nat) (h0 : J x13 w)
    (hr : ∀ y13 w0, J y13 w0 → ∀ C6 : VP, (∀ z13 w1, J z13 w1 → μ z13 w1 < μ y13 w0 → C6 z13 w1) → b7 R C6 x0 x1 x12 y13 w0) : l6 R x0 x1 x12 x13 w := by
  unfold l6
  exact ⟨J, μ, h0, fun y13 w0 hJ => hr y13 w0 hJ _ (fun z13 w1 h1 h2 => ⟨h1, h2⟩)⟩
abbrev q4 (R : EP) : XP := QX (fun ρ w => b3 R  w) (fun ρ w => R (.returned (ρ 4)) w) []
theorem k5_ok (R : EP) (ρ : Env) (w : World) (h : l6 R (ρ 0) (ρ 1) (ρ 12) (ρ 13) w) : codeP Try.prog (pan R) p2 (q4 R) ρ w := by
  have e : Code.block 0 (blkC p2) = p2 := by kernel_rfl
  rw [← e]
  exact blockQ (l6_ok R ρ w h)
def b4 (R : EP) (x0 x1 : Value) (w : World) (_r : Tok R := tok R) : Prop :=
  RUN Try.prog (pan R) (Builtin.len_ #[23] 3 #[x0]) w fun v1 w2 =>
  l6 R x0 x1 v1 (Go.Value.int Go.IntKind.i64 0) w2
abbrev q5 (R : EP) : XP := QX (fun ρ w => l6 R (ρ 0) (ρ 1) (ρ 12) (ρ 13) w) (fun ρ w => R (.returned (ρ 4)) w) []
theorem b4_eq (R : EP) (ρ : Env) (w : World) : (b4 R (ρ 0) (ρ 1) w) = codeP Try.prog (pan R) (preC 0 (fstC p1)) (q5 R) ρ w := by kernel_rfl
theorem b4_ok (R : EP) (ρ : Env) (w : World) (h : b4 R (ρ 0) (ρ 1) w) : codeP Try.prog (pan R) (fstC p1) (q4 R) ρ w := by
  have e : appC 0 (preC 0 (fstC p1)) (dropC 1 (fstC p1)) = (fstC p1) := by kernel_rfl
  rw [← e]
  exact appQ (fun ρ w => l6 R (ρ 0) (ρ 1) (ρ 12) (ρ 13) w) 0 ((b4_eq R ρ w).mp h) (fun ρ w h => k5_ok R ρ w h)
theorem k2_ok (R : EP) (ρ : Env) (w : World) (h : b4 R (ρ 0) (ρ 1) w) : codeP Try.prog (pan R) p1 (q1 R) ρ w := by
  have e : Code.seq (fstC p1) (sndC p1) = p1 := by kernel_rfl
  rw [← e]
  exact seqQ (fun ρ w => b3 R  w) (b4_ok R ρ w h) (fun ρ w h => b3_ok R ρ w h)
def b1 (R : EP) (x0 x1 : Value) (w : World) (_r : Tok R := tok R) : Prop :=
  RUN Try.prog (pan R) (Builtin.len_ #[23] 3 #[x0]) w fun v1 w2 =>
  RUN Try.prog (pan R) (Builtin.len_ #[23] 3 #[x1]) w2 fun v3 w4 =>
  RUN Try.prog (pan R) (bins .neq 3 (.tmp 7) (.tmp 9) v1 v3) w4 fun v5 w6 =>
  SPL v5
  (R (.returned (Go.Value.bool Bool.false)) w6)
  (b4 R x0 x1 w6)
abbrev q6 (R : EP) : XP := QX (fun ρ w => b4 R (ρ 0) (ρ 1) w) (fun ρ w => R (.returned (ρ 4)) w) []
theorem b1_eq (R : EP) (ρ : Env) (w : World) : (b1 R (ρ 0) (ρ 1) w) = codeP Try.prog (pan R) (preC 1 code) (q6 R) ρ w := by kernel_rfl
theorem b1_ok (R : EP) (ρ : Env) (w : World) (h : b1 R (ρ 0) (ρ 1) w) : codeP Try.prog (pan R) code (q1 R) ρ w := by
  have e : appC 1 (preC 1 code) (dropC 2 code) = code := by kernel_rfl
  rw [← e]
  exact appQ (fun ρ w => b4 R (ρ 0) (ρ 1) w) 1 ((b1_eq R ρ w).mp h) (fun ρ w h => k2_ok R ρ w h)
/-- What is owed for a call. -/
def run (R : EP) (a0 a1 : Value) (w : World) : Prop := b1 R a0 a1 w
theorem calls (R : EP) (a0 a1 : Value) (w : World) (h : run R a0 a1 w) : Calls Try.prog id #[a0, a1] w R :=
  calls_of_t (f := id) (fn := Try.f117) (c := code) (by kernel_rfl) Try.func117 (by kernel_rfl) (by kernel_rfl) (args := [a0, a1]) (Nat.le_of_ble_eq_true rfl) rfl (b1_ok R (envOf [a0, a1]) w h)
theorem enters : Enters Try.prog id := fun args w => Try.call117 args w
theorem ct {a0 a1 : Value} {w : World} {S : VP} (h : ∀ R : EP, (∀ v w, S v w → R (.returned v) w) → run R a0 a1 w) : Ct Try.prog id #[a0, a1] w S :=
  Ct.intro enters fun R hR => calls R a0 a1 w (h R hR)
attribute [irreducible] b3 b7_1 b7 l6 b4 b1 run
attribute [go_sem] b3 b7_1 b7 b4 b1 run
end slices_Equal_string_string

/-! ### slices.EqualFunc[[]presage/api.Prod,[]presage/api.Prod,presage/api.Prod,presage/api.Prod] -/
namespace slices_EqualFunc_api_Prod_api_Prod_api_Prod_api_Prod
noncomputable def code : Code := bodyOf Try.f118
noncomputable abbrev p1 : Code := dropC 2 code

def b3 (R : EP) (w : World) (_r : Tok R := tok R) : Prop :=
  R (.returned (Go.Value.bool Bool.true)) w
abbrev q1 (R : EP) : XP := QX (fun ρ w => R (.returned (ρ 6)) w) (fun ρ w => R (.returned (ρ 6)) w) []
theorem b3_eq (R : EP) (ρ : Env) (w : World) : (b3 R w) = codeP Try.prog (pan R) (sndC p1) (q1 R) ρ w := by kernel_rfl
theorem b3_ok (R : EP) (ρ : Env) (w : World) (h : b3 R w) : codeP Try.prog (pan R) (sndC p1) (q1 R) ρ w := (b3_eq R ρ w).mp h
noncomputable abbrev p2 : Code := dropC 1 (fstC p1)
noncomputable abbrev p3 : Code := loopC (blkC p2)
def b7_1 (R : EP) (C6 : VP) (x17 v21 : Value) (w22 : World) (_r : Tok R := tok R) (_C6 : Tok C6 := tok C6) : Prop :=
  RUN Try.prog (pan R) (Op.unary .not v21) w22 fun v23 w24 =>
  SPL v23
  (R (.returned (Go.Value.bool Bool.false)) w24)
  (RUN Try.prog (pan R) (bins .add 3 (.tmp 17) (.const (Go.Value.int Go.IntKind.i64 1)) x17 (Go.Value.int Go.IntKind.i64 1)) w24 fun v25 w26 =>
  C6 v25 w26)
def b7_2 (R : EP) (C6 : VP) (x1 x2 x15 x17 : Value) (w2 : World) (_r : Tok R := tok R) (_C6 : Tok C6 := tok C6) : Prop :=
  RUN Try.prog (pan R) (Instr.indexAt 25 x15 x17) w2 fun v3 w4 =>
  RUN Try.prog (pan R) (Instr.loadAt 47 v3) w4 fun v5 w6 =>
  RUN Try.prog (pan R) (Instr.alloc 47 true (.tuple #[])) w6 fun v7 w8 =>
  RUNU Try.prog (pan R) (Instr.storeAt 47 v7 v5) w8 fun w9 =>
  RUN Try.prog (pan R) (Instr.indexAt 25 x1 x17) w9 fun v10 w11 =>
  RUN Try.prog (pan R) (Instr.loadAt 47 v10) w11 fun v12 w13 =>
  RUN Try.prog (pan R) (Instr.alloc 47 true (.tuple #[])) w13 fun v14 w15 =>
  RUNU Try.prog (pan R) (Instr.storeAt 47 v14 v12) w15 fun w16 =>
  RUN Try.prog (pan R) (Instr.loadAt 47 v7) w16 fun v17 w18 =>
  RUN Try.prog (pan R) (Instr.loadAt 47 v14) w18 fun v19 w20 =>
  CALLY Try.prog (pan R) x2 [v17, v19] w20 fun v21 w22 =>
  b7_1 R C6 x17 v21 w22
def b7 (R : EP) (C6 : VP) (x1 x2 x15 x16 x17 : Value) (w : World) (_r : Tok R := tok R) (_C6 : Tok C6 := tok C6) : Prop :=
  RUN Try.prog (pan R) (bins .lss 3 (.tmp 17) (.tmp 16) x17 x16) w fun v1 w2 =>
  SPL v1
  (b7_2 R C6 x1 x2 x15 x17 w2)
  (b3 R w2)
abbrev q2 (R : EP) (C6 : VP) : XP := QX (fun ρ w => C6 (ρ 17) w) (fun ρ w => R (.returned (ρ 6)) w) [(0, (fun ρ w => b3 R  w))]
theorem b7_eq (R : EP) (C6 : VP) (ρ : Env) (w : World) : (b7 R C6 (ρ 1) (ρ 2) (ρ 15) (ρ 16) (ρ 17) w) = codeP Try.prog (pan R) p3 (q2 R C6) ρ w := by kernel_rfl
theorem b7_ok (R : EP) (C6 : VP) (ρ : Env) (w : World) (h : b7 R C6 (ρ 1) (ρ 2) (ρ 15) (ρ 16) (ρ 17) w) : codeP Try.prog (pan R) p3 (q2 R C6) ρ w := (b7_eq R C6 ρ w).mp h
def l6 (R : EP) (x1 x2 x15 x16 x17 : Value) (w : World) (_r : Tok R := tok R) : Prop :=
  ∃ (J : VP) (μ : Value → World → Nat), J x17 w ∧ ∀ y17 w0, J y17 w0 → b7 R (fun z17 w1 => J z17 w1 ∧ μ z17 w1 < μ y17 w0) x1 x2 x15 x16 y17 w0
abbrev q3 (R : EP) : XP := QX (fun ρ w => b3 R  w) (fun ρ w => R (.returned (ρ 6)) w) [(0, (fun ρ w => b3 R  w))]
theorem l6_ok (R : EP) (ρ : Env) (w : World) (h : l6 R (ρ 1) (ρ 2) (ρ 15) (ρ 16) (ρ 17) w) : codeP Try.prog (pan R) (blkC p2) (q3 R) ρ w := by
  unfold l6 at h
  obtain ⟨J, μ, h0, hr⟩ := h
  have e : Code.loop (loopC (blkC p2)) = (blkC p2) := by kernel_rfl
  rw [← e]
  refine loopQ (fun ρ' w' => J (ρ' 17) w') (fun ρ' w' => μ (ρ' 17) w') h0 fun ρ' w' hA hI => ?_
  have e1 : ρ' 1 = ρ 1 := Agree.at hA 1 (by kernel_rfl)
  have e2 : ρ' 2 = ρ 2 := Agree.at hA 2 (by kernel_rfl)
  have e15 : ρ' 15 = ρ 15 := Agree.at hA 15 (by kernel_rfl)
  have e16 : ρ' 16 = ρ 16 := Agree.at hA 16 (by kernel_rfl)
  have h1 := hr (ρ' 17) w' hI
  rw [← e1, ← e2, ← e15, ← e16] at h1
  exact b7_ok R (fun z17 w1 => J z17 w1 ∧ μ z17 w1 < μ (ρ' 17) w') ρ' w' h1
theorem l6_intro (R : EP) (x1 x2 x15 x16 x17 : Value) (w : World) (J : VP) (μ : Value → World → Nat) (h0 : J x17 w)
    (hr : ∀ y17 w0, J y17 w0 → ∀ C6 : VP, (∀ z17 w1, J z17 w1 → μ z17 w1 < μ y17 w0 → C6 z17 w1) → b7 R C6 x1 x2 x15 x16 y17 w0) : l6 R x1 x2 x15 x16 x17 w := by
  unfold l6
  exact ⟨J, μ, h0, fun y17 w0 hJ => hr y17 w0 hJ _ (fun z17 w1 h1 h2 => ⟨h1, h2⟩)⟩
abbrev q4 (R : EP) : XP := QX (fun ρ w => b3 R  w) (fun ρ w => R (.returned (ρ 6)) w) []
theorem k5_ok (R : EP) (ρ : Env) (w : World) (h : l6 R (ρ 1) (ρ 2) (ρ 15) (ρ 16) (ρ 17) w) : codeP Try.prog (pan R) p2 (q4 R) ρ w := by
  have e : Code.block 0 (blkC p2) = p2 := by kernel_rfl
  rw [← e]
  exact blockQ (l6_ok R ρ w h)
def b4 (R : EP) (x0 x1 x2 : Value) (w : World) (_r : Tok R := tok R) : Prop :=
  RUN Try.prog (pan R) (Builtin.len_ #[25] 3 #[x0]) w fun v1 w2 =>
  l6 R x1 x2 x0 v1 (Go.Value.int Go.IntKind.i64 0) w2
abbrev q5 (R : EP) : XP := QX (fun ρ w => l6 R (ρ 1) (ρ 2) (ρ 15) (ρ 16) (ρ 17) w) (fun ρ w => R (.returned (ρ 6)) w) []
theorem b4_eq (R : EP) (ρ : Env) (w : World) : (b4 R (ρ 0) (ρ 1) (ρ 2) w) = codeP Try.prog (pan R) (preC 0 (fstC p1)) (q5 R) ρ w := by kernel_rfl
theorem b4_ok (R : EP) (ρ : Env) (w : World) (h : b4 R (ρ 0) (ρ 1) (ρ 2) w) : codeP Try.prog (pan R) (fstC p1) (q4 R) ρ w := by
  have e : appC 0 (preC 0 (fstC p1)) (dropC 1 (fstC p1)) = (fstC p1) := by kernel_rfl
  rw [← e]
  exact appQ (fun ρ w => l6 R (ρ 1) (ρ 2) (ρ 15) (ρ 16) (ρ 17) w) 0 ((b4_eq R ρ w).mp h) (fun ρ w h => k5_ok R ρ w h)
theorem k2_ok (R : EP) (ρ : Env) (w : World) (h : b4 R (ρ 0) (ρ 1) (ρ 2) w) : codeP Try.prog (pan R) p1 (q1 R) ρ w := by
  have e : Code.seq (fstC p1) (sndC p1) = p1 := by kernel_rfl
  rw [← e]
  exact seqQ (fun ρ w => b3 R  w) (b4_ok R ρ w h) (fun ρ w h => b3_ok R ρ w h)
def b1 (R : EP) (x0 x1 x2 : Value) (w : World) (_r : Tok R := tok R) : Prop :=
  RUN Try.prog (pan R) (Builtin.len_ #[25] 3 #[x0]) w fun v1 w2 =>
  RUN Try.prog (pan R) (Builtin.len_ #[25] 3 #[x1]) w2 fun v3 w4 =>
  RUN Try.prog (pan R) (bins .neq 3 (.tmp 11) (.tmp 13) v1 v3) w4 fun v5 w6 =>
  SPL v5
  (R (.returned (Go.Value.bool Bool.false)) w6)
  (b4 R x0 x1 x2 w6)
abbrev q6 (R : EP) : XP := QX (fun ρ w => b4 R (ρ 0) (ρ 1) (ρ 2) w) (fun ρ w => R (.returned (ρ 6)) w) []
theorem b1_eq (R : EP) (ρ : Env) (w : World) : (b1 R (ρ 0) (ρ 1) (ρ 2) w) = codeP Try.prog (pan R) (preC 1 code) (q6 R) ρ w := by kernel_rfl
theorem b1_ok (R : EP) (ρ : Env) (w : World) (h : b1 R (ρ 0) (ρ 1) (ρ 2) w) : codeP Try.prog (pan R) code (q1 R) ρ w := by
  have e : appC 1 (preC 1 code) (dropC 2 code) = code := by kernel_rfl
  rw [← e]
  exact appQ (fun ρ w => b4 R (ρ 0) (ρ 1) (ρ 2) w) 1 ((b1_eq R ρ w).mp h) (fun ρ w h => k2_ok R ρ w h)
/-- What is owed for a call. -/
def run (R : EP) (a0 a1 a2 : Value) (w : World) : Prop := b1 R a0 a1 a2 w
theorem calls (R : EP) (a0 a1 a2 : Value) (w : World) (h : run R a0 a1 a2 w) : Calls Try.prog id #[a0, a1, a2] w R :=
  calls_of_t (f := id) (fn := Try.f118) (c := code) (by kernel_rfl) Try.func118 (by kernel_rfl) (by kernel_rfl) (args := [a0, a1, a2]) (Nat.le_of_ble_eq_true rfl) rfl (b1_ok R (envOf [a0, a1, a2]) w h)
theorem enters : Enters Try.prog id := fun args w => Try.call118 args w
theorem ct {a0 a1 a2 : Value} {w : World} {S : VP} (h : ∀ R : EP, (∀ v w, S v w → R (.returned v) w) → run R a0 a1 a2 w) : Ct Try.prog id #[a0, a1, a2] w S :=
  Ct.intro enters fun R hR => calls R a0 a1 a2 w (h R hR)
attribute [irreducible] b3 b7_1 b7_2 b7 l6 b4 b1 run
attribute [go_sem] b3 b7_1 b7_2 b7 b4 b1 run
end slices_EqualFunc_api_Prod_api_Prod_api_Prod_api_Prod



/-! ### slices.ContainsFunc[[]string,string] -/
namespace slices_ContainsFunc_string_string
noncomputable def code : Code := bodyOf Try.f147
def b1 (R : EP) (x0 x1 : Value) (w : World) (_r : Tok R := tok R) : Prop :=
  CALL Try.prog (pan R) slices_IndexFunc_string_string.id #[x0, x1] w fun v1 w2 =>
  RUN Try.prog (pan R) (bins .geq 3 (.tmp 7) (.const (Go.Value.int Go.IntKind.i64 0)) v1 (Go.Value.int Go.IntKind.i64 0)) w2 fun v3 w4 =>
  R (.returned v3) w4
abbrev q1 (R : EP) : XP := QX (fun ρ w => R (.returned (ρ 4)) w) (fun ρ w => R (.returned (ρ 4)) w) []
theorem b1_eq (R : EP) (ρ : Env) (w : World) : (b1 R (ρ 0) (ρ 1) w) = codeP Try.prog (pan R) code (q1 R) ρ w := by kernel_rfl
theorem b1_ok (R : EP) (ρ : Env) (w : World) (h : b1 R (ρ 0) (ρ 1) w) : codeP Try.prog (pan R) code (q1 R) ρ w := (b1_eq R ρ w).mp h
/-- What is owed for a call. -/
def run (R : EP) (a0 a1 : Value) (w : World) : Prop := b1 R a0 a1 w
theorem calls (R : EP) (a0 a1 : Value) (w : World) (h : run R a0 a1 w) : Calls Try.prog id #[a0, a1] w R :=
  calls_of_t (f := id) (fn := Try.f147) (c := code) (by kernel_rfl) Try.func147 (by kernel_rfl) (by kernel_rfl) (args := [a0, a1]) (Nat.le_of_ble_eq_true rfl) rfl (b1_ok R (envOf [a0, a1]) w h)
theorem enters : Enters Try.prog id := fun args w => Try.call147 args w
theorem ct {a0 a1 : Value} {w : World} {S : VP} (h : ∀ R : EP, (∀ v w, S v w → R (.returned v) w) → run R a0 a1 w) : Ct Try.prog id #[a0, a1] w S :=
  Ct.intro enters fun R hR => calls R a0 a1 w (h R hR)
attribute [irreducible] b1 run
attribute [go_sem] b1 run
end slices_ContainsFunc_string_string

/-! ### slices.Contains[[]int,int] -/
namespace slices_Contains_int_int
noncomputable def code : Code := bodyOf Try.f149
def b1 (R : EP) (x0 x1 : Value) (w : World) (_r : Tok R := tok R) : Prop :=
  CALL Try.prog (pan R) slices_Index_int_int.id #[x0, x1] w fun v1 w2 =>
  RUN Try.prog (pan R) (bins .geq 3 (.tmp 7) (.const (Go.Value.int Go.IntKind.i64 0)) v1 (Go.Value.int Go.IntKind.i64 0)) w2 fun v3 w4 =>
  R (.returned v3) w4
abbrev q1 (R : EP) : XP := QX (fun ρ w => R (.returned (ρ 4)) w) (fun ρ w => R (.returned (ρ 4)) w) []
theorem b1_eq (R : EP) (ρ : Env) (w : World) : (b1 R (ρ 0) (ρ 1) w) = codeP Try.prog (pan R) code (q1 R) ρ w := by kernel_rfl
theorem b1_ok (R : EP) (ρ : Env) (w : World) (h : b1 R (ρ 0) (ρ 1) w) : codeP Try.prog (pan R) code (q1 R) ρ w := (b1_eq R ρ w).mp h
/-- What is owed for a call. -/
def run (R : EP) (a0 a1 : Value) (w : World) : Prop := b1 R a0 a1 w
theorem calls (R : EP) (a0 a1 : Value) (w : World) (h : run R a0 a1 w) : Calls Try.prog id #[a0, a1] w R :=
  calls_of_t (f := id) (fn := Try.f149) (c := code) (by kernel_rfl) Try.func149 (by kernel_rfl) (by kernel_rfl) (args := [a0, a1]) (Nat.le_of_ble_eq_true rfl) rfl (b1_ok R (envOf [a0, a1]) w h)
theorem enters : Enters Try.prog id := fun args w => Try.call149 args w
theorem ct {a0 a1 : Value} {w : World} {S : VP} (h : ∀ R : EP, (∀ v w, S v w → R (.returned v) w) → run R a0 a1 w) : Ct Try.prog id #[a0, a1] w S :=
  Ct.intro enters fun R hR => calls R a0 a1 w (h R hR)
attribute [irreducible] b1 run
attribute [go_sem] b1 run
end slices_Contains_int_int

/-! ### cmp.Less[int] -/
namespace cmp_Less_int
noncomputable def code : Code := bodyOf Try.f150
def b1_1 (R : EP) (x0 x1 v3 : Value) (w4 : World) (_r : Tok R := tok R) : Prop :=
  RUN Try.prog (pan R) (Op.unary .not v3) w4 fun v5 w6 =>
  SPL v5
  (R (.returned (Go.Value.bool Bool.true)) w6)
  (RUN Try.prog (pan R) (bins .lss 3 (.tmp 13) (.tmp 14) x0 x1) w6 fun v7 w8 =>
  R (.returned v7) w8)
def b1_2 (R : EP) (x0 x1 v1 : Value) (w2 : World) (_r : Tok R := tok R) : Prop :=
  SPL v1
  (CALL Try.prog (pan R) cmp_isNaN_int.id #[x1] w2 fun v3 w4 =>
  b1_1 R x0 x1 v3 w4)
  (RUN Try.prog (pan R) (bins .lss 3 (.tmp 13) (.tmp 14) x0 x1) w2 fun v9 w10 =>
  R (.returned v9) w10)
def b1 (R : EP) (x0 x1 : Value) (w : World) (_r : Tok R := tok R) : Prop :=
  CALL Try.prog (pan R) cmp_isNaN_int.id #[x0] w fun v1 w2 =>
  b1_2 R x0 x1 v1 w2
abbrev q1 (R : EP) : XP := QX (fun ρ w => R (.returned (ρ 4)) w) (fun ρ w => R (.returned (ρ 4)) w) []
theorem b1_eq (R : EP) (ρ : Env) (w : World) : (b1 R (ρ 0) (ρ 1) w) = codeP Try.prog (pan R) code (q1 R) ρ w := by kernel_rfl
theorem b1_ok (R : EP) (ρ : Env) (w : World) (h : b1 R (ρ 0) (ρ 1) w) : codeP Try.prog (pan R) code (q1 R) ρ w := (b1_eq R ρ w).mp h
/-- What is owed for a call. -/
def run (R : EP) (a0 a1 : Value) (w : World) : Prop := b1 R a0 a1 w
theorem calls (R : EP) (a0 a1 : Value) (w : World) (h : run R a0 a1 w) : Calls Try.prog id #[a0, a1] w R :=
  calls_of_t (f := id) (fn := Try.f150) (c := code) (by kernel_rfl) Try.func150 (by kernel_rfl) (by kernel_rfl) (args := [a0, a1]) (Nat.le_of_ble_eq_true rfl) rfl (b1_ok R (envOf [a0, a1]) w h)
theorem enters : Enters Try.prog id := fun args w => Try.call150 args w
theorem ct {a0 a1 : Value} {w : World} {S : VP} (h : ∀ R : EP, (∀ v w, S v w → R (.returned v) w) → run R a0 a1 w) : Ct Try.prog id #[a0, a1] w S :=
  Ct.intro enters fun R hR => calls R a0 a1 w (h R hR)
attribute [irreducible] b1_1 b1_2 b1 run
attribute [go_sem] b1_1 b1_2 b1 run
end cmp_Less_int

/-! ### slices.IndexFunc[[]string,string] -/
namespace slices_IndexFunc_string_string
noncomputable def code : Code := bodyOf Try.f159
noncomputable abbrev p1 : Code := dropC 1 code

def b3 (R : EP) (w : World) (_r : Tok R := tok R) : Prop :=
  R (.returned (Go.Value.int Go.IntKind.i64 (-1))) w
abbrev q1 (R : EP) : XP := QX (fun ρ w => R (.returned (ρ 4)) w) (fun ρ w => R (.returned (ρ 4)) w) []
theorem b3_eq (R : EP) (ρ : Env) (w : World) : (b3 R w) = codeP Try.prog (pan R) (sndC p1) (q1 R) ρ w := by kernel_rfl
theorem b3_ok (R : EP) (ρ : Env) (w : World) (h : b3 R w) : codeP Try.prog (pan R) (sndC p1) (q1 R) ρ w := (b3_eq R ρ w).mp h
noncomputable abbrev p2 : Code := dropC 1 (fstC p1)
noncomputable abbrev p3 : Code := loopC (blkC p2)
def b7_1 (R : EP) (C6 : VP) (x0 x1 x8 : Value) (w2 : World) (_r : Tok R := tok R) (_C6 : Tok C6 := tok C6) : Prop :=
  RUN Try.prog (pan R) (Instr.indexAt 23 x0 x8) w2 fun v3 w4 =>
  RUN Try.prog (pan R) (Instr.loadAt 9 v3) w4 fun v5 w6 =>
  CALLY Try.prog (pan R) x1 [v5] w6 fun v7 w8 =>
  SPL v7
  (R (.returned x8) w8)
  (RUN Try.prog (pan R) (bins .add 3 (.tmp 8) (.const (Go.Value.int Go.IntKind.i64 1)) x8 (Go.Value.int Go.IntKind.i64 1)) w8 fun v9 w10 =>
  C6 v9 w10)
def b7 (R : EP) (C6 : VP) (x0 x1 x7 x8 : Value) (w : World) (_r : Tok R := tok R) (_C6 : Tok C6 := tok C6) : Prop :=
  RUN Try.prog (pan R) (bins .lss 3 (.tmp 8) (.tmp 7) x8 x7) w fun v1 w2 =>
  SPL v1
  (b7_1 R C6 x0 x1 x8 w2)
  (b3 R w2)
abbrev q2 (R : EP) (C6 : VP) : XP := QX (fun ρ w => C6 (ρ 8) w) (fun ρ w => R (.returned (ρ 4)) w) [(0, (fun ρ w => b3 R  w))]
theorem b7_eq (R : EP) (C6 : VP) (ρ : Env) (w : World) : (b7 R C6 (ρ 0) (ρ 1) (ρ 7) (ρ 8) w) = codeP Try.prog (pan R) p3 (q2 R C6) ρ w := by kernel_rfl
theorem b7_ok (R : EP) (C6 : VP) (ρ : Env) (w : World) (h : b7 R C6 (ρ 0) (ρ 1) (ρ 7) (ρ 8) w) : codeP Try.prog (pan R) p3 (q2 R C6) ρ w := (b7_eq R C6 ρ w).mp h
def l6 (R : EP) (x0 x1 x7 x8 : Value) (w : World) (_r : Tok R := tok R) : Prop :=
  ∃ (J : VP) (μ : Value → World → Nat), J x8 w ∧ ∀ y8 w0, J y8 w0 → b7 R (fun z8 w1 => J z8 w1 ∧ μ z8 w1 < μ y8 w0) x0 x1 x7 y8 w0
abbrev q3 (R : EP) : XP := QX (fun ρ w => b3 R  w) (fun ρ w => R (.returned (ρ 4)) w) [(0, (fun ρ w => b3 R  w))]
theorem l6_ok (R : EP) (ρ : Env) (w : World) (h : l6 R (ρ 0) (ρ 1) (ρ 7) (ρ 8) w) : codeP Try.prog (pan R) (blkC p2) (q3 R) ρ w := by
  unfold l6 at h
  obtain ⟨J, μ, h0, hr⟩ := h
  have e : Code.loop (loopC (blkC p2)) = (blkC p2) := by kernel_rfl
  rw [← e]
  refine loopQ (fun ρ' w' => J (ρ' 8) w') (fun ρ' w' => μ (ρ' 8) w') h0 fun ρ' w' hA hI => ?_
  have e0 : ρ' 0 = ρ 0 := Agree.at hA 0 (by kernel_rfl)
  have e1 : ρ' 1 = ρ 1 := Agree.at hA 1 (by kernel_rfl)
  have e7 : ρ' 7 = ρ 7 := Agree.at hA 7 (by kernel_rfl)
  have h1 := hr (ρ' 8) w' hI
  rw [← e0, ← e1, ← e7] at h1
  exact b7_ok R (fun z8 w1 => J z8 w1 ∧ μ z8 w1 < μ (ρ' 8) w') ρ' w' h1
theorem l6_intro (R : EP) (x0 x1 x7 x8 : Value) (w : World) (J : VP) (μ : Value → World → Nat) (h0 : J x8 w)
    (hr : ∀ y8 w0, J y8 w0 → ∀ C6 : VP, (∀ z8 w1, J z8 w1 → μ z8 w1 < μ y8 w0 → C6 z8 w1) → b7 R C6 x0 x1 x7 y8 w0) : l6 R x0 x1 x7 x8 w := by
  unfold l6
  exact ⟨J, μ, h0, fun y8 w0 hJ => hr y8 w0 hJ _ (fun z8 w1 h1 h2 => ⟨h1, h2⟩)⟩
abbrev q4 (R : EP) : XP := QX (fun ρ w => b3 R  w) (fun ρ w => R (.returned (ρ 4)) w) []
theorem k5_ok (R : EP) (ρ : Env) (w : World) (h : l6 R (ρ 0) (ρ 1) (ρ 7) (ρ 8) w) : codeP Try.prog (pan R) p2 (q4 R) ρ w := by
  have e : Code.block 0 (blkC p2) = p2 := by kernel_rfl
  rw [← e]
  exact blockQ (l6_ok R ρ w h)
def b4 (R : EP) (x0 x1 : Value) (w : World) (_r : Tok R := tok R) : Prop :=
  RUN Try.prog (pan R) (Builtin.len_ #[23] 3 #[x0]) w fun v1 w2 =>
  l6 R x0 x1 v1 (Go.Value.int Go.IntKind.i64 0) w2
abbrev q5 (R : EP) : XP := QX (fun ρ w => l6 R (ρ 0) (ρ 1) (ρ 7) (ρ 8) w) (fun ρ w => R (.returned (ρ 4)) w) []
theorem b4_eq (R : EP) (ρ : Env) (w : World) : (b4 R (ρ 0) (ρ 1) w) = codeP Try.prog (pan R) (preC 0 (fstC p1)) (q5 R) ρ w := by kernel_rfl
theorem b4_ok (R : EP) (ρ : Env) (w : World) (h : b4 R (ρ 0) (ρ 1) w) : codeP Try.prog (pan R) (fstC p1) (q4 R) ρ w := by
  have e : appC 0 (preC 0 (fstC p1)) (dropC 1 (fstC p1)) = (fstC p1) := by kernel_rfl
  rw [← e]
  exact appQ (fun ρ w => l6 R (ρ 0) (ρ 1) (ρ 7) (ρ 8) w) 0 ((b4_eq R ρ w).mp h) (fun ρ w h => k5_ok R ρ w h)
theorem k2_ok (R : EP) (ρ : Env) (w : World) (h : b4 R (ρ 0) (ρ 1) w) : codeP Try.prog (pan R) p1 (q1 R) ρ w := by
  have e : Code.seq (fstC p1) (sndC p1) = p1 := by kernel_rfl
  rw [← e]
  exact seqQ (fun ρ w => b3 R  w) (b4_ok R ρ w h) (fun ρ w h => b3_ok R ρ w h)
def b1 (R : EP) (x0 x1 : Value) (w : World) (_r : Tok R := tok R) : Prop :=
  b4 R x0 x1 w
abbrev q6 (R : EP) : XP := QX (fun ρ w => b4 R (ρ 0) (ρ 1) w) (fun ρ w => R (.returned (ρ 4)) w) []
theorem b1_eq (R : EP) (ρ : Env) (w : World) : (b1 R (ρ 0) (ρ 1) w) = codeP Try.prog (pan R) (preC 0 code) (q6 R) ρ w := by kernel_rfl
theorem b1_ok (R : EP) (ρ : Env) (w : World) (h : b1 R (ρ 0) (ρ 1) w) : codeP Try.prog (pan R) code (q1 R) ρ w := by
  have e : appC 0 (preC 0 code) (dropC 1 code) = code := by kernel_rfl
  rw [← e]
  exact appQ (fun ρ w => b4 R (ρ 0) (ρ 1) w) 0 ((b1_eq R ρ w).mp h) (fun ρ w h => k2_ok R ρ w h)
/-- What is owed for a call. -/
def run (R : EP) (a0 a1 : Value) (w : World) : Prop := b1 R a0 a1 w
theorem calls (R : EP) (a0 a1 : Value) (w : World) (h : run R a0 a1 w) : Calls Try.prog id #[a0, a1] w R :=
  calls_of_t (f := id) (fn := Try.f159) (c := code) (by kernel_rfl) Try.func159 (by kernel_rfl) (by kernel_rfl) (args := [a0, a1]) (Nat.le_of_ble_eq_true rfl) rfl (b1_ok R (envOf [a0, a1]) w h)
theorem enters : Enters Try.prog id := fun args w => Try.call159 args w
theorem ct {a0 a1 : Value} {w : World} {S : VP} (h : ∀ R : EP, (∀ v w, S v w → R (.returned v) w) → run R a0 a1 w) : Ct Try.prog id #[a0, a1] w S :=
  Ct.intro enters fun R hR => calls R a0 a1 w (h R hR)
attribute [irreducible] b3 b7_1 b7 l6 b4 b1 run
attribute [go_sem] b3 b7_1 b7 b4 b1 run
end slices_IndexFunc_string_string

/-! ### slices.Index[[]int,int] -/
namespace slices_Index_int_int
noncomputable def code : Code := bodyOf Try.f160
noncomputable abbrev p1 : Code := dropC 1 code

def b3 (R : EP) (w : World) (_r : Tok R := tok R) : Prop :=
  R (.returned (Go.Value.int Go.IntKind.i64 (-1))) w
abbrev q1 (R : EP) : XP := QX (fun ρ w => R (.returned (ρ 4)) w) (fun ρ w => R (.returned (ρ 4)) w) []
theorem b3_eq (R : EP) (ρ : Env) (w : World) : (b3 R w) = codeP Try.prog (pan R) (sndC p1) (q1 R) ρ w := by kernel_rfl
theorem b3_ok (R : EP) (ρ : Env) (w : World) (h : b3 R w) : codeP Try.prog (pan R) (sndC p1) (q1 R) ρ w := (b3_eq R ρ w).mp h
noncomputable abbrev p2 : Code := dropC 1 (fstC p1)
noncomputable abbrev p3 : Code := loopC (blkC p2)
def b7_1 (R : EP) (C6 : VP) (x0 x1 x8 : Value) (w2 : World) (_r : Tok R := tok R) (_C6 : Tok C6 := tok C6) : Prop :=
  RUN Try.prog (pan R) (Instr.indexAt 24 x0 x8) w2 fun v3 w4 =>
  RUN Try.prog (pan R) (Instr.loadAt 3 v3) w4 fun v5 w6 =>
  RUN Try.prog (pan R) (bins .eql 3 (.tmp 11) (.tmp 15) x1 v5) w6 fun v7 w8 =>
  SPL v7
  (R (.returned x8) w8)
  (RUN Try.prog (pan R) (bins .add 3 (.tmp 8) (.const (Go.Value.int Go.IntKind.i64 1)) x8 (Go.Value.int Go.IntKind.i64 1)) w8 fun v9 w10 =>
  C6 v9 w10)
def b7 (R : EP) (C6 : VP) (x0 x1 x7 x8 : Value) (w : World) (_r : Tok R := tok R) (_C6 : Tok C6 := tok C6) : Prop :=
  RUN Try.prog (pan R) (bins .lss 3 (.tmp 8) (.tmp 7) x8 x7) w fun v1 w2 =>
  SPL v1
  (b7_1 R C6 x0 x1 x8 w2)
  (b3 R w2)
abbrev q2 (R : EP) (C6 : VP) : XP := QX (fun ρ w => C6 (ρ 8) w) (fun ρ w => R (.returned (ρ 4)) w) [(0, (fun ρ w => b3 R  w))]
theorem b7_eq (R : EP) (C6 : VP) (ρ : Env) (w : World) : (b7 R C6 (ρ 0) (ρ 1) (ρ 7) (ρ 8) w) = codeP Try.prog (pan R) p3 (q2 R C6) ρ w := by kernel_rfl
theorem b7_ok (R : EP) (C6 : VP) (ρ : Env) (w : World) (h : b7 R C6 (ρ 0) (ρ 1) (ρ 7) (ρ 8) w) : codeP Try.prog (pan R) p3 (q2 R C6) ρ w := (b7_eq R C6 ρ w).mp h
def l6 (R : EP) (x0 x1 x7 x8 : Value) (w : World) (_r : Tok R := tok R) : Prop :=
  ∃ (J : VP) (μ : Value → World → Nat), J x8 w ∧ ∀ y8 w0, J y8 w0 → b7 R (fun z8 w1 => J z8 w1 ∧ μ z8 w1 < μ y8 w0) x0 x1 x7 y8 w0
abbrev q3 (R : EP) : XP := QX (fun ρ w => b3 R  w) (fun ρ w => R (.returned (ρ 4)) w) [(0, (fun ρ w => b3 R  w))]
theorem l6_ok (R : EP) (ρ : Env) (w : World) (h : l6 R (ρ 0) (ρ 1) (ρ 7) (ρ 8) w) : codeP Try.prog (pan R) (blkC p2) (q3 R) ρ w := by
  unfold l6 at h
  obtain ⟨J, μ, h0, hr⟩ := h
  have e : Code.loop (loopC (blkC p2)) = (blkC p2) := by kernel_rfl
  rw [← e]
  refine loopQ (fun ρ' w' => J (ρ' 8) w') (fun ρ' w' => μ (ρ' 8) w') h0 fun ρ' w' hA hI => ?_
  have e0 : ρ' 0 = ρ 0 := Agree.at hA 0 (by kernel_rfl)
  have e1 : ρ' 1 = ρ 1 := Agree.at hA 1 (by kernel_rfl)
  have e7 : ρ' 7 = ρ 7 := Agree.at hA 7 (by kernel_rfl)
  have h1 := hr (ρ' 8) w' hI
  rw [← e0, ← e1, ← e7] at h1
  exact b7_ok R (fun z8 w1 => J z8 w1 ∧ μ z8 w1 < μ (ρ' 8) w') ρ' w' h1
theorem l6_intro (R : EP) (x0 x1 x7 x8 : Value) (w : World) (J : VP) (μ : Value → World → Nat) (h0 : J x8 w)
    (hr : ∀ y8 w0, J y8 w0 → ∀ C6 : VP, (∀ z8 w1, J z8 w1 → μ z8 w1 < μ y8 w0 → C6 z8 w1) → b7 R C6 x0 x1 x7 y8 w0) : l6 R x0 x1 x7 x8 w := by
  unfold l6
  exact ⟨J, μ, h0, fun y8 w0 hJ => hr y8 w0 hJ _ (fun z8 w1 h1 h2 => ⟨h1, h2⟩)⟩
abbrev q4 (R : EP) : XP := QX (fun ρ w => b3 R  w) (fun ρ w => R (.returned (ρ 4)) w) []
theorem k5_ok (R : EP) (ρ : Env) (w : World) (h : l6 R (ρ 0) (ρ 1) (ρ 7) (ρ 8) w) : codeP Try.prog (pan R) p2 (q4 R) ρ w := by
  have e : Code.block 0 (blkC p2) = p2 := by kernel_rfl
  rw [← e]
  exact blockQ (l6_ok R ρ w h)
def b4 (R : EP) (x0 x1 : Value) (w : World) (_r : Tok R := tok R) : Prop :=
  RUN Try.prog (pan R) (Builtin.len_ #[24] 3 #[x0]) w fun v1 w2 =>
  l6 R x0 x1 v1 (Go.Value.int Go.IntKind.i64 0) w2
abbrev q5 (R : EP) : XP := QX (fun ρ w => l6 R (ρ 0) (ρ 1) (ρ 7) (ρ 8) w) (fun ρ w => R (.returned (ρ 4)) w) []
theorem b4_eq (R : EP) (ρ : Env) (w : World) : (b4 R (ρ 0) (ρ 1) w) = codeP Try.prog (pan R) (preC 0 (fstC p1)) (q5 R) ρ w := by kernel_rfl
theorem b4_ok (R : EP) (ρ : Env) (w : World) (h : b4 R (ρ 0) (ρ 1) w) : codeP Try.prog (pan R) (fstC p1) (q4 R) ρ w := by
  have e : appC 0 (preC 0 (fstC p1)) (dropC 1 (fstC p1)) = (fstC p1) := by kernel_rfl
  rw [← e]
  exact appQ (fun ρ w => l6 R (ρ 0) (ρ 1) (ρ 7) (ρ 8) w) 0 ((b4_eq R ρ w).mp h) (fun ρ w h => k5_ok R ρ w h)
theorem k2_ok (R : EP) (ρ : Env) (w : World) (h : b4 R (ρ 0) (ρ 1) w) : codeP Try.prog (pan R) p1 (q1 R) ρ w := by
  have e : Code.seq (fstC p1) (sndC p1) = p1 := by kernel_rfl
  rw [← e]
  exact seqQ (fun ρ w => b3 R  w) (b4_ok R ρ w h) (fun ρ w h => b3_ok R ρ w h)
def b1 (R : EP) (x0 x1 : Value) (w : World) (_r : Tok R := tok R) : Prop :=
  b4 R x0 x1 w
abbrev q6 (R : EP) : XP := QX (fun ρ w => b4 R (ρ 0) (ρ 1) w) (fun ρ w => R (.returned (ρ 4)) w) []
theorem b1_eq (R : EP) (ρ : Env) (w : World) : (b1 R (ρ 0) (ρ 1) w) = codeP Try.prog (pan R) (preC 0 code) (q6 R) ρ w := by kernel_rfl
theorem b1_ok (R : EP) (ρ : Env) (w : World) (h : b1 R (ρ 0) (ρ 1) w) : codeP Try.prog (pan R) code (q1 R) ρ w := by
  have e : appC 0 (preC 0 code) (dropC 1 code) = code := by kernel_rfl
  rw [← e]
  exact appQ (fun ρ w => b4 R (ρ 0) (ρ 1) w) 0 ((b1_eq R ρ w).mp h) (fun ρ w h => k2_ok R ρ w h)
/-- What is owed for a call. -/
def run (R : EP) (a0 a1 : Value) (w : World) : Prop := b1 R a0 a1 w
theorem calls (R : EP) (a0 a1 : Value) (w : World) (h : run R a0 a1 w) : Calls Try.prog id #[a0, a1] w R :=
  calls_of_t (f := id) (fn := Try.f160) (c := code) (by kernel_rfl) Try.func160 (by kernel_rfl) (by kernel_rfl) (args := [a0, a1]) (Nat.le_of_ble_eq_true rfl) rfl (b1_ok R (envOf [a0, a1]) w h)
theorem enters : Enters Try.prog id := fun args w => Try.call160 args w
theorem ct {a0 a1 : Value} {w : World} {S : VP} (h : ∀ R : EP, (∀ v w, S v w → R (.returned v) w) → run R a0 a1 w) : Ct Try.prog id #[a0, a1] w S :=
  Ct.intro enters fun R hR => calls R a0 a1 w (h R hR)
attribute [irreducible] b3 b7_1 b7 l6 b4 b1 run
attribute [go_sem] b3 b7_1 b7 b4 b1 run
end slices_Index_int_int

/-! ### cmp.isNaN[int] -/
namespace cmp_isNaN_int
noncomputable def code : Code := bodyOf Try.f161
def b1 (R : EP) (x0 : Value) (w : World) (_r : Tok R := tok R) : Prop :=
  RUN Try.prog (pan R) (bins .neq 3 (.tmp 3) (.tmp 4) x0 x0) w fun v1 w2 =>
  R (.returned v1) w2
abbrev q1 (R : EP) : XP := QX (fun ρ w => R (.returned (ρ 2)) w) (fun ρ w => R (.returned (ρ 2)) w) []
theorem b1_eq (R : EP) (ρ : Env) (w : World) : (b1 R (ρ 0) w) = codeP Try.prog (pan R) code (q1 R) ρ w := by kernel_rfl
theorem b1_ok (R : EP) (ρ : Env) (w : World) (h : b1 R (ρ 0) w) : codeP Try.prog (pan R) code (q1 R) ρ w := (b1_eq R ρ w).mp h
/-- What is owed for a call. -/
def run (R : EP) (a0 : Value) (w : World) : Prop := b1 R a0 w
theorem calls (R : EP) (a0 : Value) (w : World) (h : run R a0 w) : Calls Try.prog id #[a0] w R :=
  calls_of_t (f := id) (fn := Try.f161) (c := code) (by kernel_rfl) Try.func161 (by kernel_rfl) (by kernel_rfl) (args := [a0]) (Nat.le_of_ble_eq_true rfl) rfl (b1_ok R (envOf [a0]) w h)
theorem enters : Enters Try.prog id := fun args w => Try.call161 args w
theorem ct {a0 : Value} {w : World} {S : VP} (h : ∀ R : EP, (∀ v w, S v w → R (.returned v) w) → run R a0 w) : Ct Try.prog id #[a0] w S :=
  Ct.intro enters fun R hR => calls R a0 w (h R hR)
attribute [irreducible] b1 run
attribute [go_sem] b1 run
end cmp_isNaN_int
end Go.Proofs.Ytkacbjhiobnbfaa

