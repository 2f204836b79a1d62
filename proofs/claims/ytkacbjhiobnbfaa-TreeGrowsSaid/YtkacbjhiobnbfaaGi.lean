/- Shallow programs, written by a program of ours (gen.py) off the translation; each is tied to the code by the kernel. -/
import Derived.Test.YtkacbjhiobnbfaaGa
set_option linter.unusedVariables false
set_option maxRecDepth 100000
namespace Go.Proofs.Ytkacbjhiobnbfaa
open Go.Px





/-! ### presage/presagelaw20.TreeGrows -/
namespace law20_TreeGrows
noncomputable def code : Code := bodyOf Try.f11
noncomputable abbrev p1 : Code := dropC 4 code
def b3_1 (R : EP) (v2 v3 v4 : Value) (w5 : World) (_r : Tok R := tok R) : Prop :=
  Sem.run Try.prog (Instr.loadAt 49 v2) w5 = .ok v3 w5 ∧ (CALL Try.prog (pan R) ref20_Same.id #[v4, v3] w5 fun v6 w7 =>
  SPL v6
  (CALL Try.prog (pan R) law20_awake.id #[] w7 fun v8 w9 =>
  R (.returned v8) w9)
  (R (.returned (Go.Value.bool Bool.false)) w7))

def b3 (R : EP) (x3 x4 : Value) (w : World) (_r : Tok R := tok R) : Prop :=
  NILC x4 fun v1 =>
  PUR Try.prog (Instr.fieldAt 70 v1 0) fun v2 =>
  LD Try.prog (Instr.loadAt 49 v2) (World.drew w) fun v3 =>
  CALL Try.prog (pan R) tree_Arena_Nodes.id #[x3] (World.drew w) fun v4 w5 =>
  b3_1 R v2 v3 v4 w5
abbrev q1 (R : EP) : XP := QX (fun ρ w => R (.returned (ρ 2)) w) (fun ρ w => R (.returned (ρ 2)) w) []
theorem b3_eq (R : EP) (ρ : Env) (w : World) : (b3 R (ρ 3) (ρ 4) w) = codeP Try.prog (pan R) (sndC p1) (q1 R) ρ w := by kernel_rfl
theorem b3_ok (R : EP) (ρ : Env) (w : World) (h : b3 R (ρ 3) (ρ 4) w) : codeP Try.prog (pan R) (sndC p1) (q1 R) ρ w := (b3_eq R ρ w).mp h
noncomputable abbrev p2 : Code := dropC 1 (fstC p1)
noncomputable abbrev p3 : Code := loopC (blkC p2)
noncomputable abbrev p4 : Code := dropC 1 p3

def b9 (R : EP) (C6 : VP) (x5 : Value) (w : World) (_r : Tok R := tok R) (_C6 : Tok C6 := tok C6) : Prop :=
  RUN Try.prog (pan R) (bins .add 3 (.tmp 30) (.const (Go.Value.int Go.IntKind.i64 1)) x5 (Go.Value.int Go.IntKind.i64 1)) w fun v1 w2 =>
  C6 v1 w2
abbrev q2 (R : EP) (C6 : VP) : XP := QX (fun ρ w => C6 (ρ 5) w) (fun ρ w => R (.returned (ρ 2)) w) [(0, (fun ρ w => b3 R (ρ 3) (ρ 4) w))]
theorem b9_eq (R : EP) (C6 : VP) (ρ : Env) (w : World) : (b9 R C6 (ρ 5) w) = codeP Try.prog (pan R) (sndC p4) (q2 R C6) ρ w := by kernel_rfl
theorem b9_ok (R : EP) (C6 : VP) (ρ : Env) (w : World) (h : b9 R C6 (ρ 5) w) : codeP Try.prog (pan R) (sndC p4) (q2 R C6) ρ w := (b9_eq R C6 ρ w).mp h
noncomputable abbrev p5 : Code := blkC (fstC p4)
noncomputable abbrev p6 : Code := dropC 1 p5
noncomputable abbrev p7 : Code := dropC 2 (sndC p6)
noncomputable abbrev p8 : Code := dropC 3 (thnC p7)
noncomputable abbrev p9 : Code := loopC (blkC p8)
noncomputable abbrev p10 : Code := dropC 1 p9

def b20 (R : EP) (C6 : VP) (C17 : VP) (x19 : Value) (w : World) (_r : Tok R := tok R) (_C6 : Tok C6 := tok C6) (_C17 : Tok C17 := tok C17) : Prop :=
  RUN Try.prog (pan R) (bins .add 3 (.tmp 148) (.const (Go.Value.int Go.IntKind.i64 1)) x19 (Go.Value.int Go.IntKind.i64 1)) w fun v1 w2 =>
  C17 v1 w2
abbrev q3 (R : EP) (C6 : VP) (C17 : VP) : XP := QX (fun ρ w => C17 (ρ 19) w) (fun ρ w => R (.returned (ρ 2)) w) [(8, (fun ρ w => b9 R C6 (ρ 5) w)), (2, (fun ρ w => b9 R C6 (ρ 5) w)), (0, (fun ρ w => b3 R (ρ 3) (ρ 4) w))]
theorem b20_eq (R : EP) (C6 : VP) (C17 : VP) (ρ : Env) (w : World) : (b20 R C6 C17 (ρ 19) w) = codeP Try.prog (pan R) (sndC p10) (q3 R C6 C17) ρ w := by kernel_rfl
theorem b20_ok (R : EP) (C6 : VP) (C17 : VP) (ρ : Env) (w : World) (h : b20 R C6 C17 (ρ 19) w) : codeP Try.prog (pan R) (sndC p10) (q3 R C6 C17) ρ w := (b20_eq R C6 C17 ρ w).mp h
noncomputable abbrev p11 : Code := blkC (fstC p10)

def b23 (R : EP) (C6 : VP) (C17 : VP) (x18 x19 : Value) (w : World) (_r : Tok R := tok R) (_C6 : Tok C6 := tok C6) (_C17 : Tok C17 := tok C17) : Prop :=
  RUN Try.prog (pan R) (Instr.build 61 #[(0, (Go.Value.int Go.IntKind.i64 (-8)))]) w fun v1 w2 =>
  RUN Try.prog (pan R) (Instr.indexAt 49 x18 x19) w2 fun v3 w4 =>
  RUNU Try.prog (pan R) (Instr.storeAt 61 v3 v1) w4 fun w5 =>
  b20 R C6 C17 x19 w5
abbrev q4 (R : EP) (C6 : VP) (C17 : VP) : XP := QX (fun ρ w => b20 R C6 C17 (ρ 19) w) (fun ρ w => R (.returned (ρ 2)) w) [(10, (fun ρ w => b20 R C6 C17 (ρ 19) w)), (8, (fun ρ w => b9 R C6 (ρ 5) w)), (2, (fun ρ w => b9 R C6 (ρ 5) w)), (0, (fun ρ w => b3 R (ρ 3) (ρ 4) w))]
theorem b23_eq (R : EP) (C6 : VP) (C17 : VP) (ρ : Env) (w : World) : (b23 R C6 C17 (ρ 18) (ρ 19) w) = codeP Try.prog (pan R) (sndC p11) (q4 R C6 C17) ρ w := by kernel_rfl
theorem b23_ok (R : EP) (C6 : VP) (C17 : VP) (ρ : Env) (w : World) (h : b23 R C6 C17 (ρ 18) (ρ 19) w) : codeP Try.prog (pan R) (sndC p11) (q4 R C6 C17) ρ w := (b23_eq R C6 C17 ρ w).mp h
noncomputable abbrev p12 : Code := dropC 1 (fstC p11)
noncomputable abbrev p13 : Code := loopC (blkC p12)
def b27_1 (R : EP) (C26 : VP) (x18 x19 x20 : Value) (w10 : World) (_r : Tok R := tok R) (_C26 : Tok C26 := tok C26) : Prop :=
  RUN Try.prog (pan R) (Instr.indexAt 49 x18 x19) w10 fun v11 w12 =>
  RUN Try.prog (pan R) (Instr.fieldAt 61 v11 3) w12 fun v13 w14 =>
  RUN Try.prog (pan R) (Instr.loadAt 24 v13) w14 fun v15 w16 =>
  RUN Try.prog (pan R) (Instr.indexAt 24 v15 x20) w16 fun v17 w18 =>
  RUNU Try.prog (pan R) (Instr.storeAt 3 v17 (Go.Value.int Go.IntKind.i64 (-6))) w18 fun w19 =>
  RUN Try.prog (pan R) (bins .add 3 (.tmp 158) (.const (Go.Value.int Go.IntKind.i64 1)) x20 (Go.Value.int Go.IntKind.i64 1)) w19 fun v20 w21 =>
  C26 v20 w21

def b27 (R : EP) (C6 : VP) (C17 : VP) (C26 : VP) (x18 x19 x20 : Value) (w : World) (_r : Tok R := tok R) (_C6 : Tok C6 := tok C6) (_C17 : Tok C17 := tok C17) (_C26 : Tok C26 := tok C26) : Prop :=
  RUN Try.prog (pan R) (Instr.indexAt 49 x18 x19) w fun v1 w2 =>
  RUN Try.prog (pan R) (Instr.fieldAt 61 v1 3) w2 fun v3 w4 =>
  RUN Try.prog (pan R) (Instr.loadAt 24 v3) w4 fun v5 w6 =>
  RUN Try.prog (pan R) (Builtin.len_ #[24] 3 #[v5]) w6 fun v7 w8 =>
  RUN Try.prog (pan R) (bins .lss 3 (.tmp 150) (.tmp 156) x20 v7) w8 fun v9 w10 =>
  SPL v9
  (b27_1 R C26 x18 x19 x20 w10)
  (b23 R C6 C17 x18 x19 w10)
abbrev q5 (R : EP) (C6 : VP) (C17 : VP) (C26 : VP) : XP := QX (fun ρ w => C26 (ρ 20) w) (fun ρ w => R (.returned (ρ 2)) w) [(12, (fun ρ w => b23 R C6 C17 (ρ 18) (ρ 19) w)), (10, (fun ρ w => b20 R C6 C17 (ρ 19) w)), (8, (fun ρ w => b9 R C6 (ρ 5) w)), (2, (fun ρ w => b9 R C6 (ρ 5) w)), (0, (fun ρ w => b3 R (ρ 3) (ρ 4) w))]
theorem b27_eq (R : EP) (C6 : VP) (C17 : VP) (C26 : VP) (ρ : Env) (w : World) : (b27 R C6 C17 C26 (ρ 18) (ρ 19) (ρ 20) w) = codeP Try.prog (pan R) p13 (q5 R C6 C17 C26) ρ w := by kernel_rfl
theorem b27_ok (R : EP) (C6 : VP) (C17 : VP) (C26 : VP) (ρ : Env) (w : World) (h : b27 R C6 C17 C26 (ρ 18) (ρ 19) (ρ 20) w) : codeP Try.prog (pan R) p13 (q5 R C6 C17 C26) ρ w := (b27_eq R C6 C17 C26 ρ w).mp h

def l26 (R : EP) (C6 : VP) (C17 : VP) (x18 x19 x20 : Value) (w : World) (_r : Tok R := tok R) (_C6 : Tok C6 := tok C6) (_C17 : Tok C17 := tok C17) : Prop :=
  ∃ (J : VP) (μ : Value → World → Nat), J x20 w ∧ ∀ y20 w0, J y20 w0 → b27 R C6 C17 (fun z20 w1 => J z20 w1 ∧ μ z20 w1 < μ y20 w0) x18 x19 y20 w0
abbrev q6 (R : EP) (C6 : VP) (C17 : VP) : XP := QX (fun ρ w => b23 R C6 C17 (ρ 18) (ρ 19) w) (fun ρ w => R (.returned (ρ 2)) w) [(12, (fun ρ w => b23 R C6 C17 (ρ 18) (ρ 19) w)), (10, (fun ρ w => b20 R C6 C17 (ρ 19) w)), (8, (fun ρ w => b9 R C6 (ρ 5) w)), (2, (fun ρ w => b9 R C6 (ρ 5) w)), (0, (fun ρ w => b3 R (ρ 3) (ρ 4) w))]
theorem l26_ok (R : EP) (C6 : VP) (C17 : VP) (ρ : Env) (w : World) (h : l26 R C6 C17 (ρ 18) (ρ 19) (ρ 20) w) : codeP Try.prog (pan R) (blkC p12) (q6 R C6 C17) ρ w := by
  unfold l26 at h
  obtain ⟨J, μ, h0, hr⟩ := h
  have e : Code.loop (loopC (blkC p12)) = (blkC p12) := by kernel_rfl
  rw [← e]
  refine loopQ (fun ρ' w' => J (ρ' 20) w') (fun ρ' w' => μ (ρ' 20) w') h0 fun ρ' w' hA hI => ?_
  have e18 : ρ' 18 = ρ 18 := Agree.at hA 18 (by kernel_rfl)
  have e19 : ρ' 19 = ρ 19 := Agree.at hA 19 (by kernel_rfl)
  have h1 := hr (ρ' 20) w' hI
  rw [← e18, ← e19] at h1
  exact b27_ok R C6 C17 (fun z20 w1 => J z20 w1 ∧ μ z20 w1 < μ (ρ' 20) w') ρ' w' h1
theorem l26_intro (R : EP) (C6 : VP) (C17 : VP) (x18 x19 x20 : Value) (w : World) (J : VP) (μ : Value → World → Nat) (h0 : J x20 w)
    (hr : ∀ y20 w0, J y20 w0 → ∀ C26 : VP, (∀ z20 w1, J z20 w1 → μ z20 w1 < μ y20 w0 → C26 z20 w1) → b27 R C6 C17 C26 x18 x19 y20 w0) : l26 R C6 C17 x18 x19 x20 w := by
  unfold l26
  exact ⟨J, μ, h0, fun y20 w0 hJ => hr y20 w0 hJ _ (fun z20 w1 h1 h2 => ⟨h1, h2⟩)⟩
abbrev q7 (R : EP) (C6 : VP) (C17 : VP) : XP := QX (fun ρ w => b23 R C6 C17 (ρ 18) (ρ 19) w) (fun ρ w => R (.returned (ρ 2)) w) [(10, (fun ρ w => b20 R C6 C17 (ρ 19) w)), (8, (fun ρ w => b9 R C6 (ρ 5) w)), (2, (fun ρ w => b9 R C6 (ρ 5) w)), (0, (fun ρ w => b3 R (ρ 3) (ρ 4) w))]
theorem k25_ok (R : EP) (C6 : VP) (C17 : VP) (ρ : Env) (w : World) (h : l26 R C6 C17 (ρ 18) (ρ 19) (ρ 20) w) : codeP Try.prog (pan R) p12 (q7 R C6 C17) ρ w := by
  have e : Code.block 6 (blkC p12) = p12 := by kernel_rfl
  rw [← e]
  exact blockQ (l26_ok R C6 C17 ρ w h)

def b24 (R : EP) (C6 : VP) (C17 : VP) (x18 x19 : Value) (w : World) (_r : Tok R := tok R) (_C6 : Tok C6 := tok C6) (_C17 : Tok C17 := tok C17) : Prop :=
  l26 R C6 C17 x18 x19 (Go.Value.int Go.IntKind.i64 0) w
abbrev q8 (R : EP) (C6 : VP) (C17 : VP) : XP := QX (fun ρ w => l26 R C6 C17 (ρ 18) (ρ 19) (ρ 20) w) (fun ρ w => R (.returned (ρ 2)) w) [(10, (fun ρ w => b20 R C6 C17 (ρ 19) w)), (8, (fun ρ w => b9 R C6 (ρ 5) w)), (2, (fun ρ w => b9 R C6 (ρ 5) w)), (0, (fun ρ w => b3 R (ρ 3) (ρ 4) w))]
theorem b24_eq (R : EP) (C6 : VP) (C17 : VP) (ρ : Env) (w : World) : (b24 R C6 C17 (ρ 18) (ρ 19) w) = codeP Try.prog (pan R) (preC 0 (fstC p11)) (q8 R C6 C17) ρ w := by kernel_rfl
theorem b24_ok (R : EP) (C6 : VP) (C17 : VP) (ρ : Env) (w : World) (h : b24 R C6 C17 (ρ 18) (ρ 19) w) : codeP Try.prog (pan R) (fstC p11) (q7 R C6 C17) ρ w := by
  have e : appC 0 (preC 0 (fstC p11)) (dropC 1 (fstC p11)) = (fstC p11) := by kernel_rfl
  rw [← e]
  exact appQ (fun ρ w => l26 R C6 C17 (ρ 18) (ρ 19) (ρ 20) w) 0 ((b24_eq R C6 C17 ρ w).mp h) (fun ρ w h => k25_ok R C6 C17 ρ w h)
theorem k22_ok (R : EP) (C6 : VP) (C17 : VP) (ρ : Env) (w : World) (h : b24 R C6 C17 (ρ 18) (ρ 19) w) : codeP Try.prog (pan R) p11 (q4 R C6 C17) ρ w := by
  have e : Code.seq (fstC p11) (sndC p11) = p11 := by kernel_rfl
  rw [← e]
  exact seqQ (fun ρ w => b23 R C6 C17 (ρ 18) (ρ 19) w) (b24_ok R C6 C17 ρ w h) (fun ρ w h => b23_ok R C6 C17 ρ w h)
abbrev q9 (R : EP) (C6 : VP) (C17 : VP) : XP := QX (fun ρ w => b20 R C6 C17 (ρ 19) w) (fun ρ w => R (.returned (ρ 2)) w) [(8, (fun ρ w => b9 R C6 (ρ 5) w)), (2, (fun ρ w => b9 R C6 (ρ 5) w)), (0, (fun ρ w => b3 R (ρ 3) (ρ 4) w))]
theorem k21_ok (R : EP) (C6 : VP) (C17 : VP) (ρ : Env) (w : World) (h : b24 R C6 C17 (ρ 18) (ρ 19) w) : codeP Try.prog (pan R) (fstC p10) (q9 R C6 C17) ρ w := by
  have e : Code.block 5 (blkC (fstC p10)) = (fstC p10) := by kernel_rfl
  rw [← e]
  exact blockQ (k22_ok R C6 C17 ρ w h)
theorem k19_ok (R : EP) (C6 : VP) (C17 : VP) (ρ : Env) (w : World) (h : b24 R C6 C17 (ρ 18) (ρ 19) w) : codeP Try.prog (pan R) p10 (q3 R C6 C17) ρ w := by
  have e : Code.seq (fstC p10) (sndC p10) = p10 := by kernel_rfl
  rw [← e]
  exact seqQ (fun ρ w => b20 R C6 C17 (ρ 19) w) (k21_ok R C6 C17 ρ w h) (fun ρ w h => b20_ok R C6 C17 ρ w h)

def b18 (R : EP) (C6 : VP) (C17 : VP) (x5 x18 x19 : Value) (w : World) (_r : Tok R := tok R) (_C6 : Tok C6 := tok C6) (_C17 : Tok C17 := tok C17) : Prop :=
  RUN Try.prog (pan R) (Builtin.len_ #[49] 3 #[x18]) w fun v1 w2 =>
  RUN Try.prog (pan R) (bins .lss 3 (.tmp 144) (.tmp 146) x19 v1) w2 fun v3 w4 =>
  SPL v3
  (b24 R C6 C17 x18 x19 w4)
  (b9 R C6 x5 w4)
abbrev q10 (R : EP) (C6 : VP) (C17 : VP) : XP := QX (fun ρ w => b24 R C6 C17 (ρ 18) (ρ 19) w) (fun ρ w => R (.returned (ρ 2)) w) [(8, (fun ρ w => b9 R C6 (ρ 5) w)), (2, (fun ρ w => b9 R C6 (ρ 5) w)), (0, (fun ρ w => b3 R (ρ 3) (ρ 4) w))]
theorem b18_eq (R : EP) (C6 : VP) (C17 : VP) (ρ : Env) (w : World) : (b18 R C6 C17 (ρ 5) (ρ 18) (ρ 19) w) = codeP Try.prog (pan R) (preC 0 p9) (q10 R C6 C17) ρ w := by kernel_rfl
theorem b18_ok (R : EP) (C6 : VP) (C17 : VP) (ρ : Env) (w : World) (h : b18 R C6 C17 (ρ 5) (ρ 18) (ρ 19) w) : codeP Try.prog (pan R) p9 (q3 R C6 C17) ρ w := by
  have e : appC 0 (preC 0 p9) (dropC 1 p9) = p9 := by kernel_rfl
  rw [← e]
  exact appQ (fun ρ w => b24 R C6 C17 (ρ 18) (ρ 19) w) 0 ((b18_eq R C6 C17 ρ w).mp h) (fun ρ w h => k19_ok R C6 C17 ρ w h)

def l17 (R : EP) (C6 : VP) (x5 x18 x19 : Value) (w : World) (_r : Tok R := tok R) (_C6 : Tok C6 := tok C6) : Prop :=
  ∃ (J : VP) (μ : Value → World → Nat), J x19 w ∧ ∀ y19 w0, J y19 w0 → b18 R C6 (fun z19 w1 => J z19 w1 ∧ μ z19 w1 < μ y19 w0) x5 x18 y19 w0
abbrev q11 (R : EP) (C6 : VP) : XP := QX (fun ρ w => b9 R C6 (ρ 5) w) (fun ρ w => R (.returned (ρ 2)) w) [(8, (fun ρ w => b9 R C6 (ρ 5) w)), (2, (fun ρ w => b9 R C6 (ρ 5) w)), (0, (fun ρ w => b3 R (ρ 3) (ρ 4) w))]
theorem l17_ok (R : EP) (C6 : VP) (ρ : Env) (w : World) (h : l17 R C6 (ρ 5) (ρ 18) (ρ 19) w) : codeP Try.prog (pan R) (blkC p8) (q11 R C6) ρ w := by
  unfold l17 at h
  obtain ⟨J, μ, h0, hr⟩ := h
  have e : Code.loop (loopC (blkC p8)) = (blkC p8) := by kernel_rfl
  rw [← e]
  refine loopQ (fun ρ' w' => J (ρ' 19) w') (fun ρ' w' => μ (ρ' 19) w') h0 fun ρ' w' hA hI => ?_
  have e5 : ρ' 5 = ρ 5 := Agree.at hA 5 (by kernel_rfl)
  have e18 : ρ' 18 = ρ 18 := Agree.at hA 18 (by kernel_rfl)
  have h1 := hr (ρ' 19) w' hI
  rw [← e5, ← e18] at h1
  exact b18_ok R C6 (fun z19 w1 => J z19 w1 ∧ μ z19 w1 < μ (ρ' 19) w') ρ' w' h1
theorem l17_intro (R : EP) (C6 : VP) (x5 x18 x19 : Value) (w : World) (J : VP) (μ : Value → World → Nat) (h0 : J x19 w)
    (hr : ∀ y19 w0, J y19 w0 → ∀ C17 : VP, (∀ z19 w1, J z19 w1 → μ z19 w1 < μ y19 w0 → C17 z19 w1) → b18 R C6 C17 x5 x18 y19 w0) : l17 R C6 x5 x18 x19 w := by
  unfold l17
  exact ⟨J, μ, h0, fun y19 w0 hJ => hr y19 w0 hJ _ (fun z19 w1 h1 h2 => ⟨h1, h2⟩)⟩
abbrev q12 (R : EP) (C6 : VP) : XP := QX (fun ρ w => b9 R C6 (ρ 5) w) (fun ρ w => R (.returned (ρ 2)) w) [(2, (fun ρ w => b9 R C6 (ρ 5) w)), (0, (fun ρ w => b3 R (ρ 3) (ρ 4) w))]
theorem k16_ok (R : EP) (C6 : VP) (ρ : Env) (w : World) (h : l17 R C6 (ρ 5) (ρ 18) (ρ 19) w) : codeP Try.prog (pan R) p8 (q12 R C6) ρ w := by
  have e : Code.block 4 (blkC p8) = p8 := by kernel_rfl
  rw [← e]
  exact blockQ (l17_ok R C6 ρ w h)
def b15_1 (R : EP) (C6 : VP) (x4 x5 v1 : Value) (w2 : World) (_r : Tok R := tok R) (_C6 : Tok C6 := tok C6) : Prop :=
  NILC x4 fun v3 =>
  RUN Try.prog (pan R) (Instr.fieldAt 70 v3 0) w2 fun v4 w5 =>
  RUN Try.prog (pan R) (Instr.loadAt 49 v4) w5 fun v6 w7 =>
  CALL Try.prog (pan R) ref20_Same.id #[v1, v6] w7 fun v8 w9 =>
  RUN Try.prog (pan R) (Op.unary .not v8) w9 fun v10 w11 =>
  SPL v10
  (R (.returned (Go.Value.bool Bool.false)) w11)
  (l17 R C6 x5 v1 (Go.Value.int Go.IntKind.i64 0) w11)

def b15 (R : EP) (C6 : VP) (x3 x4 x5 : Value) (w : World) (_r : Tok R := tok R) (_C6 : Tok C6 := tok C6) : Prop :=
  CALL Try.prog (pan R) tree_Arena_Nodes.id #[x3] w fun v1 w2 =>
  b15_1 R C6 x4 x5 v1 w2
abbrev q13 (R : EP) (C6 : VP) : XP := QX (fun ρ w => l17 R C6 (ρ 5) (ρ 18) (ρ 19) w) (fun ρ w => R (.returned (ρ 2)) w) [(2, (fun ρ w => b9 R C6 (ρ 5) w)), (0, (fun ρ w => b3 R (ρ 3) (ρ 4) w))]
theorem b15_eq (R : EP) (C6 : VP) (ρ : Env) (w : World) : (b15 R C6 (ρ 3) (ρ 4) (ρ 5) w) = codeP Try.prog (pan R) (preC 2 (thnC p7)) (q13 R C6) ρ w := by kernel_rfl
theorem b15_ok (R : EP) (C6 : VP) (ρ : Env) (w : World) (h : b15 R C6 (ρ 3) (ρ 4) (ρ 5) w) : codeP Try.prog (pan R) (thnC p7) (q12 R C6) ρ w := by
  have e : appC 2 (preC 2 (thnC p7)) (dropC 3 (thnC p7)) = (thnC p7) := by kernel_rfl
  rw [← e]
  exact appQ (fun ρ w => l17 R C6 (ρ 5) (ρ 18) (ρ 19) w) 2 ((b15_eq R C6 ρ w).mp h) (fun ρ w h => k16_ok R C6 ρ w h)

def b28 (R : EP) (C6 : VP) (x5 : Value) (w : World) (_r : Tok R := tok R) (_C6 : Tok C6 := tok C6) : Prop :=
  b9 R C6 x5 w
theorem b28_eq (R : EP) (C6 : VP) (ρ : Env) (w : World) : (b28 R C6 (ρ 5) w) = codeP Try.prog (pan R) (elsC p7) (q12 R C6) ρ w := by kernel_rfl
theorem b28_ok (R : EP) (C6 : VP) (ρ : Env) (w : World) (h : b28 R C6 (ρ 5) w) : codeP Try.prog (pan R) (elsC p7) (q12 R C6) ρ w := (b28_eq R C6 ρ w).mp h

def b14 (R : EP) (C6 : VP) (x3 x4 x5 x134 : Value) (w : World) (_r : Tok R := tok R) (_C6 : Tok C6 := tok C6) : Prop :=
  SPL x134 (b15 R C6 x3 x4 x5 w) (b28 R C6 x5 w)
theorem b14_ok (R : EP) (C6 : VP) (ρ : Env) (w : World) (h : b14 R C6 (ρ 3) (ρ 4) (ρ 5) (ρ 134) w) : codeP Try.prog (pan R) p7 (q12 R C6) ρ w := by
  have e : Code.cond (.tmp 134) (thnC p7) (elsC p7) = p7 := by kernel_rfl
  rw [← e]
  exact condQ' h (fun h => b15_ok R C6 ρ w h) (fun h => b28_ok R C6 ρ w h)
def b13_1 (R : EP) (C6 : VP) (x0 x3 x4 x5 : Value) (w11 : World) (_r : Tok R := tok R) (_C6 : Tok C6 := tok C6) : Prop :=
  RUN Try.prog (pan R) (Builtin.len_ #[64] 3 #[x0]) w11 fun v12 w13 =>
  RUN Try.prog (pan R) (bins .sub 3 (.tmp 131) (.const (Go.Value.int Go.IntKind.i64 1)) v12 (Go.Value.int Go.IntKind.i64 1)) w13 fun v14 w15 =>
  RUN Try.prog (pan R) (bins .eql 3 (.tmp 129) (.tmp 132) x5 v14) w15 fun v16 w17 =>
  b14 R C6 x3 x4 x5 v16 w17
def b13_2 (R : EP) (C6 : VP) (x0 x3 x4 x5 : Value) (w6 : World) (_r : Tok R := tok R) (_C6 : Tok C6 := tok C6) : Prop :=
  RUN Try.prog (pan R) (bins .rem 3 (.tmp 125) (.const (Go.Value.int Go.IntKind.i64 16)) x5 (Go.Value.int Go.IntKind.i64 16)) w6 fun v8 w9 =>
  RUN Try.prog (pan R) (bins .eql 3 (.tmp 126) (.const (Go.Value.int Go.IntKind.i64 15)) v8 (Go.Value.int Go.IntKind.i64 15)) w9 fun v10 w11 =>
  SPL v10
  (b14 R C6 x3 x4 x5 (Go.Value.bool Bool.true) w11)
  (b13_1 R C6 x0 x3 x4 x5 w11)

def b13 (R : EP) (C6 : VP) (x0 x3 x4 x5 : Value) (w : World) (_r : Tok R := tok R) (_C6 : Tok C6 := tok C6) : Prop :=
  NILC x4 fun v1 =>
  PUR Try.prog (Instr.fieldAt 70 v1 0) fun v2 =>
  LD Try.prog (Instr.loadAt 49 v2) (World.drew w) fun v3 =>
  LD Try.prog (Builtin.len_ #[49] 3 #[v3]) (World.drew w) fun v4 =>
  CALL Try.prog (pan R) tree_Arena_Len.id #[x3] (World.drew w) fun v5 w6 =>
  Sem.run Try.prog (Builtin.len_ #[49] 3 #[v3]) w6 = .ok v4 w6 ∧ (Sem.run Try.prog (Instr.loadAt 49 v2) w6 = .ok v3 w6 ∧ (PUR Try.prog (bins .neq 3 (.tmp 118) (.tmp 123) v5 v4) fun v7 =>
  SPL v7
  (R (.returned (Go.Value.bool Bool.false)) w6)
  (b13_2 R C6 x0 x3 x4 x5 w6)))
abbrev q14 (R : EP) (C6 : VP) : XP := QX (fun ρ w => b14 R C6 (ρ 3) (ρ 4) (ρ 5) (ρ 134) w) (fun ρ w => R (.returned (ρ 2)) w) [(2, (fun ρ w => b9 R C6 (ρ 5) w)), (0, (fun ρ w => b3 R (ρ 3) (ρ 4) w))]
theorem b13_eq (R : EP) (C6 : VP) (ρ : Env) (w : World) : (b13 R C6 (ρ 0) (ρ 3) (ρ 4) (ρ 5) w) = codeP Try.prog (pan R) (preC 1 (sndC p6)) (q14 R C6) ρ w := by kernel_rfl
theorem b13_ok (R : EP) (C6 : VP) (ρ : Env) (w : World) (h : b13 R C6 (ρ 0) (ρ 3) (ρ 4) (ρ 5) w) : codeP Try.prog (pan R) (sndC p6) (q12 R C6) ρ w := by
  have e : appC 1 (preC 1 (sndC p6)) (dropC 2 (sndC p6)) = (sndC p6) := by kernel_rfl
  rw [← e]
  exact appQ (fun ρ w => b14 R C6 (ρ 3) (ρ 4) (ρ 5) (ρ 134) w) 1 ((b13_eq R C6 ρ w).mp h) (fun ρ w h => b14_ok R C6 ρ w h)
noncomputable abbrev p14 : Code := dropC 1 (fstC p6)
noncomputable abbrev p15 : Code := dropC 3 (thnC p14)

def b32 (R : EP) (C6 : VP) (x0 x3 x4 x5 x65 : Value) (w : World) (_r : Tok R := tok R) (_C6 : Tok C6 := tok C6) : Prop :=
  SPL x65
  (R (.returned (Go.Value.bool Bool.false)) w)
  (b13 R C6 x0 x3 x4 x5 w)
abbrev q15 (R : EP) (C6 : VP) : XP := QX (fun ρ w => b13 R C6 (ρ 0) (ρ 3) (ρ 4) (ρ 5) w) (fun ρ w => R (.returned (ρ 2)) w) [(2, (fun ρ w => b9 R C6 (ρ 5) w)), (0, (fun ρ w => b3 R (ρ 3) (ρ 4) w))]
theorem b32_eq (R : EP) (C6 : VP) (ρ : Env) (w : World) : (b32 R C6 (ρ 0) (ρ 3) (ρ 4) (ρ 5) (ρ 65) w) = codeP Try.prog (pan R) p15 (q15 R C6) ρ w := by kernel_rfl
theorem b32_ok (R : EP) (C6 : VP) (ρ : Env) (w : World) (h : b32 R C6 (ρ 0) (ρ 3) (ρ 4) (ρ 5) (ρ 65) w) : codeP Try.prog (pan R) p15 (q15 R C6) ρ w := (b32_eq R C6 ρ w).mp h
def b31_1 (R : EP) (C6 : VP) (x0 x3 x4 x5 v11 v13 v23 : Value) (w24 : World) (_r : Tok R := tok R) (_C6 : Tok C6 := tok C6) : Prop :=
  RUN Try.prog (pan R) (Instr.extract v23 0) w24 fun v25 w26 =>
  RUN Try.prog (pan R) (Instr.extract v23 1) w26 fun v27 w28 =>
  RUN Try.prog (pan R) (bins .neq 3 (.tmp 58) (.tmp 59) v11 v25) w28 fun v29 w30 =>
  SPL v29
  (b32 R C6 x0 x3 x4 x5 (Go.Value.bool Bool.true) w30)
  (RUN Try.prog (pan R) (bins .neq 29 (.tmp 62) (.tmp 63) v13 v27) w30 fun v31 w32 =>
  b32 R C6 x0 x3 x4 x5 v31 w32)
def b31_2 (R : EP) (C6 : VP) (x0 x3 x4 x5 x6 v9 : Value) (w10 : World) (_r : Tok R := tok R) (_C6 : Tok C6 := tok C6) : Prop :=
  RUN Try.prog (pan R) (Instr.extract v9 0) w10 fun v11 w12 =>
  RUN Try.prog (pan R) (Instr.extract v9 1) w12 fun v13 w14 =>
  RUN Try.prog (pan R) (Instr.fieldAt 72 x6 1) w14 fun v15 w16 =>
  RUN Try.prog (pan R) (Instr.loadAt 3 v15) w16 fun v17 w18 =>
  RUN Try.prog (pan R) (Instr.fieldAt 72 x6 2) w18 fun v19 w20 =>
  RUN Try.prog (pan R) (Instr.loadAt 3 v19) w20 fun v21 w22 =>
  CALL Try.prog (pan R) ref20_Arena_Leaf.id #[x4, v17, v21] w22 fun v23 w24 =>
  b31_1 R C6 x0 x3 x4 x5 v11 v13 v23 w24

def b31 (R : EP) (C6 : VP) (x0 x3 x4 x5 x6 : Value) (w : World) (_r : Tok R := tok R) (_C6 : Tok C6 := tok C6) : Prop :=
  RUN Try.prog (pan R) (Instr.fieldAt 72 x6 1) w fun v1 w2 =>
  RUN Try.prog (pan R) (Instr.loadAt 3 v1) w2 fun v3 w4 =>
  RUN Try.prog (pan R) (Instr.fieldAt 72 x6 2) w4 fun v5 w6 =>
  RUN Try.prog (pan R) (Instr.loadAt 3 v5) w6 fun v7 w8 =>
  CALL Try.prog (pan R) tree_Arena_Leaf.id #[x3, v3, v7] w8 fun v9 w10 =>
  b31_2 R C6 x0 x3 x4 x5 x6 v9 w10
abbrev q16 (R : EP) (C6 : VP) : XP := QX (fun ρ w => b32 R C6 (ρ 0) (ρ 3) (ρ 4) (ρ 5) (ρ 65) w) (fun ρ w => R (.returned (ρ 2)) w) [(2, (fun ρ w => b9 R C6 (ρ 5) w)), (0, (fun ρ w => b3 R (ρ 3) (ρ 4) w))]
theorem b31_eq (R : EP) (C6 : VP) (ρ : Env) (w : World) : (b31 R C6 (ρ 0) (ρ 3) (ρ 4) (ρ 5) (ρ 6) w) = codeP Try.prog (pan R) (preC 2 (thnC p14)) (q16 R C6) ρ w := by kernel_rfl
theorem b31_ok (R : EP) (C6 : VP) (ρ : Env) (w : World) (h : b31 R C6 (ρ 0) (ρ 3) (ρ 4) (ρ 5) (ρ 6) w) : codeP Try.prog (pan R) (thnC p14) (q15 R C6) ρ w := by
  have e : appC 2 (preC 2 (thnC p14)) (dropC 3 (thnC p14)) = (thnC p14) := by kernel_rfl
  rw [← e]
  exact appQ (fun ρ w => b32 R C6 (ρ 0) (ρ 3) (ρ 4) (ρ 5) (ρ 65) w) 2 ((b31_eq R C6 ρ w).mp h) (fun ρ w h => b32_ok R C6 ρ w h)
noncomputable abbrev p16 : Code := dropC 3 (elsC p14)
noncomputable abbrev p17 : Code := dropC 1 (sndC p16)
noncomputable abbrev p18 : Code := loopC (blkC p17)
def b38_1 (R : EP) (C37 : VP) (x11 x17 : Value) (w4 : World) (_r : Tok R := tok R) (_C37 : Tok C37 := tok C37) : Prop :=
  RUN Try.prog (pan R) (Instr.indexAt 24 x11 x17) w4 fun v5 w6 =>
  RUNU Try.prog (pan R) (Instr.storeAt 3 v5 (Go.Value.int Go.IntKind.i64 (-4))) w6 fun w7 =>
  RUN Try.prog (pan R) (bins .add 3 (.tmp 112) (.const (Go.Value.int Go.IntKind.i64 1)) x17 (Go.Value.int Go.IntKind.i64 1)) w7 fun v8 w9 =>
  C37 v8 w9

def b38 (R : EP) (C6 : VP) (C37 : VP) (x0 x3 x4 x5 x11 x17 : Value) (w : World) (_r : Tok R := tok R) (_C6 : Tok C6 := tok C6) (_C37 : Tok C37 := tok C37) : Prop :=
  RUN Try.prog (pan R) (Builtin.len_ #[24] 3 #[x11]) w fun v1 w2 =>
  RUN Try.prog (pan R) (bins .lss 3 (.tmp 108) (.tmp 110) x17 v1) w2 fun v3 w4 =>
  SPL v3
  (b38_1 R C37 x11 x17 w4)
  (b13 R C6 x0 x3 x4 x5 w4)
abbrev q17 (R : EP) (C6 : VP) (C37 : VP) : XP := QX (fun ρ w => C37 (ρ 17) w) (fun ρ w => R (.returned (ρ 2)) w) [(4, (fun ρ w => b13 R C6 (ρ 0) (ρ 3) (ρ 4) (ρ 5) w)), (2, (fun ρ w => b9 R C6 (ρ 5) w)), (0, (fun ρ w => b3 R (ρ 3) (ρ 4) w))]
theorem b38_eq (R : EP) (C6 : VP) (C37 : VP) (ρ : Env) (w : World) : (b38 R C6 C37 (ρ 0) (ρ 3) (ρ 4) (ρ 5) (ρ 11) (ρ 17) w) = codeP Try.prog (pan R) p18 (q17 R C6 C37) ρ w := by kernel_rfl
theorem b38_ok (R : EP) (C6 : VP) (C37 : VP) (ρ : Env) (w : World) (h : b38 R C6 C37 (ρ 0) (ρ 3) (ρ 4) (ρ 5) (ρ 11) (ρ 17) w) : codeP Try.prog (pan R) p18 (q17 R C6 C37) ρ w := (b38_eq R C6 C37 ρ w).mp h

def l37 (R : EP) (C6 : VP) (x0 x3 x4 x5 x11 x17 : Value) (w : World) (_r : Tok R := tok R) (_C6 : Tok C6 := tok C6) : Prop :=
  ∃ (J : VP) (μ : Value → World → Nat), J x17 w ∧ ∀ y17 w0, J y17 w0 → b38 R C6 (fun z17 w1 => J z17 w1 ∧ μ z17 w1 < μ y17 w0) x0 x3 x4 x5 x11 y17 w0
abbrev q18 (R : EP) (C6 : VP) : XP := QX (fun ρ w => b13 R C6 (ρ 0) (ρ 3) (ρ 4) (ρ 5) w) (fun ρ w => R (.returned (ρ 2)) w) [(4, (fun ρ w => b13 R C6 (ρ 0) (ρ 3) (ρ 4) (ρ 5) w)), (2, (fun ρ w => b9 R C6 (ρ 5) w)), (0, (fun ρ w => b3 R (ρ 3) (ρ 4) w))]
theorem l37_ok (R : EP) (C6 : VP) (ρ : Env) (w : World) (h : l37 R C6 (ρ 0) (ρ 3) (ρ 4) (ρ 5) (ρ 11) (ρ 17) w) : codeP Try.prog (pan R) (blkC p17) (q18 R C6) ρ w := by
  unfold l37 at h
  obtain ⟨J, μ, h0, hr⟩ := h
  have e : Code.loop (loopC (blkC p17)) = (blkC p17) := by kernel_rfl
  rw [← e]
  refine loopQ (fun ρ' w' => J (ρ' 17) w') (fun ρ' w' => μ (ρ' 17) w') h0 fun ρ' w' hA hI => ?_
  have e0 : ρ' 0 = ρ 0 := Agree.at hA 0 (by kernel_rfl)
  have e3 : ρ' 3 = ρ 3 := Agree.at hA 3 (by kernel_rfl)
  have e4 : ρ' 4 = ρ 4 := Agree.at hA 4 (by kernel_rfl)
  have e5 : ρ' 5 = ρ 5 := Agree.at hA 5 (by kernel_rfl)
  have e11 : ρ' 11 = ρ 11 := Agree.at hA 11 (by kernel_rfl)
  have h1 := hr (ρ' 17) w' hI
  rw [← e0, ← e3, ← e4, ← e5, ← e11] at h1
  exact b38_ok R C6 (fun z17 w1 => J z17 w1 ∧ μ z17 w1 < μ (ρ' 17) w') ρ' w' h1
theorem l37_intro (R : EP) (C6 : VP) (x0 x3 x4 x5 x11 x17 : Value) (w : World) (J : VP) (μ : Value → World → Nat) (h0 : J x17 w)
    (hr : ∀ y17 w0, J y17 w0 → ∀ C37 : VP, (∀ z17 w1, J z17 w1 → μ z17 w1 < μ y17 w0 → C37 z17 w1) → b38 R C6 C37 x0 x3 x4 x5 x11 y17 w0) : l37 R C6 x0 x3 x4 x5 x11 x17 w := by
  unfold l37
  exact ⟨J, μ, h0, fun y17 w0 hJ => hr y17 w0 hJ _ (fun z17 w1 h1 h2 => ⟨h1, h2⟩)⟩
theorem k36_ok (R : EP) (C6 : VP) (ρ : Env) (w : World) (h : l37 R C6 (ρ 0) (ρ 3) (ρ 4) (ρ 5) (ρ 11) (ρ 17) w) : codeP Try.prog (pan R) p17 (q15 R C6) ρ w := by
  have e : Code.block 2 (blkC p17) = p17 := by kernel_rfl
  rw [← e]
  exact blockQ (l37_ok R C6 ρ w h)

def b35 (R : EP) (C6 : VP) (x0 x3 x4 x5 x11 : Value) (w : World) (_r : Tok R := tok R) (_C6 : Tok C6 := tok C6) : Prop :=
  l37 R C6 x0 x3 x4 x5 x11 (Go.Value.int Go.IntKind.i64 0) w
abbrev q19 (R : EP) (C6 : VP) : XP := QX (fun ρ w => l37 R C6 (ρ 0) (ρ 3) (ρ 4) (ρ 5) (ρ 11) (ρ 17) w) (fun ρ w => R (.returned (ρ 2)) w) [(2, (fun ρ w => b9 R C6 (ρ 5) w)), (0, (fun ρ w => b3 R (ρ 3) (ρ 4) w))]
theorem b35_eq (R : EP) (C6 : VP) (ρ : Env) (w : World) : (b35 R C6 (ρ 0) (ρ 3) (ρ 4) (ρ 5) (ρ 11) w) = codeP Try.prog (pan R) (preC 0 (sndC p16)) (q19 R C6) ρ w := by kernel_rfl
theorem b35_ok (R : EP) (C6 : VP) (ρ : Env) (w : World) (h : b35 R C6 (ρ 0) (ρ 3) (ρ 4) (ρ 5) (ρ 11) w) : codeP Try.prog (pan R) (sndC p16) (q15 R C6) ρ w := by
  have e : appC 0 (preC 0 (sndC p16)) (dropC 1 (sndC p16)) = (sndC p16) := by kernel_rfl
  rw [← e]
  exact appQ (fun ρ w => l37 R C6 (ρ 0) (ρ 3) (ρ 4) (ρ 5) (ρ 11) (ρ 17) w) 0 ((b35_eq R C6 ρ w).mp h) (fun ρ w h => k36_ok R C6 ρ w h)
noncomputable abbrev p19 : Code := dropC 1 (fstC p16)

def b40 (R : EP) (C6 : VP) (x0 x3 x4 x5 x11 x107 : Value) (w : World) (_r : Tok R := tok R) (_C6 : Tok C6 := tok C6) : Prop :=
  SPL x107
  (R (.returned (Go.Value.bool Bool.false)) w)
  (b35 R C6 x0 x3 x4 x5 x11 w)
abbrev q20 (R : EP) (C6 : VP) : XP := QX (fun ρ w => b35 R C6 (ρ 0) (ρ 3) (ρ 4) (ρ 5) (ρ 11) w) (fun ρ w => R (.returned (ρ 2)) w) [(2, (fun ρ w => b9 R C6 (ρ 5) w)), (0, (fun ρ w => b3 R (ρ 3) (ρ 4) w))]
theorem b40_eq (R : EP) (C6 : VP) (ρ : Env) (w : World) : (b40 R C6 (ρ 0) (ρ 3) (ρ 4) (ρ 5) (ρ 11) (ρ 107) w) = codeP Try.prog (pan R) p19 (q20 R C6) ρ w := by kernel_rfl
theorem b40_ok (R : EP) (C6 : VP) (ρ : Env) (w : World) (h : b40 R C6 (ρ 0) (ρ 3) (ρ 4) (ρ 5) (ρ 11) (ρ 107) w) : codeP Try.prog (pan R) p19 (q20 R C6) ρ w := (b40_eq R C6 ρ w).mp h
def b39_1 (R : EP) (C6 : VP) (x0 x3 x4 x5 x6 x11 x12 : Value) (w4 : World) (_r : Tok R := tok R) (_C6 : Tok C6 := tok C6) : Prop :=
  RUN Try.prog (pan R) (Instr.fieldAt 72 x6 3) w4 fun v5 w6 =>
  RUN Try.prog (pan R) (Instr.loadAt 24 v5) w6 fun v7 w8 =>
  CALL Try.prog (pan R) ref01_Whole.id #[x12, v7] w8 fun v9 w10 =>
  RUN Try.prog (pan R) (Op.unary .not v9) w10 fun v11 w12 =>
  b40 R C6 x0 x3 x4 x5 x11 v11 w12

def b39 (R : EP) (C6 : VP) (x0 x3 x4 x5 x6 x11 x12 x13 x14 x15 x16 : Value) (w : World) (_r : Tok R := tok R) (_C6 : Tok C6 := tok C6) : Prop :=
  RUN Try.prog (pan R) (bins .neq 3 (.tmp 93) (.tmp 94) x13 x15) w fun v1 w2 =>
  SPL v1
  (b40 R C6 x0 x3 x4 x5 x11 (Go.Value.bool Bool.true) w2)
  (RUN Try.prog (pan R) (bins .neq 29 (.tmp 97) (.tmp 98) x14 x16) w2 fun v3 w4 =>
  SPL v3
  (b40 R C6 x0 x3 x4 x5 x11 (Go.Value.bool Bool.true) w4)
  (b39_1 R C6 x0 x3 x4 x5 x6 x11 x12 w4))
abbrev q21 (R : EP) (C6 : VP) : XP := QX (fun ρ w => b40 R C6 (ρ 0) (ρ 3) (ρ 4) (ρ 5) (ρ 11) (ρ 107) w) (fun ρ w => R (.returned (ρ 2)) w) [(2, (fun ρ w => b9 R C6 (ρ 5) w)), (0, (fun ρ w => b3 R (ρ 3) (ρ 4) w))]
theorem b39_eq (R : EP) (C6 : VP) (ρ : Env) (w : World) : (b39 R C6 (ρ 0) (ρ 3) (ρ 4) (ρ 5) (ρ 6) (ρ 11) (ρ 12) (ρ 13) (ρ 14) (ρ 15) (ρ 16) w) = codeP Try.prog (pan R) (preC 0 (fstC p16)) (q21 R C6) ρ w := by kernel_rfl
theorem b39_ok (R : EP) (C6 : VP) (ρ : Env) (w : World) (h : b39 R C6 (ρ 0) (ρ 3) (ρ 4) (ρ 5) (ρ 6) (ρ 11) (ρ 12) (ρ 13) (ρ 14) (ρ 15) (ρ 16) w) : codeP Try.prog (pan R) (fstC p16) (q20 R C6) ρ w := by
  have e : appC 0 (preC 0 (fstC p16)) (dropC 1 (fstC p16)) = (fstC p16) := by kernel_rfl
  rw [← e]
  exact appQ (fun ρ w => b40 R C6 (ρ 0) (ρ 3) (ρ 4) (ρ 5) (ρ 11) (ρ 107) w) 0 ((b39_eq R C6 ρ w).mp h) (fun ρ w h => b40_ok R C6 ρ w h)
theorem k34_ok (R : EP) (C6 : VP) (ρ : Env) (w : World) (h : b39 R C6 (ρ 0) (ρ 3) (ρ 4) (ρ 5) (ρ 6) (ρ 11) (ρ 12) (ρ 13) (ρ 14) (ρ 15) (ρ 16) w) : codeP Try.prog (pan R) p16 (q15 R C6) ρ w := by
  have e : Code.seq (fstC p16) (sndC p16) = p16 := by kernel_rfl
  rw [← e]
  exact seqQ (fun ρ w => b35 R C6 (ρ 0) (ρ 3) (ρ 4) (ρ 5) (ρ 11) w) (b39_ok R C6 ρ w h) (fun ρ w h => b35_ok R C6 ρ w h)
def b33_1 (R : EP) (C6 : VP) (x0 x3 x4 x5 x6 v7 v9 v21 v23 v37 : Value) (w38 : World) (_r : Tok R := tok R) (_C6 : Tok C6 := tok C6) : Prop :=
  RUN Try.prog (pan R) (Instr.extract v37 0) w38 fun v39 w40 =>
  RUN Try.prog (pan R) (Instr.extract v37 1) w40 fun v41 w42 =>
  b39 R C6 x0 x3 x4 x5 x6 v7 v9 v21 v23 v39 v41 w42
def b33_2 (R : EP) (C6 : VP) (x0 x3 x4 x5 x6 v7 v9 v19 : Value) (w20 : World) (_r : Tok R := tok R) (_C6 : Tok C6 := tok C6) : Prop :=
  RUN Try.prog (pan R) (Instr.extract v19 0) w20 fun v21 w22 =>
  RUN Try.prog (pan R) (Instr.extract v19 1) w22 fun v23 w24 =>
  RUN Try.prog (pan R) (Instr.fieldAt 72 x6 1) w24 fun v25 w26 =>
  RUN Try.prog (pan R) (Instr.loadAt 3 v25) w26 fun v27 w28 =>
  RUN Try.prog (pan R) (Instr.fieldAt 72 x6 2) w28 fun v29 w30 =>
  RUN Try.prog (pan R) (Instr.loadAt 3 v29) w30 fun v31 w32 =>
  RUN Try.prog (pan R) (Instr.fieldAt 72 x6 3) w32 fun v33 w34 =>
  RUN Try.prog (pan R) (Instr.loadAt 24 v33) w34 fun v35 w36 =>
  CALL Try.prog (pan R) ref20_Arena_Join.id #[x4, v27, v31, v35] w36 fun v37 w38 =>
  b33_1 R C6 x0 x3 x4 x5 x6 v7 v9 v21 v23 v37 w38
def b33_3 (R : EP) (C6 : VP) (x0 x3 x4 x5 x6 v5 : Value) (w6 : World) (_r : Tok R := tok R) (_C6 : Tok C6 := tok C6) : Prop :=
  RUN Try.prog (pan R) (Instr.extract v5 0) w6 fun v7 w8 =>
  RUN Try.prog (pan R) (Instr.extract v5 1) w8 fun v9 w10 =>
  RUN Try.prog (pan R) (Instr.fieldAt 72 x6 1) w10 fun v11 w12 =>
  RUN Try.prog (pan R) (Instr.loadAt 3 v11) w12 fun v13 w14 =>
  RUN Try.prog (pan R) (Instr.fieldAt 72 x6 2) w14 fun v15 w16 =>
  RUN Try.prog (pan R) (Instr.loadAt 3 v15) w16 fun v17 w18 =>
  CALL Try.prog (pan R) tree_Arena_Join.id #[x3, v13, v17, v7] w18 fun v19 w20 =>
  b33_2 R C6 x0 x3 x4 x5 x6 v7 v9 v19 w20

def b33 (R : EP) (C6 : VP) (x0 x3 x4 x5 x6 : Value) (w : World) (_r : Tok R := tok R) (_C6 : Tok C6 := tok C6) : Prop :=
  RUN Try.prog (pan R) (Instr.fieldAt 72 x6 3) w fun v1 w2 =>
  RUN Try.prog (pan R) (Instr.loadAt 24 v1) w2 fun v3 w4 =>
  CALL Try.prog (pan R) ref01_Lent.id #[v3] w4 fun v5 w6 =>
  b33_3 R C6 x0 x3 x4 x5 x6 v5 w6
abbrev q22 (R : EP) (C6 : VP) : XP := QX (fun ρ w => b39 R C6 (ρ 0) (ρ 3) (ρ 4) (ρ 5) (ρ 6) (ρ 11) (ρ 12) (ρ 13) (ρ 14) (ρ 15) (ρ 16) w) (fun ρ w => R (.returned (ρ 2)) w) [(2, (fun ρ w => b9 R C6 (ρ 5) w)), (0, (fun ρ w => b3 R (ρ 3) (ρ 4) w))]
theorem b33_eq (R : EP) (C6 : VP) (ρ : Env) (w : World) : (b33 R C6 (ρ 0) (ρ 3) (ρ 4) (ρ 5) (ρ 6) w) = codeP Try.prog (pan R) (preC 2 (elsC p14)) (q22 R C6) ρ w := by kernel_rfl
theorem b33_ok (R : EP) (C6 : VP) (ρ : Env) (w : World) (h : b33 R C6 (ρ 0) (ρ 3) (ρ 4) (ρ 5) (ρ 6) w) : codeP Try.prog (pan R) (elsC p14) (q15 R C6) ρ w := by
  have e : appC 2 (preC 2 (elsC p14)) (dropC 3 (elsC p14)) = (elsC p14) := by kernel_rfl
  rw [← e]
  exact appQ (fun ρ w => b39 R C6 (ρ 0) (ρ 3) (ρ 4) (ρ 5) (ρ 6) (ρ 11) (ρ 12) (ρ 13) (ρ 14) (ρ 15) (ρ 16) w) 2 ((b33_eq R C6 ρ w).mp h) (fun ρ w h => k34_ok R C6 ρ w h)

def b30 (R : EP) (C6 : VP) (x0 x3 x4 x5 x6 x39 : Value) (w : World) (_r : Tok R := tok R) (_C6 : Tok C6 := tok C6) : Prop :=
  SPL x39 (b31 R C6 x0 x3 x4 x5 x6 w) (b33 R C6 x0 x3 x4 x5 x6 w)
theorem b30_ok (R : EP) (C6 : VP) (ρ : Env) (w : World) (h : b30 R C6 (ρ 0) (ρ 3) (ρ 4) (ρ 5) (ρ 6) (ρ 39) w) : codeP Try.prog (pan R) p14 (q15 R C6) ρ w := by
  have e : Code.cond (.tmp 39) (thnC p14) (elsC p14) = p14 := by kernel_rfl
  rw [← e]
  exact condQ' h (fun h => b31_ok R C6 ρ w h) (fun h => b33_ok R C6 ρ w h)

def b29 (R : EP) (C6 : VP) (x0 x3 x4 x5 x6 : Value) (w : World) (_r : Tok R := tok R) (_C6 : Tok C6 := tok C6) : Prop :=
  RUN Try.prog (pan R) (Instr.fieldAt 72 x6 0) w fun v1 w2 =>
  RUN Try.prog (pan R) (Instr.loadAt 3 v1) w2 fun v3 w4 =>
  RUN Try.prog (pan R) (bins .rem 3 (.tmp 37) (.const (Go.Value.int Go.IntKind.i64 2)) v3 (Go.Value.int Go.IntKind.i64 2)) w4 fun v5 w6 =>
  RUN Try.prog (pan R) (bins .eql 3 (.tmp 38) (.const (Go.Value.int Go.IntKind.i64 0)) v5 (Go.Value.int Go.IntKind.i64 0)) w6 fun v7 w8 =>
  b30 R C6 x0 x3 x4 x5 x6 v7 w8
abbrev q23 (R : EP) (C6 : VP) : XP := QX (fun ρ w => b30 R C6 (ρ 0) (ρ 3) (ρ 4) (ρ 5) (ρ 6) (ρ 39) w) (fun ρ w => R (.returned (ρ 2)) w) [(2, (fun ρ w => b9 R C6 (ρ 5) w)), (0, (fun ρ w => b3 R (ρ 3) (ρ 4) w))]
theorem b29_eq (R : EP) (C6 : VP) (ρ : Env) (w : World) : (b29 R C6 (ρ 0) (ρ 3) (ρ 4) (ρ 5) (ρ 6) w) = codeP Try.prog (pan R) (preC 0 (fstC p6)) (q23 R C6) ρ w := by kernel_rfl
theorem b29_ok (R : EP) (C6 : VP) (ρ : Env) (w : World) (h : b29 R C6 (ρ 0) (ρ 3) (ρ 4) (ρ 5) (ρ 6) w) : codeP Try.prog (pan R) (fstC p6) (q15 R C6) ρ w := by
  have e : appC 0 (preC 0 (fstC p6)) (dropC 1 (fstC p6)) = (fstC p6) := by kernel_rfl
  rw [← e]
  exact appQ (fun ρ w => b30 R C6 (ρ 0) (ρ 3) (ρ 4) (ρ 5) (ρ 6) (ρ 39) w) 0 ((b29_eq R C6 ρ w).mp h) (fun ρ w h => b30_ok R C6 ρ w h)
theorem k12_ok (R : EP) (C6 : VP) (ρ : Env) (w : World) (h : b29 R C6 (ρ 0) (ρ 3) (ρ 4) (ρ 5) (ρ 6) w) : codeP Try.prog (pan R) p6 (q12 R C6) ρ w := by
  have e : Code.seq (fstC p6) (sndC p6) = p6 := by kernel_rfl
  rw [← e]
  exact seqQ (fun ρ w => b13 R C6 (ρ 0) (ρ 3) (ρ 4) (ρ 5) w) (b29_ok R C6 ρ w h) (fun ρ w h => b13_ok R C6 ρ w h)

def b11 (R : EP) (C6 : VP) (x0 x3 x4 x5 : Value) (w : World) (_r : Tok R := tok R) (_C6 : Tok C6 := tok C6) : Prop :=
  RUN Try.prog (pan R) (Instr.indexAt 64 x0 x5) w fun v1 w2 =>
  RUN Try.prog (pan R) (Instr.loadAt 72 v1) w2 fun v3 w4 =>
  RUN Try.prog (pan R) (Instr.alloc 72 true (.tuple #[])) w4 fun v5 w6 =>
  RUNU Try.prog (pan R) (Instr.storeAt 72 v5 v3) w6 fun w7 =>
  b29 R C6 x0 x3 x4 x5 v5 w7
abbrev q24 (R : EP) (C6 : VP) : XP := QX (fun ρ w => b29 R C6 (ρ 0) (ρ 3) (ρ 4) (ρ 5) (ρ 6) w) (fun ρ w => R (.returned (ρ 2)) w) [(2, (fun ρ w => b9 R C6 (ρ 5) w)), (0, (fun ρ w => b3 R (ρ 3) (ρ 4) w))]
theorem b11_eq (R : EP) (C6 : VP) (ρ : Env) (w : World) : (b11 R C6 (ρ 0) (ρ 3) (ρ 4) (ρ 5) w) = codeP Try.prog (pan R) (preC 0 p5) (q24 R C6) ρ w := by kernel_rfl
theorem b11_ok (R : EP) (C6 : VP) (ρ : Env) (w : World) (h : b11 R C6 (ρ 0) (ρ 3) (ρ 4) (ρ 5) w) : codeP Try.prog (pan R) p5 (q12 R C6) ρ w := by
  have e : appC 0 (preC 0 p5) (dropC 1 p5) = p5 := by kernel_rfl
  rw [← e]
  exact appQ (fun ρ w => b29 R C6 (ρ 0) (ρ 3) (ρ 4) (ρ 5) (ρ 6) w) 0 ((b11_eq R C6 ρ w).mp h) (fun ρ w h => k12_ok R C6 ρ w h)
abbrev q25 (R : EP) (C6 : VP) : XP := QX (fun ρ w => b9 R C6 (ρ 5) w) (fun ρ w => R (.returned (ρ 2)) w) [(0, (fun ρ w => b3 R (ρ 3) (ρ 4) w))]
theorem k10_ok (R : EP) (C6 : VP) (ρ : Env) (w : World) (h : b11 R C6 (ρ 0) (ρ 3) (ρ 4) (ρ 5) w) : codeP Try.prog (pan R) (fstC p4) (q25 R C6) ρ w := by
  have e : Code.block 1 (blkC (fstC p4)) = (fstC p4) := by kernel_rfl
  rw [← e]
  exact blockQ (b11_ok R C6 ρ w h)
theorem k8_ok (R : EP) (C6 : VP) (ρ : Env) (w : World) (h : b11 R C6 (ρ 0) (ρ 3) (ρ 4) (ρ 5) w) : codeP Try.prog (pan R) p4 (q2 R C6) ρ w := by
  have e : Code.seq (fstC p4) (sndC p4) = p4 := by kernel_rfl
  rw [← e]
  exact seqQ (fun ρ w => b9 R C6 (ρ 5) w) (k10_ok R C6 ρ w h) (fun ρ w h => b9_ok R C6 ρ w h)

def b7 (R : EP) (C6 : VP) (x0 x3 x4 x5 : Value) (w : World) (_r : Tok R := tok R) (_C6 : Tok C6 := tok C6) : Prop :=
  RUN Try.prog (pan R) (Builtin.len_ #[64] 3 #[x0]) w fun v1 w2 =>
  RUN Try.prog (pan R) (bins .lss 3 (.tmp 26) (.tmp 28) x5 v1) w2 fun v3 w4 =>
  SPL v3
  (b11 R C6 x0 x3 x4 x5 w4)
  (b3 R x3 x4 w4)
abbrev q26 (R : EP) (C6 : VP) : XP := QX (fun ρ w => b11 R C6 (ρ 0) (ρ 3) (ρ 4) (ρ 5) w) (fun ρ w => R (.returned (ρ 2)) w) [(0, (fun ρ w => b3 R (ρ 3) (ρ 4) w))]
theorem b7_eq (R : EP) (C6 : VP) (ρ : Env) (w : World) : (b7 R C6 (ρ 0) (ρ 3) (ρ 4) (ρ 5) w) = codeP Try.prog (pan R) (preC 0 p3) (q26 R C6) ρ w := by kernel_rfl
theorem b7_ok (R : EP) (C6 : VP) (ρ : Env) (w : World) (h : b7 R C6 (ρ 0) (ρ 3) (ρ 4) (ρ 5) w) : codeP Try.prog (pan R) p3 (q2 R C6) ρ w := by
  have e : appC 0 (preC 0 p3) (dropC 1 p3) = p3 := by kernel_rfl
  rw [← e]
  exact appQ (fun ρ w => b11 R C6 (ρ 0) (ρ 3) (ρ 4) (ρ 5) w) 0 ((b7_eq R C6 ρ w).mp h) (fun ρ w h => k8_ok R C6 ρ w h)

def l6 (R : EP) (x0 x3 x4 x5 : Value) (w : World) (_r : Tok R := tok R) : Prop :=
  ∃ (J : VP) (μ : Value → World → Nat), J x5 w ∧ ∀ y5 w0, J y5 w0 → b7 R (fun z5 w1 => J z5 w1 ∧ μ z5 w1 < μ y5 w0) x0 x3 x4 y5 w0
abbrev q27 (R : EP) : XP := QX (fun ρ w => b3 R (ρ 3) (ρ 4) w) (fun ρ w => R (.returned (ρ 2)) w) [(0, (fun ρ w => b3 R (ρ 3) (ρ 4) w))]
theorem l6_ok (R : EP) (ρ : Env) (w : World) (h : l6 R (ρ 0) (ρ 3) (ρ 4) (ρ 5) w) : codeP Try.prog (pan R) (blkC p2) (q27 R) ρ w := by
  unfold l6 at h
  obtain ⟨J, μ, h0, hr⟩ := h
  have e : Code.loop (loopC (blkC p2)) = (blkC p2) := by kernel_rfl
  rw [← e]
  refine loopQ (fun ρ' w' => J (ρ' 5) w') (fun ρ' w' => μ (ρ' 5) w') h0 fun ρ' w' hA hI => ?_
  have e0 : ρ' 0 = ρ 0 := Agree.at hA 0 (by kernel_rfl)
  have e3 : ρ' 3 = ρ 3 := Agree.at hA 3 (by kernel_rfl)
  have e4 : ρ' 4 = ρ 4 := Agree.at hA 4 (by kernel_rfl)
  have h1 := hr (ρ' 5) w' hI
  rw [← e0, ← e3, ← e4] at h1
  exact b7_ok R (fun z5 w1 => J z5 w1 ∧ μ z5 w1 < μ (ρ' 5) w') ρ' w' h1
theorem l6_intro (R : EP) (x0 x3 x4 x5 : Value) (w : World) (J : VP) (μ : Value → World → Nat) (h0 : J x5 w)
    (hr : ∀ y5 w0, J y5 w0 → ∀ C6 : VP, (∀ z5 w1, J z5 w1 → μ z5 w1 < μ y5 w0 → C6 z5 w1) → b7 R C6 x0 x3 x4 y5 w0) : l6 R x0 x3 x4 x5 w := by
  unfold l6
  exact ⟨J, μ, h0, fun y5 w0 hJ => hr y5 w0 hJ _ (fun z5 w1 h1 h2 => ⟨h1, h2⟩)⟩
abbrev q28 (R : EP) : XP := QX (fun ρ w => b3 R (ρ 3) (ρ 4) w) (fun ρ w => R (.returned (ρ 2)) w) []
theorem k5_ok (R : EP) (ρ : Env) (w : World) (h : l6 R (ρ 0) (ρ 3) (ρ 4) (ρ 5) w) : codeP Try.prog (pan R) p2 (q28 R) ρ w := by
  have e : Code.block 0 (blkC p2) = p2 := by kernel_rfl
  rw [← e]
  exact blockQ (l6_ok R ρ w h)

def b4 (R : EP) (x0 x3 x4 : Value) (w : World) (_r : Tok R := tok R) : Prop :=
  l6 R x0 x3 x4 (Go.Value.int Go.IntKind.i64 0) w
abbrev q29 (R : EP) : XP := QX (fun ρ w => l6 R (ρ 0) (ρ 3) (ρ 4) (ρ 5) w) (fun ρ w => R (.returned (ρ 2)) w) []
theorem b4_eq (R : EP) (ρ : Env) (w : World) : (b4 R (ρ 0) (ρ 3) (ρ 4) w) = codeP Try.prog (pan R) (preC 0 (fstC p1)) (q29 R) ρ w := by kernel_rfl
theorem b4_ok (R : EP) (ρ : Env) (w : World) (h : b4 R (ρ 0) (ρ 3) (ρ 4) w) : codeP Try.prog (pan R) (fstC p1) (q28 R) ρ w := by
  have e : appC 0 (preC 0 (fstC p1)) (dropC 1 (fstC p1)) = (fstC p1) := by kernel_rfl
  rw [← e]
  exact appQ (fun ρ w => l6 R (ρ 0) (ρ 3) (ρ 4) (ρ 5) w) 0 ((b4_eq R ρ w).mp h) (fun ρ w h => k5_ok R ρ w h)
theorem k2_ok (R : EP) (ρ : Env) (w : World) (h : b4 R (ρ 0) (ρ 3) (ρ 4) w) : codeP Try.prog (pan R) p1 (q1 R) ρ w := by
  have e : Code.seq (fstC p1) (sndC p1) = p1 := by kernel_rfl
  rw [← e]
  exact seqQ (fun ρ w => b3 R (ρ 3) (ρ 4) w) (b4_ok R ρ w h) (fun ρ w h => b3_ok R ρ w h)
def b1_1 (R : EP) (x0 v1 : Value) (w2 : World) (_r : Tok R := tok R) : Prop :=
  RUN Try.prog (pan R) (Instr.build 70 #[]) w2 fun v3 w4 =>
  RUN Try.prog (pan R) (Instr.box 70 v3) w4 fun v5 w6 =>
  RUN Try.prog (pan R) (bins .eql 65 (.tmp 24) (.const (Go.Value.pointer Option.none)) v1 (Go.Value.pointer Option.none)) w6 fun v7 w8 =>
  SPL v7
  (R (.returned (Go.Value.bool Bool.false)) w8)
  (b4 R x0 v1 v5 w8)

def b1 (R : EP) (x0 : Value) (w : World) (_r : Tok R := tok R) : Prop :=
  CALL Try.prog (pan R) tree_New.id #[] w fun v1 w2 =>
  b1_1 R x0 v1 w2
abbrev q30 (R : EP) : XP := QX (fun ρ w => b4 R (ρ 0) (ρ 3) (ρ 4) w) (fun ρ w => R (.returned (ρ 2)) w) []
theorem b1_eq (R : EP) (ρ : Env) (w : World) : (b1 R (ρ 0) w) = codeP Try.prog (pan R) (preC 3 code) (q30 R) ρ w := by kernel_rfl
theorem b1_ok (R : EP) (ρ : Env) (w : World) (h : b1 R (ρ 0) w) : codeP Try.prog (pan R) code (q1 R) ρ w := by
  have e : appC 3 (preC 3 code) (dropC 4 code) = code := by kernel_rfl
  rw [← e]
  exact appQ (fun ρ w => b4 R (ρ 0) (ρ 3) (ρ 4) w) 3 ((b1_eq R ρ w).mp h) (fun ρ w h => k2_ok R ρ w h)
/-- What is owed for a call. -/
def run (R : EP) (a0 : Value) (w : World) : Prop := b1 R a0 w
theorem calls (R : EP) (a0 : Value) (w : World) (h : run R a0 w) : Calls Try.prog id #[a0] w R :=
  calls_of_t (f := id) (fn := Try.f11) (c := code) (by kernel_rfl) Try.func11 (by kernel_rfl) (by kernel_rfl) (args := [a0]) (Nat.le_of_ble_eq_true rfl) rfl (b1_ok R (envOf [a0]) w h)
theorem enters : Enters Try.prog id := fun args w => Try.call11 args w
theorem ct {a0 : Value} {w : World} {S : VP} (h : ∀ R : EP, (∀ v w, S v w → R (.returned v) w) → run R a0 w) : Ct Try.prog id #[a0] w S :=
  Ct.intro enters fun R hR => calls R a0 w (h R hR)
attribute [irreducible] b3_1 b3 b9 b20 b23 b27_1 b27 l26 b24 b18 l17 b15_1 b15 b28 b14 b13_1 b13_2 b13 b32 b31_1 b31_2 b31 b38_1 b38 l37 b35 b40 b39_1 b39 b33_1 b33_2 b33_3 b33 b30 b29 b11 b7 l6 b4 b1_1 b1 run
attribute [go_sem] b3_1 b3 b9 b20 b23 b27_1 b27 b24 b18 b15_1 b15 b28 b14 b13_1 b13_2 b13 b32 b31_1 b31_2 b31 b38_1 b38 b35 b40 b39_1 b39 b33_1 b33_2 b33_3 b33 b30 b29 b11 b7 b4 b1_1 b1 run
end law20_TreeGrows


/-! ### presage/presagelaw20.TreeNobody -/
namespace law20_TreeNobody
noncomputable def code : Code := bodyOf Try.f13
def b1_1 (R : EP) (v53 : Value) (w54 : World) (_r : Tok R := tok R) : Prop :=
  RUN Try.prog (pan R) (bins .eql 3 (.tmp 74) (.const (Go.Value.int Go.IntKind.i64 1)) v53 (Go.Value.int Go.IntKind.i64 1)) w54 fun v55 w56 =>
  SPL v55
  (CALL Try.prog (pan R) law20_awake.id #[] w56 fun v57 w58 =>
  R (.returned v57) w58)
  (R (.returned (Go.Value.bool Bool.false)) w56)
def b1_2 (R : EP) (v19 v29 : Value) (w50 : World) (_r : Tok R := tok R) : Prop :=
  RUN Try.prog (pan R) (bins .eql 29 (.tmp 69) (.const (Go.Value.int Go.IntKind.i64 0)) v29 (Go.Value.int Go.IntKind.i64 0)) w50 fun v51 w52 =>
  SPL v51
  (CALL Try.prog (pan R) tree_Arena_Len.id #[v19] w52 fun v53 w54 =>
  b1_1 R v53 w54)
  (R (.returned (Go.Value.bool Bool.false)) w52)
def b1_3 (R : EP) (v19 v27 v29 v43 : Value) (w44 : World) (_r : Tok R := tok R) : Prop :=
  RUN Try.prog (pan R) (Builtin.len_ #[49] 3 #[v43]) w44 fun v45 w46 =>
  RUN Try.prog (pan R) (bins .eql 3 (.tmp 61) (.const (Go.Value.int Go.IntKind.i64 0)) v45 (Go.Value.int Go.IntKind.i64 0)) w46 fun v47 w48 =>
  SPL v47
  (RUN Try.prog (pan R) (bins .eql 3 (.tmp 65) (.const (Go.Value.int Go.IntKind.i64 0)) v27 (Go.Value.int Go.IntKind.i64 0)) w48 fun v49 w50 =>
  SPL v49
  (b1_2 R v19 v29 w50)
  (R (.returned (Go.Value.bool Bool.false)) w50))
  (R (.returned (Go.Value.bool Bool.false)) w48)
def b1_4 (R : EP) (v19 v27 v29 v39 : Value) (w40 : World) (_r : Tok R := tok R) : Prop :=
  RUN Try.prog (pan R) (bins .eql 3 (.tmp 55) (.const (Go.Value.int Go.IntKind.i64 0)) v39 (Go.Value.int Go.IntKind.i64 0)) w40 fun v41 w42 =>
  SPL v41
  (CALL Try.prog (pan R) tree_Arena_Nodes.id #[(Go.Value.pointer Option.none)] w42 fun v43 w44 =>
  b1_3 R v19 v27 v29 v43 w44)
  (R (.returned (Go.Value.bool Bool.false)) w42)
def b1_5 (R : EP) (v15 v19 v27 v29 : Value) (w36 : World) (_r : Tok R := tok R) : Prop :=
  RUN Try.prog (pan R) (bins .eql 29 (.tmp 50) (.const (Go.Value.int Go.IntKind.i64 1)) v15 (Go.Value.int Go.IntKind.i64 1)) w36 fun v37 w38 =>
  SPL v37
  (CALL Try.prog (pan R) tree_Arena_Len.id #[(Go.Value.pointer Option.none)] w38 fun v39 w40 =>
  b1_4 R v19 v27 v29 v39 w40)
  (R (.returned (Go.Value.bool Bool.false)) w38)
def b1_6 (R : EP) (v5 v13 v15 v19 v27 v29 : Value) (w32 : World) (_r : Tok R := tok R) : Prop :=
  RUN Try.prog (pan R) (bins .eql 3 (.tmp 42) (.const (Go.Value.int Go.IntKind.i64 0)) v13 (Go.Value.int Go.IntKind.i64 0)) w32 fun v33 w34 =>
  SPL v33
  (RUN Try.prog (pan R) (bins .eql 29 (.tmp 46) (.const (Go.Value.int Go.IntKind.i64 1)) v5 (Go.Value.int Go.IntKind.i64 1)) w34 fun v35 w36 =>
  SPL v35
  (b1_5 R v15 v19 v27 v29 w36)
  (R (.returned (Go.Value.bool Bool.false)) w36))
  (R (.returned (Go.Value.bool Bool.false)) w34)
def b1_7 (R : EP) (v3 v5 v13 v15 v19 v25 : Value) (w26 : World) (_r : Tok R := tok R) : Prop :=
  RUN Try.prog (pan R) (Instr.extract v25 0) w26 fun v27 w28 =>
  RUN Try.prog (pan R) (Instr.extract v25 1) w28 fun v29 w30 =>
  RUN Try.prog (pan R) (bins .eql 3 (.tmp 39) (.const (Go.Value.int Go.IntKind.i64 0)) v3 (Go.Value.int Go.IntKind.i64 0)) w30 fun v31 w32 =>
  SPL v31
  (b1_6 R v5 v13 v15 v19 v27 v29 w32)
  (R (.returned (Go.Value.bool Bool.false)) w32)
def b1_8 (R : EP) (x0 v3 v5 v13 v15 v19 v21 : Value) (w22 : World) (_r : Tok R := tok R) : Prop :=
  CALL Try.prog (pan R) law20_pick.id #[x0, (Go.Value.int Go.IntKind.i64 7)] w22 fun v23 w24 =>
  CALL Try.prog (pan R) tree_Arena_Leaf.id #[v19, v21, v23] w24 fun v25 w26 =>
  b1_7 R v3 v5 v13 v15 v19 v25 w26
def b1_9 (R : EP) (x0 v3 v5 v11 : Value) (w12 : World) (_r : Tok R := tok R) : Prop :=
  RUN Try.prog (pan R) (Instr.extract v11 0) w12 fun v13 w14 =>
  RUN Try.prog (pan R) (Instr.extract v11 1) w14 fun v15 w16 =>
  RUN Try.prog (pan R) (Instr.build 81 #[]) w16 fun v17 w18 =>
  RUN Try.prog (pan R) (Instr.box 81 v17) w18 fun v19 w20 =>
  CALL Try.prog (pan R) law20_pick.id #[x0, (Go.Value.int Go.IntKind.i64 99)] w20 fun v21 w22 =>
  b1_8 R x0 v3 v5 v13 v15 v19 v21 w22
def b1_10 (R : EP) (x0 x1 v1 : Value) (w2 : World) (_r : Tok R := tok R) : Prop :=
  RUN Try.prog (pan R) (Instr.extract v1 0) w2 fun v3 w4 =>
  RUN Try.prog (pan R) (Instr.extract v1 1) w4 fun v5 w6 =>
  RUN Try.prog (pan R) (Instr.buildSlice 24 0 #[]) w6 fun v7 w8 =>
  RUN Try.prog (pan R) (Builtin.append_ #[24, 24] 24 #[v7, x1]) w8 fun v9 w10 =>
  CALL Try.prog (pan R) tree_Arena_Join.id #[(Go.Value.pointer Option.none), x0, (Go.Value.int Go.IntKind.i64 0), v9] w10 fun v11 w12 =>
  b1_9 R x0 v3 v5 v11 w12

def b1 (R : EP) (x0 x1 : Value) (w : World) (_r : Tok R := tok R) : Prop :=
  CALL Try.prog (pan R) tree_Arena_Leaf.id #[(Go.Value.pointer Option.none), x0, (Go.Value.int Go.IntKind.i64 0)] w fun v1 w2 =>
  b1_10 R x0 x1 v1 w2
abbrev q1 (R : EP) : XP := QX (fun ρ w => R (.returned (ρ 4)) w) (fun ρ w => R (.returned (ρ 4)) w) []
theorem b1_eq (R : EP) (ρ : Env) (w : World) : (b1 R (ρ 0) (ρ 1) w) = codeP Try.prog (pan R) code (q1 R) ρ w := by kernel_rfl
theorem b1_ok (R : EP) (ρ : Env) (w : World) (h : b1 R (ρ 0) (ρ 1) w) : codeP Try.prog (pan R) code (q1 R) ρ w := (b1_eq R ρ w).mp h
/-- What is owed for a call. -/
def run (R : EP) (a0 a1 : Value) (w : World) : Prop := b1 R a0 a1 w
theorem calls (R : EP) (a0 a1 : Value) (w : World) (h : run R a0 a1 w) : Calls Try.prog id #[a0, a1] w R :=
  calls_of_t (f := id) (fn := Try.f13) (c := code) (by kernel_rfl) Try.func13 (by kernel_rfl) (by kernel_rfl) (args := [a0, a1]) (Nat.le_of_ble_eq_true rfl) rfl (b1_ok R (envOf [a0, a1]) w h)
theorem enters : Enters Try.prog id := fun args w => Try.call13 args w
theorem ct {a0 a1 : Value} {w : World} {S : VP} (h : ∀ R : EP, (∀ v w, S v w → R (.returned v) w) → run R a0 a1 w) : Ct Try.prog id #[a0, a1] w S :=
  Ct.intro enters fun R hR => calls R a0 a1 w (h R hR)
attribute [irreducible] b1_1 b1_2 b1_3 b1_4 b1_5 b1_6 b1_7 b1_8 b1_9 b1_10 b1 run
attribute [go_sem] b1_1 b1_2 b1_3 b1_4 b1_5 b1_6 b1_7 b1_8 b1_9 b1_10 b1 run
end law20_TreeNobody

/-! ### presage/presagelaw20.awake -/
namespace law20_awake
noncomputable def code : Code := bodyOf Try.f40
def b1_1 (R : EP) (w59 : World) (_r : Tok R := tok R) : Prop :=
  CALL Try.prog (pan R) tree_New.id #[] w59 fun v60 w61 =>
  RUN Try.prog (pan R) (bins .neq 65 (.tmp 67) (.const (Go.Value.pointer Option.none)) v60 (Go.Value.pointer Option.none)) w61 fun v62 w63 =>
  R (.returned v62) w63
def b1_2 (R : EP) (v5 v7 : Value) (w51 : World) (_r : Tok R := tok R) : Prop :=
  RUN Try.prog (pan R) (Instr.loadAt 27 v7) w51 fun v52 w53 =>
  RUN Try.prog (pan R) (Instr.buildSlice 24 2 #[(0, (Go.Value.int Go.IntKind.i64 2)), (1, (Go.Value.int Go.IntKind.i64 1))]) w53 fun v54 w55 =>
  CALL Try.prog (pan R) tree_Derives.id #[v52, v5, (Go.Value.int Go.IntKind.i64 4), v54] w55 fun v56 w57 =>
  RUN Try.prog (pan R) (Op.unary .not v56) w57 fun v58 w59 =>
  SPL v58
  (b1_1 R w59)
  (R (.returned (Go.Value.bool Bool.false)) w59)
def b1_3 (R : EP) (v5 v7 : Value) (w45 : World) (_r : Tok R := tok R) : Prop :=
  RUN Try.prog (pan R) (Instr.loadAt 27 v7) w45 fun v46 w47 =>
  RUN Try.prog (pan R) (Instr.buildSlice 24 3 #[(0, (Go.Value.int Go.IntKind.i64 2)), (1, (Go.Value.int Go.IntKind.i64 1)), (2, (Go.Value.int Go.IntKind.i64 2))]) w47 fun v48 w49 =>
  CALL Try.prog (pan R) tree_Derives.id #[v46, v5, (Go.Value.int Go.IntKind.i64 4), v48] w49 fun v50 w51 =>
  SPL v50
  (b1_2 R v5 v7 w51)
  (R (.returned (Go.Value.bool Bool.false)) w51)
def b1_4 (R : EP) (v5 v7 v18 v26 : Value) (w39 : World) (_r : Tok R := tok R) : Prop :=
  RUN Try.prog (pan R) (Instr.buildSlice 24 2 #[(0, (Go.Value.int Go.IntKind.i64 1)), (1, (Go.Value.int Go.IntKind.i64 2))]) w39 fun v40 w41 =>
  CALL Try.prog (pan R) ref01_Ints.id #[v18, v40] w41 fun v42 w43 =>
  SPL v42
  (RUN Try.prog (pan R) (bins .eql 9 (.tmp 50) (.const (Go.Value.string { data := #[101, 40, 101, 40, 39, 110, 39, 41, 32, 39, 43, 39, 32, 39, 110, 39, 41] })) v26 (Go.Value.string { data := #[101, 40, 101, 40, 39, 110, 39, 41, 32, 39, 43, 39, 32, 39, 110, 39, 41] })) w43 fun v44 w45 =>
  SPL v44
  (b1_3 R v5 v7 w45)
  (R (.returned (Go.Value.bool Bool.false)) w45))
  (R (.returned (Go.Value.bool Bool.false)) w43)
def b1_5 (R : EP) (v5 v7 v12 v18 v26 : Value) (w35 : World) (_r : Tok R := tok R) : Prop :=
  RUN Try.prog (pan R) (Instr.buildSlice 24 3 #[(0, (Go.Value.int Go.IntKind.i64 2)), (1, (Go.Value.int Go.IntKind.i64 1)), (2, (Go.Value.int Go.IntKind.i64 2))]) w35 fun v36 w37 =>
  CALL Try.prog (pan R) ref01_Ints.id #[v12, v36] w37 fun v38 w39 =>
  SPL v38
  (b1_4 R v5 v7 v18 v26 w39)
  (R (.returned (Go.Value.bool Bool.false)) w39)
def b1_6 (R : EP) (v5 v7 v12 v18 v20 v26 v28 : Value) (w31 : World) (_r : Tok R := tok R) : Prop :=
  RUN Try.prog (pan R) (bins .eql 29 (.tmp 32) (.const (Go.Value.int Go.IntKind.i64 0)) v20 (Go.Value.int Go.IntKind.i64 0)) w31 fun v32 w33 =>
  SPL v32
  (RUN Try.prog (pan R) (bins .eql 29 (.tmp 36) (.const (Go.Value.int Go.IntKind.i64 0)) v28 (Go.Value.int Go.IntKind.i64 0)) w33 fun v34 w35 =>
  SPL v34
  (b1_5 R v5 v7 v12 v18 v26 w35)
  (R (.returned (Go.Value.bool Bool.false)) w35))
  (R (.returned (Go.Value.bool Bool.false)) w33)
def b1_7 (R : EP) (v5 v7 v12 v14 v18 v20 v24 : Value) (w25 : World) (_r : Tok R := tok R) : Prop :=
  RUN Try.prog (pan R) (Instr.extract v24 0) w25 fun v26 w27 =>
  RUN Try.prog (pan R) (Instr.extract v24 1) w27 fun v28 w29 =>
  RUN Try.prog (pan R) (bins .eql 29 (.tmp 29) (.const (Go.Value.int Go.IntKind.i64 0)) v14 (Go.Value.int Go.IntKind.i64 0)) w29 fun v30 w31 =>
  SPL v30
  (b1_6 R v5 v7 v12 v18 v20 v26 v28 w31)
  (R (.returned (Go.Value.bool Bool.false)) w31)
def b1_8 (R : EP) (v5 v7 v12 v14 v16 : Value) (w17 : World) (_r : Tok R := tok R) : Prop :=
  RUN Try.prog (pan R) (Instr.extract v16 0) w17 fun v18 w19 =>
  RUN Try.prog (pan R) (Instr.extract v16 1) w19 fun v20 w21 =>
  RUN Try.prog (pan R) (Instr.loadAt 27 v7) w21 fun v22 w23 =>
  CALL Try.prog (pan R) tree_Text.id #[v22, v5, (Go.Value.int Go.IntKind.i64 4)] w23 fun v24 w25 =>
  b1_7 R v5 v7 v12 v14 v18 v20 v24 w25
def b1_9 (R : EP) (v5 v7 v10 : Value) (w11 : World) (_r : Tok R := tok R) : Prop :=
  RUN Try.prog (pan R) (Instr.extract v10 0) w11 fun v12 w13 =>
  RUN Try.prog (pan R) (Instr.extract v10 1) w13 fun v14 w15 =>
  CALL Try.prog (pan R) tree_Rightmost.id #[v5, (Go.Value.int Go.IntKind.i64 4)] w15 fun v16 w17 =>
  b1_8 R v5 v7 v12 v14 v16 w17
def b1_10 (R : EP) (v1 : Value) (w2 : World) (_r : Tok R := tok R) : Prop :=
  RUN Try.prog (pan R) (Instr.extract v1 0) w2 fun v3 w4 =>
  RUN Try.prog (pan R) (Instr.extract v1 1) w4 fun v5 w6 =>
  RUN Try.prog (pan R) (Instr.alloc 27 true (.tuple #[])) w6 fun v7 w8 =>
  RUNU Try.prog (pan R) (Instr.storeAt 27 v7 v3) w8 fun w9 =>
  CALL Try.prog (pan R) tree_Frontier.id #[v5, (Go.Value.int Go.IntKind.i64 4)] w9 fun v10 w11 =>
  b1_9 R v5 v7 v10 w11

def b1 (R : EP) (w : World) (_r : Tok R := tok R) : Prop :=
  CALL Try.prog (pan R) law20_chapter.id #[] w fun v1 w2 =>
  b1_10 R v1 w2
abbrev q1 (R : EP) : XP := QX (fun ρ w => R (.returned (ρ 0)) w) (fun ρ w => R (.returned (ρ 0)) w) []
theorem b1_eq (R : EP) (ρ : Env) (w : World) : (b1 R w) = codeP Try.prog (pan R) code (q1 R) ρ w := by kernel_rfl
theorem b1_ok (R : EP) (ρ : Env) (w : World) (h : b1 R w) : codeP Try.prog (pan R) code (q1 R) ρ w := (b1_eq R ρ w).mp h
/-- What is owed for a call. -/
def run (R : EP) (w : World) : Prop := b1 R w
theorem calls (R : EP) (w : World) (h : run R w) : Calls Try.prog id #[] w R :=
  calls_of_t (f := id) (fn := Try.f40) (c := code) (by kernel_rfl) Try.func40 (by kernel_rfl) (by kernel_rfl) (args := []) (Nat.le_of_ble_eq_true rfl) rfl (b1_ok R (envOf []) w h)
theorem enters : Enters Try.prog id := fun args w => Try.call40 args w
theorem ct {w : World} {S : VP} (h : ∀ R : EP, (∀ v w, S v w → R (.returned v) w) → run R w) : Ct Try.prog id #[] w S :=
  Ct.intro enters fun R hR => calls R w (h R hR)
attribute [irreducible] b1_1 b1_2 b1_3 b1_4 b1_5 b1_6 b1_7 b1_8 b1_9 b1_10 b1 run
attribute [go_sem] b1_1 b1_2 b1_3 b1_4 b1_5 b1_6 b1_7 b1_8 b1_9 b1_10 b1 run
end law20_awake

/-! ### presage/presagelaw20.pick -/
namespace law20_pick
noncomputable def code : Code := bodyOf Try.f55
noncomputable abbrev p1 : Code := dropC 2 code
def b2 (R : EP) (x0 x1 : Value) (w : World) (_r : Tok R := tok R) : Prop :=
  RUN Try.prog (pan R) (bins .rem 3 (.tmp 10) (.tmp 11) x0 x1) w fun v1 w2 =>
  R (.returned v1) w2
abbrev q1 (R : EP) : XP := QX (fun ρ w => R (.returned (ρ 4)) w) (fun ρ w => R (.returned (ρ 4)) w) []
theorem b2_eq (R : EP) (ρ : Env) (w : World) : (b2 R (ρ 0) (ρ 1) w) = codeP Try.prog (pan R) p1 (q1 R) ρ w := by kernel_rfl
theorem b2_ok (R : EP) (ρ : Env) (w : World) (h : b2 R (ρ 0) (ρ 1) w) : codeP Try.prog (pan R) p1 (q1 R) ρ w := (b2_eq R ρ w).mp h
def b1_1 (R : EP) (x0 x1 : Value) (w2 : World) (_r : Tok R := tok R) : Prop :=
  RUN Try.prog (pan R) (bins .add 3 (.tmp 7) (.const (Go.Value.int Go.IntKind.i64 1)) x0 (Go.Value.int Go.IntKind.i64 1)) w2 fun v3 w4 =>
  RUN Try.prog (pan R) (Op.unary .neg v3) w4 fun v5 w6 =>
  b2 R v5 x1 w6
def b1 (R : EP) (x0 x1 : Value) (w : World) (_r : Tok R := tok R) : Prop :=
  RUN Try.prog (pan R) (bins .lss 3 (.tmp 5) (.const (Go.Value.int Go.IntKind.i64 0)) x0 (Go.Value.int Go.IntKind.i64 0)) w fun v1 w2 =>
  SPL v1
  (b1_1 R x0 x1 w2)
  (b2 R x0 x1 w2)
abbrev q2 (R : EP) : XP := QX (fun ρ w => b2 R (ρ 0) (ρ 1) w) (fun ρ w => R (.returned (ρ 4)) w) []
theorem b1_eq (R : EP) (ρ : Env) (w : World) : (b1 R (ρ 0) (ρ 1) w) = codeP Try.prog (pan R) (preC 1 code) (q2 R) ρ w := by kernel_rfl
theorem b1_ok (R : EP) (ρ : Env) (w : World) (h : b1 R (ρ 0) (ρ 1) w) : codeP Try.prog (pan R) code (q1 R) ρ w := by
  have e : appC 1 (preC 1 code) (dropC 2 code) = code := by kernel_rfl
  rw [← e]
  exact appQ (fun ρ w => b2 R (ρ 0) (ρ 1) w) 1 ((b1_eq R ρ w).mp h) (fun ρ w h => b2_ok R ρ w h)
/-- What is owed for a call. -/
def run (R : EP) (a0 a1 : Value) (w : World) : Prop := b1 R a0 a1 w
theorem calls (R : EP) (a0 a1 : Value) (w : World) (h : run R a0 a1 w) : Calls Try.prog id #[a0, a1] w R :=
  calls_of_t (f := id) (fn := Try.f55) (c := code) (by kernel_rfl) Try.func55 (by kernel_rfl) (by kernel_rfl) (args := [a0, a1]) (Nat.le_of_ble_eq_true rfl) rfl (b1_ok R (envOf [a0, a1]) w h)
theorem enters : Enters Try.prog id := fun args w => Try.call55 args w
theorem ct {a0 a1 : Value} {w : World} {S : VP} (h : ∀ R : EP, (∀ v w, S v w → R (.returned v) w) → run R a0 a1 w) : Ct Try.prog id #[a0, a1] w S :=
  Ct.intro enters fun R hR => calls R a0 a1 w (h R hR)
attribute [irreducible] b2 b1_1 b1 run
attribute [go_sem] b2 b1_1 b1 run
end law20_pick

/-! ### presage/presagelaw20.chapter -/
namespace law20_chapter
noncomputable def code : Code := bodyOf Try.f90

def b1 (R : EP) (w : World) (_r : Tok R := tok R) : Prop :=
  RUN Try.prog (pan R) (Instr.alloc 27 true (.tuple #[])) w fun v1 w2 =>
  RUN Try.prog (pan R) (Instr.build 106 #[]) w2 fun v3 w4 =>
  RUN Try.prog (pan R) (Instr.build 106 #[(0, (Go.Value.string { data := #[43] }))]) w4 fun v5 w6 =>
  RUN Try.prog (pan R) (Instr.build 106 #[(0, (Go.Value.string { data := #[110] }))]) w6 fun v7 w8 =>
  RUN Try.prog (pan R) (Instr.buildSlice 22 3 #[(0, v3), (1, v5), (2, v7)]) w8 fun v9 w10 =>
  RUN Try.prog (pan R) (Instr.buildSlice 23 2 #[(0, (Go.Value.string { data := #[] })), (1, (Go.Value.string { data := #[101] }))]) w10 fun v11 w12 =>
  RUN Try.prog (pan R) (Instr.buildSlice 24 1 #[(0, (Go.Value.int Go.IntKind.i64 4))]) w12 fun v13 w14 =>
  RUN Try.prog (pan R) (Instr.build 47 #[(0, (Go.Value.int Go.IntKind.i64 3)), (1, v13)]) w14 fun v15 w16 =>
  RUN Try.prog (pan R) (Instr.buildSlice 24 3 #[(0, (Go.Value.int Go.IntKind.i64 4)), (1, (Go.Value.int Go.IntKind.i64 1)), (2, (Go.Value.int Go.IntKind.i64 2))]) w16 fun v17 w18 =>
  RUN Try.prog (pan R) (Instr.build 47 #[(0, (Go.Value.int Go.IntKind.i64 4)), (1, v17)]) w18 fun v19 w20 =>
  RUN Try.prog (pan R) (Instr.buildSlice 24 1 #[(0, (Go.Value.int Go.IntKind.i64 2))]) w20 fun v21 w22 =>
  RUN Try.prog (pan R) (Instr.build 47 #[(0, (Go.Value.int Go.IntKind.i64 4)), (1, v21)]) w22 fun v23 w24 =>
  RUN Try.prog (pan R) (Instr.buildSlice 25 3 #[(0, v15), (1, v19), (2, v23)]) w24 fun v25 w26 =>
  RUN Try.prog (pan R) (Instr.build 27 #[(0, v9), (1, v11), (3, (Go.Value.int Go.IntKind.i64 4)), (4, v25)]) w26 fun v27 w28 =>
  RUN Try.prog (pan R) (Instr.alloc 27 true (.tuple #[])) w28 fun v29 w30 =>
  RUNU Try.prog (pan R) (Instr.storeAt 27 v29 v27) w30 fun w31 =>
  RUN Try.prog (pan R) (Instr.build 61 #[(0, (Go.Value.int Go.IntKind.i64 2)), (1, (Go.Value.int Go.IntKind.i64 (-1)))]) w31 fun v32 w33 =>
  RUN Try.prog (pan R) (Instr.buildSlice 24 1 #[(0, (Go.Value.int Go.IntKind.i64 0))]) w33 fun v34 w35 =>
  RUN Try.prog (pan R) (Instr.build 61 #[(0, (Go.Value.int Go.IntKind.i64 4)), (1, (Go.Value.int Go.IntKind.i64 2)), (3, v34)]) w35 fun v36 w37 =>
  RUN Try.prog (pan R) (Instr.build 61 #[(0, (Go.Value.int Go.IntKind.i64 1)), (1, (Go.Value.int Go.IntKind.i64 (-1))), (2, (Go.Value.int Go.IntKind.i64 1))]) w37 fun v38 w39 =>
  RUN Try.prog (pan R) (Instr.build 61 #[(0, (Go.Value.int Go.IntKind.i64 2)), (1, (Go.Value.int Go.IntKind.i64 (-1))), (2, (Go.Value.int Go.IntKind.i64 2))]) w39 fun v40 w41 =>
  RUN Try.prog (pan R) (Instr.buildSlice 24 3 #[(0, (Go.Value.int Go.IntKind.i64 1)), (1, (Go.Value.int Go.IntKind.i64 2)), (2, (Go.Value.int Go.IntKind.i64 3))]) w41 fun v42 w43 =>
  RUN Try.prog (pan R) (Instr.build 61 #[(0, (Go.Value.int Go.IntKind.i64 4)), (1, (Go.Value.int Go.IntKind.i64 1)), (3, v42)]) w43 fun v44 w45 =>
  RUN Try.prog (pan R) (Instr.buildSlice 49 5 #[(0, v32), (1, v36), (2, v38), (3, v40), (4, v44)]) w45 fun v46 w47 =>
  RUN Try.prog (pan R) (Instr.loadAt 27 v29) w47 fun v48 w49 =>
  RUNU Try.prog (pan R) (Instr.storeAt 27 v1 v48) w49 fun w50 =>
  LD Try.prog (Instr.loadAt 27 v1) w50 fun r0 => R (.returned (.tuple #[r0, v46])) w50
abbrev q1 (R : EP) : XP := QX (fun ρ w => LD Try.prog (Instr.loadAt 27 (ρ 0)) w fun r0 => R (.returned (.tuple #[r0, (ρ 1)])) w) (fun ρ w => LD Try.prog (Instr.loadAt 27 (ρ 0)) w fun r0 => R (.returned (.tuple #[r0, (ρ 1)])) w) []
theorem b1_eq (R : EP) (ρ : Env) (w : World) : (b1 R w) = codeP Try.prog (pan R) code (q1 R) ρ w := by kernel_rfl
theorem b1_ok (R : EP) (ρ : Env) (w : World) (h : b1 R w) : codeP Try.prog (pan R) code (q1 R) ρ w := (b1_eq R ρ w).mp h
/-- What is owed for a call. -/
def run (R : EP) (w : World) : Prop := b1 R w
theorem calls (R : EP) (w : World) (h : run R w) : Calls Try.prog id #[] w R :=
  calls_of_ct (f := id) (fn := Try.f90) (c := code) (by kernel_rfl) Try.func90 (by kernel_rfl) (by kernel_rfl) (args := []) (Nat.le_of_ble_eq_true rfl) rfl (b1_ok R (envOf []) w h)
theorem enters : Enters Try.prog id := fun args w => Try.call90 args w
theorem ct {w : World} {S : VP} (h : ∀ R : EP, (∀ v w, S v w → R (.returned v) w) → run R w) : Ct Try.prog id #[] w S :=
  Ct.intro enters fun R hR => calls R w (h R hR)
attribute [irreducible] b1 run
attribute [go_sem] b1 run
end law20_chapter
end Go.Proofs.Ytkacbjhiobnbfaa

