import Derived.Test.YtmhebgebfjnfjaaT02Ids
/- Shallow programs, written by a program of ours (gen.py) off the translation; each is tied to the code by the kernel. -/
set_option linter.unusedVariables false
set_option maxRecDepth 100000
namespace Go.Proofs.Ytmhebgebfjnfjaa
open Go.Px

/-! ### slices.Equal[[]int,int] -/
namespace slices_Equal_int_int
noncomputable def code : Code := bodyOf Try.f46
noncomputable abbrev p1 : Code := dropC 2 code

def b3 (R : Ending → World → Prop) (w : World) (_r : Tok R := tok R) : Prop :=
  R (.returned (Go.Value.bool Bool.true)) w
abbrev q1 (R : Ending → World → Prop) : Exit → Env → World → Prop := QX (fun ρ w => R (.returned (ρ 4)) w) (fun ρ w => R (.returned (ρ 4)) w) []
theorem b3_eq (R : Ending → World → Prop) (ρ : Env) (w : World) : (b3 R w) = codeP Try.prog (pan R) (sndC p1) (q1 R) ρ w := by kernel_rfl
theorem b3_ok (R : Ending → World → Prop) (ρ : Env) (w : World) (h : b3 R w) : codeP Try.prog (pan R) (sndC p1) (q1 R) ρ w := (b3_eq R ρ w).mp h
noncomputable abbrev p2 : Code := dropC 1 (fstC p1)
noncomputable abbrev p3 : Code := loopC (blkC p2)
def b7_1 (R : Ending → World → Prop) (C6 : Value → World → Prop) (x0 x1 x13 : Value) (w2 : World) (_r : Tok R := tok R) (_C6 : Tok C6 := tok C6) : Prop :=
  PUR Try.prog (Instr.indexAt 30 x0 x13) fun v3 =>
  LD Try.prog (Instr.loadAt 3 v3) (World.drew w2) fun v4 =>
  PUR Try.prog (Instr.indexAt 30 x1 x13) fun v5 =>
  LD Try.prog (Instr.loadAt 3 v5) (World.drew w2) fun v6 =>
  PUR Try.prog (bins .neq 3 (.tmp 19) (.tmp 23) v4 v6) fun v7 =>
  SPL v7
  (R (.returned (Go.Value.bool Bool.false)) (World.drew w2))
  (RUN Try.prog (pan R) (bins .add 3 (.tmp 13) (.const (Go.Value.int Go.IntKind.i64 1)) x13 (Go.Value.int Go.IntKind.i64 1)) (World.drew w2) fun v8 w9 =>
  C6 v8 w9)
/- x0 s1, x1 s2 -/
def b7 (R : Ending → World → Prop) (C6 : Value → World → Prop) (x0 x1 x12 x13 : Value) (w : World) (_r : Tok R := tok R) (_C6 : Tok C6 := tok C6) : Prop :=
  RUN Try.prog (pan R) (bins .lss 3 (.tmp 13) (.tmp 12) x13 x12) w fun v1 w2 =>
  SPL v1
  (b7_1 R C6 x0 x1 x13 w2)
  (b3 R w2)
abbrev q2 (R : Ending → World → Prop) (C6 : Value → World → Prop) : Exit → Env → World → Prop := QX (fun ρ w => C6 (ρ 13) w) (fun ρ w => R (.returned (ρ 4)) w) [(0, (fun ρ w => b3 R  w))]
theorem b7_eq (R : Ending → World → Prop) (C6 : Value → World → Prop) (ρ : Env) (w : World) : (b7 R C6 (ρ 0) (ρ 1) (ρ 12) (ρ 13) w) = codeP Try.prog (pan R) p3 (q2 R C6) ρ w := by kernel_rfl
theorem b7_ok (R : Ending → World → Prop) (C6 : Value → World → Prop) (ρ : Env) (w : World) (h : b7 R C6 (ρ 0) (ρ 1) (ρ 12) (ρ 13) w) : codeP Try.prog (pan R) p3 (q2 R C6) ρ w := (b7_eq R C6 ρ w).mp h
/- x0 s1, x1 s2 -/
def l6 (R : Ending → World → Prop) (x0 x1 x12 x13 : Value) (w : World) (_r : Tok R := tok R) : Prop :=
  ∃ (J : Value → World → Prop) (μ : Value → World → Nat), J x13 w ∧ ∀ y13 w0, J y13 w0 → b7 R (fun z13 w1 => J z13 w1 ∧ μ z13 w1 < μ y13 w0) x0 x1 x12 y13 w0
abbrev q3 (R : Ending → World → Prop) : Exit → Env → World → Prop := QX (fun ρ w => b3 R  w) (fun ρ w => R (.returned (ρ 4)) w) [(0, (fun ρ w => b3 R  w))]
theorem l6_ok (R : Ending → World → Prop) (ρ : Env) (w : World) (h : l6 R (ρ 0) (ρ 1) (ρ 12) (ρ 13) w) : codeP Try.prog (pan R) (blkC p2) (q3 R) ρ w := by
  unfold l6 at h
  obtain ⟨J, μ, h0, hr⟩ := h
  have e : Code.loop (loopC (blkC p2)) = (blkC p2) := by kernel_rfl
  rw [← e]
  refine loopQ (fun ρ' w' => J (ρ' 13) w') (fun ρ' w' => μ (ρ' 13) w') h0 fun ρ' w' hA hI => ?_
  have e0 : ρ' 0 = ρ 0 := Agree.at hA 0 (by kernel_rfl)
  have e1 : ρ' 1 = ρ 1 := Agree.at hA 1 (by kernel_rfl)
  have e12 : ρ' 12 = ρ 12 := Agree.at hA 12 (by kernel_rfl)
  have h1 := hr (ρ' 13) w' hI
  rw [← e0, ← e1, ← e12] at h1
  exact b7_ok R (fun z13 w1 => J z13 w1 ∧ μ z13 w1 < μ (ρ' 13) w') ρ' w' h1
theorem l6_intro (R : Ending → World → Prop) (x0 x1 x12 x13 : Value) (w : World) (J : Value → World → Prop) (μ : Value → World → Nat) (h0 : J x13 w)
    (hr : ∀ y13 w0, J y13 w0 → ∀ C6 : Value → World → Prop, (∀ z13 w1, J z13 w1 → μ z13 w1 < μ y13 w0 → C6 z13 w1) → b7 R C6 x0 x1 x12 y13 w0) : l6 R x0 x1 x12 x13 w := by
  unfold l6
  exact ⟨J, μ, h0, fun y13 w0 hJ => hr y13 w0 hJ _ (fun z13 w1 h1 h2 => ⟨h1, h2⟩)⟩
abbrev q4 (R : Ending → World → Prop) : Exit → Env → World → Prop := QX (fun ρ w => b3 R  w) (fun ρ w => R (.returned (ρ 4)) w) []
theorem k5_ok (R : Ending → World → Prop) (ρ : Env) (w : World) (h : l6 R (ρ 0) (ρ 1) (ρ 12) (ρ 13) w) : codeP Try.prog (pan R) p2 (q4 R) ρ w := by
  have e : Code.block 0 (blkC p2) = p2 := by kernel_rfl
  rw [← e]
  exact blockQ (l6_ok R ρ w h)
/- x0 s1, x1 s2 -/
def b4 (R : Ending → World → Prop) (x0 x1 : Value) (w : World) (_r : Tok R := tok R) : Prop :=
  RUN Try.prog (pan R) (Builtin.len_ #[30] 3 #[x0]) w fun v1 w2 =>
  l6 R x0 x1 v1 (Go.Value.int Go.IntKind.i64 0) w2
abbrev q5 (R : Ending → World → Prop) : Exit → Env → World → Prop := QX (fun ρ w => l6 R (ρ 0) (ρ 1) (ρ 12) (ρ 13) w) (fun ρ w => R (.returned (ρ 4)) w) []
theorem b4_eq (R : Ending → World → Prop) (ρ : Env) (w : World) : (b4 R (ρ 0) (ρ 1) w) = codeP Try.prog (pan R) (preC 0 (fstC p1)) (q5 R) ρ w := by kernel_rfl
theorem b4_ok (R : Ending → World → Prop) (ρ : Env) (w : World) (h : b4 R (ρ 0) (ρ 1) w) : codeP Try.prog (pan R) (fstC p1) (q4 R) ρ w := by
  have e : appC 0 (preC 0 (fstC p1)) (dropC 1 (fstC p1)) = (fstC p1) := by kernel_rfl
  rw [← e]
  exact appQ (fun ρ w => l6 R (ρ 0) (ρ 1) (ρ 12) (ρ 13) w) 0 ((b4_eq R ρ w).mp h) (fun ρ w h => k5_ok R ρ w h)
theorem k2_ok (R : Ending → World → Prop) (ρ : Env) (w : World) (h : b4 R (ρ 0) (ρ 1) w) : codeP Try.prog (pan R) p1 (q1 R) ρ w := by
  have e : Code.seq (fstC p1) (sndC p1) = p1 := by kernel_rfl
  rw [← e]
  exact seqQ (fun ρ w => b3 R  w) (b4_ok R ρ w h) (fun ρ w h => b3_ok R ρ w h)
/- x0 s1, x1 s2 -/
def b1 (R : Ending → World → Prop) (x0 x1 : Value) (w : World) (_r : Tok R := tok R) : Prop :=
  RUN Try.prog (pan R) (Builtin.len_ #[30] 3 #[x0]) w fun v1 w2 =>
  RUN Try.prog (pan R) (Builtin.len_ #[30] 3 #[x1]) w2 fun v3 w4 =>
  RUN Try.prog (pan R) (bins .neq 3 (.tmp 7) (.tmp 9) v1 v3) w4 fun v5 w6 =>
  SPL v5
  (R (.returned (Go.Value.bool Bool.false)) w6)
  (b4 R x0 x1 w6)
abbrev q6 (R : Ending → World → Prop) : Exit → Env → World → Prop := QX (fun ρ w => b4 R (ρ 0) (ρ 1) w) (fun ρ w => R (.returned (ρ 4)) w) []
theorem b1_eq (R : Ending → World → Prop) (ρ : Env) (w : World) : (b1 R (ρ 0) (ρ 1) w) = codeP Try.prog (pan R) (preC 1 code) (q6 R) ρ w := by kernel_rfl
theorem b1_ok (R : Ending → World → Prop) (ρ : Env) (w : World) (h : b1 R (ρ 0) (ρ 1) w) : codeP Try.prog (pan R) code (q1 R) ρ w := by
  have e : appC 1 (preC 1 code) (dropC 2 code) = code := by kernel_rfl
  rw [← e]
  exact appQ (fun ρ w => b4 R (ρ 0) (ρ 1) w) 1 ((b1_eq R ρ w).mp h) (fun ρ w h => k2_ok R ρ w h)
/-- What is owed for a call. -/
def run (R : Ending → World → Prop) (a0 a1 : Value) (w : World) : Prop := b1 R a0 a1 w
theorem calls (R : Ending → World → Prop) (a0 a1 : Value) (w : World) (h : run R a0 a1 w) : Calls Try.prog id #[a0, a1] w R :=
  calls_of_t (f := id) (fn := Try.f46) (c := code) (by kernel_rfl) Try.func46 (by kernel_rfl) (by kernel_rfl) (args := [a0, a1]) (Nat.le_of_ble_eq_true rfl) rfl (b1_ok R (envOf [a0, a1]) w h)
theorem enters : Enters Try.prog id := fun args w => Try.call46 args w
theorem ct {a0 a1 : Value} {w : World} {S : Value → World → Prop} (h : ∀ R : Ending → World → Prop, (∀ v w, S v w → R (.returned v) w) → run R a0 a1 w) : Ct Try.prog id #[a0, a1] w S :=
  Ct.intro enters fun R hR => calls R a0 a1 w (h R hR)
attribute [irreducible] b3 b7_1 b7 l6 b4 b1 run
attribute [go_sem] b3 b7_1 b7 b4 b1 run
end slices_Equal_int_int

/-! ### slices.Equal[[]presage/api.Term,presage/api.Term] -/
namespace slices_Equal_api_Term_api_Term
noncomputable def code : Code := bodyOf Try.f47
noncomputable abbrev p1 : Code := dropC 2 code

def b3 (R : Ending → World → Prop) (w : World) (_r : Tok R := tok R) : Prop :=
  R (.returned (Go.Value.bool Bool.true)) w
abbrev q1 (R : Ending → World → Prop) : Exit → Env → World → Prop := QX (fun ρ w => R (.returned (ρ 4)) w) (fun ρ w => R (.returned (ρ 4)) w) []
theorem b3_eq (R : Ending → World → Prop) (ρ : Env) (w : World) : (b3 R w) = codeP Try.prog (pan R) (sndC p1) (q1 R) ρ w := by kernel_rfl
theorem b3_ok (R : Ending → World → Prop) (ρ : Env) (w : World) (h : b3 R w) : codeP Try.prog (pan R) (sndC p1) (q1 R) ρ w := (b3_eq R ρ w).mp h
noncomputable abbrev p2 : Code := dropC 1 (fstC p1)
noncomputable abbrev p3 : Code := loopC (blkC p2)
def b7_1 (R : Ending → World → Prop) (C6 : Value → World → Prop) (x0 x1 x13 : Value) (w2 : World) (_r : Tok R := tok R) (_C6 : Tok C6 := tok C6) : Prop :=
  PUR Try.prog (Instr.indexAt 32 x0 x13) fun v3 =>
  LD Try.prog (Instr.loadAt 56 v3) (World.drew w2) fun v4 =>
  PUR Try.prog (Instr.indexAt 32 x1 x13) fun v5 =>
  LD Try.prog (Instr.loadAt 56 v5) (World.drew w2) fun v6 =>
  PUR Try.prog (bins .neq 56 (.tmp 19) (.tmp 23) v4 v6) fun v7 =>
  SPL v7
  (R (.returned (Go.Value.bool Bool.false)) (World.drew w2))
  (RUN Try.prog (pan R) (bins .add 3 (.tmp 13) (.const (Go.Value.int Go.IntKind.i64 1)) x13 (Go.Value.int Go.IntKind.i64 1)) (World.drew w2) fun v8 w9 =>
  C6 v8 w9)
/- x0 s1, x1 s2 -/
def b7 (R : Ending → World → Prop) (C6 : Value → World → Prop) (x0 x1 x12 x13 : Value) (w : World) (_r : Tok R := tok R) (_C6 : Tok C6 := tok C6) : Prop :=
  RUN Try.prog (pan R) (bins .lss 3 (.tmp 13) (.tmp 12) x13 x12) w fun v1 w2 =>
  SPL v1
  (b7_1 R C6 x0 x1 x13 w2)
  (b3 R w2)
abbrev q2 (R : Ending → World → Prop) (C6 : Value → World → Prop) : Exit → Env → World → Prop := QX (fun ρ w => C6 (ρ 13) w) (fun ρ w => R (.returned (ρ 4)) w) [(0, (fun ρ w => b3 R  w))]
theorem b7_eq (R : Ending → World → Prop) (C6 : Value → World → Prop) (ρ : Env) (w : World) : (b7 R C6 (ρ 0) (ρ 1) (ρ 12) (ρ 13) w) = codeP Try.prog (pan R) p3 (q2 R C6) ρ w := by kernel_rfl
theorem b7_ok (R : Ending → World → Prop) (C6 : Value → World → Prop) (ρ : Env) (w : World) (h : b7 R C6 (ρ 0) (ρ 1) (ρ 12) (ρ 13) w) : codeP Try.prog (pan R) p3 (q2 R C6) ρ w := (b7_eq R C6 ρ w).mp h
/- x0 s1, x1 s2 -/
def l6 (R : Ending → World → Prop) (x0 x1 x12 x13 : Value) (w : World) (_r : Tok R := tok R) : Prop :=
  ∃ (J : Value → World → Prop) (μ : Value → World → Nat), J x13 w ∧ ∀ y13 w0, J y13 w0 → b7 R (fun z13 w1 => J z13 w1 ∧ μ z13 w1 < μ y13 w0) x0 x1 x12 y13 w0
abbrev q3 (R : Ending → World → Prop) : Exit → Env → World → Prop := QX (fun ρ w => b3 R  w) (fun ρ w => R (.returned (ρ 4)) w) [(0, (fun ρ w => b3 R  w))]
theorem l6_ok (R : Ending → World → Prop) (ρ : Env) (w : World) (h : l6 R (ρ 0) (ρ 1) (ρ 12) (ρ 13) w) : codeP Try.prog (pan R) (blkC p2) (q3 R) ρ w := by
  unfold l6 at h
  obtain ⟨J, μ, h0, hr⟩ := h
  have e : Code.loop (loopC (blkC p2)) = (blkC p2) := by kernel_rfl
  rw [← e]
  refine loopQ (fun ρ' w' => J (ρ' 13) w') (fun ρ' w' => μ (ρ' 13) w') h0 fun ρ' w' hA hI => ?_
  have e0 : ρ' 0 = ρ 0 := Agree.at hA 0 (by kernel_rfl)
  have e1 : ρ' 1 = ρ 1 := Agree.at hA 1 (by kernel_rfl)
  have e12 : ρ' 12 = ρ 12 := Agree.at hA 12 (by kernel_rfl)
  have h1 := hr (ρ' 13) w' hI
  rw [← e0, ← e1, ← e12] at h1
  exact b7_ok R (fun z13 w1 => J z13 w1 ∧ μ z13 w1 < μ (ρ' 13) w') ρ' w' h1
theorem l6_intro (R : Ending → World → Prop) (x0 x1 x12 x13 : Value) (w : World) (J : Value → World → Prop) (μ : Value → World → Nat) (h0 : J x13 w)
    (hr : ∀ y13 w0, J y13 w0 → ∀ C6 : Value → World → Prop, (∀ z13 w1, J z13 w1 → μ z13 w1 < μ y13 w0 → C6 z13 w1) → b7 R C6 x0 x1 x12 y13 w0) : l6 R x0 x1 x12 x13 w := by
  unfold l6
  exact ⟨J, μ, h0, fun y13 w0 hJ => hr y13 w0 hJ _ (fun z13 w1 h1 h2 => ⟨h1, h2⟩)⟩
abbrev q4 (R : Ending → World → Prop) : Exit → Env → World → Prop := QX (fun ρ w => b3 R  w) (fun ρ w => R (.returned (ρ 4)) w) []
theorem k5_ok (R : Ending → World → Prop) (ρ : Env) (w : World) (h : l6 R (ρ 0) (ρ 1) (ρ 12) (ρ 13) w) : codeP Try.prog (pan R) p2 (q4 R) ρ w := by
  have e : Code.block 0 (blkC p2) = p2 := by kernel_rfl
  rw [← e]
  exact blockQ (l6_ok R ρ w h)
/- x0 s1, x1 s2 -/
def b4 (R : Ending → World → Prop) (x0 x1 : Value) (w : World) (_r : Tok R := tok R) : Prop :=
  RUN Try.prog (pan R) (Builtin.len_ #[32] 3 #[x0]) w fun v1 w2 =>
  l6 R x0 x1 v1 (Go.Value.int Go.IntKind.i64 0) w2
abbrev q5 (R : Ending → World → Prop) : Exit → Env → World → Prop := QX (fun ρ w => l6 R (ρ 0) (ρ 1) (ρ 12) (ρ 13) w) (fun ρ w => R (.returned (ρ 4)) w) []
theorem b4_eq (R : Ending → World → Prop) (ρ : Env) (w : World) : (b4 R (ρ 0) (ρ 1) w) = codeP Try.prog (pan R) (preC 0 (fstC p1)) (q5 R) ρ w := by kernel_rfl
theorem b4_ok (R : Ending → World → Prop) (ρ : Env) (w : World) (h : b4 R (ρ 0) (ρ 1) w) : codeP Try.prog (pan R) (fstC p1) (q4 R) ρ w := by
  have e : appC 0 (preC 0 (fstC p1)) (dropC 1 (fstC p1)) = (fstC p1) := by kernel_rfl
  rw [← e]
  exact appQ (fun ρ w => l6 R (ρ 0) (ρ 1) (ρ 12) (ρ 13) w) 0 ((b4_eq R ρ w).mp h) (fun ρ w h => k5_ok R ρ w h)
theorem k2_ok (R : Ending → World → Prop) (ρ : Env) (w : World) (h : b4 R (ρ 0) (ρ 1) w) : codeP Try.prog (pan R) p1 (q1 R) ρ w := by
  have e : Code.seq (fstC p1) (sndC p1) = p1 := by kernel_rfl
  rw [← e]
  exact seqQ (fun ρ w => b3 R  w) (b4_ok R ρ w h) (fun ρ w h => b3_ok R ρ w h)
/- x0 s1, x1 s2 -/
def b1 (R : Ending → World → Prop) (x0 x1 : Value) (w : World) (_r : Tok R := tok R) : Prop :=
  RUN Try.prog (pan R) (Builtin.len_ #[32] 3 #[x0]) w fun v1 w2 =>
  RUN Try.prog (pan R) (Builtin.len_ #[32] 3 #[x1]) w2 fun v3 w4 =>
  RUN Try.prog (pan R) (bins .neq 3 (.tmp 7) (.tmp 9) v1 v3) w4 fun v5 w6 =>
  SPL v5
  (R (.returned (Go.Value.bool Bool.false)) w6)
  (b4 R x0 x1 w6)
abbrev q6 (R : Ending → World → Prop) : Exit → Env → World → Prop := QX (fun ρ w => b4 R (ρ 0) (ρ 1) w) (fun ρ w => R (.returned (ρ 4)) w) []
theorem b1_eq (R : Ending → World → Prop) (ρ : Env) (w : World) : (b1 R (ρ 0) (ρ 1) w) = codeP Try.prog (pan R) (preC 1 code) (q6 R) ρ w := by kernel_rfl
theorem b1_ok (R : Ending → World → Prop) (ρ : Env) (w : World) (h : b1 R (ρ 0) (ρ 1) w) : codeP Try.prog (pan R) code (q1 R) ρ w := by
  have e : appC 1 (preC 1 code) (dropC 2 code) = code := by kernel_rfl
  rw [← e]
  exact appQ (fun ρ w => b4 R (ρ 0) (ρ 1) w) 1 ((b1_eq R ρ w).mp h) (fun ρ w h => k2_ok R ρ w h)
/-- What is owed for a call. -/
def run (R : Ending → World → Prop) (a0 a1 : Value) (w : World) : Prop := b1 R a0 a1 w
theorem calls (R : Ending → World → Prop) (a0 a1 : Value) (w : World) (h : run R a0 a1 w) : Calls Try.prog id #[a0, a1] w R :=
  calls_of_t (f := id) (fn := Try.f47) (c := code) (by kernel_rfl) Try.func47 (by kernel_rfl) (by kernel_rfl) (args := [a0, a1]) (Nat.le_of_ble_eq_true rfl) rfl (b1_ok R (envOf [a0, a1]) w h)
theorem enters : Enters Try.prog id := fun args w => Try.call47 args w
theorem ct {a0 a1 : Value} {w : World} {S : Value → World → Prop} (h : ∀ R : Ending → World → Prop, (∀ v w, S v w → R (.returned v) w) → run R a0 a1 w) : Ct Try.prog id #[a0, a1] w S :=
  Ct.intro enters fun R hR => calls R a0 a1 w (h R hR)
attribute [irreducible] b3 b7_1 b7 l6 b4 b1 run
attribute [go_sem] b3 b7_1 b7 b4 b1 run
end slices_Equal_api_Term_api_Term

/-! ### slices.Equal[[]string,string] -/
namespace slices_Equal_string_string
noncomputable def code : Code := bodyOf Try.f48
noncomputable abbrev p1 : Code := dropC 2 code

def b3 (R : Ending → World → Prop) (w : World) (_r : Tok R := tok R) : Prop :=
  R (.returned (Go.Value.bool Bool.true)) w
abbrev q1 (R : Ending → World → Prop) : Exit → Env → World → Prop := QX (fun ρ w => R (.returned (ρ 4)) w) (fun ρ w => R (.returned (ρ 4)) w) []
theorem b3_eq (R : Ending → World → Prop) (ρ : Env) (w : World) : (b3 R w) = codeP Try.prog (pan R) (sndC p1) (q1 R) ρ w := by kernel_rfl
theorem b3_ok (R : Ending → World → Prop) (ρ : Env) (w : World) (h : b3 R w) : codeP Try.prog (pan R) (sndC p1) (q1 R) ρ w := (b3_eq R ρ w).mp h
noncomputable abbrev p2 : Code := dropC 1 (fstC p1)
noncomputable abbrev p3 : Code := loopC (blkC p2)
def b7_1 (R : Ending → World → Prop) (C6 : Value → World → Prop) (x0 x1 x13 : Value) (w2 : World) (_r : Tok R := tok R) (_C6 : Tok C6 := tok C6) : Prop :=
  PUR Try.prog (Instr.indexAt 33 x0 x13) fun v3 =>
  LD Try.prog (Instr.loadAt 9 v3) (World.drew w2) fun v4 =>
  PUR Try.prog (Instr.indexAt 33 x1 x13) fun v5 =>
  LD Try.prog (Instr.loadAt 9 v5) (World.drew w2) fun v6 =>
  PUR Try.prog (bins .neq 9 (.tmp 19) (.tmp 23) v4 v6) fun v7 =>
  SPL v7
  (R (.returned (Go.Value.bool Bool.false)) (World.drew w2))
  (RUN Try.prog (pan R) (bins .add 3 (.tmp 13) (.const (Go.Value.int Go.IntKind.i64 1)) x13 (Go.Value.int Go.IntKind.i64 1)) (World.drew w2) fun v8 w9 =>
  C6 v8 w9)
/- x0 s1, x1 s2 -/
def b7 (R : Ending → World → Prop) (C6 : Value → World → Prop) (x0 x1 x12 x13 : Value) (w : World) (_r : Tok R := tok R) (_C6 : Tok C6 := tok C6) : Prop :=
  RUN Try.prog (pan R) (bins .lss 3 (.tmp 13) (.tmp 12) x13 x12) w fun v1 w2 =>
  SPL v1
  (b7_1 R C6 x0 x1 x13 w2)
  (b3 R w2)
abbrev q2 (R : Ending → World → Prop) (C6 : Value → World → Prop) : Exit → Env → World → Prop := QX (fun ρ w => C6 (ρ 13) w) (fun ρ w => R (.returned (ρ 4)) w) [(0, (fun ρ w => b3 R  w))]
theorem b7_eq (R : Ending → World → Prop) (C6 : Value → World → Prop) (ρ : Env) (w : World) : (b7 R C6 (ρ 0) (ρ 1) (ρ 12) (ρ 13) w) = codeP Try.prog (pan R) p3 (q2 R C6) ρ w := by kernel_rfl
theorem b7_ok (R : Ending → World → Prop) (C6 : Value → World → Prop) (ρ : Env) (w : World) (h : b7 R C6 (ρ 0) (ρ 1) (ρ 12) (ρ 13) w) : codeP Try.prog (pan R) p3 (q2 R C6) ρ w := (b7_eq R C6 ρ w).mp h
/- x0 s1, x1 s2 -/
def l6 (R : Ending → World → Prop) (x0 x1 x12 x13 : Value) (w : World) (_r : Tok R := tok R) : Prop :=
  ∃ (J : Value → World → Prop) (μ : Value → World → Nat), J x13 w ∧ ∀ y13 w0, J y13 w0 → b7 R (fun z13 w1 => J z13 w1 ∧ μ z13 w1 < μ y13 w0) x0 x1 x12 y13 w0
abbrev q3 (R : Ending → World → Prop) : Exit → Env → World → Prop := QX (fun ρ w => b3 R  w) (fun ρ w => R (.returned (ρ 4)) w) [(0, (fun ρ w => b3 R  w))]
theorem l6_ok (R : Ending → World → Prop) (ρ : Env) (w : World) (h : l6 R (ρ 0) (ρ 1) (ρ 12) (ρ 13) w) : codeP Try.prog (pan R) (blkC p2) (q3 R) ρ w := by
  unfold l6 at h
  obtain ⟨J, μ, h0, hr⟩ := h
  have e : Code.loop (loopC (blkC p2)) = (blkC p2) := by kernel_rfl
  rw [← e]
  refine loopQ (fun ρ' w' => J (ρ' 13) w') (fun ρ' w' => μ (ρ' 13) w') h0 fun ρ' w' hA hI => ?_
  have e0 : ρ' 0 = ρ 0 := Agree.at hA 0 (by kernel_rfl)
  have e1 : ρ' 1 = ρ 1 := Agree.at hA 1 (by kernel_rfl)
  have e12 : ρ' 12 = ρ 12 := Agree.at hA 12 (by kernel_rfl)
  have h1 := hr (ρ' 13) w' hI
  rw [← e0, ← e1, ← e12] at h1
  exact b7_ok R (fun z13 w1 => J z13 w1 ∧ μ z13 w1 < μ (ρ' 13) w') ρ' w' h1
theorem l6_intro (R : Ending → World → Prop) (x0 x1 x12 x13 : Value) (w : World) (J : Value → World → Prop) (μ : Value → World → Nat) (h0 : J x13 w)
    (hr : ∀ y13 w0, J y13 w0 → ∀ C6 : Value → World → Prop, (∀ z13 w1, J z13 w1 → μ z13 w1 < μ y13 w0 → C6 z13 w1) → b7 R C6 x0 x1 x12 y13 w0) : l6 R x0 x1 x12 x13 w := by
  unfold l6
  exact ⟨J, μ, h0, fun y13 w0 hJ => hr y13 w0 hJ _ (fun z13 w1 h1 h2 => ⟨h1, h2⟩)⟩
abbrev q4 (R : Ending → World → Prop) : Exit → Env → World → Prop := QX (fun ρ w => b3 R  w) (fun ρ w => R (.returned (ρ 4)) w) []
theorem k5_ok (R : Ending → World → Prop) (ρ : Env) (w : World) (h : l6 R (ρ 0) (ρ 1) (ρ 12) (ρ 13) w) : codeP Try.prog (pan R) p2 (q4 R) ρ w := by
  have e : Code.block 0 (blkC p2) = p2 := by kernel_rfl
  rw [← e]
  exact blockQ (l6_ok R ρ w h)
/- x0 s1, x1 s2 -/
def b4 (R : Ending → World → Prop) (x0 x1 : Value) (w : World) (_r : Tok R := tok R) : Prop :=
  RUN Try.prog (pan R) (Builtin.len_ #[33] 3 #[x0]) w fun v1 w2 =>
  l6 R x0 x1 v1 (Go.Value.int Go.IntKind.i64 0) w2
abbrev q5 (R : Ending → World → Prop) : Exit → Env → World → Prop := QX (fun ρ w => l6 R (ρ 0) (ρ 1) (ρ 12) (ρ 13) w) (fun ρ w => R (.returned (ρ 4)) w) []
theorem b4_eq (R : Ending → World → Prop) (ρ : Env) (w : World) : (b4 R (ρ 0) (ρ 1) w) = codeP Try.prog (pan R) (preC 0 (fstC p1)) (q5 R) ρ w := by kernel_rfl
theorem b4_ok (R : Ending → World → Prop) (ρ : Env) (w : World) (h : b4 R (ρ 0) (ρ 1) w) : codeP Try.prog (pan R) (fstC p1) (q4 R) ρ w := by
  have e : appC 0 (preC 0 (fstC p1)) (dropC 1 (fstC p1)) = (fstC p1) := by kernel_rfl
  rw [← e]
  exact appQ (fun ρ w => l6 R (ρ 0) (ρ 1) (ρ 12) (ρ 13) w) 0 ((b4_eq R ρ w).mp h) (fun ρ w h => k5_ok R ρ w h)
theorem k2_ok (R : Ending → World → Prop) (ρ : Env) (w : World) (h : b4 R (ρ 0) (ρ 1) w) : codeP Try.prog (pan R) p1 (q1 R) ρ w := by
  have e : Code.seq (fstC p1) (sndC p1) = p1 := by kernel_rfl
  rw [← e]
  exact seqQ (fun ρ w => b3 R  w) (b4_ok R ρ w h) (fun ρ w h => b3_ok R ρ w h)
/- x0 s1, x1 s2 -/
def b1 (R : Ending → World → Prop) (x0 x1 : Value) (w : World) (_r : Tok R := tok R) : Prop :=
  RUN Try.prog (pan R) (Builtin.len_ #[33] 3 #[x0]) w fun v1 w2 =>
  RUN Try.prog (pan R) (Builtin.len_ #[33] 3 #[x1]) w2 fun v3 w4 =>
  RUN Try.prog (pan R) (bins .neq 3 (.tmp 7) (.tmp 9) v1 v3) w4 fun v5 w6 =>
  SPL v5
  (R (.returned (Go.Value.bool Bool.false)) w6)
  (b4 R x0 x1 w6)
abbrev q6 (R : Ending → World → Prop) : Exit → Env → World → Prop := QX (fun ρ w => b4 R (ρ 0) (ρ 1) w) (fun ρ w => R (.returned (ρ 4)) w) []
theorem b1_eq (R : Ending → World → Prop) (ρ : Env) (w : World) : (b1 R (ρ 0) (ρ 1) w) = codeP Try.prog (pan R) (preC 1 code) (q6 R) ρ w := by kernel_rfl
theorem b1_ok (R : Ending → World → Prop) (ρ : Env) (w : World) (h : b1 R (ρ 0) (ρ 1) w) : codeP Try.prog (pan R) code (q1 R) ρ w := by
  have e : appC 1 (preC 1 code) (dropC 2 code) = code := by kernel_rfl
  rw [← e]
  exact appQ (fun ρ w => b4 R (ρ 0) (ρ 1) w) 1 ((b1_eq R ρ w).mp h) (fun ρ w h => k2_ok R ρ w h)
/-- What is owed for a call. -/
def run (R : Ending → World → Prop) (a0 a1 : Value) (w : World) : Prop := b1 R a0 a1 w
theorem calls (R : Ending → World → Prop) (a0 a1 : Value) (w : World) (h : run R a0 a1 w) : Calls Try.prog id #[a0, a1] w R :=
  calls_of_t (f := id) (fn := Try.f48) (c := code) (by kernel_rfl) Try.func48 (by kernel_rfl) (by kernel_rfl) (args := [a0, a1]) (Nat.le_of_ble_eq_true rfl) rfl (b1_ok R (envOf [a0, a1]) w h)
theorem enters : Enters Try.prog id := fun args w => Try.call48 args w
theorem ct {a0 a1 : Value} {w : World} {S : Value → World → Prop} (h : ∀ R : Ending → World → Prop, (∀ v w, S v w → R (.returned v) w) → run R a0 a1 w) : Ct Try.prog id #[a0, a1] w S :=
  Ct.intro enters fun R hR => calls R a0 a1 w (h R hR)
attribute [irreducible] b3 b7_1 b7 l6 b4 b1 run
attribute [go_sem] b3 b7_1 b7 b4 b1 run
end slices_Equal_string_string

/-! ### slices.EqualFunc[[]presage/api.Prod,[]presage/api.Prod,presage/api.Prod,presage/api.Prod] -/
namespace slices_EqualFunc_api_Prod_api_Prod_api_Prod_api_Prod
noncomputable def code : Code := bodyOf Try.f49
noncomputable abbrev p1 : Code := dropC 2 code

def b3 (R : Ending → World → Prop) (w : World) (_r : Tok R := tok R) : Prop :=
  R (.returned (Go.Value.bool Bool.true)) w
abbrev q1 (R : Ending → World → Prop) : Exit → Env → World → Prop := QX (fun ρ w => R (.returned (ρ 6)) w) (fun ρ w => R (.returned (ρ 6)) w) []
theorem b3_eq (R : Ending → World → Prop) (ρ : Env) (w : World) : (b3 R w) = codeP Try.prog (pan R) (sndC p1) (q1 R) ρ w := by kernel_rfl
theorem b3_ok (R : Ending → World → Prop) (ρ : Env) (w : World) (h : b3 R w) : codeP Try.prog (pan R) (sndC p1) (q1 R) ρ w := (b3_eq R ρ w).mp h
noncomputable abbrev p2 : Code := dropC 1 (fstC p1)
noncomputable abbrev p3 : Code := loopC (blkC p2)
def b7_1 (R : Ending → World → Prop) (C6 : Value → World → Prop) (x17 v21 : Value) (w22 : World) (_r : Tok R := tok R) (_C6 : Tok C6 := tok C6) : Prop :=
  RUN Try.prog (pan R) (Op.unary .not v21) w22 fun v23 w24 =>
  SPL v23
  (R (.returned (Go.Value.bool Bool.false)) w24)
  (RUN Try.prog (pan R) (bins .add 3 (.tmp 17) (.const (Go.Value.int Go.IntKind.i64 1)) x17 (Go.Value.int Go.IntKind.i64 1)) w24 fun v25 w26 =>
  C6 v25 w26)
def b7_2 (R : Ending → World → Prop) (C6 : Value → World → Prop) (x1 x2 x15 x17 : Value) (w2 : World) (_r : Tok R := tok R) (_C6 : Tok C6 := tok C6) : Prop :=
  RUN Try.prog (pan R) (Instr.indexAt 34 x15 x17) w2 fun v3 w4 =>
  RUN Try.prog (pan R) (Instr.loadAt 59 v3) w4 fun v5 w6 =>
  RUN Try.prog (pan R) (Instr.alloc 59 true (.tuple #[])) w6 fun v7 w8 =>
  RUNU Try.prog (pan R) (Instr.storeAt 59 v7 v5) w8 fun w9 =>
  RUN Try.prog (pan R) (Instr.indexAt 34 x1 x17) w9 fun v10 w11 =>
  RUN Try.prog (pan R) (Instr.loadAt 59 v10) w11 fun v12 w13 =>
  RUN Try.prog (pan R) (Instr.alloc 59 true (.tuple #[])) w13 fun v14 w15 =>
  RUNU Try.prog (pan R) (Instr.storeAt 59 v14 v12) w15 fun w16 =>
  RUN Try.prog (pan R) (Instr.loadAt 59 v7) w16 fun v17 w18 =>
  RUN Try.prog (pan R) (Instr.loadAt 59 v14) w18 fun v19 w20 =>
  CALLY Try.prog (pan R) x2 [v17, v19] w20 fun v21 w22 =>
  b7_1 R C6 x17 v21 w22
/- x1 s2, x2 eq -/
def b7 (R : Ending → World → Prop) (C6 : Value → World → Prop) (x1 x2 x15 x16 x17 : Value) (w : World) (_r : Tok R := tok R) (_C6 : Tok C6 := tok C6) : Prop :=
  RUN Try.prog (pan R) (bins .lss 3 (.tmp 17) (.tmp 16) x17 x16) w fun v1 w2 =>
  SPL v1
  (b7_2 R C6 x1 x2 x15 x17 w2)
  (b3 R w2)
abbrev q2 (R : Ending → World → Prop) (C6 : Value → World → Prop) : Exit → Env → World → Prop := QX (fun ρ w => C6 (ρ 17) w) (fun ρ w => R (.returned (ρ 6)) w) [(0, (fun ρ w => b3 R  w))]
theorem b7_eq (R : Ending → World → Prop) (C6 : Value → World → Prop) (ρ : Env) (w : World) : (b7 R C6 (ρ 1) (ρ 2) (ρ 15) (ρ 16) (ρ 17) w) = codeP Try.prog (pan R) p3 (q2 R C6) ρ w := by kernel_rfl
theorem b7_ok (R : Ending → World → Prop) (C6 : Value → World → Prop) (ρ : Env) (w : World) (h : b7 R C6 (ρ 1) (ρ 2) (ρ 15) (ρ 16) (ρ 17) w) : codeP Try.prog (pan R) p3 (q2 R C6) ρ w := (b7_eq R C6 ρ w).mp h
/- x1 s2, x2 eq -/
def l6 (R : Ending → World → Prop) (x1 x2 x15 x16 x17 : Value) (w : World) (_r : Tok R := tok R) : Prop :=
  ∃ (J : Value → World → Prop) (μ : Value → World → Nat), J x17 w ∧ ∀ y17 w0, J y17 w0 → b7 R (fun z17 w1 => J z17 w1 ∧ μ z17 w1 < μ y17 w0) x1 x2 x15 x16 y17 w0
abbrev q3 (R : Ending → World → Prop) : Exit → Env → World → Prop := QX (fun ρ w => b3 R  w) (fun ρ w => R (.returned (ρ 6)) w) [(0, (fun ρ w => b3 R  w))]
theorem l6_ok (R : Ending → World → Prop) (ρ : Env) (w : World) (h : l6 R (ρ 1) (ρ 2) (ρ 15) (ρ 16) (ρ 17) w) : codeP Try.prog (pan R) (blkC p2) (q3 R) ρ w := by
  unfold l6 at h
  obtain ⟨J, μ, h0, hr⟩ := h
  have e : Code.loop (loopC (blkC p2)) = (blkC p2) := by kernel_rfl
  rw [← e]
  refine loopQ (fun ρ' w' => J (ρ' 17) w') (fun ρ' w' => μ (ρ' 17) w') h0 fun ρ' w' hA hI => ?_
  have e1 : ρ' 1 = ρ 1 := Agree.at hA 1 (by kernel_rfl)
  have e2 : ρ' 2 = ρ 2 := Agree.at hA 2 (by kernel_rfl)
  have e15 : ρ' 15 = ρ 15 := Agree.at hA 15 (by kernel_rfl)
  have e16 : ρ' 16 = ρ 16 := Agree.at hA 16 (by kernel_rfl)
  have h1 := hr (ρ' 17) w' hI
  rw [← e1, ← e2, ← e15, ← e16] at h1
  exact b7_ok R (fun z17 w1 => J z17 w1 ∧ μ z17 w1 < μ (ρ' 17) w') ρ' w' h1
theorem l6_intro (R : Ending → World → Prop) (x1 x2 x15 x16 x17 : Value) (w : World) (J : Value → World → Prop) (μ : Value → World → Nat) (h0 : J x17 w)
    (hr : ∀ y17 w0, J y17 w0 → ∀ C6 : Value → World → Prop, (∀ z17 w1, J z17 w1 → μ z17 w1 < μ y17 w0 → C6 z17 w1) → b7 R C6 x1 x2 x15 x16 y17 w0) : l6 R x1 x2 x15 x16 x17 w := by
  unfold l6
  exact ⟨J, μ, h0, fun y17 w0 hJ => hr y17 w0 hJ _ (fun z17 w1 h1 h2 => ⟨h1, h2⟩)⟩
abbrev q4 (R : Ending → World → Prop) : Exit → Env → World → Prop := QX (fun ρ w => b3 R  w) (fun ρ w => R (.returned (ρ 6)) w) []
theorem k5_ok (R : Ending → World → Prop) (ρ : Env) (w : World) (h : l6 R (ρ 1) (ρ 2) (ρ 15) (ρ 16) (ρ 17) w) : codeP Try.prog (pan R) p2 (q4 R) ρ w := by
  have e : Code.block 0 (blkC p2) = p2 := by kernel_rfl
  rw [← e]
  exact blockQ (l6_ok R ρ w h)
/- x0 s1, x1 s2, x2 eq -/
def b4 (R : Ending → World → Prop) (x0 x1 x2 : Value) (w : World) (_r : Tok R := tok R) : Prop :=
  RUN Try.prog (pan R) (Builtin.len_ #[34] 3 #[x0]) w fun v1 w2 =>
  l6 R x1 x2 x0 v1 (Go.Value.int Go.IntKind.i64 0) w2
abbrev q5 (R : Ending → World → Prop) : Exit → Env → World → Prop := QX (fun ρ w => l6 R (ρ 1) (ρ 2) (ρ 15) (ρ 16) (ρ 17) w) (fun ρ w => R (.returned (ρ 6)) w) []
theorem b4_eq (R : Ending → World → Prop) (ρ : Env) (w : World) : (b4 R (ρ 0) (ρ 1) (ρ 2) w) = codeP Try.prog (pan R) (preC 0 (fstC p1)) (q5 R) ρ w := by kernel_rfl
theorem b4_ok (R : Ending → World → Prop) (ρ : Env) (w : World) (h : b4 R (ρ 0) (ρ 1) (ρ 2) w) : codeP Try.prog (pan R) (fstC p1) (q4 R) ρ w := by
  have e : appC 0 (preC 0 (fstC p1)) (dropC 1 (fstC p1)) = (fstC p1) := by kernel_rfl
  rw [← e]
  exact appQ (fun ρ w => l6 R (ρ 1) (ρ 2) (ρ 15) (ρ 16) (ρ 17) w) 0 ((b4_eq R ρ w).mp h) (fun ρ w h => k5_ok R ρ w h)
theorem k2_ok (R : Ending → World → Prop) (ρ : Env) (w : World) (h : b4 R (ρ 0) (ρ 1) (ρ 2) w) : codeP Try.prog (pan R) p1 (q1 R) ρ w := by
  have e : Code.seq (fstC p1) (sndC p1) = p1 := by kernel_rfl
  rw [← e]
  exact seqQ (fun ρ w => b3 R  w) (b4_ok R ρ w h) (fun ρ w h => b3_ok R ρ w h)
/- x0 s1, x1 s2, x2 eq -/
def b1 (R : Ending → World → Prop) (x0 x1 x2 : Value) (w : World) (_r : Tok R := tok R) : Prop :=
  RUN Try.prog (pan R) (Builtin.len_ #[34] 3 #[x0]) w fun v1 w2 =>
  RUN Try.prog (pan R) (Builtin.len_ #[34] 3 #[x1]) w2 fun v3 w4 =>
  RUN Try.prog (pan R) (bins .neq 3 (.tmp 11) (.tmp 13) v1 v3) w4 fun v5 w6 =>
  SPL v5
  (R (.returned (Go.Value.bool Bool.false)) w6)
  (b4 R x0 x1 x2 w6)
abbrev q6 (R : Ending → World → Prop) : Exit → Env → World → Prop := QX (fun ρ w => b4 R (ρ 0) (ρ 1) (ρ 2) w) (fun ρ w => R (.returned (ρ 6)) w) []
theorem b1_eq (R : Ending → World → Prop) (ρ : Env) (w : World) : (b1 R (ρ 0) (ρ 1) (ρ 2) w) = codeP Try.prog (pan R) (preC 1 code) (q6 R) ρ w := by kernel_rfl
theorem b1_ok (R : Ending → World → Prop) (ρ : Env) (w : World) (h : b1 R (ρ 0) (ρ 1) (ρ 2) w) : codeP Try.prog (pan R) code (q1 R) ρ w := by
  have e : appC 1 (preC 1 code) (dropC 2 code) = code := by kernel_rfl
  rw [← e]
  exact appQ (fun ρ w => b4 R (ρ 0) (ρ 1) (ρ 2) w) 1 ((b1_eq R ρ w).mp h) (fun ρ w h => k2_ok R ρ w h)
/-- What is owed for a call. -/
def run (R : Ending → World → Prop) (a0 a1 a2 : Value) (w : World) : Prop := b1 R a0 a1 a2 w
theorem calls (R : Ending → World → Prop) (a0 a1 a2 : Value) (w : World) (h : run R a0 a1 a2 w) : Calls Try.prog id #[a0, a1, a2] w R :=
  calls_of_t (f := id) (fn := Try.f49) (c := code) (by kernel_rfl) Try.func49 (by kernel_rfl) (by kernel_rfl) (args := [a0, a1, a2]) (Nat.le_of_ble_eq_true rfl) rfl (b1_ok R (envOf [a0, a1, a2]) w h)
theorem enters : Enters Try.prog id := fun args w => Try.call49 args w
theorem ct {a0 a1 a2 : Value} {w : World} {S : Value → World → Prop} (h : ∀ R : Ending → World → Prop, (∀ v w, S v w → R (.returned v) w) → run R a0 a1 a2 w) : Ct Try.prog id #[a0, a1, a2] w S :=
  Ct.intro enters fun R hR => calls R a0 a1 a2 w (h R hR)
attribute [irreducible] b3 b7_1 b7_2 b7 l6 b4 b1 run
attribute [go_sem] b3 b7_1 b7_2 b7 b4 b1 run
end slices_EqualFunc_api_Prod_api_Prod_api_Prod_api_Prod

/-! ### slices.IsSorted[[]int,int] -/
namespace slices_IsSorted_int_int
noncomputable def code : Code := bodyOf Try.f56
noncomputable abbrev p1 : Code := dropC 1 code

def b3 (R : Ending → World → Prop) (w : World) (_r : Tok R := tok R) : Prop :=
  R (.returned (Go.Value.bool Bool.true)) w
abbrev q1 (R : Ending → World → Prop) : Exit → Env → World → Prop := QX (fun ρ w => R (.returned (ρ 2)) w) (fun ρ w => R (.returned (ρ 2)) w) []
theorem b3_eq (R : Ending → World → Prop) (ρ : Env) (w : World) : (b3 R w) = codeP Try.prog (pan R) (sndC p1) (q1 R) ρ w := by kernel_rfl
theorem b3_ok (R : Ending → World → Prop) (ρ : Env) (w : World) (h : b3 R w) : codeP Try.prog (pan R) (sndC p1) (q1 R) ρ w := (b3_eq R ρ w).mp h
noncomputable abbrev p2 : Code := dropC 1 (fstC p1)
noncomputable abbrev p3 : Code := loopC (blkC p2)
def b7_1 (R : Ending → World → Prop) (C6 : Value → World → Prop) (x0 x3 : Value) (w2 : World) (_r : Tok R := tok R) (_C6 : Tok C6 := tok C6) : Prop :=
  PUR Try.prog (Instr.indexAt 30 x0 x3) fun v3 =>
  LD Try.prog (Instr.loadAt 3 v3) (World.drew w2) fun v4 =>
  PUR Try.prog (bins .sub 3 (.tmp 16) (.const (Go.Value.int Go.IntKind.i64 1)) x3 (Go.Value.int Go.IntKind.i64 1)) fun v5 =>
  PUR Try.prog (Instr.indexAt 30 x0 v5) fun v6 =>
  LD Try.prog (Instr.loadAt 3 v6) (World.drew w2) fun v7 =>
  CALL Try.prog (pan R) cmp_Less_int.id #[v4, v7] (World.drew w2) fun v8 w9 =>
  SPL v8
  (R (.returned (Go.Value.bool Bool.false)) w9)
  (RUN Try.prog (pan R) (bins .sub 3 (.tmp 9) (.const (Go.Value.int Go.IntKind.i64 1)) x3 (Go.Value.int Go.IntKind.i64 1)) w9 fun v10 w11 =>
  C6 v10 w11)
/- x0 x, x3 i -/
def b7 (R : Ending → World → Prop) (C6 : Value → World → Prop) (x0 x3 : Value) (w : World) (_r : Tok R := tok R) (_C6 : Tok C6 := tok C6) : Prop :=
  RUN Try.prog (pan R) (bins .gtr 3 (.tmp 7) (.const (Go.Value.int Go.IntKind.i64 0)) x3 (Go.Value.int Go.IntKind.i64 0)) w fun v1 w2 =>
  SPL v1
  (b7_1 R C6 x0 x3 w2)
  (b3 R w2)
abbrev q2 (R : Ending → World → Prop) (C6 : Value → World → Prop) : Exit → Env → World → Prop := QX (fun ρ w => C6 (ρ 3) w) (fun ρ w => R (.returned (ρ 2)) w) [(0, (fun ρ w => b3 R  w))]
theorem b7_eq (R : Ending → World → Prop) (C6 : Value → World → Prop) (ρ : Env) (w : World) : (b7 R C6 (ρ 0) (ρ 3) w) = codeP Try.prog (pan R) p3 (q2 R C6) ρ w := by kernel_rfl
theorem b7_ok (R : Ending → World → Prop) (C6 : Value → World → Prop) (ρ : Env) (w : World) (h : b7 R C6 (ρ 0) (ρ 3) w) : codeP Try.prog (pan R) p3 (q2 R C6) ρ w := (b7_eq R C6 ρ w).mp h
/- x0 x, x3 i -/
def l6 (R : Ending → World → Prop) (x0 x3 : Value) (w : World) (_r : Tok R := tok R) : Prop :=
  ∃ (J : Value → World → Prop) (μ : Value → World → Nat), J x3 w ∧ ∀ y3 w0, J y3 w0 → b7 R (fun z3 w1 => J z3 w1 ∧ μ z3 w1 < μ y3 w0) x0 y3 w0
abbrev q3 (R : Ending → World → Prop) : Exit → Env → World → Prop := QX (fun ρ w => b3 R  w) (fun ρ w => R (.returned (ρ 2)) w) [(0, (fun ρ w => b3 R  w))]
theorem l6_ok (R : Ending → World → Prop) (ρ : Env) (w : World) (h : l6 R (ρ 0) (ρ 3) w) : codeP Try.prog (pan R) (blkC p2) (q3 R) ρ w := by
  unfold l6 at h
  obtain ⟨J, μ, h0, hr⟩ := h
  have e : Code.loop (loopC (blkC p2)) = (blkC p2) := by kernel_rfl
  rw [← e]
  refine loopQ (fun ρ' w' => J (ρ' 3) w') (fun ρ' w' => μ (ρ' 3) w') h0 fun ρ' w' hA hI => ?_
  have e0 : ρ' 0 = ρ 0 := Agree.at hA 0 (by kernel_rfl)
  have h1 := hr (ρ' 3) w' hI
  rw [← e0] at h1
  exact b7_ok R (fun z3 w1 => J z3 w1 ∧ μ z3 w1 < μ (ρ' 3) w') ρ' w' h1
theorem l6_intro (R : Ending → World → Prop) (x0 x3 : Value) (w : World) (J : Value → World → Prop) (μ : Value → World → Nat) (h0 : J x3 w)
    (hr : ∀ y3 w0, J y3 w0 → ∀ C6 : Value → World → Prop, (∀ z3 w1, J z3 w1 → μ z3 w1 < μ y3 w0 → C6 z3 w1) → b7 R C6 x0 y3 w0) : l6 R x0 x3 w := by
  unfold l6
  exact ⟨J, μ, h0, fun y3 w0 hJ => hr y3 w0 hJ _ (fun z3 w1 h1 h2 => ⟨h1, h2⟩)⟩
abbrev q4 (R : Ending → World → Prop) : Exit → Env → World → Prop := QX (fun ρ w => b3 R  w) (fun ρ w => R (.returned (ρ 2)) w) []
theorem k5_ok (R : Ending → World → Prop) (ρ : Env) (w : World) (h : l6 R (ρ 0) (ρ 3) w) : codeP Try.prog (pan R) p2 (q4 R) ρ w := by
  have e : Code.block 0 (blkC p2) = p2 := by kernel_rfl
  rw [← e]
  exact blockQ (l6_ok R ρ w h)
/- x0 x -/
def b4 (R : Ending → World → Prop) (x0 : Value) (w : World) (_r : Tok R := tok R) : Prop :=
  RUN Try.prog (pan R) (Builtin.len_ #[30] 3 #[x0]) w fun v1 w2 =>
  RUN Try.prog (pan R) (bins .sub 3 (.tmp 5) (.const (Go.Value.int Go.IntKind.i64 1)) v1 (Go.Value.int Go.IntKind.i64 1)) w2 fun v3 w4 =>
  l6 R x0 v3 w4
abbrev q5 (R : Ending → World → Prop) : Exit → Env → World → Prop := QX (fun ρ w => l6 R (ρ 0) (ρ 3) w) (fun ρ w => R (.returned (ρ 2)) w) []
theorem b4_eq (R : Ending → World → Prop) (ρ : Env) (w : World) : (b4 R (ρ 0) w) = codeP Try.prog (pan R) (preC 0 (fstC p1)) (q5 R) ρ w := by kernel_rfl
theorem b4_ok (R : Ending → World → Prop) (ρ : Env) (w : World) (h : b4 R (ρ 0) w) : codeP Try.prog (pan R) (fstC p1) (q4 R) ρ w := by
  have e : appC 0 (preC 0 (fstC p1)) (dropC 1 (fstC p1)) = (fstC p1) := by kernel_rfl
  rw [← e]
  exact appQ (fun ρ w => l6 R (ρ 0) (ρ 3) w) 0 ((b4_eq R ρ w).mp h) (fun ρ w h => k5_ok R ρ w h)
theorem k2_ok (R : Ending → World → Prop) (ρ : Env) (w : World) (h : b4 R (ρ 0) w) : codeP Try.prog (pan R) p1 (q1 R) ρ w := by
  have e : Code.seq (fstC p1) (sndC p1) = p1 := by kernel_rfl
  rw [← e]
  exact seqQ (fun ρ w => b3 R  w) (b4_ok R ρ w h) (fun ρ w h => b3_ok R ρ w h)
/- x0 x -/
def b1 (R : Ending → World → Prop) (x0 : Value) (w : World) (_r : Tok R := tok R) : Prop :=
  b4 R x0 w
abbrev q6 (R : Ending → World → Prop) : Exit → Env → World → Prop := QX (fun ρ w => b4 R (ρ 0) w) (fun ρ w => R (.returned (ρ 2)) w) []
theorem b1_eq (R : Ending → World → Prop) (ρ : Env) (w : World) : (b1 R (ρ 0) w) = codeP Try.prog (pan R) (preC 0 code) (q6 R) ρ w := by kernel_rfl
theorem b1_ok (R : Ending → World → Prop) (ρ : Env) (w : World) (h : b1 R (ρ 0) w) : codeP Try.prog (pan R) code (q1 R) ρ w := by
  have e : appC 0 (preC 0 code) (dropC 1 code) = code := by kernel_rfl
  rw [← e]
  exact appQ (fun ρ w => b4 R (ρ 0) w) 0 ((b1_eq R ρ w).mp h) (fun ρ w h => k2_ok R ρ w h)
/-- What is owed for a call. -/
def run (R : Ending → World → Prop) (a0 : Value) (w : World) : Prop := b1 R a0 w
theorem calls (R : Ending → World → Prop) (a0 : Value) (w : World) (h : run R a0 w) : Calls Try.prog id #[a0] w R :=
  calls_of_t (f := id) (fn := Try.f56) (c := code) (by kernel_rfl) Try.func56 (by kernel_rfl) (by kernel_rfl) (args := [a0]) (Nat.le_of_ble_eq_true rfl) rfl (b1_ok R (envOf [a0]) w h)
theorem enters : Enters Try.prog id := fun args w => Try.call56 args w
theorem ct {a0 : Value} {w : World} {S : Value → World → Prop} (h : ∀ R : Ending → World → Prop, (∀ v w, S v w → R (.returned v) w) → run R a0 w) : Ct Try.prog id #[a0] w S :=
  Ct.intro enters fun R hR => calls R a0 w (h R hR)
attribute [irreducible] b3 b7_1 b7 l6 b4 b1 run
attribute [go_sem] b3 b7_1 b7 b4 b1 run
end slices_IsSorted_int_int

/-! ### slices.Clip[[]presage/api.Term,presage/api.Term] -/
namespace slices_Clip_api_Term_api_Term
noncomputable def code : Code := bodyOf Try.f61
/- x0 s -/
def b1 (R : Ending → World → Prop) (x0 : Value) (w : World) (_r : Tok R := tok R) : Prop :=
  RUN Try.prog (pan R) (Builtin.len_ #[32] 3 #[x0]) w fun v1 w2 =>
  RUN Try.prog (pan R) (Builtin.len_ #[32] 3 #[x0]) w2 fun v3 w4 =>
  RUN Try.prog (pan R) (Instr.sliceAt 32 x0 none (some v1) (some v3)) w4 fun v5 w6 =>
  R (.returned v5) w6
abbrev q1 (R : Ending → World → Prop) : Exit → Env → World → Prop := QX (fun ρ w => R (.returned (ρ 2)) w) (fun ρ w => R (.returned (ρ 2)) w) []
theorem b1_eq (R : Ending → World → Prop) (ρ : Env) (w : World) : (b1 R (ρ 0) w) = codeP Try.prog (pan R) code (q1 R) ρ w := by kernel_rfl
theorem b1_ok (R : Ending → World → Prop) (ρ : Env) (w : World) (h : b1 R (ρ 0) w) : codeP Try.prog (pan R) code (q1 R) ρ w := (b1_eq R ρ w).mp h
/-- What is owed for a call. -/
def run (R : Ending → World → Prop) (a0 : Value) (w : World) : Prop := b1 R a0 w
theorem calls (R : Ending → World → Prop) (a0 : Value) (w : World) (h : run R a0 w) : Calls Try.prog id #[a0] w R :=
  calls_of_t (f := id) (fn := Try.f61) (c := code) (by kernel_rfl) Try.func61 (by kernel_rfl) (by kernel_rfl) (args := [a0]) (Nat.le_of_ble_eq_true rfl) rfl (b1_ok R (envOf [a0]) w h)
theorem enters : Enters Try.prog id := fun args w => Try.call61 args w
theorem ct {a0 : Value} {w : World} {S : Value → World → Prop} (h : ∀ R : Ending → World → Prop, (∀ v w, S v w → R (.returned v) w) → run R a0 w) : Ct Try.prog id #[a0] w S :=
  Ct.intro enters fun R hR => calls R a0 w (h R hR)
attribute [irreducible] b1 run
attribute [go_sem] b1 run
end slices_Clip_api_Term_api_Term

/-! ### slices.Clone[[]presage/api.Term,presage/api.Term] -/
namespace slices_Clone_api_Term_api_Term
noncomputable def code : Code := bodyOf Try.f62
def b1_1 (R : Ending → World → Prop) (x0 : Value) (w2 : World) (_r : Tok R := tok R) : Prop :=
  RUN Try.prog (pan R) (Instr.buildSlice 32 0 #[]) w2 fun v3 w4 =>
  RUN Try.prog (pan R) (Builtin.append_ #[32, 32] 32 #[v3, x0]) w4 fun v5 w6 =>
  R (.returned v5) w6
/- x0 s -/
def b1 (R : Ending → World → Prop) (x0 : Value) (w : World) (_r : Tok R := tok R) : Prop :=
  RUN Try.prog (pan R) (bins .eql 32 (.tmp 3) (.const (Go.Value.slice Option.none 0 0)) x0 (Go.Value.slice Option.none 0 0)) w fun v1 w2 =>
  SPL v1
  (R (.returned (Go.Value.slice Option.none 0 0)) w2)
  (b1_1 R x0 w2)
abbrev q1 (R : Ending → World → Prop) : Exit → Env → World → Prop := QX (fun ρ w => R (.returned (ρ 2)) w) (fun ρ w => R (.returned (ρ 2)) w) []
theorem b1_eq (R : Ending → World → Prop) (ρ : Env) (w : World) : (b1 R (ρ 0) w) = codeP Try.prog (pan R) code (q1 R) ρ w := by kernel_rfl
theorem b1_ok (R : Ending → World → Prop) (ρ : Env) (w : World) (h : b1 R (ρ 0) w) : codeP Try.prog (pan R) code (q1 R) ρ w := (b1_eq R ρ w).mp h
/-- What is owed for a call. -/
def run (R : Ending → World → Prop) (a0 : Value) (w : World) : Prop := b1 R a0 w
theorem calls (R : Ending → World → Prop) (a0 : Value) (w : World) (h : run R a0 w) : Calls Try.prog id #[a0] w R :=
  calls_of_t (f := id) (fn := Try.f62) (c := code) (by kernel_rfl) Try.func62 (by kernel_rfl) (by kernel_rfl) (args := [a0]) (Nat.le_of_ble_eq_true rfl) rfl (b1_ok R (envOf [a0]) w h)
theorem enters : Enters Try.prog id := fun args w => Try.call62 args w
theorem ct {a0 : Value} {w : World} {S : Value → World → Prop} (h : ∀ R : Ending → World → Prop, (∀ v w, S v w → R (.returned v) w) → run R a0 w) : Ct Try.prog id #[a0] w S :=
  Ct.intro enters fun R hR => calls R a0 w (h R hR)
attribute [irreducible] b1_1 b1 run
attribute [go_sem] b1_1 b1 run
end slices_Clone_api_Term_api_Term

/-! ### slices.Clip[[]string,string] -/
namespace slices_Clip_string_string
noncomputable def code : Code := bodyOf Try.f63
/- x0 s -/
def b1 (R : Ending → World → Prop) (x0 : Value) (w : World) (_r : Tok R := tok R) : Prop :=
  RUN Try.prog (pan R) (Builtin.len_ #[33] 3 #[x0]) w fun v1 w2 =>
  RUN Try.prog (pan R) (Builtin.len_ #[33] 3 #[x0]) w2 fun v3 w4 =>
  RUN Try.prog (pan R) (Instr.sliceAt 33 x0 none (some v1) (some v3)) w4 fun v5 w6 =>
  R (.returned v5) w6
abbrev q1 (R : Ending → World → Prop) : Exit → Env → World → Prop := QX (fun ρ w => R (.returned (ρ 2)) w) (fun ρ w => R (.returned (ρ 2)) w) []
theorem b1_eq (R : Ending → World → Prop) (ρ : Env) (w : World) : (b1 R (ρ 0) w) = codeP Try.prog (pan R) code (q1 R) ρ w := by kernel_rfl
theorem b1_ok (R : Ending → World → Prop) (ρ : Env) (w : World) (h : b1 R (ρ 0) w) : codeP Try.prog (pan R) code (q1 R) ρ w := (b1_eq R ρ w).mp h
/-- What is owed for a call. -/
def run (R : Ending → World → Prop) (a0 : Value) (w : World) : Prop := b1 R a0 w
theorem calls (R : Ending → World → Prop) (a0 : Value) (w : World) (h : run R a0 w) : Calls Try.prog id #[a0] w R :=
  calls_of_t (f := id) (fn := Try.f63) (c := code) (by kernel_rfl) Try.func63 (by kernel_rfl) (by kernel_rfl) (args := [a0]) (Nat.le_of_ble_eq_true rfl) rfl (b1_ok R (envOf [a0]) w h)
theorem enters : Enters Try.prog id := fun args w => Try.call63 args w
theorem ct {a0 : Value} {w : World} {S : Value → World → Prop} (h : ∀ R : Ending → World → Prop, (∀ v w, S v w → R (.returned v) w) → run R a0 w) : Ct Try.prog id #[a0] w S :=
  Ct.intro enters fun R hR => calls R a0 w (h R hR)
attribute [irreducible] b1 run
attribute [go_sem] b1 run
end slices_Clip_string_string

/-! ### slices.Clone[[]string,string] -/
namespace slices_Clone_string_string
noncomputable def code : Code := bodyOf Try.f64
def b1_1 (R : Ending → World → Prop) (x0 : Value) (w2 : World) (_r : Tok R := tok R) : Prop :=
  RUN Try.prog (pan R) (Instr.buildSlice 33 0 #[]) w2 fun v3 w4 =>
  RUN Try.prog (pan R) (Builtin.append_ #[33, 33] 33 #[v3, x0]) w4 fun v5 w6 =>
  R (.returned v5) w6
/- x0 s -/
def b1 (R : Ending → World → Prop) (x0 : Value) (w : World) (_r : Tok R := tok R) : Prop :=
  RUN Try.prog (pan R) (bins .eql 33 (.tmp 3) (.const (Go.Value.slice Option.none 0 0)) x0 (Go.Value.slice Option.none 0 0)) w fun v1 w2 =>
  SPL v1
  (R (.returned (Go.Value.slice Option.none 0 0)) w2)
  (b1_1 R x0 w2)
abbrev q1 (R : Ending → World → Prop) : Exit → Env → World → Prop := QX (fun ρ w => R (.returned (ρ 2)) w) (fun ρ w => R (.returned (ρ 2)) w) []
theorem b1_eq (R : Ending → World → Prop) (ρ : Env) (w : World) : (b1 R (ρ 0) w) = codeP Try.prog (pan R) code (q1 R) ρ w := by kernel_rfl
theorem b1_ok (R : Ending → World → Prop) (ρ : Env) (w : World) (h : b1 R (ρ 0) w) : codeP Try.prog (pan R) code (q1 R) ρ w := (b1_eq R ρ w).mp h
/-- What is owed for a call. -/
def run (R : Ending → World → Prop) (a0 : Value) (w : World) : Prop := b1 R a0 w
theorem calls (R : Ending → World → Prop) (a0 : Value) (w : World) (h : run R a0 w) : Calls Try.prog id #[a0] w R :=
  calls_of_t (f := id) (fn := Try.f64) (c := code) (by kernel_rfl) Try.func64 (by kernel_rfl) (by kernel_rfl) (args := [a0]) (Nat.le_of_ble_eq_true rfl) rfl (b1_ok R (envOf [a0]) w h)
theorem enters : Enters Try.prog id := fun args w => Try.call64 args w
theorem ct {a0 : Value} {w : World} {S : Value → World → Prop} (h : ∀ R : Ending → World → Prop, (∀ v w, S v w → R (.returned v) w) → run R a0 w) : Ct Try.prog id #[a0] w S :=
  Ct.intro enters fun R hR => calls R a0 w (h R hR)
attribute [irreducible] b1_1 b1 run
attribute [go_sem] b1_1 b1 run
end slices_Clone_string_string

/-! ### slices.Clip[[]int,int] -/
namespace slices_Clip_int_int
noncomputable def code : Code := bodyOf Try.f65
/- x0 s -/
def b1 (R : Ending → World → Prop) (x0 : Value) (w : World) (_r : Tok R := tok R) : Prop :=
  RUN Try.prog (pan R) (Builtin.len_ #[30] 3 #[x0]) w fun v1 w2 =>
  RUN Try.prog (pan R) (Builtin.len_ #[30] 3 #[x0]) w2 fun v3 w4 =>
  RUN Try.prog (pan R) (Instr.sliceAt 30 x0 none (some v1) (some v3)) w4 fun v5 w6 =>
  R (.returned v5) w6
abbrev q1 (R : Ending → World → Prop) : Exit → Env → World → Prop := QX (fun ρ w => R (.returned (ρ 2)) w) (fun ρ w => R (.returned (ρ 2)) w) []
theorem b1_eq (R : Ending → World → Prop) (ρ : Env) (w : World) : (b1 R (ρ 0) w) = codeP Try.prog (pan R) code (q1 R) ρ w := by kernel_rfl
theorem b1_ok (R : Ending → World → Prop) (ρ : Env) (w : World) (h : b1 R (ρ 0) w) : codeP Try.prog (pan R) code (q1 R) ρ w := (b1_eq R ρ w).mp h
/-- What is owed for a call. -/
def run (R : Ending → World → Prop) (a0 : Value) (w : World) : Prop := b1 R a0 w
theorem calls (R : Ending → World → Prop) (a0 : Value) (w : World) (h : run R a0 w) : Calls Try.prog id #[a0] w R :=
  calls_of_t (f := id) (fn := Try.f65) (c := code) (by kernel_rfl) Try.func65 (by kernel_rfl) (by kernel_rfl) (args := [a0]) (Nat.le_of_ble_eq_true rfl) rfl (b1_ok R (envOf [a0]) w h)
theorem enters : Enters Try.prog id := fun args w => Try.call65 args w
theorem ct {a0 : Value} {w : World} {S : Value → World → Prop} (h : ∀ R : Ending → World → Prop, (∀ v w, S v w → R (.returned v) w) → run R a0 w) : Ct Try.prog id #[a0] w S :=
  Ct.intro enters fun R hR => calls R a0 w (h R hR)
attribute [irreducible] b1 run
attribute [go_sem] b1 run
end slices_Clip_int_int

/-! ### slices.ContainsFunc[[]string,string] -/
namespace slices_ContainsFunc_string_string
noncomputable def code : Code := bodyOf Try.f76
/- x0 s, x1 f -/
def b1 (R : Ending → World → Prop) (x0 x1 : Value) (w : World) (_r : Tok R := tok R) : Prop :=
  CALL Try.prog (pan R) slices_IndexFunc_string_string.id #[x0, x1] w fun v1 w2 =>
  RUN Try.prog (pan R) (bins .geq 3 (.tmp 7) (.const (Go.Value.int Go.IntKind.i64 0)) v1 (Go.Value.int Go.IntKind.i64 0)) w2 fun v3 w4 =>
  R (.returned v3) w4
abbrev q1 (R : Ending → World → Prop) : Exit → Env → World → Prop := QX (fun ρ w => R (.returned (ρ 4)) w) (fun ρ w => R (.returned (ρ 4)) w) []
theorem b1_eq (R : Ending → World → Prop) (ρ : Env) (w : World) : (b1 R (ρ 0) (ρ 1) w) = codeP Try.prog (pan R) code (q1 R) ρ w := by kernel_rfl
theorem b1_ok (R : Ending → World → Prop) (ρ : Env) (w : World) (h : b1 R (ρ 0) (ρ 1) w) : codeP Try.prog (pan R) code (q1 R) ρ w := (b1_eq R ρ w).mp h
/-- What is owed for a call. -/
def run (R : Ending → World → Prop) (a0 a1 : Value) (w : World) : Prop := b1 R a0 a1 w
theorem calls (R : Ending → World → Prop) (a0 a1 : Value) (w : World) (h : run R a0 a1 w) : Calls Try.prog id #[a0, a1] w R :=
  calls_of_t (f := id) (fn := Try.f76) (c := code) (by kernel_rfl) Try.func76 (by kernel_rfl) (by kernel_rfl) (args := [a0, a1]) (Nat.le_of_ble_eq_true rfl) rfl (b1_ok R (envOf [a0, a1]) w h)
theorem enters : Enters Try.prog id := fun args w => Try.call76 args w
theorem ct {a0 a1 : Value} {w : World} {S : Value → World → Prop} (h : ∀ R : Ending → World → Prop, (∀ v w, S v w → R (.returned v) w) → run R a0 a1 w) : Ct Try.prog id #[a0, a1] w S :=
  Ct.intro enters fun R hR => calls R a0 a1 w (h R hR)
attribute [irreducible] b1 run
attribute [go_sem] b1 run
end slices_ContainsFunc_string_string

/-! ### slices.Contains[[]int,int] -/
namespace slices_Contains_int_int
noncomputable def code : Code := bodyOf Try.f78
/- x0 s, x1 v -/
def b1 (R : Ending → World → Prop) (x0 x1 : Value) (w : World) (_r : Tok R := tok R) : Prop :=
  CALL Try.prog (pan R) slices_Index_int_int.id #[x0, x1] w fun v1 w2 =>
  RUN Try.prog (pan R) (bins .geq 3 (.tmp 7) (.const (Go.Value.int Go.IntKind.i64 0)) v1 (Go.Value.int Go.IntKind.i64 0)) w2 fun v3 w4 =>
  R (.returned v3) w4
abbrev q1 (R : Ending → World → Prop) : Exit → Env → World → Prop := QX (fun ρ w => R (.returned (ρ 4)) w) (fun ρ w => R (.returned (ρ 4)) w) []
theorem b1_eq (R : Ending → World → Prop) (ρ : Env) (w : World) : (b1 R (ρ 0) (ρ 1) w) = codeP Try.prog (pan R) code (q1 R) ρ w := by kernel_rfl
theorem b1_ok (R : Ending → World → Prop) (ρ : Env) (w : World) (h : b1 R (ρ 0) (ρ 1) w) : codeP Try.prog (pan R) code (q1 R) ρ w := (b1_eq R ρ w).mp h
/-- What is owed for a call. -/
def run (R : Ending → World → Prop) (a0 a1 : Value) (w : World) : Prop := b1 R a0 a1 w
theorem calls (R : Ending → World → Prop) (a0 a1 : Value) (w : World) (h : run R a0 a1 w) : Calls Try.prog id #[a0, a1] w R :=
  calls_of_t (f := id) (fn := Try.f78) (c := code) (by kernel_rfl) Try.func78 (by kernel_rfl) (by kernel_rfl) (args := [a0, a1]) (Nat.le_of_ble_eq_true rfl) rfl (b1_ok R (envOf [a0, a1]) w h)
theorem enters : Enters Try.prog id := fun args w => Try.call78 args w
theorem ct {a0 a1 : Value} {w : World} {S : Value → World → Prop} (h : ∀ R : Ending → World → Prop, (∀ v w, S v w → R (.returned v) w) → run R a0 a1 w) : Ct Try.prog id #[a0, a1] w S :=
  Ct.intro enters fun R hR => calls R a0 a1 w (h R hR)
attribute [irreducible] b1 run
attribute [go_sem] b1 run
end slices_Contains_int_int

/-! ### cmp.Less[int] -/
namespace cmp_Less_int
noncomputable def code : Code := bodyOf Try.f79
def b1_1 (R : Ending → World → Prop) (x0 x1 v3 : Value) (w4 : World) (_r : Tok R := tok R) : Prop :=
  RUN Try.prog (pan R) (Op.unary .not v3) w4 fun v5 w6 =>
  SPL v5
  (R (.returned (Go.Value.bool Bool.true)) w6)
  (RUN Try.prog (pan R) (bins .lss 3 (.tmp 13) (.tmp 14) x0 x1) w6 fun v7 w8 =>
  R (.returned v7) w8)
def b1_2 (R : Ending → World → Prop) (x0 x1 v1 : Value) (w2 : World) (_r : Tok R := tok R) : Prop :=
  SPL v1
  (CALL Try.prog (pan R) cmp_isNaN_int.id #[x1] w2 fun v3 w4 =>
  b1_1 R x0 x1 v3 w4)
  (RUN Try.prog (pan R) (bins .lss 3 (.tmp 13) (.tmp 14) x0 x1) w2 fun v9 w10 =>
  R (.returned v9) w10)
/- x0 x, x1 y -/
def b1 (R : Ending → World → Prop) (x0 x1 : Value) (w : World) (_r : Tok R := tok R) : Prop :=
  CALL Try.prog (pan R) cmp_isNaN_int.id #[x0] w fun v1 w2 =>
  b1_2 R x0 x1 v1 w2
abbrev q1 (R : Ending → World → Prop) : Exit → Env → World → Prop := QX (fun ρ w => R (.returned (ρ 4)) w) (fun ρ w => R (.returned (ρ 4)) w) []
theorem b1_eq (R : Ending → World → Prop) (ρ : Env) (w : World) : (b1 R (ρ 0) (ρ 1) w) = codeP Try.prog (pan R) code (q1 R) ρ w := by kernel_rfl
theorem b1_ok (R : Ending → World → Prop) (ρ : Env) (w : World) (h : b1 R (ρ 0) (ρ 1) w) : codeP Try.prog (pan R) code (q1 R) ρ w := (b1_eq R ρ w).mp h
/-- What is owed for a call. -/
def run (R : Ending → World → Prop) (a0 a1 : Value) (w : World) : Prop := b1 R a0 a1 w
theorem calls (R : Ending → World → Prop) (a0 a1 : Value) (w : World) (h : run R a0 a1 w) : Calls Try.prog id #[a0, a1] w R :=
  calls_of_t (f := id) (fn := Try.f79) (c := code) (by kernel_rfl) Try.func79 (by kernel_rfl) (by kernel_rfl) (args := [a0, a1]) (Nat.le_of_ble_eq_true rfl) rfl (b1_ok R (envOf [a0, a1]) w h)
theorem enters : Enters Try.prog id := fun args w => Try.call79 args w
theorem ct {a0 a1 : Value} {w : World} {S : Value → World → Prop} (h : ∀ R : Ending → World → Prop, (∀ v w, S v w → R (.returned v) w) → run R a0 a1 w) : Ct Try.prog id #[a0, a1] w S :=
  Ct.intro enters fun R hR => calls R a0 a1 w (h R hR)
attribute [irreducible] b1_1 b1_2 b1 run
attribute [go_sem] b1_1 b1_2 b1 run
end cmp_Less_int

/-! ### slices.IndexFunc[[]string,string] -/
namespace slices_IndexFunc_string_string
noncomputable def code : Code := bodyOf Try.f92
noncomputable abbrev p1 : Code := dropC 1 code

def b3 (R : Ending → World → Prop) (w : World) (_r : Tok R := tok R) : Prop :=
  R (.returned (Go.Value.int Go.IntKind.i64 (-1))) w
abbrev q1 (R : Ending → World → Prop) : Exit → Env → World → Prop := QX (fun ρ w => R (.returned (ρ 4)) w) (fun ρ w => R (.returned (ρ 4)) w) []
theorem b3_eq (R : Ending → World → Prop) (ρ : Env) (w : World) : (b3 R w) = codeP Try.prog (pan R) (sndC p1) (q1 R) ρ w := by kernel_rfl
theorem b3_ok (R : Ending → World → Prop) (ρ : Env) (w : World) (h : b3 R w) : codeP Try.prog (pan R) (sndC p1) (q1 R) ρ w := (b3_eq R ρ w).mp h
noncomputable abbrev p2 : Code := dropC 1 (fstC p1)
noncomputable abbrev p3 : Code := loopC (blkC p2)
def b7_1 (R : Ending → World → Prop) (C6 : Value → World → Prop) (x0 x1 x8 : Value) (w2 : World) (_r : Tok R := tok R) (_C6 : Tok C6 := tok C6) : Prop :=
  RUN Try.prog (pan R) (Instr.indexAt 33 x0 x8) w2 fun v3 w4 =>
  RUN Try.prog (pan R) (Instr.loadAt 9 v3) w4 fun v5 w6 =>
  CALLY Try.prog (pan R) x1 [v5] w6 fun v7 w8 =>
  SPL v7
  (R (.returned x8) w8)
  (RUN Try.prog (pan R) (bins .add 3 (.tmp 8) (.const (Go.Value.int Go.IntKind.i64 1)) x8 (Go.Value.int Go.IntKind.i64 1)) w8 fun v9 w10 =>
  C6 v9 w10)
/- x0 s, x1 f -/
def b7 (R : Ending → World → Prop) (C6 : Value → World → Prop) (x0 x1 x7 x8 : Value) (w : World) (_r : Tok R := tok R) (_C6 : Tok C6 := tok C6) : Prop :=
  RUN Try.prog (pan R) (bins .lss 3 (.tmp 8) (.tmp 7) x8 x7) w fun v1 w2 =>
  SPL v1
  (b7_1 R C6 x0 x1 x8 w2)
  (b3 R w2)
abbrev q2 (R : Ending → World → Prop) (C6 : Value → World → Prop) : Exit → Env → World → Prop := QX (fun ρ w => C6 (ρ 8) w) (fun ρ w => R (.returned (ρ 4)) w) [(0, (fun ρ w => b3 R  w))]
theorem b7_eq (R : Ending → World → Prop) (C6 : Value → World → Prop) (ρ : Env) (w : World) : (b7 R C6 (ρ 0) (ρ 1) (ρ 7) (ρ 8) w) = codeP Try.prog (pan R) p3 (q2 R C6) ρ w := by kernel_rfl
theorem b7_ok (R : Ending → World → Prop) (C6 : Value → World → Prop) (ρ : Env) (w : World) (h : b7 R C6 (ρ 0) (ρ 1) (ρ 7) (ρ 8) w) : codeP Try.prog (pan R) p3 (q2 R C6) ρ w := (b7_eq R C6 ρ w).mp h
/- x0 s, x1 f -/
def l6 (R : Ending → World → Prop) (x0 x1 x7 x8 : Value) (w : World) (_r : Tok R := tok R) : Prop :=
  ∃ (J : Value → World → Prop) (μ : Value → World → Nat), J x8 w ∧ ∀ y8 w0, J y8 w0 → b7 R (fun z8 w1 => J z8 w1 ∧ μ z8 w1 < μ y8 w0) x0 x1 x7 y8 w0
abbrev q3 (R : Ending → World → Prop) : Exit → Env → World → Prop := QX (fun ρ w => b3 R  w) (fun ρ w => R (.returned (ρ 4)) w) [(0, (fun ρ w => b3 R  w))]
theorem l6_ok (R : Ending → World → Prop) (ρ : Env) (w : World) (h : l6 R (ρ 0) (ρ 1) (ρ 7) (ρ 8) w) : codeP Try.prog (pan R) (blkC p2) (q3 R) ρ w := by
  unfold l6 at h
  obtain ⟨J, μ, h0, hr⟩ := h
  have e : Code.loop (loopC (blkC p2)) = (blkC p2) := by kernel_rfl
  rw [← e]
  refine loopQ (fun ρ' w' => J (ρ' 8) w') (fun ρ' w' => μ (ρ' 8) w') h0 fun ρ' w' hA hI => ?_
  have e0 : ρ' 0 = ρ 0 := Agree.at hA 0 (by kernel_rfl)
  have e1 : ρ' 1 = ρ 1 := Agree.at hA 1 (by kernel_rfl)
  have e7 : ρ' 7 = ρ 7 := Agree.at hA 7 (by kernel_rfl)
  have h1 := hr (ρ' 8) w' hI
  rw [← e0, ← e1, ← e7] at h1
  exact b7_ok R (fun z8 w1 => J z8 w1 ∧ μ z8 w1 < μ (ρ' 8) w') ρ' w' h1
theorem l6_intro (R : Ending → World → Prop) (x0 x1 x7 x8 : Value) (w : World) (J : Value → World → Prop) (μ : Value → World → Nat) (h0 : J x8 w)
    (hr : ∀ y8 w0, J y8 w0 → ∀ C6 : Value → World → Prop, (∀ z8 w1, J z8 w1 → μ z8 w1 < μ y8 w0 → C6 z8 w1) → b7 R C6 x0 x1 x7 y8 w0) : l6 R x0 x1 x7 x8 w := by
  unfold l6
  exact ⟨J, μ, h0, fun y8 w0 hJ => hr y8 w0 hJ _ (fun z8 w1 h1 h2 => ⟨h1, h2⟩)⟩
abbrev q4 (R : Ending → World → Prop) : Exit → Env → World → Prop := QX (fun ρ w => b3 R  w) (fun ρ w => R (.returned (ρ 4)) w) []
theorem k5_ok (R : Ending → World → Prop) (ρ : Env) (w : World) (h : l6 R (ρ 0) (ρ 1) (ρ 7) (ρ 8) w) : codeP Try.prog (pan R) p2 (q4 R) ρ w := by
  have e : Code.block 0 (blkC p2) = p2 := by kernel_rfl
  rw [← e]
  exact blockQ (l6_ok R ρ w h)
/- x0 s, x1 f -/
def b4 (R : Ending → World → Prop) (x0 x1 : Value) (w : World) (_r : Tok R := tok R) : Prop :=
  RUN Try.prog (pan R) (Builtin.len_ #[33] 3 #[x0]) w fun v1 w2 =>
  l6 R x0 x1 v1 (Go.Value.int Go.IntKind.i64 0) w2
abbrev q5 (R : Ending → World → Prop) : Exit → Env → World → Prop := QX (fun ρ w => l6 R (ρ 0) (ρ 1) (ρ 7) (ρ 8) w) (fun ρ w => R (.returned (ρ 4)) w) []
theorem b4_eq (R : Ending → World → Prop) (ρ : Env) (w : World) : (b4 R (ρ 0) (ρ 1) w) = codeP Try.prog (pan R) (preC 0 (fstC p1)) (q5 R) ρ w := by kernel_rfl
theorem b4_ok (R : Ending → World → Prop) (ρ : Env) (w : World) (h : b4 R (ρ 0) (ρ 1) w) : codeP Try.prog (pan R) (fstC p1) (q4 R) ρ w := by
  have e : appC 0 (preC 0 (fstC p1)) (dropC 1 (fstC p1)) = (fstC p1) := by kernel_rfl
  rw [← e]
  exact appQ (fun ρ w => l6 R (ρ 0) (ρ 1) (ρ 7) (ρ 8) w) 0 ((b4_eq R ρ w).mp h) (fun ρ w h => k5_ok R ρ w h)
theorem k2_ok (R : Ending → World → Prop) (ρ : Env) (w : World) (h : b4 R (ρ 0) (ρ 1) w) : codeP Try.prog (pan R) p1 (q1 R) ρ w := by
  have e : Code.seq (fstC p1) (sndC p1) = p1 := by kernel_rfl
  rw [← e]
  exact seqQ (fun ρ w => b3 R  w) (b4_ok R ρ w h) (fun ρ w h => b3_ok R ρ w h)
/- x0 s, x1 f -/
def b1 (R : Ending → World → Prop) (x0 x1 : Value) (w : World) (_r : Tok R := tok R) : Prop :=
  b4 R x0 x1 w
abbrev q6 (R : Ending → World → Prop) : Exit → Env → World → Prop := QX (fun ρ w => b4 R (ρ 0) (ρ 1) w) (fun ρ w => R (.returned (ρ 4)) w) []
theorem b1_eq (R : Ending → World → Prop) (ρ : Env) (w : World) : (b1 R (ρ 0) (ρ 1) w) = codeP Try.prog (pan R) (preC 0 code) (q6 R) ρ w := by kernel_rfl
theorem b1_ok (R : Ending → World → Prop) (ρ : Env) (w : World) (h : b1 R (ρ 0) (ρ 1) w) : codeP Try.prog (pan R) code (q1 R) ρ w := by
  have e : appC 0 (preC 0 code) (dropC 1 code) = code := by kernel_rfl
  rw [← e]
  exact appQ (fun ρ w => b4 R (ρ 0) (ρ 1) w) 0 ((b1_eq R ρ w).mp h) (fun ρ w h => k2_ok R ρ w h)
/-- What is owed for a call. -/
def run (R : Ending → World → Prop) (a0 a1 : Value) (w : World) : Prop := b1 R a0 a1 w
theorem calls (R : Ending → World → Prop) (a0 a1 : Value) (w : World) (h : run R a0 a1 w) : Calls Try.prog id #[a0, a1] w R :=
  calls_of_t (f := id) (fn := Try.f92) (c := code) (by kernel_rfl) Try.func92 (by kernel_rfl) (by kernel_rfl) (args := [a0, a1]) (Nat.le_of_ble_eq_true rfl) rfl (b1_ok R (envOf [a0, a1]) w h)
theorem enters : Enters Try.prog id := fun args w => Try.call92 args w
theorem ct {a0 a1 : Value} {w : World} {S : Value → World → Prop} (h : ∀ R : Ending → World → Prop, (∀ v w, S v w → R (.returned v) w) → run R a0 a1 w) : Ct Try.prog id #[a0, a1] w S :=
  Ct.intro enters fun R hR => calls R a0 a1 w (h R hR)
attribute [irreducible] b3 b7_1 b7 l6 b4 b1 run
attribute [go_sem] b3 b7_1 b7 b4 b1 run
end slices_IndexFunc_string_string

/-! ### slices.Index[[]int,int] -/
namespace slices_Index_int_int
noncomputable def code : Code := bodyOf Try.f93
noncomputable abbrev p1 : Code := dropC 1 code

def b3 (R : Ending → World → Prop) (w : World) (_r : Tok R := tok R) : Prop :=
  R (.returned (Go.Value.int Go.IntKind.i64 (-1))) w
abbrev q1 (R : Ending → World → Prop) : Exit → Env → World → Prop := QX (fun ρ w => R (.returned (ρ 4)) w) (fun ρ w => R (.returned (ρ 4)) w) []
theorem b3_eq (R : Ending → World → Prop) (ρ : Env) (w : World) : (b3 R w) = codeP Try.prog (pan R) (sndC p1) (q1 R) ρ w := by kernel_rfl
theorem b3_ok (R : Ending → World → Prop) (ρ : Env) (w : World) (h : b3 R w) : codeP Try.prog (pan R) (sndC p1) (q1 R) ρ w := (b3_eq R ρ w).mp h
noncomputable abbrev p2 : Code := dropC 1 (fstC p1)
noncomputable abbrev p3 : Code := loopC (blkC p2)
def b7_1 (R : Ending → World → Prop) (C6 : Value → World → Prop) (x0 x1 x8 : Value) (w2 : World) (_r : Tok R := tok R) (_C6 : Tok C6 := tok C6) : Prop :=
  RUN Try.prog (pan R) (Instr.indexAt 30 x0 x8) w2 fun v3 w4 =>
  RUN Try.prog (pan R) (Instr.loadAt 3 v3) w4 fun v5 w6 =>
  RUN Try.prog (pan R) (bins .eql 3 (.tmp 11) (.tmp 15) x1 v5) w6 fun v7 w8 =>
  SPL v7
  (R (.returned x8) w8)
  (RUN Try.prog (pan R) (bins .add 3 (.tmp 8) (.const (Go.Value.int Go.IntKind.i64 1)) x8 (Go.Value.int Go.IntKind.i64 1)) w8 fun v9 w10 =>
  C6 v9 w10)
/- x0 s, x1 v -/
def b7 (R : Ending → World → Prop) (C6 : Value → World → Prop) (x0 x1 x7 x8 : Value) (w : World) (_r : Tok R := tok R) (_C6 : Tok C6 := tok C6) : Prop :=
  RUN Try.prog (pan R) (bins .lss 3 (.tmp 8) (.tmp 7) x8 x7) w fun v1 w2 =>
  SPL v1
  (b7_1 R C6 x0 x1 x8 w2)
  (b3 R w2)
abbrev q2 (R : Ending → World → Prop) (C6 : Value → World → Prop) : Exit → Env → World → Prop := QX (fun ρ w => C6 (ρ 8) w) (fun ρ w => R (.returned (ρ 4)) w) [(0, (fun ρ w => b3 R  w))]
theorem b7_eq (R : Ending → World → Prop) (C6 : Value → World → Prop) (ρ : Env) (w : World) : (b7 R C6 (ρ 0) (ρ 1) (ρ 7) (ρ 8) w) = codeP Try.prog (pan R) p3 (q2 R C6) ρ w := by kernel_rfl
theorem b7_ok (R : Ending → World → Prop) (C6 : Value → World → Prop) (ρ : Env) (w : World) (h : b7 R C6 (ρ 0) (ρ 1) (ρ 7) (ρ 8) w) : codeP Try.prog (pan R) p3 (q2 R C6) ρ w := (b7_eq R C6 ρ w).mp h
/- x0 s, x1 v -/
def l6 (R : Ending → World → Prop) (x0 x1 x7 x8 : Value) (w : World) (_r : Tok R := tok R) : Prop :=
  ∃ (J : Value → World → Prop) (μ : Value → World → Nat), J x8 w ∧ ∀ y8 w0, J y8 w0 → b7 R (fun z8 w1 => J z8 w1 ∧ μ z8 w1 < μ y8 w0) x0 x1 x7 y8 w0
abbrev q3 (R : Ending → World → Prop) : Exit → Env → World → Prop := QX (fun ρ w => b3 R  w) (fun ρ w => R (.returned (ρ 4)) w) [(0, (fun ρ w => b3 R  w))]
theorem l6_ok (R : Ending → World → Prop) (ρ : Env) (w : World) (h : l6 R (ρ 0) (ρ 1) (ρ 7) (ρ 8) w) : codeP Try.prog (pan R) (blkC p2) (q3 R) ρ w := by
  unfold l6 at h
  obtain ⟨J, μ, h0, hr⟩ := h
  have e : Code.loop (loopC (blkC p2)) = (blkC p2) := by kernel_rfl
  rw [← e]
  refine loopQ (fun ρ' w' => J (ρ' 8) w') (fun ρ' w' => μ (ρ' 8) w') h0 fun ρ' w' hA hI => ?_
  have e0 : ρ' 0 = ρ 0 := Agree.at hA 0 (by kernel_rfl)
  have e1 : ρ' 1 = ρ 1 := Agree.at hA 1 (by kernel_rfl)
  have e7 : ρ' 7 = ρ 7 := Agree.at hA 7 (by kernel_rfl)
  have h1 := hr (ρ' 8) w' hI
  rw [← e0, ← e1, ← e7] at h1
  exact b7_ok R (fun z8 w1 => J z8 w1 ∧ μ z8 w1 < μ (ρ' 8) w') ρ' w' h1
theorem l6_intro (R : Ending → World → Prop) (x0 x1 x7 x8 : Value) (w : World) (J : Value → World → Prop) (μ : Value → World → Nat) (h0 : J x8 w)
    (hr : ∀ y8 w0, J y8 w0 → ∀ C6 : Value → World → Prop, (∀ z8 w1, J z8 w1 → μ z8 w1 < μ y8 w0 → C6 z8 w1) → b7 R C6 x0 x1 x7 y8 w0) : l6 R x0 x1 x7 x8 w := by
  unfold l6
  exact ⟨J, μ, h0, fun y8 w0 hJ => hr y8 w0 hJ _ (fun z8 w1 h1 h2 => ⟨h1, h2⟩)⟩
abbrev q4 (R : Ending → World → Prop) : Exit → Env → World → Prop := QX (fun ρ w => b3 R  w) (fun ρ w => R (.returned (ρ 4)) w) []
theorem k5_ok (R : Ending → World → Prop) (ρ : Env) (w : World) (h : l6 R (ρ 0) (ρ 1) (ρ 7) (ρ 8) w) : codeP Try.prog (pan R) p2 (q4 R) ρ w := by
  have e : Code.block 0 (blkC p2) = p2 := by kernel_rfl
  rw [← e]
  exact blockQ (l6_ok R ρ w h)
/- x0 s, x1 v -/
def b4 (R : Ending → World → Prop) (x0 x1 : Value) (w : World) (_r : Tok R := tok R) : Prop :=
  RUN Try.prog (pan R) (Builtin.len_ #[30] 3 #[x0]) w fun v1 w2 =>
  l6 R x0 x1 v1 (Go.Value.int Go.IntKind.i64 0) w2
abbrev q5 (R : Ending → World → Prop) : Exit → Env → World → Prop := QX (fun ρ w => l6 R (ρ 0) (ρ 1) (ρ 7) (ρ 8) w) (fun ρ w => R (.returned (ρ 4)) w) []
theorem b4_eq (R : Ending → World → Prop) (ρ : Env) (w : World) : (b4 R (ρ 0) (ρ 1) w) = codeP Try.prog (pan R) (preC 0 (fstC p1)) (q5 R) ρ w := by kernel_rfl
theorem b4_ok (R : Ending → World → Prop) (ρ : Env) (w : World) (h : b4 R (ρ 0) (ρ 1) w) : codeP Try.prog (pan R) (fstC p1) (q4 R) ρ w := by
  have e : appC 0 (preC 0 (fstC p1)) (dropC 1 (fstC p1)) = (fstC p1) := by kernel_rfl
  rw [← e]
  exact appQ (fun ρ w => l6 R (ρ 0) (ρ 1) (ρ 7) (ρ 8) w) 0 ((b4_eq R ρ w).mp h) (fun ρ w h => k5_ok R ρ w h)
theorem k2_ok (R : Ending → World → Prop) (ρ : Env) (w : World) (h : b4 R (ρ 0) (ρ 1) w) : codeP Try.prog (pan R) p1 (q1 R) ρ w := by
  have e : Code.seq (fstC p1) (sndC p1) = p1 := by kernel_rfl
  rw [← e]
  exact seqQ (fun ρ w => b3 R  w) (b4_ok R ρ w h) (fun ρ w h => b3_ok R ρ w h)
/- x0 s, x1 v -/
def b1 (R : Ending → World → Prop) (x0 x1 : Value) (w : World) (_r : Tok R := tok R) : Prop :=
  b4 R x0 x1 w
abbrev q6 (R : Ending → World → Prop) : Exit → Env → World → Prop := QX (fun ρ w => b4 R (ρ 0) (ρ 1) w) (fun ρ w => R (.returned (ρ 4)) w) []
theorem b1_eq (R : Ending → World → Prop) (ρ : Env) (w : World) : (b1 R (ρ 0) (ρ 1) w) = codeP Try.prog (pan R) (preC 0 code) (q6 R) ρ w := by kernel_rfl
theorem b1_ok (R : Ending → World → Prop) (ρ : Env) (w : World) (h : b1 R (ρ 0) (ρ 1) w) : codeP Try.prog (pan R) code (q1 R) ρ w := by
  have e : appC 0 (preC 0 code) (dropC 1 code) = code := by kernel_rfl
  rw [← e]
  exact appQ (fun ρ w => b4 R (ρ 0) (ρ 1) w) 0 ((b1_eq R ρ w).mp h) (fun ρ w h => k2_ok R ρ w h)
/-- What is owed for a call. -/
def run (R : Ending → World → Prop) (a0 a1 : Value) (w : World) : Prop := b1 R a0 a1 w
theorem calls (R : Ending → World → Prop) (a0 a1 : Value) (w : World) (h : run R a0 a1 w) : Calls Try.prog id #[a0, a1] w R :=
  calls_of_t (f := id) (fn := Try.f93) (c := code) (by kernel_rfl) Try.func93 (by kernel_rfl) (by kernel_rfl) (args := [a0, a1]) (Nat.le_of_ble_eq_true rfl) rfl (b1_ok R (envOf [a0, a1]) w h)
theorem enters : Enters Try.prog id := fun args w => Try.call93 args w
theorem ct {a0 a1 : Value} {w : World} {S : Value → World → Prop} (h : ∀ R : Ending → World → Prop, (∀ v w, S v w → R (.returned v) w) → run R a0 a1 w) : Ct Try.prog id #[a0, a1] w S :=
  Ct.intro enters fun R hR => calls R a0 a1 w (h R hR)
attribute [irreducible] b3 b7_1 b7 l6 b4 b1 run
attribute [go_sem] b3 b7_1 b7 b4 b1 run
end slices_Index_int_int

/-! ### cmp.isNaN[int] -/
namespace cmp_isNaN_int
noncomputable def code : Code := bodyOf Try.f94
/- x0 x -/
def b1 (R : Ending → World → Prop) (x0 : Value) (w : World) (_r : Tok R := tok R) : Prop :=
  RUN Try.prog (pan R) (bins .neq 3 (.tmp 3) (.tmp 4) x0 x0) w fun v1 w2 =>
  R (.returned v1) w2
abbrev q1 (R : Ending → World → Prop) : Exit → Env → World → Prop := QX (fun ρ w => R (.returned (ρ 2)) w) (fun ρ w => R (.returned (ρ 2)) w) []
theorem b1_eq (R : Ending → World → Prop) (ρ : Env) (w : World) : (b1 R (ρ 0) w) = codeP Try.prog (pan R) code (q1 R) ρ w := by kernel_rfl
theorem b1_ok (R : Ending → World → Prop) (ρ : Env) (w : World) (h : b1 R (ρ 0) w) : codeP Try.prog (pan R) code (q1 R) ρ w := (b1_eq R ρ w).mp h
/-- What is owed for a call. -/
def run (R : Ending → World → Prop) (a0 : Value) (w : World) : Prop := b1 R a0 w
theorem calls (R : Ending → World → Prop) (a0 : Value) (w : World) (h : run R a0 w) : Calls Try.prog id #[a0] w R :=
  calls_of_t (f := id) (fn := Try.f94) (c := code) (by kernel_rfl) Try.func94 (by kernel_rfl) (by kernel_rfl) (args := [a0]) (Nat.le_of_ble_eq_true rfl) rfl (b1_ok R (envOf [a0]) w h)
theorem enters : Enters Try.prog id := fun args w => Try.call94 args w
theorem ct {a0 : Value} {w : World} {S : Value → World → Prop} (h : ∀ R : Ending → World → Prop, (∀ v w, S v w → R (.returned v) w) → run R a0 w) : Ct Try.prog id #[a0] w S :=
  Ct.intro enters fun R hR => calls R a0 w (h R hR)
attribute [irreducible] b1 run
attribute [go_sem] b1 run
end cmp_isNaN_int
end Go.Proofs.Ytmhebgebfjnfjaa
