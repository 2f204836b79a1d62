import Derived.Test.YtgjifldciinehaaDoorT03Ids
/- Shallow programs, written by a program of ours (gen.py) off the translation; each is tied to the code by the kernel. -/
set_option linter.unusedVariables false
set_option maxRecDepth 100000
namespace Go.Proofs.YtgjifldciinehaaDoor
open Go.Px

/-! ### presage/presagelaw03.ScanReads -/
namespace law03_ScanReads
noncomputable def code : Code := bodyOf Tryd.f3
noncomputable abbrev p1 : Code := dropC 4 code
noncomputable abbrev p2 : Code := dropC 1 p1
noncomputable abbrev p3 : Code := sndC (sndC p2)
/- x0 text, x3 r, x4 at -/
def b5 (R : Ending → World → Prop) (x0 x3 x4 : Value) (w : World) (_r : Tok R := tok R) : Prop :=
  CALL Tryd.prog (pan R) scan_Words.id #[x0] w fun v1 w2 =>
  RUN Tryd.prog (pan R) (Instr.extract v1 0) w2 fun v3 w4 =>
  RUN Tryd.prog (pan R) (Instr.extract v1 1) w4 fun v5 w6 =>
  RUN Tryd.prog (pan R) (Instr.alloc 30 true (.tuple #[])) w6 fun v7 w8 =>
  RUNU Tryd.prog (pan R) (Instr.storeAt 30 v7 v5) w8 fun w9 =>
  RUN Tryd.prog (pan R) (Instr.loadAt 30 v7) w9 fun v10 w11 =>
  CALL Tryd.prog (pan R) law03_bad.id #[v10, x4] w11 fun v12 w13 =>
  SPL v12
  (CALL Tryd.prog (pan R) law03_are.id #[v3, x3] w13 fun v14 w15 =>
  R (.returned v14) w15)
  (R (.returned (Go.Value.bool Bool.false)) w13)
abbrev q1 (R : Ending → World → Prop) : Exit → Env → World → Prop := QX (fun ρ w => R (.returned (ρ 2)) w) (fun ρ w => R (.returned (ρ 2)) w) []
theorem b5_eq (R : Ending → World → Prop) (ρ : Env) (w : World) : (b5 R (ρ 0) (ρ 3) (ρ 4) w) = codeP Tryd.prog (pan R) p3 (q1 R) ρ w := by kernel_rfl
theorem b5_ok (R : Ending → World → Prop) (ρ : Env) (w : World) (h : b5 R (ρ 0) (ρ 3) (ρ 4) w) : codeP Tryd.prog (pan R) p3 (q1 R) ρ w := (b5_eq R ρ w).mp h
noncomputable abbrev p4 : Code := fstC (sndC p2)
noncomputable abbrev p5 : Code := dropC 1 p4
noncomputable abbrev p6 : Code := loopC (blkC p5)
/- x0 text, x3 r, x4 at, x5 l, x7 i -/
def b9 (R : Ending → World → Prop) (C8 : Value → World → Prop) (x0 x3 x4 x5 x7 : Value) (w : World) (_r : Tok R := tok R) (_C8 : Tok C8 := tok C8) : Prop :=
  RUN Tryd.prog (pan R) (Builtin.len_ #[26] 3 #[x5]) w fun v1 w2 =>
  RUN Tryd.prog (pan R) (bins .lss 3 (.tmp 34) (.tmp 36) x7 v1) w2 fun v3 w4 =>
  SPL v3
  (RUN Tryd.prog (pan R) (Instr.build 36 #[(0, (Go.Value.int Go.IntKind.i64 9))]) w4 fun v5 w6 =>
  RUN Tryd.prog (pan R) (Instr.indexAt 26 x5 x7) w6 fun v7 w8 =>
  RUNU Tryd.prog (pan R) (Instr.storeAt 36 v7 v5) w8 fun w9 =>
  RUN Tryd.prog (pan R) (bins .add 3 (.tmp 38) (.const (Go.Value.int Go.IntKind.i64 1)) x7 (Go.Value.int Go.IntKind.i64 1)) w9 fun v10 w11 =>
  C8 v10 w11)
  (b5 R x0 x3 x4 w4)
abbrev q2 (R : Ending → World → Prop) (C8 : Value → World → Prop) : Exit → Env → World → Prop := QX (fun ρ w => C8 (ρ 7) w) (fun ρ w => R (.returned (ρ 2)) w) [(0, (fun ρ w => b5 R (ρ 0) (ρ 3) (ρ 4) w))]
theorem b9_eq (R : Ending → World → Prop) (C8 : Value → World → Prop) (ρ : Env) (w : World) : (b9 R C8 (ρ 0) (ρ 3) (ρ 4) (ρ 5) (ρ 7) w) = codeP Tryd.prog (pan R) p6 (q2 R C8) ρ w := by kernel_rfl
theorem b9_ok (R : Ending → World → Prop) (C8 : Value → World → Prop) (ρ : Env) (w : World) (h : b9 R C8 (ρ 0) (ρ 3) (ρ 4) (ρ 5) (ρ 7) w) : codeP Tryd.prog (pan R) p6 (q2 R C8) ρ w := (b9_eq R C8 ρ w).mp h
/- x0 text, x3 r, x4 at, x5 l, x7 i -/
def l8 (R : Ending → World → Prop) (x0 x3 x4 x5 x7 : Value) (w : World) (_r : Tok R := tok R) : Prop :=
  ∃ (J : Value → World → Prop) (μ : Value → World → Nat), J x7 w ∧ ∀ y7 w0, J y7 w0 → b9 R (fun z7 w1 => J z7 w1 ∧ μ z7 w1 < μ y7 w0) x0 x3 x4 x5 y7 w0
abbrev q3 (R : Ending → World → Prop) : Exit → Env → World → Prop := QX (fun ρ w => b5 R (ρ 0) (ρ 3) (ρ 4) w) (fun ρ w => R (.returned (ρ 2)) w) [(0, (fun ρ w => b5 R (ρ 0) (ρ 3) (ρ 4) w))]
theorem l8_ok (R : Ending → World → Prop) (ρ : Env) (w : World) (h : l8 R (ρ 0) (ρ 3) (ρ 4) (ρ 5) (ρ 7) w) : codeP Tryd.prog (pan R) (blkC p5) (q3 R) ρ w := by
  unfold l8 at h
  obtain ⟨J, μ, h0, hr⟩ := h
  have e : Code.loop (loopC (blkC p5)) = (blkC p5) := by kernel_rfl
  rw [← e]
  refine loopQ (fun ρ' w' => J (ρ' 7) w') (fun ρ' w' => μ (ρ' 7) w') h0 fun ρ' w' hA hI => ?_
  have e0 : ρ' 0 = ρ 0 := Agree.at hA 0 (by kernel_rfl)
  have e3 : ρ' 3 = ρ 3 := Agree.at hA 3 (by kernel_rfl)
  have e4 : ρ' 4 = ρ 4 := Agree.at hA 4 (by kernel_rfl)
  have e5 : ρ' 5 = ρ 5 := Agree.at hA 5 (by kernel_rfl)
  have h1 := hr (ρ' 7) w' hI
  rw [← e0, ← e3, ← e4, ← e5] at h1
  exact b9_ok R (fun z7 w1 => J z7 w1 ∧ μ z7 w1 < μ (ρ' 7) w') ρ' w' h1
theorem l8_intro (R : Ending → World → Prop) (x0 x3 x4 x5 x7 : Value) (w : World) (J : Value → World → Prop) (μ : Value → World → Nat) (h0 : J x7 w)
    (hr : ∀ y7 w0, J y7 w0 → ∀ C8 : Value → World → Prop, (∀ z7 w1, J z7 w1 → μ z7 w1 < μ y7 w0 → C8 z7 w1) → b9 R C8 x0 x3 x4 x5 y7 w0) : l8 R x0 x3 x4 x5 x7 w := by
  unfold l8
  exact ⟨J, μ, h0, fun y7 w0 hJ => hr y7 w0 hJ _ (fun z7 w1 h1 h2 => ⟨h1, h2⟩)⟩
abbrev q4 (R : Ending → World → Prop) : Exit → Env → World → Prop := QX (fun ρ w => b5 R (ρ 0) (ρ 3) (ρ 4) w) (fun ρ w => R (.returned (ρ 2)) w) []
theorem k7_ok (R : Ending → World → Prop) (ρ : Env) (w : World) (h : l8 R (ρ 0) (ρ 3) (ρ 4) (ρ 5) (ρ 7) w) : codeP Tryd.prog (pan R) p5 (q4 R) ρ w := by
  have e : Code.block 0 (blkC p5) = p5 := by kernel_rfl
  rw [← e]
  exact blockQ (l8_ok R ρ w h)
/- x0 text, x3 r, x4 at, x5 l -/
def b6 (R : Ending → World → Prop) (x0 x3 x4 x5 : Value) (w : World) (_r : Tok R := tok R) : Prop :=
  l8 R x0 x3 x4 x5 (Go.Value.int Go.IntKind.i64 0) w
abbrev q5 (R : Ending → World → Prop) : Exit → Env → World → Prop := QX (fun ρ w => l8 R (ρ 0) (ρ 3) (ρ 4) (ρ 5) (ρ 7) w) (fun ρ w => R (.returned (ρ 2)) w) []
theorem b6_eq (R : Ending → World → Prop) (ρ : Env) (w : World) : (b6 R (ρ 0) (ρ 3) (ρ 4) (ρ 5) w) = codeP Tryd.prog (pan R) (preC 0 p4) (q5 R) ρ w := by kernel_rfl
theorem b6_ok (R : Ending → World → Prop) (ρ : Env) (w : World) (h : b6 R (ρ 0) (ρ 3) (ρ 4) (ρ 5) w) : codeP Tryd.prog (pan R) p4 (q4 R) ρ w := by
  have e : appC 0 (preC 0 p4) (dropC 1 p4) = p4 := by kernel_rfl
  rw [← e]
  exact appQ (fun ρ w => l8 R (ρ 0) (ρ 3) (ρ 4) (ρ 5) (ρ 7) w) 0 ((b6_eq R ρ w).mp h) (fun ρ w h => k7_ok R ρ w h)
theorem k4_ok (R : Ending → World → Prop) (ρ : Env) (w : World) (h : b6 R (ρ 0) (ρ 3) (ρ 4) (ρ 5) w) : codeP Tryd.prog (pan R) (sndC p2) (q1 R) ρ w := by
  have e : Code.seq (fstC (sndC p2)) (sndC (sndC p2)) = (sndC p2) := by kernel_rfl
  rw [← e]
  exact seqQ (fun ρ w => b5 R (ρ 0) (ρ 3) (ρ 4) w) (b6_ok R ρ w h) (fun ρ w h => b5_ok R ρ w h)
noncomputable abbrev p7 : Code := dropC 1 (fstC p2)
/- x0 text, x3 r, x4 at, x5 l -/
def b11 (R : Ending → World → Prop) (x0 x3 x4 x5 x33 : Value) (w : World) (_r : Tok R := tok R) : Prop :=
  SPL x33
  (R (.returned (Go.Value.bool Bool.false)) w)
  (b6 R x0 x3 x4 x5 w)
abbrev q6 (R : Ending → World → Prop) : Exit → Env → World → Prop := QX (fun ρ w => b6 R (ρ 0) (ρ 3) (ρ 4) (ρ 5) w) (fun ρ w => R (.returned (ρ 2)) w) []
theorem b11_eq (R : Ending → World → Prop) (ρ : Env) (w : World) : (b11 R (ρ 0) (ρ 3) (ρ 4) (ρ 5) (ρ 33) w) = codeP Tryd.prog (pan R) p7 (q6 R) ρ w := by kernel_rfl
theorem b11_ok (R : Ending → World → Prop) (ρ : Env) (w : World) (h : b11 R (ρ 0) (ρ 3) (ρ 4) (ρ 5) (ρ 33) w) : codeP Tryd.prog (pan R) p7 (q6 R) ρ w := (b11_eq R ρ w).mp h
/- x0 text, x3 r, x4 at, x5 l, x6 m -/
def b10 (R : Ending → World → Prop) (x0 x3 x4 x5 x6 : Value) (w : World) (_r : Tok R := tok R) : Prop :=
  RUN Tryd.prog (pan R) (Instr.loadAt 30 x6) w fun v1 w2 =>
  CALL Tryd.prog (pan R) law03_bad.id #[v1, x4] w2 fun v3 w4 =>
  RUN Tryd.prog (pan R) (Op.unary .not v3) w4 fun v5 w6 =>
  SPL v5
  (b11 R x0 x3 x4 x5 (Go.Value.bool Bool.true) w6)
  (CALL Tryd.prog (pan R) law03_are.id #[x5, x3] w6 fun v7 w8 =>
  RUN Tryd.prog (pan R) (Op.unary .not v7) w8 fun v9 w10 =>
  b11 R x0 x3 x4 x5 v9 w10)
abbrev q7 (R : Ending → World → Prop) : Exit → Env → World → Prop := QX (fun ρ w => b11 R (ρ 0) (ρ 3) (ρ 4) (ρ 5) (ρ 33) w) (fun ρ w => R (.returned (ρ 2)) w) []
theorem b10_eq (R : Ending → World → Prop) (ρ : Env) (w : World) : (b10 R (ρ 0) (ρ 3) (ρ 4) (ρ 5) (ρ 6) w) = codeP Tryd.prog (pan R) (preC 0 (fstC p2)) (q7 R) ρ w := by kernel_rfl
theorem b10_ok (R : Ending → World → Prop) (ρ : Env) (w : World) (h : b10 R (ρ 0) (ρ 3) (ρ 4) (ρ 5) (ρ 6) w) : codeP Tryd.prog (pan R) (fstC p2) (q6 R) ρ w := by
  have e : appC 0 (preC 0 (fstC p2)) (dropC 1 (fstC p2)) = (fstC p2) := by kernel_rfl
  rw [← e]
  exact appQ (fun ρ w => b11 R (ρ 0) (ρ 3) (ρ 4) (ρ 5) (ρ 33) w) 0 ((b10_eq R ρ w).mp h) (fun ρ w h => b11_ok R ρ w h)
theorem k3_ok (R : Ending → World → Prop) (ρ : Env) (w : World) (h : b10 R (ρ 0) (ρ 3) (ρ 4) (ρ 5) (ρ 6) w) : codeP Tryd.prog (pan R) p2 (q1 R) ρ w := by
  have e : Code.seq (fstC p2) (sndC p2) = p2 := by kernel_rfl
  rw [← e]
  exact seqQ (fun ρ w => b6 R (ρ 0) (ρ 3) (ρ 4) (ρ 5) w) (b10_ok R ρ w h) (fun ρ w h => k4_ok R ρ w h)
/- x0 text, x3 r, x4 at -/
def b2 (R : Ending → World → Prop) (x0 x3 x4 : Value) (w : World) (_r : Tok R := tok R) : Prop :=
  CALL Tryd.prog (pan R) scan_Words.id #[x0] w fun v1 w2 =>
  RUN Tryd.prog (pan R) (Instr.extract v1 0) w2 fun v3 w4 =>
  RUN Tryd.prog (pan R) (Instr.extract v1 1) w4 fun v5 w6 =>
  RUN Tryd.prog (pan R) (Instr.alloc 30 true (.tuple #[])) w6 fun v7 w8 =>
  RUNU Tryd.prog (pan R) (Instr.storeAt 30 v7 v5) w8 fun w9 =>
  b10 R x0 x3 x4 v3 v7 w9
abbrev q8 (R : Ending → World → Prop) : Exit → Env → World → Prop := QX (fun ρ w => b10 R (ρ 0) (ρ 3) (ρ 4) (ρ 5) (ρ 6) w) (fun ρ w => R (.returned (ρ 2)) w) []
theorem b2_eq (R : Ending → World → Prop) (ρ : Env) (w : World) : (b2 R (ρ 0) (ρ 3) (ρ 4) w) = codeP Tryd.prog (pan R) (preC 0 p1) (q8 R) ρ w := by kernel_rfl
theorem b2_ok (R : Ending → World → Prop) (ρ : Env) (w : World) (h : b2 R (ρ 0) (ρ 3) (ρ 4) w) : codeP Tryd.prog (pan R) p1 (q1 R) ρ w := by
  have e : appC 0 (preC 0 p1) (dropC 1 p1) = p1 := by kernel_rfl
  rw [← e]
  exact appQ (fun ρ w => b10 R (ρ 0) (ρ 3) (ρ 4) (ρ 5) (ρ 6) w) 0 ((b2_eq R ρ w).mp h) (fun ρ w h => k3_ok R ρ w h)
/- x0 text -/
def b1 (R : Ending → World → Prop) (x0 : Value) (w : World) (_r : Tok R := tok R) : Prop :=
  CALL Tryd.prog (pan R) law03_awake.id #[] w fun v1 w2 =>
  RUN Tryd.prog (pan R) (Op.unary .not v1) w2 fun v3 w4 =>
  SPL v3
  (R (.returned (Go.Value.bool Bool.false)) w4)
  (CALL Tryd.prog (pan R) ref03_All.id #[x0] w4 fun v5 w6 =>
  RUN Tryd.prog (pan R) (Instr.extract v5 0) w6 fun v7 w8 =>
  RUN Tryd.prog (pan R) (Instr.extract v5 1) w8 fun v9 w10 =>
  RUN Tryd.prog (pan R) (bins .geq 3 (.tmp 17) (.const (Go.Value.int Go.IntKind.i64 0)) v9 (Go.Value.int Go.IntKind.i64 0)) w10 fun v11 w12 =>
  SPL v11
  (b2 R x0 (Go.Value.slice Option.none 0 0) v9 w12)
  (b2 R x0 v7 v9 w12))
abbrev q9 (R : Ending → World → Prop) : Exit → Env → World → Prop := QX (fun ρ w => b2 R (ρ 0) (ρ 3) (ρ 4) w) (fun ρ w => R (.returned (ρ 2)) w) []
theorem b1_eq (R : Ending → World → Prop) (ρ : Env) (w : World) : (b1 R (ρ 0) w) = codeP Tryd.prog (pan R) (preC 3 code) (q9 R) ρ w := by kernel_rfl
theorem b1_ok (R : Ending → World → Prop) (ρ : Env) (w : World) (h : b1 R (ρ 0) w) : codeP Tryd.prog (pan R) code (q1 R) ρ w := by
  have e : appC 3 (preC 3 code) (dropC 4 code) = code := by kernel_rfl
  rw [← e]
  exact appQ (fun ρ w => b2 R (ρ 0) (ρ 3) (ρ 4) w) 3 ((b1_eq R ρ w).mp h) (fun ρ w h => b2_ok R ρ w h)
/-- What is owed for a call. -/
def run (R : Ending → World → Prop) (a0 : Value) (w : World) : Prop := b1 R a0 w
theorem calls (R : Ending → World → Prop) (a0 : Value) (w : World) (h : run R a0 w) : Calls Tryd.prog id #[a0] w R :=
  calls_of_t (f := id) (fn := Tryd.f3) (c := code) (by kernel_rfl) Tryd.func3 (by kernel_rfl) (by kernel_rfl) (args := [a0]) (Nat.le_of_ble_eq_true rfl) rfl (b1_ok R (envOf [a0]) w h)
theorem enters : Enters Tryd.prog id := fun args w => Tryd.call3 args w
theorem ct {a0 : Value} {w : World} {S : Value → World → Prop} (h : ∀ R : Ending → World → Prop, (∀ v w, S v w → R (.returned v) w) → run R a0 w) : Ct Tryd.prog id #[a0] w S :=
  Ct.intro enters fun R hR => calls R a0 w (h R hR)
attribute [irreducible] b5 b9 l8 b6 b11 b10 b2 b1 run
end law03_ScanReads

/-! ### presage/presagelaw03.ScanSpread -/
namespace law03_ScanSpread
noncomputable def code : Code := bodyOf Tryd.f5
noncomputable abbrev p1 : Code := dropC 5 code
noncomputable abbrev p2 : Code := sndC (sndC p1)
noncomputable abbrev p3 : Code := dropC 1 p2
noncomputable abbrev p4 : Code := sndC (sndC p3)

def b7 (R : Ending → World → Prop) (w : World) (_r : Tok R := tok R) : Prop :=
  R (.returned (Go.Value.bool Bool.true)) w
abbrev q1 (R : Ending → World → Prop) : Exit → Env → World → Prop := QX (fun ρ w => R (.returned (ρ 2)) w) (fun ρ w => R (.returned (ρ 2)) w) []
theorem b7_eq (R : Ending → World → Prop) (ρ : Env) (w : World) : (b7 R w) = codeP Tryd.prog (pan R) p4 (q1 R) ρ w := by kernel_rfl
theorem b7_ok (R : Ending → World → Prop) (ρ : Env) (w : World) (h : b7 R w) : codeP Tryd.prog (pan R) p4 (q1 R) ρ w := (b7_eq R ρ w).mp h
noncomputable abbrev p5 : Code := fstC (sndC p3)
noncomputable abbrev p6 : Code := dropC 1 p5
noncomputable abbrev p7 : Code := loopC (blkC p6)

def b11 (R : Ending → World → Prop) (C10 : Value → World → Prop) (x5 x9 x11 : Value) (w : World) (_r : Tok R := tok R) (_C10 : Tok C10 := tok C10) : Prop :=
  RUN Tryd.prog (pan R) (Builtin.len_ #[26] 3 #[x9]) w fun v1 w2 =>
  RUN Tryd.prog (pan R) (bins .lss 3 (.tmp 95) (.tmp 97) x11 v1) w2 fun v3 w4 =>
  SPL v3
  (PUR Tryd.prog (Instr.indexAt 26 x9 x11) fun v5 =>
  LD Tryd.prog (Instr.loadAt 36 v5) (World.drew w4) fun v6 =>
  PUR Tryd.prog (Instr.indexAt 26 x5 x11) fun v7 =>
  LD Tryd.prog (Instr.loadAt 36 v7) (World.drew w4) fun v8 =>
  PUR Tryd.prog (bins .neq 36 (.tmp 104) (.tmp 108) v6 v8) fun v9 =>
  SPL v9
  (R (.returned (Go.Value.bool Bool.false)) (World.drew w4))
  (RUN Tryd.prog (pan R) (bins .add 3 (.tmp 99) (.const (Go.Value.int Go.IntKind.i64 1)) x11 (Go.Value.int Go.IntKind.i64 1)) (World.drew w4) fun v10 w11 =>
  C10 v10 w11))
  (b7 R w4)
abbrev q2 (R : Ending → World → Prop) (C10 : Value → World → Prop) : Exit → Env → World → Prop := QX (fun ρ w => C10 (ρ 11) w) (fun ρ w => R (.returned (ρ 2)) w) [(4, (fun ρ w => b7 R  w))]
theorem b11_eq (R : Ending → World → Prop) (C10 : Value → World → Prop) (ρ : Env) (w : World) : (b11 R C10 (ρ 5) (ρ 9) (ρ 11) w) = codeP Tryd.prog (pan R) p7 (q2 R C10) ρ w := by kernel_rfl
theorem b11_ok (R : Ending → World → Prop) (C10 : Value → World → Prop) (ρ : Env) (w : World) (h : b11 R C10 (ρ 5) (ρ 9) (ρ 11) w) : codeP Tryd.prog (pan R) p7 (q2 R C10) ρ w := (b11_eq R C10 ρ w).mp h

def l10 (R : Ending → World → Prop) (x5 x9 x11 : Value) (w : World) (_r : Tok R := tok R) : Prop :=
  ∃ (J : Value → World → Prop) (μ : Value → World → Nat), J x11 w ∧ ∀ y11 w0, J y11 w0 → b11 R (fun z11 w1 => J z11 w1 ∧ μ z11 w1 < μ y11 w0) x5 x9 y11 w0
abbrev q3 (R : Ending → World → Prop) : Exit → Env → World → Prop := QX (fun ρ w => b7 R  w) (fun ρ w => R (.returned (ρ 2)) w) [(4, (fun ρ w => b7 R  w))]
theorem l10_ok (R : Ending → World → Prop) (ρ : Env) (w : World) (h : l10 R (ρ 5) (ρ 9) (ρ 11) w) : codeP Tryd.prog (pan R) (blkC p6) (q3 R) ρ w := by
  unfold l10 at h
  obtain ⟨J, μ, h0, hr⟩ := h
  have e : Code.loop (loopC (blkC p6)) = (blkC p6) := by kernel_rfl
  rw [← e]
  refine loopQ (fun ρ' w' => J (ρ' 11) w') (fun ρ' w' => μ (ρ' 11) w') h0 fun ρ' w' hA hI => ?_
  have e5 : ρ' 5 = ρ 5 := Agree.at hA 5 (by kernel_rfl)
  have e9 : ρ' 9 = ρ 9 := Agree.at hA 9 (by kernel_rfl)
  have h1 := hr (ρ' 11) w' hI
  rw [← e5, ← e9] at h1
  exact b11_ok R (fun z11 w1 => J z11 w1 ∧ μ z11 w1 < μ (ρ' 11) w') ρ' w' h1
theorem l10_intro (R : Ending → World → Prop) (x5 x9 x11 : Value) (w : World) (J : Value → World → Prop) (μ : Value → World → Nat) (h0 : J x11 w)
    (hr : ∀ y11 w0, J y11 w0 → ∀ C10 : Value → World → Prop, (∀ z11 w1, J z11 w1 → μ z11 w1 < μ y11 w0 → C10 z11 w1) → b11 R C10 x5 x9 y11 w0) : l10 R x5 x9 x11 w := by
  unfold l10
  exact ⟨J, μ, h0, fun y11 w0 hJ => hr y11 w0 hJ _ (fun z11 w1 h1 h2 => ⟨h1, h2⟩)⟩
abbrev q4 (R : Ending → World → Prop) : Exit → Env → World → Prop := QX (fun ρ w => b7 R  w) (fun ρ w => R (.returned (ρ 2)) w) []
theorem k9_ok (R : Ending → World → Prop) (ρ : Env) (w : World) (h : l10 R (ρ 5) (ρ 9) (ρ 11) w) : codeP Tryd.prog (pan R) p6 (q4 R) ρ w := by
  have e : Code.block 2 (blkC p6) = p6 := by kernel_rfl
  rw [← e]
  exact blockQ (l10_ok R ρ w h)

def b8 (R : Ending → World → Prop) (x5 x9 : Value) (w : World) (_r : Tok R := tok R) : Prop :=
  l10 R x5 x9 (Go.Value.int Go.IntKind.i64 0) w
abbrev q5 (R : Ending → World → Prop) : Exit → Env → World → Prop := QX (fun ρ w => l10 R (ρ 5) (ρ 9) (ρ 11) w) (fun ρ w => R (.returned (ρ 2)) w) []
theorem b8_eq (R : Ending → World → Prop) (ρ : Env) (w : World) : (b8 R (ρ 5) (ρ 9) w) = codeP Tryd.prog (pan R) (preC 0 p5) (q5 R) ρ w := by kernel_rfl
theorem b8_ok (R : Ending → World → Prop) (ρ : Env) (w : World) (h : b8 R (ρ 5) (ρ 9) w) : codeP Tryd.prog (pan R) p5 (q4 R) ρ w := by
  have e : appC 0 (preC 0 p5) (dropC 1 p5) = p5 := by kernel_rfl
  rw [← e]
  exact appQ (fun ρ w => l10 R (ρ 5) (ρ 9) (ρ 11) w) 0 ((b8_eq R ρ w).mp h) (fun ρ w h => k9_ok R ρ w h)
theorem k6_ok (R : Ending → World → Prop) (ρ : Env) (w : World) (h : b8 R (ρ 5) (ρ 9) w) : codeP Tryd.prog (pan R) (sndC p3) (q1 R) ρ w := by
  have e : Code.seq (fstC (sndC p3)) (sndC (sndC p3)) = (sndC p3) := by kernel_rfl
  rw [← e]
  exact seqQ (fun ρ w => b7 R  w) (b8_ok R ρ w h) (fun ρ w h => b7_ok R ρ w h)
noncomputable abbrev p8 : Code := dropC 1 (fstC p3)

def b13 (R : Ending → World → Prop) (x5 x9 x94 : Value) (w : World) (_r : Tok R := tok R) : Prop :=
  SPL x94
  (R (.returned (Go.Value.bool Bool.false)) w)
  (b8 R x5 x9 w)
abbrev q6 (R : Ending → World → Prop) : Exit → Env → World → Prop := QX (fun ρ w => b8 R (ρ 5) (ρ 9) w) (fun ρ w => R (.returned (ρ 2)) w) []
theorem b13_eq (R : Ending → World → Prop) (ρ : Env) (w : World) : (b13 R (ρ 5) (ρ 9) (ρ 94) w) = codeP Tryd.prog (pan R) p8 (q6 R) ρ w := by kernel_rfl
theorem b13_ok (R : Ending → World → Prop) (ρ : Env) (w : World) (h : b13 R (ρ 5) (ρ 9) (ρ 94) w) : codeP Tryd.prog (pan R) p8 (q6 R) ρ w := (b13_eq R ρ w).mp h

def b12 (R : Ending → World → Prop) (x5 x9 x10 : Value) (w : World) (_r : Tok R := tok R) : Prop :=
  RUN Tryd.prog (pan R) (Instr.fieldAt 30 x10 0) w fun v1 w2 =>
  RUN Tryd.prog (pan R) (Instr.loadAt 27 v1) w2 fun v3 w4 =>
  RUN Tryd.prog (pan R) (bins .neq 27 (.tmp 86) (.const (Go.Value.int Go.IntKind.i64 0)) v3 (Go.Value.int Go.IntKind.i64 0)) w4 fun v5 w6 =>
  SPL v5
  (b13 R x5 x9 (Go.Value.bool Bool.true) w6)
  (RUN Tryd.prog (pan R) (Builtin.len_ #[26] 3 #[x9]) w6 fun v7 w8 =>
  RUN Tryd.prog (pan R) (Builtin.len_ #[26] 3 #[x5]) w8 fun v9 w10 =>
  RUN Tryd.prog (pan R) (bins .neq 3 (.tmp 90) (.tmp 92) v7 v9) w10 fun v11 w12 =>
  b13 R x5 x9 v11 w12)
abbrev q7 (R : Ending → World → Prop) : Exit → Env → World → Prop := QX (fun ρ w => b13 R (ρ 5) (ρ 9) (ρ 94) w) (fun ρ w => R (.returned (ρ 2)) w) []
theorem b12_eq (R : Ending → World → Prop) (ρ : Env) (w : World) : (b12 R (ρ 5) (ρ 9) (ρ 10) w) = codeP Tryd.prog (pan R) (preC 0 (fstC p3)) (q7 R) ρ w := by kernel_rfl
theorem b12_ok (R : Ending → World → Prop) (ρ : Env) (w : World) (h : b12 R (ρ 5) (ρ 9) (ρ 10) w) : codeP Tryd.prog (pan R) (fstC p3) (q6 R) ρ w := by
  have e : appC 0 (preC 0 (fstC p3)) (dropC 1 (fstC p3)) = (fstC p3) := by kernel_rfl
  rw [← e]
  exact appQ (fun ρ w => b13 R (ρ 5) (ρ 9) (ρ 94) w) 0 ((b12_eq R ρ w).mp h) (fun ρ w h => b13_ok R ρ w h)
theorem k5_ok (R : Ending → World → Prop) (ρ : Env) (w : World) (h : b12 R (ρ 5) (ρ 9) (ρ 10) w) : codeP Tryd.prog (pan R) p3 (q1 R) ρ w := by
  have e : Code.seq (fstC p3) (sndC p3) = p3 := by kernel_rfl
  rw [← e]
  exact seqQ (fun ρ w => b8 R (ρ 5) (ρ 9) w) (b12_ok R ρ w h) (fun ρ w h => k6_ok R ρ w h)

def b4 (R : Ending → World → Prop) (x4 x5 : Value) (w : World) (_r : Tok R := tok R) : Prop :=
  CALL Tryd.prog (pan R) scan_Words.id #[x4] w fun v1 w2 =>
  RUN Tryd.prog (pan R) (Instr.extract v1 0) w2 fun v3 w4 =>
  RUN Tryd.prog (pan R) (Instr.extract v1 1) w4 fun v5 w6 =>
  RUN Tryd.prog (pan R) (Instr.alloc 30 true (.tuple #[])) w6 fun v7 w8 =>
  RUNU Tryd.prog (pan R) (Instr.storeAt 30 v7 v5) w8 fun w9 =>
  b12 R x5 v3 v7 w9
abbrev q8 (R : Ending → World → Prop) : Exit → Env → World → Prop := QX (fun ρ w => b12 R (ρ 5) (ρ 9) (ρ 10) w) (fun ρ w => R (.returned (ρ 2)) w) []
theorem b4_eq (R : Ending → World → Prop) (ρ : Env) (w : World) : (b4 R (ρ 4) (ρ 5) w) = codeP Tryd.prog (pan R) (preC 0 p2) (q8 R) ρ w := by kernel_rfl
theorem b4_ok (R : Ending → World → Prop) (ρ : Env) (w : World) (h : b4 R (ρ 4) (ρ 5) w) : codeP Tryd.prog (pan R) p2 (q1 R) ρ w := by
  have e : appC 0 (preC 0 p2) (dropC 1 p2) = p2 := by kernel_rfl
  rw [← e]
  exact appQ (fun ρ w => b12 R (ρ 5) (ρ 9) (ρ 10) w) 0 ((b4_eq R ρ w).mp h) (fun ρ w h => k5_ok R ρ w h)
noncomputable abbrev p9 : Code := fstC (sndC p1)
noncomputable abbrev p10 : Code := dropC 1 p9

def b15 (R : Ending → World → Prop) (x4 x5 x77 : Value) (w : World) (_r : Tok R := tok R) : Prop :=
  SPL x77
  (RUN Tryd.prog (pan R) (bins .add 9 (.tmp 78) (.const (Go.Value.string { data := #[32, 35, 32, 116, 104, 101, 32, 101, 110, 100, 58, 32, 36, 32, 39] })) x4 (Go.Value.string { data := #[32, 35, 32, 116, 104, 101, 32, 101, 110, 100, 58, 32, 36, 32, 39] })) w fun v1 w2 =>
  b4 R v1 x5 w2)
  (b4 R x4 x5 w)
abbrev q9 (R : Ending → World → Prop) : Exit → Env → World → Prop := QX (fun ρ w => b4 R (ρ 4) (ρ 5) w) (fun ρ w => R (.returned (ρ 2)) w) []
theorem b15_eq (R : Ending → World → Prop) (ρ : Env) (w : World) : (b15 R (ρ 4) (ρ 5) (ρ 77) w) = codeP Tryd.prog (pan R) p10 (q9 R) ρ w := by kernel_rfl
theorem b15_ok (R : Ending → World → Prop) (ρ : Env) (w : World) (h : b15 R (ρ 4) (ρ 5) (ρ 77) w) : codeP Tryd.prog (pan R) p10 (q9 R) ρ w := (b15_eq R ρ w).mp h

def b14 (R : Ending → World → Prop) (x0 x4 x5 : Value) (w : World) (_r : Tok R := tok R) : Prop :=
  RUN Tryd.prog (pan R) (Builtin.len_ #[44] 3 #[x0]) w fun v1 w2 =>
  RUN Tryd.prog (pan R) (bins .gtr 3 (.tmp 68) (.const (Go.Value.int Go.IntKind.i64 0)) v1 (Go.Value.int Go.IntKind.i64 0)) w2 fun v3 w4 =>
  SPL v3
  (RUN Tryd.prog (pan R) (Instr.indexAt 44 x0 (Go.Value.int Go.IntKind.i64 0)) w4 fun v5 w6 =>
  RUN Tryd.prog (pan R) (Instr.fieldAt 48 v5 1) w6 fun v7 w8 =>
  RUN Tryd.prog (pan R) (Instr.loadAt 3 v7) w8 fun v9 w10 =>
  CALL Tryd.prog (pan R) law03_pick.id #[v9, (Go.Value.int Go.IntKind.i64 3)] w10 fun v11 w12 =>
  RUN Tryd.prog (pan R) (bins .eql 3 (.tmp 75) (.const (Go.Value.int Go.IntKind.i64 0)) v11 (Go.Value.int Go.IntKind.i64 0)) w12 fun v13 w14 =>
  b15 R x4 x5 v13 w14)
  (b15 R x4 x5 (Go.Value.bool Bool.false) w4)
abbrev q10 (R : Ending → World → Prop) : Exit → Env → World → Prop := QX (fun ρ w => b15 R (ρ 4) (ρ 5) (ρ 77) w) (fun ρ w => R (.returned (ρ 2)) w) []
theorem b14_eq (R : Ending → World → Prop) (ρ : Env) (w : World) : (b14 R (ρ 0) (ρ 4) (ρ 5) w) = codeP Tryd.prog (pan R) (preC 0 p9) (q10 R) ρ w := by kernel_rfl
theorem b14_ok (R : Ending → World → Prop) (ρ : Env) (w : World) (h : b14 R (ρ 0) (ρ 4) (ρ 5) w) : codeP Tryd.prog (pan R) p9 (q9 R) ρ w := by
  have e : appC 0 (preC 0 p9) (dropC 1 p9) = p9 := by kernel_rfl
  rw [← e]
  exact appQ (fun ρ w => b15 R (ρ 4) (ρ 5) (ρ 77) w) 0 ((b14_eq R ρ w).mp h) (fun ρ w h => b15_ok R ρ w h)
theorem k3_ok (R : Ending → World → Prop) (ρ : Env) (w : World) (h : b14 R (ρ 0) (ρ 4) (ρ 5) w) : codeP Tryd.prog (pan R) (sndC p1) (q1 R) ρ w := by
  have e : Code.seq (fstC (sndC p1)) (sndC (sndC p1)) = (sndC p1) := by kernel_rfl
  rw [← e]
  exact seqQ (fun ρ w => b4 R (ρ 4) (ρ 5) w) (b14_ok R ρ w h) (fun ρ w h => b4_ok R ρ w h)
noncomputable abbrev p11 : Code := dropC 1 (fstC p1)
noncomputable abbrev p12 : Code := loopC (blkC p11)
noncomputable abbrev p13 : Code := sndC (sndC p12)

def b21 (R : Ending → World → Prop) (C18 : Value → Value → Value → World → Prop) (x4 x5 x6 : Value) (w : World) (_r : Tok R := tok R) (_C18 : Tok C18 := tok C18) : Prop :=
  RUN Tryd.prog (pan R) (bins .add 3 (.tmp 23) (.const (Go.Value.int Go.IntKind.i64 1)) x6 (Go.Value.int Go.IntKind.i64 1)) w fun v1 w2 =>
  C18 x4 x5 v1 w2
abbrev q11 (R : Ending → World → Prop) (C18 : Value → Value → Value → World → Prop) : Exit → Env → World → Prop := QX (fun ρ w => C18 (ρ 4) (ρ 5) (ρ 6) w) (fun ρ w => R (.returned (ρ 2)) w) [(0, (fun ρ w => b14 R (ρ 0) (ρ 4) (ρ 5) w))]
theorem b21_eq (R : Ending → World → Prop) (C18 : Value → Value → Value → World → Prop) (ρ : Env) (w : World) : (b21 R C18 (ρ 4) (ρ 5) (ρ 6) w) = codeP Tryd.prog (pan R) p13 (q11 R C18) ρ w := by kernel_rfl
theorem b21_ok (R : Ending → World → Prop) (C18 : Value → Value → Value → World → Prop) (ρ : Env) (w : World) (h : b21 R C18 (ρ 4) (ρ 5) (ρ 6) w) : codeP Tryd.prog (pan R) p13 (q11 R C18) ρ w := (b21_eq R C18 ρ w).mp h
noncomputable abbrev p14 : Code := fstC (sndC p12)
noncomputable abbrev p15 : Code := dropC 1 (blkC p14)

def b25 (R : Ending → World → Prop) (C18 : Value → Value → Value → World → Prop) (x4 x5 x6 x7 x8 : Value) (w : World) (_r : Tok R := tok R) (_C18 : Tok C18 := tok C18) : Prop :=
  RUN Tryd.prog (pan R) (Builtin.len_ #[9] 3 #[x4]) w fun v1 w2 =>
  RUN Tryd.prog (pan R) (Instr.fieldAt 36 x8 2) w2 fun v3 w4 =>
  RUNU Tryd.prog (pan R) (Instr.storeAt 3 v3 v1) w4 fun w5 =>
  RUN Tryd.prog (pan R) (bins .add 9 (.tmp 60) (.tmp 61) x4 x7) w5 fun v6 w7 =>
  RUN Tryd.prog (pan R) (Instr.loadAt 36 x8) w7 fun v8 w9 =>
  RUN Tryd.prog (pan R) (Instr.buildSlice 26 1 #[(0, v8)]) w9 fun v10 w11 =>
  RUN Tryd.prog (pan R) (Builtin.append_ #[26, 26] 26 #[x5, v10]) w11 fun v12 w13 =>
  b21 R C18 v6 v12 x6 w13
abbrev q12 (R : Ending → World → Prop) (C18 : Value → Value → Value → World → Prop) : Exit → Env → World → Prop := QX (fun ρ w => b21 R C18 (ρ 4) (ρ 5) (ρ 6) w) (fun ρ w => R (.returned (ρ 2)) w) [(2, (fun ρ w => b21 R C18 (ρ 4) (ρ 5) (ρ 6) w)), (0, (fun ρ w => b14 R (ρ 0) (ρ 4) (ρ 5) w))]
theorem b25_eq (R : Ending → World → Prop) (C18 : Value → Value → Value → World → Prop) (ρ : Env) (w : World) : (b25 R C18 (ρ 4) (ρ 5) (ρ 6) (ρ 7) (ρ 8) w) = codeP Tryd.prog (pan R) (sndC p15) (q12 R C18) ρ w := by kernel_rfl
theorem b25_ok (R : Ending → World → Prop) (C18 : Value → Value → Value → World → Prop) (ρ : Env) (w : World) (h : b25 R C18 (ρ 4) (ρ 5) (ρ 6) (ρ 7) (ρ 8) w) : codeP Tryd.prog (pan R) (sndC p15) (q12 R C18) ρ w := (b25_eq R C18 ρ w).mp h
noncomputable abbrev p16 : Code := dropC 1 (fstC p15)

def b27 (R : Ending → World → Prop) (C18 : Value → Value → Value → World → Prop) (x0 x3 x4 x5 x6 x7 x8 x43 : Value) (w : World) (_r : Tok R := tok R) (_C18 : Tok C18 := tok C18) : Prop :=
  SPL x43
  (RUN Tryd.prog (pan R) (Instr.indexAt 44 x0 x6) w fun v1 w2 =>
  RUN Tryd.prog (pan R) (Instr.fieldAt 48 v1 2) w2 fun v3 w4 =>
  RUN Tryd.prog (pan R) (Instr.loadAt 3 v3) w4 fun v5 w6 =>
  RUN Tryd.prog (pan R) (Builtin.len_ #[28] 3 #[x3]) w6 fun v7 w8 =>
  CALL Tryd.prog (pan R) law03_pick.id #[v5, v7] w8 fun v9 w10 =>
  RUN Tryd.prog (pan R) (Instr.indexAt 28 x3 v9) w10 fun v11 w12 =>
  RUN Tryd.prog (pan R) (Instr.loadAt 9 v11) w12 fun v13 w14 =>
  RUN Tryd.prog (pan R) (bins .add 9 (.tmp 44) (.tmp 55) x4 v13) w14 fun v15 w16 =>
  b25 R C18 v15 x5 x6 x7 x8 w16)
  (b25 R C18 x4 x5 x6 x7 x8 w)
abbrev q13 (R : Ending → World → Prop) (C18 : Value → Value → Value → World → Prop) : Exit → Env → World → Prop := QX (fun ρ w => b25 R C18 (ρ 4) (ρ 5) (ρ 6) (ρ 7) (ρ 8) w) (fun ρ w => R (.returned (ρ 2)) w) [(2, (fun ρ w => b21 R C18 (ρ 4) (ρ 5) (ρ 6) w)), (0, (fun ρ w => b14 R (ρ 0) (ρ 4) (ρ 5) w))]
theorem b27_eq (R : Ending → World → Prop) (C18 : Value → Value → Value → World → Prop) (ρ : Env) (w : World) : (b27 R C18 (ρ 0) (ρ 3) (ρ 4) (ρ 5) (ρ 6) (ρ 7) (ρ 8) (ρ 43) w) = codeP Tryd.prog (pan R) p16 (q13 R C18) ρ w := by kernel_rfl
theorem b27_ok (R : Ending → World → Prop) (C18 : Value → Value → Value → World → Prop) (ρ : Env) (w : World) (h : b27 R C18 (ρ 0) (ρ 3) (ρ 4) (ρ 5) (ρ 6) (ρ 7) (ρ 8) (ρ 43) w) : codeP Tryd.prog (pan R) p16 (q13 R C18) ρ w := (b27_eq R C18 ρ w).mp h

def b26 (R : Ending → World → Prop) (C18 : Value → Value → Value → World → Prop) (x0 x3 x4 x5 x6 x7 x8 : Value) (w : World) (_r : Tok R := tok R) (_C18 : Tok C18 := tok C18) : Prop :=
  RUN Tryd.prog (pan R) (bins .gtr 3 (.tmp 33) (.const (Go.Value.int Go.IntKind.i64 0)) x6 (Go.Value.int Go.IntKind.i64 0)) w fun v1 w2 =>
  SPL v1
  (b27 R C18 x0 x3 x4 x5 x6 x7 x8 (Go.Value.bool Bool.true) w2)
  (RUN Tryd.prog (pan R) (Instr.indexAt 44 x0 x6) w2 fun v3 w4 =>
  RUN Tryd.prog (pan R) (Instr.fieldAt 48 v3 2) w4 fun v5 w6 =>
  RUN Tryd.prog (pan R) (Instr.loadAt 3 v5) w6 fun v7 w8 =>
  CALL Tryd.prog (pan R) law03_pick.id #[v7, (Go.Value.int Go.IntKind.i64 2)] w8 fun v9 w10 =>
  RUN Tryd.prog (pan R) (bins .eql 3 (.tmp 41) (.const (Go.Value.int Go.IntKind.i64 0)) v9 (Go.Value.int Go.IntKind.i64 0)) w10 fun v11 w12 =>
  b27 R C18 x0 x3 x4 x5 x6 x7 x8 v11 w12)
abbrev q14 (R : Ending → World → Prop) (C18 : Value → Value → Value → World → Prop) : Exit → Env → World → Prop := QX (fun ρ w => b27 R C18 (ρ 0) (ρ 3) (ρ 4) (ρ 5) (ρ 6) (ρ 7) (ρ 8) (ρ 43) w) (fun ρ w => R (.returned (ρ 2)) w) [(2, (fun ρ w => b21 R C18 (ρ 4) (ρ 5) (ρ 6) w)), (0, (fun ρ w => b14 R (ρ 0) (ρ 4) (ρ 5) w))]
theorem b26_eq (R : Ending → World → Prop) (C18 : Value → Value → Value → World → Prop) (ρ : Env) (w : World) : (b26 R C18 (ρ 0) (ρ 3) (ρ 4) (ρ 5) (ρ 6) (ρ 7) (ρ 8) w) = codeP Tryd.prog (pan R) (preC 0 (fstC p15)) (q14 R C18) ρ w := by kernel_rfl
theorem b26_ok (R : Ending → World → Prop) (C18 : Value → Value → Value → World → Prop) (ρ : Env) (w : World) (h : b26 R C18 (ρ 0) (ρ 3) (ρ 4) (ρ 5) (ρ 6) (ρ 7) (ρ 8) w) : codeP Tryd.prog (pan R) (fstC p15) (q13 R C18) ρ w := by
  have e : appC 0 (preC 0 (fstC p15)) (dropC 1 (fstC p15)) = (fstC p15) := by kernel_rfl
  rw [← e]
  exact appQ (fun ρ w => b27 R C18 (ρ 0) (ρ 3) (ρ 4) (ρ 5) (ρ 6) (ρ 7) (ρ 8) (ρ 43) w) 0 ((b26_eq R C18 ρ w).mp h) (fun ρ w h => b27_ok R C18 ρ w h)
theorem k24_ok (R : Ending → World → Prop) (C18 : Value → Value → Value → World → Prop) (ρ : Env) (w : World) (h : b26 R C18 (ρ 0) (ρ 3) (ρ 4) (ρ 5) (ρ 6) (ρ 7) (ρ 8) w) : codeP Tryd.prog (pan R) p15 (q12 R C18) ρ w := by
  have e : Code.seq (fstC p15) (sndC p15) = p15 := by kernel_rfl
  rw [← e]
  exact seqQ (fun ρ w => b25 R C18 (ρ 4) (ρ 5) (ρ 6) (ρ 7) (ρ 8) w) (b26_ok R C18 ρ w h) (fun ρ w h => b25_ok R C18 ρ w h)

def b23 (R : Ending → World → Prop) (C18 : Value → Value → Value → World → Prop) (x0 x3 x4 x5 x6 : Value) (w : World) (_r : Tok R := tok R) (_C18 : Tok C18 := tok C18) : Prop :=
  RUN Tryd.prog (pan R) (Instr.indexAt 44 x0 x6) w fun v1 w2 =>
  RUN Tryd.prog (pan R) (Instr.loadAt 48 v1) w2 fun v3 w4 =>
  CALL Tryd.prog (pan R) law03_made.id #[v3] w4 fun v5 w6 =>
  RUN Tryd.prog (pan R) (Instr.extract v5 0) w6 fun v7 w8 =>
  RUN Tryd.prog (pan R) (Instr.extract v5 1) w8 fun v9 w10 =>
  RUN Tryd.prog (pan R) (Instr.alloc 36 true (.tuple #[])) w10 fun v11 w12 =>
  RUNU Tryd.prog (pan R) (Instr.storeAt 36 v11 v9) w12 fun w13 =>
  b26 R C18 x0 x3 x4 x5 x6 v7 v11 w13
abbrev q15 (R : Ending → World → Prop) (C18 : Value → Value → Value → World → Prop) : Exit → Env → World → Prop := QX (fun ρ w => b26 R C18 (ρ 0) (ρ 3) (ρ 4) (ρ 5) (ρ 6) (ρ 7) (ρ 8) w) (fun ρ w => R (.returned (ρ 2)) w) [(2, (fun ρ w => b21 R C18 (ρ 4) (ρ 5) (ρ 6) w)), (0, (fun ρ w => b14 R (ρ 0) (ρ 4) (ρ 5) w))]
theorem b23_eq (R : Ending → World → Prop) (C18 : Value → Value → Value → World → Prop) (ρ : Env) (w : World) : (b23 R C18 (ρ 0) (ρ 3) (ρ 4) (ρ 5) (ρ 6) w) = codeP Tryd.prog (pan R) (preC 0 (blkC p14)) (q15 R C18) ρ w := by kernel_rfl
theorem b23_ok (R : Ending → World → Prop) (C18 : Value → Value → Value → World → Prop) (ρ : Env) (w : World) (h : b23 R C18 (ρ 0) (ρ 3) (ρ 4) (ρ 5) (ρ 6) w) : codeP Tryd.prog (pan R) (blkC p14) (q12 R C18) ρ w := by
  have e : appC 0 (preC 0 (blkC p14)) (dropC 1 (blkC p14)) = (blkC p14) := by kernel_rfl
  rw [← e]
  exact appQ (fun ρ w => b26 R C18 (ρ 0) (ρ 3) (ρ 4) (ρ 5) (ρ 6) (ρ 7) (ρ 8) w) 0 ((b23_eq R C18 ρ w).mp h) (fun ρ w h => k24_ok R C18 ρ w h)
abbrev q16 (R : Ending → World → Prop) (C18 : Value → Value → Value → World → Prop) : Exit → Env → World → Prop := QX (fun ρ w => b21 R C18 (ρ 4) (ρ 5) (ρ 6) w) (fun ρ w => R (.returned (ρ 2)) w) [(0, (fun ρ w => b14 R (ρ 0) (ρ 4) (ρ 5) w))]
theorem k22_ok (R : Ending → World → Prop) (C18 : Value → Value → Value → World → Prop) (ρ : Env) (w : World) (h : b23 R C18 (ρ 0) (ρ 3) (ρ 4) (ρ 5) (ρ 6) w) : codeP Tryd.prog (pan R) p14 (q16 R C18) ρ w := by
  have e : Code.block 1 (blkC p14) = p14 := by kernel_rfl
  rw [← e]
  exact blockQ (b23_ok R C18 ρ w h)
theorem k20_ok (R : Ending → World → Prop) (C18 : Value → Value → Value → World → Prop) (ρ : Env) (w : World) (h : b23 R C18 (ρ 0) (ρ 3) (ρ 4) (ρ 5) (ρ 6) w) : codeP Tryd.prog (pan R) (sndC p12) (q11 R C18) ρ w := by
  have e : Code.seq (fstC (sndC p12)) (sndC (sndC p12)) = (sndC p12) := by kernel_rfl
  rw [← e]
  exact seqQ (fun ρ w => b21 R C18 (ρ 4) (ρ 5) (ρ 6) w) (k22_ok R C18 ρ w h) (fun ρ w h => b21_ok R C18 ρ w h)
noncomputable abbrev p17 : Code := dropC 1 (fstC p12)

def b29 (R : Ending → World → Prop) (C18 : Value → Value → Value → World → Prop) (x0 x3 x4 x5 x6 x22 : Value) (w : World) (_r : Tok R := tok R) (_C18 : Tok C18 := tok C18) : Prop :=
  SPL x22
  (b23 R C18 x0 x3 x4 x5 x6 w)
  (b14 R x0 x4 x5 w)
abbrev q17 (R : Ending → World → Prop) (C18 : Value → Value → Value → World → Prop) : Exit → Env → World → Prop := QX (fun ρ w => b23 R C18 (ρ 0) (ρ 3) (ρ 4) (ρ 5) (ρ 6) w) (fun ρ w => R (.returned (ρ 2)) w) [(0, (fun ρ w => b14 R (ρ 0) (ρ 4) (ρ 5) w))]
theorem b29_eq (R : Ending → World → Prop) (C18 : Value → Value → Value → World → Prop) (ρ : Env) (w : World) : (b29 R C18 (ρ 0) (ρ 3) (ρ 4) (ρ 5) (ρ 6) (ρ 22) w) = codeP Tryd.prog (pan R) p17 (q17 R C18) ρ w := by kernel_rfl
theorem b29_ok (R : Ending → World → Prop) (C18 : Value → Value → Value → World → Prop) (ρ : Env) (w : World) (h : b29 R C18 (ρ 0) (ρ 3) (ρ 4) (ρ 5) (ρ 6) (ρ 22) w) : codeP Tryd.prog (pan R) p17 (q17 R C18) ρ w := (b29_eq R C18 ρ w).mp h

def b28 (R : Ending → World → Prop) (C18 : Value → Value → Value → World → Prop) (x0 x3 x4 x5 x6 : Value) (w : World) (_r : Tok R := tok R) (_C18 : Tok C18 := tok C18) : Prop :=
  RUN Tryd.prog (pan R) (Builtin.len_ #[44] 3 #[x0]) w fun v1 w2 =>
  RUN Tryd.prog (pan R) (bins .lss 3 (.tmp 15) (.tmp 17) x6 v1) w2 fun v3 w4 =>
  SPL v3
  (RUN Tryd.prog (pan R) (bins .lss 3 (.tmp 20) (.const (Go.Value.int Go.IntKind.i64 200)) x6 (Go.Value.int Go.IntKind.i64 200)) w4 fun v5 w6 =>
  b29 R C18 x0 x3 x4 x5 x6 v5 w6)
  (b29 R C18 x0 x3 x4 x5 x6 (Go.Value.bool Bool.false) w4)
abbrev q18 (R : Ending → World → Prop) (C18 : Value → Value → Value → World → Prop) : Exit → Env → World → Prop := QX (fun ρ w => b29 R C18 (ρ 0) (ρ 3) (ρ 4) (ρ 5) (ρ 6) (ρ 22) w) (fun ρ w => R (.returned (ρ 2)) w) [(0, (fun ρ w => b14 R (ρ 0) (ρ 4) (ρ 5) w))]
theorem b28_eq (R : Ending → World → Prop) (C18 : Value → Value → Value → World → Prop) (ρ : Env) (w : World) : (b28 R C18 (ρ 0) (ρ 3) (ρ 4) (ρ 5) (ρ 6) w) = codeP Tryd.prog (pan R) (preC 0 (fstC p12)) (q18 R C18) ρ w := by kernel_rfl
theorem b28_ok (R : Ending → World → Prop) (C18 : Value → Value → Value → World → Prop) (ρ : Env) (w : World) (h : b28 R C18 (ρ 0) (ρ 3) (ρ 4) (ρ 5) (ρ 6) w) : codeP Tryd.prog (pan R) (fstC p12) (q17 R C18) ρ w := by
  have e : appC 0 (preC 0 (fstC p12)) (dropC 1 (fstC p12)) = (fstC p12) := by kernel_rfl
  rw [← e]
  exact appQ (fun ρ w => b29 R C18 (ρ 0) (ρ 3) (ρ 4) (ρ 5) (ρ 6) (ρ 22) w) 0 ((b28_eq R C18 ρ w).mp h) (fun ρ w h => b29_ok R C18 ρ w h)
theorem k19_ok (R : Ending → World → Prop) (C18 : Value → Value → Value → World → Prop) (ρ : Env) (w : World) (h : b28 R C18 (ρ 0) (ρ 3) (ρ 4) (ρ 5) (ρ 6) w) : codeP Tryd.prog (pan R) p12 (q11 R C18) ρ w := by
  have e : Code.seq (fstC p12) (sndC p12) = p12 := by kernel_rfl
  rw [← e]
  exact seqQ (fun ρ w => b23 R C18 (ρ 0) (ρ 3) (ρ 4) (ρ 5) (ρ 6) w) (b28_ok R C18 ρ w h) (fun ρ w h => k20_ok R C18 ρ w h)

def l18 (R : Ending → World → Prop) (x0 x3 x4 x5 x6 : Value) (w : World) (_r : Tok R := tok R) : Prop :=
  ∃ (J : Value → Value → Value → World → Prop) (μ : Value → Value → Value → World → Nat), J x4 x5 x6 w ∧ ∀ y4 y5 y6 w0, J y4 y5 y6 w0 → b28 R (fun z4 z5 z6 w1 => J z4 z5 z6 w1 ∧ μ z4 z5 z6 w1 < μ y4 y5 y6 w0) x0 x3 y4 y5 y6 w0
abbrev q19 (R : Ending → World → Prop) : Exit → Env → World → Prop := QX (fun ρ w => b14 R (ρ 0) (ρ 4) (ρ 5) w) (fun ρ w => R (.returned (ρ 2)) w) [(0, (fun ρ w => b14 R (ρ 0) (ρ 4) (ρ 5) w))]
theorem l18_ok (R : Ending → World → Prop) (ρ : Env) (w : World) (h : l18 R (ρ 0) (ρ 3) (ρ 4) (ρ 5) (ρ 6) w) : codeP Tryd.prog (pan R) (blkC p11) (q19 R) ρ w := by
  unfold l18 at h
  obtain ⟨J, μ, h0, hr⟩ := h
  have e : Code.loop (loopC (blkC p11)) = (blkC p11) := by kernel_rfl
  rw [← e]
  refine loopQ (fun ρ' w' => J (ρ' 4) (ρ' 5) (ρ' 6) w') (fun ρ' w' => μ (ρ' 4) (ρ' 5) (ρ' 6) w') h0 fun ρ' w' hA hI => ?_
  have e0 : ρ' 0 = ρ 0 := Agree.at hA 0 (by kernel_rfl)
  have e3 : ρ' 3 = ρ 3 := Agree.at hA 3 (by kernel_rfl)
  have h1 := hr (ρ' 4) (ρ' 5) (ρ' 6) w' hI
  rw [← e0, ← e3] at h1
  exact k19_ok R (fun z4 z5 z6 w1 => J z4 z5 z6 w1 ∧ μ z4 z5 z6 w1 < μ (ρ' 4) (ρ' 5) (ρ' 6) w') ρ' w' h1
theorem l18_intro (R : Ending → World → Prop) (x0 x3 x4 x5 x6 : Value) (w : World) (J : Value → Value → Value → World → Prop) (μ : Value → Value → Value → World → Nat) (h0 : J x4 x5 x6 w)
    (hr : ∀ y4 y5 y6 w0, J y4 y5 y6 w0 → ∀ C18 : Value → Value → Value → World → Prop, (∀ z4 z5 z6 w1, J z4 z5 z6 w1 → μ z4 z5 z6 w1 < μ y4 y5 y6 w0 → C18 z4 z5 z6 w1) → b28 R C18 x0 x3 y4 y5 y6 w0) : l18 R x0 x3 x4 x5 x6 w := by
  unfold l18
  exact ⟨J, μ, h0, fun y4 y5 y6 w0 hJ => hr y4 y5 y6 w0 hJ _ (fun z4 z5 z6 w1 h1 h2 => ⟨h1, h2⟩)⟩
abbrev q20 (R : Ending → World → Prop) : Exit → Env → World → Prop := QX (fun ρ w => b14 R (ρ 0) (ρ 4) (ρ 5) w) (fun ρ w => R (.returned (ρ 2)) w) []
theorem k17_ok (R : Ending → World → Prop) (ρ : Env) (w : World) (h : l18 R (ρ 0) (ρ 3) (ρ 4) (ρ 5) (ρ 6) w) : codeP Tryd.prog (pan R) p11 (q20 R) ρ w := by
  have e : Code.block 0 (blkC p11) = p11 := by kernel_rfl
  rw [← e]
  exact blockQ (l18_ok R ρ w h)

def b16 (R : Ending → World → Prop) (x0 x3 x4 x5 : Value) (w : World) (_r : Tok R := tok R) : Prop :=
  l18 R x0 x3 x4 x5 (Go.Value.int Go.IntKind.i64 0) w
abbrev q21 (R : Ending → World → Prop) : Exit → Env → World → Prop := QX (fun ρ w => l18 R (ρ 0) (ρ 3) (ρ 4) (ρ 5) (ρ 6) w) (fun ρ w => R (.returned (ρ 2)) w) []
theorem b16_eq (R : Ending → World → Prop) (ρ : Env) (w : World) : (b16 R (ρ 0) (ρ 3) (ρ 4) (ρ 5) w) = codeP Tryd.prog (pan R) (preC 0 (fstC p1)) (q21 R) ρ w := by kernel_rfl
theorem b16_ok (R : Ending → World → Prop) (ρ : Env) (w : World) (h : b16 R (ρ 0) (ρ 3) (ρ 4) (ρ 5) w) : codeP Tryd.prog (pan R) (fstC p1) (q20 R) ρ w := by
  have e : appC 0 (preC 0 (fstC p1)) (dropC 1 (fstC p1)) = (fstC p1) := by kernel_rfl
  rw [← e]
  exact appQ (fun ρ w => l18 R (ρ 0) (ρ 3) (ρ 4) (ρ 5) (ρ 6) w) 0 ((b16_eq R ρ w).mp h) (fun ρ w h => k17_ok R ρ w h)
theorem k2_ok (R : Ending → World → Prop) (ρ : Env) (w : World) (h : b16 R (ρ 0) (ρ 3) (ρ 4) (ρ 5) w) : codeP Tryd.prog (pan R) p1 (q1 R) ρ w := by
  have e : Code.seq (fstC p1) (sndC p1) = p1 := by kernel_rfl
  rw [← e]
  exact seqQ (fun ρ w => b14 R (ρ 0) (ρ 4) (ρ 5) w) (b16_ok R ρ w h) (fun ρ w h => k3_ok R ρ w h)

def b1 (R : Ending → World → Prop) (x0 : Value) (w : World) (_r : Tok R := tok R) : Prop :=
  CALL Tryd.prog (pan R) law03_awake.id #[] w fun v1 w2 =>
  RUN Tryd.prog (pan R) (Op.unary .not v1) w2 fun v3 w4 =>
  SPL v3
  (R (.returned (Go.Value.bool Bool.false)) w4)
  (RUN Tryd.prog (pan R) (Instr.buildSlice 28 6 #[(0, (Go.Value.string { data := #[32] })), (1, (Go.Value.string { data := #[10] })), (2, (Go.Value.string { data := #[9, 32, 13, 10] })), (3, (Go.Value.string { data := #[32, 35, 32, 97, 32, 39, 98, 32, 37, 99, 10] })), (4, (Go.Value.string { data := #[35, 10, 10] })), (5, (Go.Value.string { data := #[32, 32] }))]) w4 fun v5 w6 =>
  b16 R x0 v5 (Go.Value.string { data := #[] }) (Go.Value.slice Option.none 0 0) w6)
abbrev q22 (R : Ending → World → Prop) : Exit → Env → World → Prop := QX (fun ρ w => b16 R (ρ 0) (ρ 3) (ρ 4) (ρ 5) w) (fun ρ w => R (.returned (ρ 2)) w) []
theorem b1_eq (R : Ending → World → Prop) (ρ : Env) (w : World) : (b1 R (ρ 0) w) = codeP Tryd.prog (pan R) (preC 4 code) (q22 R) ρ w := by kernel_rfl
theorem b1_ok (R : Ending → World → Prop) (ρ : Env) (w : World) (h : b1 R (ρ 0) w) : codeP Tryd.prog (pan R) code (q1 R) ρ w := by
  have e : appC 4 (preC 4 code) (dropC 5 code) = code := by kernel_rfl
  rw [← e]
  exact appQ (fun ρ w => b16 R (ρ 0) (ρ 3) (ρ 4) (ρ 5) w) 4 ((b1_eq R ρ w).mp h) (fun ρ w h => k2_ok R ρ w h)
/-- What is owed for a call. -/
def run (R : Ending → World → Prop) (a0 : Value) (w : World) : Prop := b1 R a0 w
theorem calls (R : Ending → World → Prop) (a0 : Value) (w : World) (h : run R a0 w) : Calls Tryd.prog id #[a0] w R :=
  calls_of_t (f := id) (fn := Tryd.f5) (c := code) (by kernel_rfl) Tryd.func5 (by kernel_rfl) (by kernel_rfl) (args := [a0]) (Nat.le_of_ble_eq_true rfl) rfl (b1_ok R (envOf [a0]) w h)
theorem enters : Enters Tryd.prog id := fun args w => Tryd.call5 args w
theorem ct {a0 : Value} {w : World} {S : Value → World → Prop} (h : ∀ R : Ending → World → Prop, (∀ v w, S v w → R (.returned v) w) → run R a0 w) : Ct Tryd.prog id #[a0] w S :=
  Ct.intro enters fun R hR => calls R a0 w (h R hR)
attribute [irreducible] b7 b11 l10 b8 b13 b12 b4 b15 b14 b21 b25 b27 b26 b23 b29 b28 l18 b16 b1 run
end law03_ScanSpread

/-! ### presage/presagelaw03.ScanBegins -/
namespace law03_ScanBegins
noncomputable def code : Code := bodyOf Tryd.f6
noncomputable abbrev p1 : Code := dropC 4 code
noncomputable abbrev p2 : Code := dropC 3 (sndC p1)
noncomputable abbrev p3 : Code := sndC (sndC p2)

def b6 (R : Ending → World → Prop) (x0 x1 x6 : Value) (w : World) (_r : Tok R := tok R) : Prop :=
  RUN Tryd.prog (pan R) (Instr.fieldAt 30 x6 1) w fun v1 w2 =>
  RUN Tryd.prog (pan R) (Instr.loadAt 3 v1) w2 fun v3 w4 =>
  RUN Tryd.prog (pan R) (Builtin.len_ #[9] 3 #[x0]) w4 fun v5 w6 =>
  RUN Tryd.prog (pan R) (bins .eql 3 (.tmp 109) (.tmp 111) v3 v5) w6 fun v7 w8 =>
  SPL v7
  (R (.returned (Go.Value.bool Bool.true)) w8)
  (RUN Tryd.prog (pan R) (Instr.fieldAt 30 x6 1) w8 fun v9 w10 =>
  RUN Tryd.prog (pan R) (Instr.loadAt 3 v9) w10 fun v11 w12 =>
  RUN Tryd.prog (pan R) (bins .add 3 (.tmp 115) (.const (Go.Value.int Go.IntKind.i64 1)) v11 (Go.Value.int Go.IntKind.i64 1)) w12 fun v13 w14 =>
  RUN Tryd.prog (pan R) (Instr.sliceAt 9 x0 none (some v13) none) w14 fun v15 w16 =>
  RUN Tryd.prog (pan R) (bins .add 9 (.tmp 117) (.tmp 118) v15 x1) w16 fun v17 w18 =>
  RUN Tryd.prog (pan R) (Builtin.len_ #[9] 3 #[v17]) w18 fun v19 w20 =>
  RUN Tryd.prog (pan R) (bins .gtr 3 (.tmp 121) (.const (Go.Value.int Go.IntKind.i64 8192)) v19 (Go.Value.int Go.IntKind.i64 8192)) w20 fun v21 w22 =>
  SPL v21
  (R (.returned (Go.Value.bool Bool.true)) w22)
  (CALL Tryd.prog (pan R) scan_Words.id #[v17] w22 fun v23 w24 =>
  RUN Tryd.prog (pan R) (Instr.extract v23 0) w24 fun v25 w26 =>
  RUN Tryd.prog (pan R) (Instr.extract v23 1) w26 fun v27 w28 =>
  RUN Tryd.prog (pan R) (Instr.alloc 30 true (.tuple #[])) w28 fun v29 w30 =>
  RUNU Tryd.prog (pan R) (Instr.storeAt 30 v29 v27) w30 fun w31 =>
  RUN Tryd.prog (pan R) (Instr.fieldAt 30 v29 0) w31 fun v32 w33 =>
  RUN Tryd.prog (pan R) (Instr.loadAt 27 v32) w33 fun v34 w35 =>
  RUN Tryd.prog (pan R) (bins .eql 27 (.tmp 129) (.const (Go.Value.int Go.IntKind.i64 10)) v34 (Go.Value.int Go.IntKind.i64 10)) w35 fun v36 w37 =>
  SPL v36
  (RUN Tryd.prog (pan R) (Instr.fieldAt 30 v29 1) w37 fun v38 w39 =>
  RUN Tryd.prog (pan R) (Instr.loadAt 3 v38) w39 fun v40 w41 =>
  RUN Tryd.prog (pan R) (Instr.fieldAt 30 x6 1) w41 fun v42 w43 =>
  RUN Tryd.prog (pan R) (Instr.loadAt 3 v42) w43 fun v44 w45 =>
  RUN Tryd.prog (pan R) (bins .eql 3 (.tmp 133) (.tmp 135) v40 v44) w45 fun v46 w47 =>
  R (.returned v46) w47)
  (R (.returned (Go.Value.bool Bool.false)) w37)))
abbrev q1 (R : Ending → World → Prop) : Exit → Env → World → Prop := QX (fun ρ w => R (.returned (ρ 4)) w) (fun ρ w => R (.returned (ρ 4)) w) []
theorem b6_eq (R : Ending → World → Prop) (ρ : Env) (w : World) : (b6 R (ρ 0) (ρ 1) (ρ 6) w) = codeP Tryd.prog (pan R) p3 (q1 R) ρ w := by kernel_rfl
theorem b6_ok (R : Ending → World → Prop) (ρ : Env) (w : World) (h : b6 R (ρ 0) (ρ 1) (ρ 6) w) : codeP Tryd.prog (pan R) p3 (q1 R) ρ w := (b6_eq R ρ w).mp h
noncomputable abbrev p4 : Code := fstC (sndC p2)
noncomputable abbrev p5 : Code := dropC 1 p4

def b8 (R : Ending → World → Prop) (x0 x1 x6 x107 : Value) (w : World) (_r : Tok R := tok R) : Prop :=
  SPL x107
  (R (.returned (Go.Value.bool Bool.false)) w)
  (b6 R x0 x1 x6 w)
abbrev q2 (R : Ending → World → Prop) : Exit → Env → World → Prop := QX (fun ρ w => b6 R (ρ 0) (ρ 1) (ρ 6) w) (fun ρ w => R (.returned (ρ 4)) w) []
theorem b8_eq (R : Ending → World → Prop) (ρ : Env) (w : World) : (b8 R (ρ 0) (ρ 1) (ρ 6) (ρ 107) w) = codeP Tryd.prog (pan R) p5 (q2 R) ρ w := by kernel_rfl
theorem b8_ok (R : Ending → World → Prop) (ρ : Env) (w : World) (h : b8 R (ρ 0) (ρ 1) (ρ 6) (ρ 107) w) : codeP Tryd.prog (pan R) p5 (q2 R) ρ w := (b8_eq R ρ w).mp h

def b7 (R : Ending → World → Prop) (x0 x1 x6 x9 x10 x11 : Value) (w : World) (_r : Tok R := tok R) : Prop :=
  RUN Tryd.prog (pan R) (Instr.fieldAt 30 x11 0) w fun v1 w2 =>
  RUN Tryd.prog (pan R) (Instr.loadAt 27 v1) w2 fun v3 w4 =>
  RUN Tryd.prog (pan R) (bins .eql 27 (.tmp 86) (.const (Go.Value.int Go.IntKind.i64 0)) v3 (Go.Value.int Go.IntKind.i64 0)) w4 fun v5 w6 =>
  SPL v5
  (RUN Tryd.prog (pan R) (Builtin.len_ #[26] 3 #[x10]) w6 fun v7 w8 =>
  RUN Tryd.prog (pan R) (bins .eql 3 (.tmp 90) (.const (Go.Value.int Go.IntKind.i64 0)) v7 (Go.Value.int Go.IntKind.i64 0)) w8 fun v9 w10 =>
  SPL v9
  (RUN Tryd.prog (pan R) (Builtin.len_ #[9] 3 #[x9]) w10 fun v11 w12 =>
  RUN Tryd.prog (pan R) (bins .gtr 3 (.tmp 95) (.const (Go.Value.int Go.IntKind.i64 0)) v11 (Go.Value.int Go.IntKind.i64 0)) w12 fun v13 w14 =>
  SPL v13
  (RUN Tryd.prog (pan R) (Instr.index 9 x9 (Go.Value.int Go.IntKind.i64 0)) w14 fun v15 w16 =>
  RUN Tryd.prog (pan R) (bins .gtr 5 (.tmp 100) (.const (Go.Value.int Go.IntKind.u8 32)) v15 (Go.Value.int Go.IntKind.u8 32)) w16 fun v17 w18 =>
  SPL v17
  (RUN Tryd.prog (pan R) (Instr.index 9 x9 (Go.Value.int Go.IntKind.i64 0)) w18 fun v19 w20 =>
  RUN Tryd.prog (pan R) (bins .neq 5 (.tmp 105) (.const (Go.Value.int Go.IntKind.u8 35)) v19 (Go.Value.int Go.IntKind.u8 35)) w20 fun v21 w22 =>
  b8 R x0 x1 x6 v21 w22)
  (b8 R x0 x1 x6 (Go.Value.bool Bool.false) w18))
  (b8 R x0 x1 x6 (Go.Value.bool Bool.false) w14))
  (b8 R x0 x1 x6 (Go.Value.bool Bool.false) w10))
  (b8 R x0 x1 x6 (Go.Value.bool Bool.false) w6)
abbrev q3 (R : Ending → World → Prop) : Exit → Env → World → Prop := QX (fun ρ w => b8 R (ρ 0) (ρ 1) (ρ 6) (ρ 107) w) (fun ρ w => R (.returned (ρ 4)) w) []
theorem b7_eq (R : Ending → World → Prop) (ρ : Env) (w : World) : (b7 R (ρ 0) (ρ 1) (ρ 6) (ρ 9) (ρ 10) (ρ 11) w) = codeP Tryd.prog (pan R) (preC 0 p4) (q3 R) ρ w := by kernel_rfl
theorem b7_ok (R : Ending → World → Prop) (ρ : Env) (w : World) (h : b7 R (ρ 0) (ρ 1) (ρ 6) (ρ 9) (ρ 10) (ρ 11) w) : codeP Tryd.prog (pan R) p4 (q2 R) ρ w := by
  have e : appC 0 (preC 0 p4) (dropC 1 p4) = p4 := by kernel_rfl
  rw [← e]
  exact appQ (fun ρ w => b8 R (ρ 0) (ρ 1) (ρ 6) (ρ 107) w) 0 ((b7_eq R ρ w).mp h) (fun ρ w h => b8_ok R ρ w h)
theorem k5_ok (R : Ending → World → Prop) (ρ : Env) (w : World) (h : b7 R (ρ 0) (ρ 1) (ρ 6) (ρ 9) (ρ 10) (ρ 11) w) : codeP Tryd.prog (pan R) (sndC p2) (q1 R) ρ w := by
  have e : Code.seq (fstC (sndC p2)) (sndC (sndC p2)) = (sndC p2) := by kernel_rfl
  rw [← e]
  exact seqQ (fun ρ w => b6 R (ρ 0) (ρ 1) (ρ 6) w) (b7_ok R ρ w h) (fun ρ w h => b6_ok R ρ w h)
noncomputable abbrev p6 : Code := dropC 1 (fstC p2)

def b10 (R : Ending → World → Prop) (x0 x1 x6 x9 x10 x11 x84 : Value) (w : World) (_r : Tok R := tok R) : Prop :=
  SPL x84
  (R (.returned (Go.Value.bool Bool.false)) w)
  (b7 R x0 x1 x6 x9 x10 x11 w)
abbrev q4 (R : Ending → World → Prop) : Exit → Env → World → Prop := QX (fun ρ w => b7 R (ρ 0) (ρ 1) (ρ 6) (ρ 9) (ρ 10) (ρ 11) w) (fun ρ w => R (.returned (ρ 4)) w) []
theorem b10_eq (R : Ending → World → Prop) (ρ : Env) (w : World) : (b10 R (ρ 0) (ρ 1) (ρ 6) (ρ 9) (ρ 10) (ρ 11) (ρ 84) w) = codeP Tryd.prog (pan R) p6 (q4 R) ρ w := by kernel_rfl
theorem b10_ok (R : Ending → World → Prop) (ρ : Env) (w : World) (h : b10 R (ρ 0) (ρ 1) (ρ 6) (ρ 9) (ρ 10) (ρ 11) (ρ 84) w) : codeP Tryd.prog (pan R) p6 (q4 R) ρ w := (b10_eq R ρ w).mp h

def b9 (R : Ending → World → Prop) (x0 x1 x6 x9 x10 x11 : Value) (w : World) (_r : Tok R := tok R) : Prop :=
  RUN Tryd.prog (pan R) (Instr.fieldAt 30 x11 0) w fun v1 w2 =>
  RUN Tryd.prog (pan R) (Instr.loadAt 27 v1) w2 fun v3 w4 =>
  RUN Tryd.prog (pan R) (bins .neq 27 (.tmp 76) (.const (Go.Value.int Go.IntKind.i64 0)) v3 (Go.Value.int Go.IntKind.i64 0)) w4 fun v5 w6 =>
  SPL v5
  (RUN Tryd.prog (pan R) (Instr.fieldAt 30 x11 1) w6 fun v7 w8 =>
  RUN Tryd.prog (pan R) (Instr.loadAt 3 v7) w8 fun v9 w10 =>
  RUN Tryd.prog (pan R) (Instr.fieldAt 30 x6 1) w10 fun v11 w12 =>
  RUN Tryd.prog (pan R) (Instr.loadAt 3 v11) w12 fun v13 w14 =>
  RUN Tryd.prog (pan R) (bins .neq 3 (.tmp 80) (.tmp 82) v9 v13) w14 fun v15 w16 =>
  b10 R x0 x1 x6 x9 x10 x11 v15 w16)
  (b10 R x0 x1 x6 x9 x10 x11 (Go.Value.bool Bool.false) w6)
abbrev q5 (R : Ending → World → Prop) : Exit → Env → World → Prop := QX (fun ρ w => b10 R (ρ 0) (ρ 1) (ρ 6) (ρ 9) (ρ 10) (ρ 11) (ρ 84) w) (fun ρ w => R (.returned (ρ 4)) w) []
theorem b9_eq (R : Ending → World → Prop) (ρ : Env) (w : World) : (b9 R (ρ 0) (ρ 1) (ρ 6) (ρ 9) (ρ 10) (ρ 11) w) = codeP Tryd.prog (pan R) (preC 0 (fstC p2)) (q5 R) ρ w := by kernel_rfl
theorem b9_ok (R : Ending → World → Prop) (ρ : Env) (w : World) (h : b9 R (ρ 0) (ρ 1) (ρ 6) (ρ 9) (ρ 10) (ρ 11) w) : codeP Tryd.prog (pan R) (fstC p2) (q4 R) ρ w := by
  have e : appC 0 (preC 0 (fstC p2)) (dropC 1 (fstC p2)) = (fstC p2) := by kernel_rfl
  rw [← e]
  exact appQ (fun ρ w => b10 R (ρ 0) (ρ 1) (ρ 6) (ρ 9) (ρ 10) (ρ 11) (ρ 84) w) 0 ((b9_eq R ρ w).mp h) (fun ρ w h => b10_ok R ρ w h)
theorem k4_ok (R : Ending → World → Prop) (ρ : Env) (w : World) (h : b9 R (ρ 0) (ρ 1) (ρ 6) (ρ 9) (ρ 10) (ρ 11) w) : codeP Tryd.prog (pan R) p2 (q1 R) ρ w := by
  have e : Code.seq (fstC p2) (sndC p2) = p2 := by kernel_rfl
  rw [← e]
  exact seqQ (fun ρ w => b7 R (ρ 0) (ρ 1) (ρ 6) (ρ 9) (ρ 10) (ρ 11) w) (b9_ok R ρ w h) (fun ρ w h => k5_ok R ρ w h)

def b3 (R : Ending → World → Prop) (x0 x1 x6 : Value) (w : World) (_r : Tok R := tok R) : Prop :=
  RUN Tryd.prog (pan R) (Builtin.len_ #[9] 3 #[x0]) w fun v1 w2 =>
  RUN Tryd.prog (pan R) (bins .gtr 3 (.tmp 61) (.const (Go.Value.int Go.IntKind.i64 8192)) v1 (Go.Value.int Go.IntKind.i64 8192)) w2 fun v3 w4 =>
  SPL v3
  (RUN Tryd.prog (pan R) (Instr.fieldAt 30 x6 1) w4 fun v5 w6 =>
  RUN Tryd.prog (pan R) (Instr.loadAt 3 v5) w6 fun v7 w8 =>
  RUN Tryd.prog (pan R) (bins .eql 3 (.tmp 64) (.const (Go.Value.int Go.IntKind.i64 8192)) v7 (Go.Value.int Go.IntKind.i64 8192)) w8 fun v9 w10 =>
  R (.returned v9) w10)
  (RUN Tryd.prog (pan R) (Instr.fieldAt 30 x6 1) w4 fun v11 w12 =>
  RUN Tryd.prog (pan R) (Instr.loadAt 3 v11) w12 fun v13 w14 =>
  RUN Tryd.prog (pan R) (Instr.sliceAt 9 x0 none (some v13) none) w14 fun v15 w16 =>
  CALL Tryd.prog (pan R) scan_Words.id #[v15] w16 fun v17 w18 =>
  RUN Tryd.prog (pan R) (Instr.extract v17 0) w18 fun v19 w20 =>
  RUN Tryd.prog (pan R) (Instr.extract v17 1) w20 fun v21 w22 =>
  RUN Tryd.prog (pan R) (Instr.alloc 30 true (.tuple #[])) w22 fun v23 w24 =>
  RUNU Tryd.prog (pan R) (Instr.storeAt 30 v23 v21) w24 fun w25 =>
  b9 R x0 x1 x6 v15 v19 v23 w25)
abbrev q6 (R : Ending → World → Prop) : Exit → Env → World → Prop := QX (fun ρ w => b9 R (ρ 0) (ρ 1) (ρ 6) (ρ 9) (ρ 10) (ρ 11) w) (fun ρ w => R (.returned (ρ 4)) w) []
theorem b3_eq (R : Ending → World → Prop) (ρ : Env) (w : World) : (b3 R (ρ 0) (ρ 1) (ρ 6) w) = codeP Tryd.prog (pan R) (preC 2 (sndC p1)) (q6 R) ρ w := by kernel_rfl
theorem b3_ok (R : Ending → World → Prop) (ρ : Env) (w : World) (h : b3 R (ρ 0) (ρ 1) (ρ 6) w) : codeP Tryd.prog (pan R) (sndC p1) (q1 R) ρ w := by
  have e : appC 2 (preC 2 (sndC p1)) (dropC 3 (sndC p1)) = (sndC p1) := by kernel_rfl
  rw [← e]
  exact appQ (fun ρ w => b9 R (ρ 0) (ρ 1) (ρ 6) (ρ 9) (ρ 10) (ρ 11) w) 2 ((b3_eq R ρ w).mp h) (fun ρ w h => k4_ok R ρ w h)
noncomputable abbrev p7 : Code := dropC 1 (fstC p1)

def b12 (R : Ending → World → Prop) (x0 x1 x6 x59 : Value) (w : World) (_r : Tok R := tok R) : Prop :=
  SPL x59
  (R (.returned (Go.Value.bool Bool.false)) w)
  (b3 R x0 x1 x6 w)
abbrev q7 (R : Ending → World → Prop) : Exit → Env → World → Prop := QX (fun ρ w => b3 R (ρ 0) (ρ 1) (ρ 6) w) (fun ρ w => R (.returned (ρ 4)) w) []
theorem b12_eq (R : Ending → World → Prop) (ρ : Env) (w : World) : (b12 R (ρ 0) (ρ 1) (ρ 6) (ρ 59) w) = codeP Tryd.prog (pan R) p7 (q7 R) ρ w := by kernel_rfl
theorem b12_ok (R : Ending → World → Prop) (ρ : Env) (w : World) (h : b12 R (ρ 0) (ρ 1) (ρ 6) (ρ 59) w) : codeP Tryd.prog (pan R) p7 (q7 R) ρ w := (b12_eq R ρ w).mp h

def b11 (R : Ending → World → Prop) (x0 x1 x5 x6 : Value) (w : World) (_r : Tok R := tok R) : Prop :=
  RUN Tryd.prog (pan R) (Instr.fieldAt 30 x6 1) w fun v1 w2 =>
  RUN Tryd.prog (pan R) (Instr.loadAt 3 v1) w2 fun v3 w4 =>
  RUN Tryd.prog (pan R) (bins .lss 3 (.tmp 46) (.const (Go.Value.int Go.IntKind.i64 0)) v3 (Go.Value.int Go.IntKind.i64 0)) w4 fun v5 w6 =>
  SPL v5
  (b12 R x0 x1 x6 (Go.Value.bool Bool.true) w6)
  (RUN Tryd.prog (pan R) (Instr.fieldAt 30 x6 1) w6 fun v7 w8 =>
  RUN Tryd.prog (pan R) (Instr.loadAt 3 v7) w8 fun v9 w10 =>
  RUN Tryd.prog (pan R) (Builtin.len_ #[9] 3 #[x0]) w10 fun v11 w12 =>
  RUN Tryd.prog (pan R) (bins .gtr 3 (.tmp 50) (.tmp 52) v9 v11) w12 fun v13 w14 =>
  SPL v13
  (b12 R x0 x1 x6 (Go.Value.bool Bool.true) w14)
  (RUN Tryd.prog (pan R) (Builtin.len_ #[26] 3 #[x5]) w14 fun v15 w16 =>
  RUN Tryd.prog (pan R) (bins .neq 3 (.tmp 57) (.const (Go.Value.int Go.IntKind.i64 0)) v15 (Go.Value.int Go.IntKind.i64 0)) w16 fun v17 w18 =>
  b12 R x0 x1 x6 v17 w18))
abbrev q8 (R : Ending → World → Prop) : Exit → Env → World → Prop := QX (fun ρ w => b12 R (ρ 0) (ρ 1) (ρ 6) (ρ 59) w) (fun ρ w => R (.returned (ρ 4)) w) []
theorem b11_eq (R : Ending → World → Prop) (ρ : Env) (w : World) : (b11 R (ρ 0) (ρ 1) (ρ 5) (ρ 6) w) = codeP Tryd.prog (pan R) (preC 0 (fstC p1)) (q8 R) ρ w := by kernel_rfl
theorem b11_ok (R : Ending → World → Prop) (ρ : Env) (w : World) (h : b11 R (ρ 0) (ρ 1) (ρ 5) (ρ 6) w) : codeP Tryd.prog (pan R) (fstC p1) (q7 R) ρ w := by
  have e : appC 0 (preC 0 (fstC p1)) (dropC 1 (fstC p1)) = (fstC p1) := by kernel_rfl
  rw [← e]
  exact appQ (fun ρ w => b12 R (ρ 0) (ρ 1) (ρ 6) (ρ 59) w) 0 ((b11_eq R ρ w).mp h) (fun ρ w h => b12_ok R ρ w h)
theorem k2_ok (R : Ending → World → Prop) (ρ : Env) (w : World) (h : b11 R (ρ 0) (ρ 1) (ρ 5) (ρ 6) w) : codeP Tryd.prog (pan R) p1 (q1 R) ρ w := by
  have e : Code.seq (fstC p1) (sndC p1) = p1 := by kernel_rfl
  rw [← e]
  exact seqQ (fun ρ w => b3 R (ρ 0) (ρ 1) (ρ 6) w) (b11_ok R ρ w h) (fun ρ w h => b3_ok R ρ w h)

def b1 (R : Ending → World → Prop) (x0 x1 : Value) (w : World) (_r : Tok R := tok R) : Prop :=
  CALL Tryd.prog (pan R) law03_awake.id #[] w fun v1 w2 =>
  RUN Tryd.prog (pan R) (Op.unary .not v1) w2 fun v3 w4 =>
  SPL v3
  (R (.returned (Go.Value.bool Bool.false)) w4)
  (CALL Tryd.prog (pan R) scan_Words.id #[x0] w4 fun v5 w6 =>
  RUN Tryd.prog (pan R) (Instr.extract v5 0) w6 fun v7 w8 =>
  RUN Tryd.prog (pan R) (Instr.extract v5 1) w8 fun v9 w10 =>
  RUN Tryd.prog (pan R) (Instr.alloc 30 true (.tuple #[])) w10 fun v11 w12 =>
  RUNU Tryd.prog (pan R) (Instr.storeAt 30 v11 v9) w12 fun w13 =>
  RUN Tryd.prog (pan R) (Instr.fieldAt 30 v11 0) w13 fun v14 w15 =>
  RUN Tryd.prog (pan R) (Instr.loadAt 27 v14) w15 fun v16 w17 =>
  RUN Tryd.prog (pan R) (bins .eql 27 (.tmp 23) (.const (Go.Value.int Go.IntKind.i64 0)) v16 (Go.Value.int Go.IntKind.i64 0)) w17 fun v18 w19 =>
  SPL v18
  (RUN Tryd.prog (pan R) (bins .add 9 (.tmp 26) (.const (Go.Value.string { data := #[32, 10] })) x0 (Go.Value.string { data := #[32, 10] })) w19 fun v20 w21 =>
  CALL Tryd.prog (pan R) scan_Words.id #[v20] w21 fun v22 w23 =>
  RUN Tryd.prog (pan R) (Instr.extract v22 0) w23 fun v24 w25 =>
  RUN Tryd.prog (pan R) (Instr.extract v22 1) w25 fun v26 w27 =>
  RUN Tryd.prog (pan R) (Instr.alloc 30 true (.tuple #[])) w27 fun v28 w29 =>
  RUNU Tryd.prog (pan R) (Instr.storeAt 30 v28 v26) w29 fun w30 =>
  RUN Tryd.prog (pan R) (Builtin.len_ #[9] 3 #[x0]) w30 fun v31 w32 =>
  RUN Tryd.prog (pan R) (bins .add 3 (.tmp 32) (.const (Go.Value.int Go.IntKind.i64 2)) v31 (Go.Value.int Go.IntKind.i64 2)) w32 fun v33 w34 =>
  RUN Tryd.prog (pan R) (bins .gtr 3 (.tmp 33) (.const (Go.Value.int Go.IntKind.i64 8192)) v33 (Go.Value.int Go.IntKind.i64 8192)) w34 fun v35 w36 =>
  SPL v35
  (R (.returned (Go.Value.bool Bool.true)) w36)
  (RUN Tryd.prog (pan R) (Instr.fieldAt 30 v28 0) w36 fun v37 w38 =>
  RUN Tryd.prog (pan R) (Instr.loadAt 27 v37) w38 fun v39 w40 =>
  RUN Tryd.prog (pan R) (bins .eql 27 (.tmp 36) (.const (Go.Value.int Go.IntKind.i64 0)) v39 (Go.Value.int Go.IntKind.i64 0)) w40 fun v41 w42 =>
  SPL v41
  (RUN Tryd.prog (pan R) (Builtin.len_ #[26] 3 #[v24]) w42 fun v43 w44 =>
  RUN Tryd.prog (pan R) (Builtin.len_ #[26] 3 #[v7]) w44 fun v45 w46 =>
  RUN Tryd.prog (pan R) (bins .eql 3 (.tmp 40) (.tmp 42) v43 v45) w46 fun v47 w48 =>
  R (.returned v47) w48)
  (R (.returned (Go.Value.bool Bool.false)) w42)))
  (b11 R x0 x1 v7 v11 w19))
abbrev q9 (R : Ending → World → Prop) : Exit → Env → World → Prop := QX (fun ρ w => b11 R (ρ 0) (ρ 1) (ρ 5) (ρ 6) w) (fun ρ w => R (.returned (ρ 4)) w) []
theorem b1_eq (R : Ending → World → Prop) (ρ : Env) (w : World) : (b1 R (ρ 0) (ρ 1) w) = codeP Tryd.prog (pan R) (preC 3 code) (q9 R) ρ w := by kernel_rfl
theorem b1_ok (R : Ending → World → Prop) (ρ : Env) (w : World) (h : b1 R (ρ 0) (ρ 1) w) : codeP Tryd.prog (pan R) code (q1 R) ρ w := by
  have e : appC 3 (preC 3 code) (dropC 4 code) = code := by kernel_rfl
  rw [← e]
  exact appQ (fun ρ w => b11 R (ρ 0) (ρ 1) (ρ 5) (ρ 6) w) 3 ((b1_eq R ρ w).mp h) (fun ρ w h => k2_ok R ρ w h)
/-- What is owed for a call. -/
def run (R : Ending → World → Prop) (a0 a1 : Value) (w : World) : Prop := b1 R a0 a1 w
theorem calls (R : Ending → World → Prop) (a0 a1 : Value) (w : World) (h : run R a0 a1 w) : Calls Tryd.prog id #[a0, a1] w R :=
  calls_of_t (f := id) (fn := Tryd.f6) (c := code) (by kernel_rfl) Tryd.func6 (by kernel_rfl) (by kernel_rfl) (args := [a0, a1]) (Nat.le_of_ble_eq_true rfl) rfl (b1_ok R (envOf [a0, a1]) w h)
theorem enters : Enters Tryd.prog id := fun args w => Tryd.call6 args w
theorem ct {a0 a1 : Value} {w : World} {S : Value → World → Prop} (h : ∀ R : Ending → World → Prop, (∀ v w, S v w → R (.returned v) w) → run R a0 a1 w) : Ct Tryd.prog id #[a0, a1] w S :=
  Ct.intro enters fun R hR => calls R a0 a1 w (h R hR)
attribute [irreducible] b6 b8 b7 b10 b9 b3 b12 b11 b1 run
end law03_ScanBegins

/-! ### presage/presagelaw03.ScanNames -/
namespace law03_ScanNames
noncomputable def code : Code := bodyOf Tryd.f7
noncomputable abbrev p1 : Code := dropC 4 code
noncomputable abbrev p2 : Code := dropC 2 (sndC p1)
noncomputable abbrev p3 : Code := dropC 2 p2

def b5 (R : Ending → World → Prop) (x3 x4 x7 x10 : Value) (w : World) (_r : Tok R := tok R) : Prop :=
  RUN Tryd.prog (pan R) (bins .eql 4 (.tmp 78) (.tmp 79) x7 x4) w fun v1 w2 =>
  SPL v1
  (RUN Tryd.prog (pan R) (bins .eql 4 (.tmp 82) (.tmp 83) x10 x3) w2 fun v3 w4 =>
  R (.returned v3) w4)
  (R (.returned (Go.Value.bool Bool.false)) w2)
abbrev q1 (R : Ending → World → Prop) : Exit → Env → World → Prop := QX (fun ρ w => R (.returned (ρ 2)) w) (fun ρ w => R (.returned (ρ 2)) w) []
theorem b5_eq (R : Ending → World → Prop) (ρ : Env) (w : World) : (b5 R (ρ 3) (ρ 4) (ρ 7) (ρ 10) w) = codeP Tryd.prog (pan R) p3 (q1 R) ρ w := by kernel_rfl
theorem b5_ok (R : Ending → World → Prop) (ρ : Env) (w : World) (h : b5 R (ρ 3) (ρ 4) (ρ 7) (ρ 10) w) : codeP Tryd.prog (pan R) p3 (q1 R) ρ w := (b5_eq R ρ w).mp h

def b4 (R : Ending → World → Prop) (x0 x3 x4 x7 : Value) (w : World) (_r : Tok R := tok R) : Prop :=
  CALL Tryd.prog (pan R) scan_Words.id #[x0] w fun v1 w2 =>
  RUN Tryd.prog (pan R) (Instr.extract v1 0) w2 fun v3 w4 =>
  RUN Tryd.prog (pan R) (Instr.extract v1 1) w4 fun v5 w6 =>
  RUN Tryd.prog (pan R) (Instr.alloc 30 true (.tuple #[])) w6 fun v7 w8 =>
  RUNU Tryd.prog (pan R) (Instr.storeAt 30 v7 v5) w8 fun w9 =>
  RUN Tryd.prog (pan R) (Instr.fieldAt 30 v7 0) w9 fun v10 w11 =>
  RUN Tryd.prog (pan R) (Instr.loadAt 27 v10) w11 fun v12 w13 =>
  RUN Tryd.prog (pan R) (bins .eql 27 (.tmp 63) (.const (Go.Value.int Go.IntKind.i64 0)) v12 (Go.Value.int Go.IntKind.i64 0)) w13 fun v14 w15 =>
  SPL v14
  (RUN Tryd.prog (pan R) (Builtin.len_ #[26] 3 #[v3]) w15 fun v16 w17 =>
  RUN Tryd.prog (pan R) (bins .eql 3 (.tmp 67) (.const (Go.Value.int Go.IntKind.i64 1)) v16 (Go.Value.int Go.IntKind.i64 1)) w17 fun v18 w19 =>
  SPL v18
  (RUN Tryd.prog (pan R) (Instr.indexAt 26 v3 (Go.Value.int Go.IntKind.i64 0)) w19 fun v20 w21 =>
  RUN Tryd.prog (pan R) (Instr.loadAt 36 v20) w21 fun v22 w23 =>
  RUN Tryd.prog (pan R) (Instr.build 36 #[(0, (Go.Value.int Go.IntKind.i64 1)), (1, x0)]) w23 fun v24 w25 =>
  RUN Tryd.prog (pan R) (bins .eql 36 (.tmp 73) (.tmp 75) v22 v24) w25 fun v26 w27 =>
  b5 R x3 x4 x7 v26 w27)
  (b5 R x3 x4 x7 (Go.Value.bool Bool.false) w19))
  (b5 R x3 x4 x7 (Go.Value.bool Bool.false) w15)
abbrev q2 (R : Ending → World → Prop) : Exit → Env → World → Prop := QX (fun ρ w => b5 R (ρ 3) (ρ 4) (ρ 7) (ρ 10) w) (fun ρ w => R (.returned (ρ 2)) w) []
theorem b4_eq (R : Ending → World → Prop) (ρ : Env) (w : World) : (b4 R (ρ 0) (ρ 3) (ρ 4) (ρ 7) w) = codeP Tryd.prog (pan R) (preC 1 p2) (q2 R) ρ w := by kernel_rfl
theorem b4_ok (R : Ending → World → Prop) (ρ : Env) (w : World) (h : b4 R (ρ 0) (ρ 3) (ρ 4) (ρ 7) w) : codeP Tryd.prog (pan R) p2 (q1 R) ρ w := by
  have e : appC 1 (preC 1 p2) (dropC 2 p2) = p2 := by kernel_rfl
  rw [← e]
  exact appQ (fun ρ w => b5 R (ρ 3) (ρ 4) (ρ 7) (ρ 10) w) 1 ((b4_eq R ρ w).mp h) (fun ρ w h => b5_ok R ρ w h)

def b3 (R : Ending → World → Prop) (x0 x3 x4 : Value) (w : World) (_r : Tok R := tok R) : Prop :=
  RUN Tryd.prog (pan R) (bins .add 9 (.const (Go.Value.string { data := #[39] })) (.tmp 35) (Go.Value.string { data := #[39] }) x0) w fun v1 w2 =>
  RUN Tryd.prog (pan R) (bins .add 9 (.tmp 36) (.const (Go.Value.string { data := #[39] })) v1 (Go.Value.string { data := #[39] })) w2 fun v3 w4 =>
  CALL Tryd.prog (pan R) scan_Words.id #[v3] w4 fun v5 w6 =>
  RUN Tryd.prog (pan R) (Instr.extract v5 0) w6 fun v7 w8 =>
  RUN Tryd.prog (pan R) (Instr.extract v5 1) w8 fun v9 w10 =>
  RUN Tryd.prog (pan R) (Instr.alloc 30 true (.tuple #[])) w10 fun v11 w12 =>
  RUNU Tryd.prog (pan R) (Instr.storeAt 30 v11 v9) w12 fun w13 =>
  RUN Tryd.prog (pan R) (Instr.fieldAt 30 v11 0) w13 fun v14 w15 =>
  RUN Tryd.prog (pan R) (Instr.loadAt 27 v14) w15 fun v16 w17 =>
  RUN Tryd.prog (pan R) (bins .eql 27 (.tmp 42) (.const (Go.Value.int Go.IntKind.i64 0)) v16 (Go.Value.int Go.IntKind.i64 0)) w17 fun v18 w19 =>
  SPL v18
  (RUN Tryd.prog (pan R) (Builtin.len_ #[26] 3 #[v7]) w19 fun v20 w21 =>
  RUN Tryd.prog (pan R) (bins .eql 3 (.tmp 46) (.const (Go.Value.int Go.IntKind.i64 1)) v20 (Go.Value.int Go.IntKind.i64 1)) w21 fun v22 w23 =>
  SPL v22
  (RUN Tryd.prog (pan R) (Instr.indexAt 26 v7 (Go.Value.int Go.IntKind.i64 0)) w23 fun v24 w25 =>
  RUN Tryd.prog (pan R) (Instr.loadAt 36 v24) w25 fun v26 w27 =>
  RUN Tryd.prog (pan R) (Instr.build 36 #[(0, (Go.Value.int Go.IntKind.i64 2)), (1, x0)]) w27 fun v28 w29 =>
  RUN Tryd.prog (pan R) (bins .eql 36 (.tmp 52) (.tmp 54) v26 v28) w29 fun v30 w31 =>
  b4 R x0 x3 x4 v30 w31)
  (b4 R x0 x3 x4 (Go.Value.bool Bool.false) w23))
  (b4 R x0 x3 x4 (Go.Value.bool Bool.false) w19)
abbrev q3 (R : Ending → World → Prop) : Exit → Env → World → Prop := QX (fun ρ w => b4 R (ρ 0) (ρ 3) (ρ 4) (ρ 7) w) (fun ρ w => R (.returned (ρ 2)) w) []
theorem b3_eq (R : Ending → World → Prop) (ρ : Env) (w : World) : (b3 R (ρ 0) (ρ 3) (ρ 4) w) = codeP Tryd.prog (pan R) (preC 1 (sndC p1)) (q3 R) ρ w := by kernel_rfl
theorem b3_ok (R : Ending → World → Prop) (ρ : Env) (w : World) (h : b3 R (ρ 0) (ρ 3) (ρ 4) w) : codeP Tryd.prog (pan R) (sndC p1) (q1 R) ρ w := by
  have e : appC 1 (preC 1 (sndC p1)) (dropC 2 (sndC p1)) = (sndC p1) := by kernel_rfl
  rw [← e]
  exact appQ (fun ρ w => b4 R (ρ 0) (ρ 3) (ρ 4) (ρ 7) w) 1 ((b3_eq R ρ w).mp h) (fun ρ w h => b4_ok R ρ w h)
noncomputable abbrev p4 : Code := dropC 1 (fstC p1)

def b7 (R : Ending → World → Prop) (x0 x3 x4 x33 : Value) (w : World) (_r : Tok R := tok R) : Prop :=
  SPL x33
  (R (.returned (Go.Value.bool Bool.false)) w)
  (b3 R x0 x3 x4 w)
abbrev q4 (R : Ending → World → Prop) : Exit → Env → World → Prop := QX (fun ρ w => b3 R (ρ 0) (ρ 3) (ρ 4) w) (fun ρ w => R (.returned (ρ 2)) w) []
theorem b7_eq (R : Ending → World → Prop) (ρ : Env) (w : World) : (b7 R (ρ 0) (ρ 3) (ρ 4) (ρ 33) w) = codeP Tryd.prog (pan R) p4 (q4 R) ρ w := by kernel_rfl
theorem b7_ok (R : Ending → World → Prop) (ρ : Env) (w : World) (h : b7 R (ρ 0) (ρ 3) (ρ 4) (ρ 33) w) : codeP Tryd.prog (pan R) p4 (q4 R) ρ w := (b7_eq R ρ w).mp h

def b6 (R : Ending → World → Prop) (x0 x3 x4 : Value) (w : World) (_r : Tok R := tok R) : Prop :=
  CALL Tryd.prog (pan R) ref03_IsName.id #[x0] w fun v1 w2 =>
  RUN Tryd.prog (pan R) (bins .neq 4 (.tmp 17) (.tmp 19) x3 v1) w2 fun v3 w4 =>
  SPL v3
  (b7 R x0 x3 x4 (Go.Value.bool Bool.true) w4)
  (CALL Tryd.prog (pan R) ref03_IsTerm.id #[x0] w4 fun v5 w6 =>
  RUN Tryd.prog (pan R) (bins .neq 4 (.tmp 22) (.tmp 24) x4 v5) w6 fun v7 w8 =>
  SPL v7
  (b7 R x0 x3 x4 (Go.Value.bool Bool.true) w8)
  (SPL x3
  (RUN Tryd.prog (pan R) (Op.unary .not x4) w8 fun v9 w10 =>
  b7 R x0 x3 x4 v9 w10)
  (b7 R x0 x3 x4 (Go.Value.bool Bool.false) w8)))
abbrev q5 (R : Ending → World → Prop) : Exit → Env → World → Prop := QX (fun ρ w => b7 R (ρ 0) (ρ 3) (ρ 4) (ρ 33) w) (fun ρ w => R (.returned (ρ 2)) w) []
theorem b6_eq (R : Ending → World → Prop) (ρ : Env) (w : World) : (b6 R (ρ 0) (ρ 3) (ρ 4) w) = codeP Tryd.prog (pan R) (preC 0 (fstC p1)) (q5 R) ρ w := by kernel_rfl
theorem b6_ok (R : Ending → World → Prop) (ρ : Env) (w : World) (h : b6 R (ρ 0) (ρ 3) (ρ 4) w) : codeP Tryd.prog (pan R) (fstC p1) (q4 R) ρ w := by
  have e : appC 0 (preC 0 (fstC p1)) (dropC 1 (fstC p1)) = (fstC p1) := by kernel_rfl
  rw [← e]
  exact appQ (fun ρ w => b7 R (ρ 0) (ρ 3) (ρ 4) (ρ 33) w) 0 ((b6_eq R ρ w).mp h) (fun ρ w h => b7_ok R ρ w h)
theorem k2_ok (R : Ending → World → Prop) (ρ : Env) (w : World) (h : b6 R (ρ 0) (ρ 3) (ρ 4) w) : codeP Tryd.prog (pan R) p1 (q1 R) ρ w := by
  have e : Code.seq (fstC p1) (sndC p1) = p1 := by kernel_rfl
  rw [← e]
  exact seqQ (fun ρ w => b3 R (ρ 0) (ρ 3) (ρ 4) w) (b6_ok R ρ w h) (fun ρ w h => b3_ok R ρ w h)

def b1 (R : Ending → World → Prop) (x0 : Value) (w : World) (_r : Tok R := tok R) : Prop :=
  CALL Tryd.prog (pan R) law03_awake.id #[] w fun v1 w2 =>
  RUN Tryd.prog (pan R) (Op.unary .not v1) w2 fun v3 w4 =>
  SPL v3
  (R (.returned (Go.Value.bool Bool.false)) w4)
  (CALL Tryd.prog (pan R) scan_IsName.id #[x0] w4 fun v5 w6 =>
  CALL Tryd.prog (pan R) scan_IsTerm.id #[x0] w6 fun v7 w8 =>
  b6 R x0 v5 v7 w8)
abbrev q6 (R : Ending → World → Prop) : Exit → Env → World → Prop := QX (fun ρ w => b6 R (ρ 0) (ρ 3) (ρ 4) w) (fun ρ w => R (.returned (ρ 2)) w) []
theorem b1_eq (R : Ending → World → Prop) (ρ : Env) (w : World) : (b1 R (ρ 0) w) = codeP Tryd.prog (pan R) (preC 3 code) (q6 R) ρ w := by kernel_rfl
theorem b1_ok (R : Ending → World → Prop) (ρ : Env) (w : World) (h : b1 R (ρ 0) w) : codeP Tryd.prog (pan R) code (q1 R) ρ w := by
  have e : appC 3 (preC 3 code) (dropC 4 code) = code := by kernel_rfl
  rw [← e]
  exact appQ (fun ρ w => b6 R (ρ 0) (ρ 3) (ρ 4) w) 3 ((b1_eq R ρ w).mp h) (fun ρ w h => k2_ok R ρ w h)
/-- What is owed for a call. -/
def run (R : Ending → World → Prop) (a0 : Value) (w : World) : Prop := b1 R a0 w
theorem calls (R : Ending → World → Prop) (a0 : Value) (w : World) (h : run R a0 w) : Calls Tryd.prog id #[a0] w R :=
  calls_of_t (f := id) (fn := Tryd.f7) (c := code) (by kernel_rfl) Tryd.func7 (by kernel_rfl) (by kernel_rfl) (args := [a0]) (Nat.le_of_ble_eq_true rfl) rfl (b1_ok R (envOf [a0]) w h)
theorem enters : Enters Tryd.prog id := fun args w => Tryd.call7 args w
theorem ct {a0 : Value} {w : World} {S : Value → World → Prop} (h : ∀ R : Ending → World → Prop, (∀ v w, S v w → R (.returned v) w) → run R a0 w) : Ct Tryd.prog id #[a0] w S :=
  Ct.intro enters fun R hR => calls R a0 w (h R hR)
attribute [irreducible] b5 b4 b3 b7 b6 b1 run
end law03_ScanNames

/-! ### presage/presagelaw03.awake -/
namespace law03_awake
noncomputable def code : Code := bodyOf Tryd.f8

def b1 (R : Ending → World → Prop) (w : World) (_r : Tok R := tok R) : Prop :=
  CALL Tryd.prog (pan R) scan_Words.id #[(Go.Value.string { data := #[37, 108, 101, 102, 116, 32, 39, 43, 39, 32, 59, 32, 35, 32, 120] })] w fun v1 w2 =>
  RUN Tryd.prog (pan R) (Instr.extract v1 0) w2 fun v3 w4 =>
  RUN Tryd.prog (pan R) (Instr.extract v1 1) w4 fun v5 w6 =>
  RUN Tryd.prog (pan R) (Instr.alloc 30 true (.tuple #[])) w6 fun v7 w8 =>
  RUNU Tryd.prog (pan R) (Instr.storeAt 30 v7 v5) w8 fun w9 =>
  RUN Tryd.prog (pan R) (Instr.fieldAt 30 v7 0) w9 fun v10 w11 =>
  RUN Tryd.prog (pan R) (Instr.loadAt 27 v10) w11 fun v12 w13 =>
  RUN Tryd.prog (pan R) (bins .eql 27 (.tmp 8) (.const (Go.Value.int Go.IntKind.i64 0)) v12 (Go.Value.int Go.IntKind.i64 0)) w13 fun v14 w15 =>
  SPL v14
  (RUN Tryd.prog (pan R) (Builtin.len_ #[26] 3 #[v3]) w15 fun v16 w17 =>
  RUN Tryd.prog (pan R) (bins .eql 3 (.tmp 12) (.const (Go.Value.int Go.IntKind.i64 3)) v16 (Go.Value.int Go.IntKind.i64 3)) w17 fun v18 w19 =>
  SPL v18
  (RUN Tryd.prog (pan R) (Instr.indexAt 26 v3 (Go.Value.int Go.IntKind.i64 0)) w19 fun v20 w21 =>
  RUN Tryd.prog (pan R) (Instr.loadAt 36 v20) w21 fun v22 w23 =>
  RUN Tryd.prog (pan R) (Instr.build 36 #[(0, (Go.Value.int Go.IntKind.i64 3)), (1, (Go.Value.string { data := #[37, 108, 101, 102, 116] }))]) w23 fun v24 w25 =>
  RUN Tryd.prog (pan R) (bins .eql 36 (.tmp 18) (.tmp 19) v22 v24) w25 fun v26 w27 =>
  SPL v26
  (RUN Tryd.prog (pan R) (Instr.indexAt 26 v3 (Go.Value.int Go.IntKind.i64 1)) w27 fun v28 w29 =>
  RUN Tryd.prog (pan R) (Instr.loadAt 36 v28) w29 fun v30 w31 =>
  RUN Tryd.prog (pan R) (Instr.build 36 #[(0, (Go.Value.int Go.IntKind.i64 2)), (1, (Go.Value.string { data := #[43] })), (2, (Go.Value.int Go.IntKind.i64 6))]) w31 fun v32 w33 =>
  RUN Tryd.prog (pan R) (bins .eql 36 (.tmp 25) (.tmp 26) v30 v32) w33 fun v34 w35 =>
  SPL v34
  (RUN Tryd.prog (pan R) (Instr.indexAt 26 v3 (Go.Value.int Go.IntKind.i64 2)) w35 fun v36 w37 =>
  RUN Tryd.prog (pan R) (Instr.loadAt 36 v36) w37 fun v38 w39 =>
  RUN Tryd.prog (pan R) (Instr.build 36 #[(0, (Go.Value.int Go.IntKind.i64 4)), (1, (Go.Value.string { data := #[59] })), (2, (Go.Value.int Go.IntKind.i64 10))]) w39 fun v40 w41 =>
  RUN Tryd.prog (pan R) (bins .eql 36 (.tmp 32) (.tmp 33) v38 v40) w41 fun v42 w43 =>
  SPL v42
  (CALL Tryd.prog (pan R) scan_Each.id #[(Go.Value.string { data := #[] })] w43 fun v44 w45 =>
  RUN Tryd.prog (pan R) (bins .neq 39 (.tmp 37) (.const (Go.Value.nilFunc)) v44 Go.Value.nilFunc) w45 fun v46 w47 =>
  SPL v46
  (CALL Tryd.prog (pan R) scan_IsName.id #[(Go.Value.string { data := #[97] })] w47 fun v48 w49 =>
  R (.returned v48) w49)
  (R (.returned (Go.Value.bool Bool.false)) w47))
  (R (.returned (Go.Value.bool Bool.false)) w43))
  (R (.returned (Go.Value.bool Bool.false)) w35))
  (R (.returned (Go.Value.bool Bool.false)) w27))
  (R (.returned (Go.Value.bool Bool.false)) w19))
  (R (.returned (Go.Value.bool Bool.false)) w15)
abbrev q1 (R : Ending → World → Prop) : Exit → Env → World → Prop := QX (fun ρ w => R (.returned (ρ 0)) w) (fun ρ w => R (.returned (ρ 0)) w) []
theorem b1_eq (R : Ending → World → Prop) (ρ : Env) (w : World) : (b1 R w) = codeP Tryd.prog (pan R) code (q1 R) ρ w := by kernel_rfl
theorem b1_ok (R : Ending → World → Prop) (ρ : Env) (w : World) (h : b1 R w) : codeP Tryd.prog (pan R) code (q1 R) ρ w := (b1_eq R ρ w).mp h
/-- What is owed for a call. -/
def run (R : Ending → World → Prop) (w : World) : Prop := b1 R w
theorem calls (R : Ending → World → Prop) (w : World) (h : run R w) : Calls Tryd.prog id #[] w R :=
  calls_of_t (f := id) (fn := Tryd.f8) (c := code) (by kernel_rfl) Tryd.func8 (by kernel_rfl) (by kernel_rfl) (args := []) (Nat.le_of_ble_eq_true rfl) rfl (b1_ok R (envOf []) w h)
theorem enters : Enters Tryd.prog id := fun args w => Tryd.call8 args w
theorem ct {w : World} {S : Value → World → Prop} (h : ∀ R : Ending → World → Prop, (∀ v w, S v w → R (.returned v) w) → run R w) : Ct Tryd.prog id #[] w S :=
  Ct.intro enters fun R hR => calls R w (h R hR)
attribute [irreducible] b1 run
end law03_awake

/-! ### presage/presagelaw03.bad -/
namespace law03_bad
noncomputable def code : Code := bodyOf Tryd.f11
/- x0 m, x1 at -/
def b1 (R : Ending → World → Prop) (x0 x1 : Value) (w : World) (_r : Tok R := tok R) : Prop :=
  RUN Tryd.prog (pan R) (Instr.box 30 x0) w fun v1 w2 =>
  RUN Tryd.prog (pan R) (bins .lss 3 (.tmp 5) (.const (Go.Value.int Go.IntKind.i64 0)) x1 (Go.Value.int Go.IntKind.i64 0)) w2 fun v3 w4 =>
  SPL v3
  (RUN Tryd.prog (pan R) (Instr.fieldAt 30 v1 0) w4 fun v5 w6 =>
  RUN Tryd.prog (pan R) (Instr.loadAt 27 v5) w6 fun v7 w8 =>
  RUN Tryd.prog (pan R) (bins .eql 27 (.tmp 8) (.const (Go.Value.int Go.IntKind.i64 0)) v7 (Go.Value.int Go.IntKind.i64 0)) w8 fun v9 w10 =>
  SPL v9
  (RUN Tryd.prog (pan R) (Instr.fieldAt 30 v1 1) w10 fun v11 w12 =>
  RUN Tryd.prog (pan R) (Instr.loadAt 3 v11) w12 fun v13 w14 =>
  RUN Tryd.prog (pan R) (bins .eql 3 (.tmp 12) (.const (Go.Value.int Go.IntKind.i64 0)) v13 (Go.Value.int Go.IntKind.i64 0)) w14 fun v15 w16 =>
  SPL v15
  (RUN Tryd.prog (pan R) (Instr.fieldAt 30 v1 2) w16 fun v17 w18 =>
  RUN Tryd.prog (pan R) (Instr.loadAt 28 v17) w18 fun v19 w20 =>
  RUN Tryd.prog (pan R) (Builtin.len_ #[28] 3 #[v19]) w20 fun v21 w22 =>
  RUN Tryd.prog (pan R) (bins .eql 3 (.tmp 18) (.const (Go.Value.int Go.IntKind.i64 0)) v21 (Go.Value.int Go.IntKind.i64 0)) w22 fun v23 w24 =>
  R (.returned v23) w24)
  (R (.returned (Go.Value.bool Bool.false)) w16))
  (R (.returned (Go.Value.bool Bool.false)) w10))
  (RUN Tryd.prog (pan R) (Instr.fieldAt 30 v1 0) w4 fun v25 w26 =>
  RUN Tryd.prog (pan R) (Instr.loadAt 27 v25) w26 fun v27 w28 =>
  RUN Tryd.prog (pan R) (bins .eql 27 (.tmp 22) (.const (Go.Value.int Go.IntKind.i64 10)) v27 (Go.Value.int Go.IntKind.i64 10)) w28 fun v29 w30 =>
  SPL v29
  (RUN Tryd.prog (pan R) (Instr.fieldAt 30 v1 1) w30 fun v31 w32 =>
  RUN Tryd.prog (pan R) (Instr.loadAt 3 v31) w32 fun v33 w34 =>
  RUN Tryd.prog (pan R) (bins .eql 3 (.tmp 26) (.tmp 27) v33 x1) w34 fun v35 w36 =>
  SPL v35
  (RUN Tryd.prog (pan R) (Instr.fieldAt 30 v1 2) w36 fun v37 w38 =>
  RUN Tryd.prog (pan R) (Instr.loadAt 28 v37) w38 fun v39 w40 =>
  RUN Tryd.prog (pan R) (Builtin.len_ #[28] 3 #[v39]) w40 fun v41 w42 =>
  RUN Tryd.prog (pan R) (bins .eql 3 (.tmp 33) (.const (Go.Value.int Go.IntKind.i64 0)) v41 (Go.Value.int Go.IntKind.i64 0)) w42 fun v43 w44 =>
  R (.returned v43) w44)
  (R (.returned (Go.Value.bool Bool.false)) w36))
  (R (.returned (Go.Value.bool Bool.false)) w30))
abbrev q1 (R : Ending → World → Prop) : Exit → Env → World → Prop := QX (fun ρ w => R (.returned (ρ 4)) w) (fun ρ w => R (.returned (ρ 4)) w) []
theorem b1_eq (R : Ending → World → Prop) (ρ : Env) (w : World) : (b1 R (ρ 0) (ρ 1) w) = codeP Tryd.prog (pan R) code (q1 R) ρ w := by kernel_rfl
theorem b1_ok (R : Ending → World → Prop) (ρ : Env) (w : World) (h : b1 R (ρ 0) (ρ 1) w) : codeP Tryd.prog (pan R) code (q1 R) ρ w := (b1_eq R ρ w).mp h
/-- What is owed for a call. -/
def run (R : Ending → World → Prop) (a0 a1 : Value) (w : World) : Prop := b1 R a0 a1 w
theorem calls (R : Ending → World → Prop) (a0 a1 : Value) (w : World) (h : run R a0 a1 w) : Calls Tryd.prog id #[a0, a1] w R :=
  calls_of_t (f := id) (fn := Tryd.f11) (c := code) (by kernel_rfl) Tryd.func11 (by kernel_rfl) (by kernel_rfl) (args := [a0, a1]) (Nat.le_of_ble_eq_true rfl) rfl (b1_ok R (envOf [a0, a1]) w h)
theorem enters : Enters Tryd.prog id := fun args w => Tryd.call11 args w
theorem ct {a0 a1 : Value} {w : World} {S : Value → World → Prop} (h : ∀ R : Ending → World → Prop, (∀ v w, S v w → R (.returned v) w) → run R a0 a1 w) : Ct Tryd.prog id #[a0, a1] w S :=
  Ct.intro enters fun R hR => calls R a0 a1 w (h R hR)
attribute [irreducible] b1 run
end law03_bad

/-! ### presage/presagelaw03.are -/
namespace law03_are
noncomputable def code : Code := bodyOf Tryd.f12
noncomputable abbrev p1 : Code := dropC 2 code

def b3 (R : Ending → World → Prop) (w : World) (_r : Tok R := tok R) : Prop :=
  R (.returned (Go.Value.bool Bool.true)) w
abbrev q1 (R : Ending → World → Prop) : Exit → Env → World → Prop := QX (fun ρ w => R (.returned (ρ 4)) w) (fun ρ w => R (.returned (ρ 4)) w) []
theorem b3_eq (R : Ending → World → Prop) (ρ : Env) (w : World) : (b3 R w) = codeP Tryd.prog (pan R) (sndC p1) (q1 R) ρ w := by kernel_rfl
theorem b3_ok (R : Ending → World → Prop) (ρ : Env) (w : World) (h : b3 R w) : codeP Tryd.prog (pan R) (sndC p1) (q1 R) ρ w := (b3_eq R ρ w).mp h
noncomputable abbrev p2 : Code := dropC 1 (fstC p1)
noncomputable abbrev p3 : Code := loopC (blkC p2)
noncomputable abbrev p4 : Code := dropC 1 p3
/- x5 i -/
def b9 (R : Ending → World → Prop) (C6 : Value → World → Prop) (x5 : Value) (w : World) (_r : Tok R := tok R) (_C6 : Tok C6 := tok C6) : Prop :=
  RUN Tryd.prog (pan R) (bins .add 3 (.tmp 15) (.const (Go.Value.int Go.IntKind.i64 1)) x5 (Go.Value.int Go.IntKind.i64 1)) w fun v1 w2 =>
  C6 v1 w2
abbrev q2 (R : Ending → World → Prop) (C6 : Value → World → Prop) : Exit → Env → World → Prop := QX (fun ρ w => C6 (ρ 5) w) (fun ρ w => R (.returned (ρ 4)) w) [(0, (fun ρ w => b3 R  w))]
theorem b9_eq (R : Ending → World → Prop) (C6 : Value → World → Prop) (ρ : Env) (w : World) : (b9 R C6 (ρ 5) w) = codeP Tryd.prog (pan R) (sndC p4) (q2 R C6) ρ w := by kernel_rfl
theorem b9_ok (R : Ending → World → Prop) (C6 : Value → World → Prop) (ρ : Env) (w : World) (h : b9 R C6 (ρ 5) w) : codeP Tryd.prog (pan R) (sndC p4) (q2 R C6) ρ w := (b9_eq R C6 ρ w).mp h
noncomputable abbrev p5 : Code := blkC (fstC p4)
noncomputable abbrev p6 : Code := dropC 1 p5
/- x5 i -/
def b12 (R : Ending → World → Prop) (C6 : Value → World → Prop) (x5 x53 : Value) (w : World) (_r : Tok R := tok R) (_C6 : Tok C6 := tok C6) : Prop :=
  SPL x53
  (R (.returned (Go.Value.bool Bool.false)) w)
  (b9 R C6 x5 w)
abbrev q3 (R : Ending → World → Prop) (C6 : Value → World → Prop) : Exit → Env → World → Prop := QX (fun ρ w => b9 R C6 (ρ 5) w) (fun ρ w => R (.returned (ρ 4)) w) [(2, (fun ρ w => b9 R C6 (ρ 5) w)), (0, (fun ρ w => b3 R  w))]
theorem b12_eq (R : Ending → World → Prop) (C6 : Value → World → Prop) (ρ : Env) (w : World) : (b12 R C6 (ρ 5) (ρ 53) w) = codeP Tryd.prog (pan R) p6 (q3 R C6) ρ w := by kernel_rfl
theorem b12_ok (R : Ending → World → Prop) (C6 : Value → World → Prop) (ρ : Env) (w : World) (h : b12 R C6 (ρ 5) (ρ 53) w) : codeP Tryd.prog (pan R) p6 (q3 R C6) ρ w := (b12_eq R C6 ρ w).mp h
/- x0 l, x1 r, x5 i -/
def b11 (R : Ending → World → Prop) (C6 : Value → World → Prop) (x0 x1 x5 : Value) (w : World) (_r : Tok R := tok R) (_C6 : Tok C6 := tok C6) : Prop :=
  PUR Tryd.prog (Instr.indexAt 26 x0 x5) fun v1 =>
  PUR Tryd.prog (Instr.fieldAt 36 v1 0) fun v2 =>
  LD Tryd.prog (Instr.loadAt 3 v2) (World.drew w) fun v3 =>
  PUR Tryd.prog (Instr.indexAt 23 x1 x5) fun v4 =>
  PUR Tryd.prog (Instr.fieldAt 42 v4 0) fun v5 =>
  LD Tryd.prog (Instr.loadAt 3 v5) (World.drew w) fun v6 =>
  PUR Tryd.prog (bins .neq 3 (.tmp 21) (.tmp 26) v3 v6) fun v7 =>
  SPL v7
  (b12 R C6 x5 (Go.Value.bool Bool.true) (World.drew w))
  (PUR Tryd.prog (Instr.indexAt 26 x0 x5) fun v8 =>
  PUR Tryd.prog (Instr.fieldAt 36 v8 1) fun v9 =>
  LD Tryd.prog (Instr.loadAt 9 v9) (World.drew w) fun v10 =>
  PUR Tryd.prog (Instr.indexAt 23 x1 x5) fun v11 =>
  PUR Tryd.prog (Instr.fieldAt 42 v11 1) fun v12 =>
  LD Tryd.prog (Instr.loadAt 9 v12) (World.drew w) fun v13 =>
  PUR Tryd.prog (bins .neq 9 (.tmp 33) (.tmp 38) v10 v13) fun v14 =>
  SPL v14
  (b12 R C6 x5 (Go.Value.bool Bool.true) (World.drew w))
  (PUR Tryd.prog (Instr.indexAt 26 x0 x5) fun v15 =>
  PUR Tryd.prog (Instr.fieldAt 36 v15 2) fun v16 =>
  LD Tryd.prog (Instr.loadAt 3 v16) (World.drew w) fun v17 =>
  PUR Tryd.prog (Instr.indexAt 23 x1 x5) fun v18 =>
  PUR Tryd.prog (Instr.fieldAt 42 v18 2) fun v19 =>
  LD Tryd.prog (Instr.loadAt 3 v19) (World.drew w) fun v20 =>
  PUR Tryd.prog (bins .neq 3 (.tmp 46) (.tmp 51) v17 v20) fun v21 =>
  b12 R C6 x5 v21 (World.drew w)))
abbrev q4 (R : Ending → World → Prop) (C6 : Value → World → Prop) : Exit → Env → World → Prop := QX (fun ρ w => b12 R C6 (ρ 5) (ρ 53) w) (fun ρ w => R (.returned (ρ 4)) w) [(2, (fun ρ w => b9 R C6 (ρ 5) w)), (0, (fun ρ w => b3 R  w))]
theorem b11_eq (R : Ending → World → Prop) (C6 : Value → World → Prop) (ρ : Env) (w : World) : (b11 R C6 (ρ 0) (ρ 1) (ρ 5) w) = codeP Tryd.prog (pan R) (preC 0 p5) (q4 R C6) ρ w := by kernel_rfl
theorem b11_ok (R : Ending → World → Prop) (C6 : Value → World → Prop) (ρ : Env) (w : World) (h : b11 R C6 (ρ 0) (ρ 1) (ρ 5) w) : codeP Tryd.prog (pan R) p5 (q3 R C6) ρ w := by
  have e : appC 0 (preC 0 p5) (dropC 1 p5) = p5 := by kernel_rfl
  rw [← e]
  exact appQ (fun ρ w => b12 R C6 (ρ 5) (ρ 53) w) 0 ((b11_eq R C6 ρ w).mp h) (fun ρ w h => b12_ok R C6 ρ w h)
abbrev q5 (R : Ending → World → Prop) (C6 : Value → World → Prop) : Exit → Env → World → Prop := QX (fun ρ w => b9 R C6 (ρ 5) w) (fun ρ w => R (.returned (ρ 4)) w) [(0, (fun ρ w => b3 R  w))]
theorem k10_ok (R : Ending → World → Prop) (C6 : Value → World → Prop) (ρ : Env) (w : World) (h : b11 R C6 (ρ 0) (ρ 1) (ρ 5) w) : codeP Tryd.prog (pan R) (fstC p4) (q5 R C6) ρ w := by
  have e : Code.block 1 (blkC (fstC p4)) = (fstC p4) := by kernel_rfl
  rw [← e]
  exact blockQ (b11_ok R C6 ρ w h)
theorem k8_ok (R : Ending → World → Prop) (C6 : Value → World → Prop) (ρ : Env) (w : World) (h : b11 R C6 (ρ 0) (ρ 1) (ρ 5) w) : codeP Tryd.prog (pan R) p4 (q2 R C6) ρ w := by
  have e : Code.seq (fstC p4) (sndC p4) = p4 := by kernel_rfl
  rw [← e]
  exact seqQ (fun ρ w => b9 R C6 (ρ 5) w) (k10_ok R C6 ρ w h) (fun ρ w h => b9_ok R C6 ρ w h)
/- x0 l, x1 r, x5 i -/
def b7 (R : Ending → World → Prop) (C6 : Value → World → Prop) (x0 x1 x5 : Value) (w : World) (_r : Tok R := tok R) (_C6 : Tok C6 := tok C6) : Prop :=
  RUN Tryd.prog (pan R) (Builtin.len_ #[26] 3 #[x0]) w fun v1 w2 =>
  RUN Tryd.prog (pan R) (bins .lss 3 (.tmp 11) (.tmp 13) x5 v1) w2 fun v3 w4 =>
  SPL v3
  (b11 R C6 x0 x1 x5 w4)
  (b3 R w4)
abbrev q6 (R : Ending → World → Prop) (C6 : Value → World → Prop) : Exit → Env → World → Prop := QX (fun ρ w => b11 R C6 (ρ 0) (ρ 1) (ρ 5) w) (fun ρ w => R (.returned (ρ 4)) w) [(0, (fun ρ w => b3 R  w))]
theorem b7_eq (R : Ending → World → Prop) (C6 : Value → World → Prop) (ρ : Env) (w : World) : (b7 R C6 (ρ 0) (ρ 1) (ρ 5) w) = codeP Tryd.prog (pan R) (preC 0 p3) (q6 R C6) ρ w := by kernel_rfl
theorem b7_ok (R : Ending → World → Prop) (C6 : Value → World → Prop) (ρ : Env) (w : World) (h : b7 R C6 (ρ 0) (ρ 1) (ρ 5) w) : codeP Tryd.prog (pan R) p3 (q2 R C6) ρ w := by
  have e : appC 0 (preC 0 p3) (dropC 1 p3) = p3 := by kernel_rfl
  rw [← e]
  exact appQ (fun ρ w => b11 R C6 (ρ 0) (ρ 1) (ρ 5) w) 0 ((b7_eq R C6 ρ w).mp h) (fun ρ w h => k8_ok R C6 ρ w h)
/- x0 l, x1 r, x5 i -/
def l6 (R : Ending → World → Prop) (x0 x1 x5 : Value) (w : World) (_r : Tok R := tok R) : Prop :=
  ∃ (J : Value → World → Prop) (μ : Value → World → Nat), J x5 w ∧ ∀ y5 w0, J y5 w0 → b7 R (fun z5 w1 => J z5 w1 ∧ μ z5 w1 < μ y5 w0) x0 x1 y5 w0
abbrev q7 (R : Ending → World → Prop) : Exit → Env → World → Prop := QX (fun ρ w => b3 R  w) (fun ρ w => R (.returned (ρ 4)) w) [(0, (fun ρ w => b3 R  w))]
theorem l6_ok (R : Ending → World → Prop) (ρ : Env) (w : World) (h : l6 R (ρ 0) (ρ 1) (ρ 5) w) : codeP Tryd.prog (pan R) (blkC p2) (q7 R) ρ w := by
  unfold l6 at h
  obtain ⟨J, μ, h0, hr⟩ := h
  have e : Code.loop (loopC (blkC p2)) = (blkC p2) := by kernel_rfl
  rw [← e]
  refine loopQ (fun ρ' w' => J (ρ' 5) w') (fun ρ' w' => μ (ρ' 5) w') h0 fun ρ' w' hA hI => ?_
  have e0 : ρ' 0 = ρ 0 := Agree.at hA 0 (by kernel_rfl)
  have e1 : ρ' 1 = ρ 1 := Agree.at hA 1 (by kernel_rfl)
  have h1 := hr (ρ' 5) w' hI
  rw [← e0, ← e1] at h1
  exact b7_ok R (fun z5 w1 => J z5 w1 ∧ μ z5 w1 < μ (ρ' 5) w') ρ' w' h1
theorem l6_intro (R : Ending → World → Prop) (x0 x1 x5 : Value) (w : World) (J : Value → World → Prop) (μ : Value → World → Nat) (h0 : J x5 w)
    (hr : ∀ y5 w0, J y5 w0 → ∀ C6 : Value → World → Prop, (∀ z5 w1, J z5 w1 → μ z5 w1 < μ y5 w0 → C6 z5 w1) → b7 R C6 x0 x1 y5 w0) : l6 R x0 x1 x5 w := by
  unfold l6
  exact ⟨J, μ, h0, fun y5 w0 hJ => hr y5 w0 hJ _ (fun z5 w1 h1 h2 => ⟨h1, h2⟩)⟩
abbrev q8 (R : Ending → World → Prop) : Exit → Env → World → Prop := QX (fun ρ w => b3 R  w) (fun ρ w => R (.returned (ρ 4)) w) []
theorem k5_ok (R : Ending → World → Prop) (ρ : Env) (w : World) (h : l6 R (ρ 0) (ρ 1) (ρ 5) w) : codeP Tryd.prog (pan R) p2 (q8 R) ρ w := by
  have e : Code.block 0 (blkC p2) = p2 := by kernel_rfl
  rw [← e]
  exact blockQ (l6_ok R ρ w h)
/- x0 l, x1 r -/
def b4 (R : Ending → World → Prop) (x0 x1 : Value) (w : World) (_r : Tok R := tok R) : Prop :=
  l6 R x0 x1 (Go.Value.int Go.IntKind.i64 0) w
abbrev q9 (R : Ending → World → Prop) : Exit → Env → World → Prop := QX (fun ρ w => l6 R (ρ 0) (ρ 1) (ρ 5) w) (fun ρ w => R (.returned (ρ 4)) w) []
theorem b4_eq (R : Ending → World → Prop) (ρ : Env) (w : World) : (b4 R (ρ 0) (ρ 1) w) = codeP Tryd.prog (pan R) (preC 0 (fstC p1)) (q9 R) ρ w := by kernel_rfl
theorem b4_ok (R : Ending → World → Prop) (ρ : Env) (w : World) (h : b4 R (ρ 0) (ρ 1) w) : codeP Tryd.prog (pan R) (fstC p1) (q8 R) ρ w := by
  have e : appC 0 (preC 0 (fstC p1)) (dropC 1 (fstC p1)) = (fstC p1) := by kernel_rfl
  rw [← e]
  exact appQ (fun ρ w => l6 R (ρ 0) (ρ 1) (ρ 5) w) 0 ((b4_eq R ρ w).mp h) (fun ρ w h => k5_ok R ρ w h)
theorem k2_ok (R : Ending → World → Prop) (ρ : Env) (w : World) (h : b4 R (ρ 0) (ρ 1) w) : codeP Tryd.prog (pan R) p1 (q1 R) ρ w := by
  have e : Code.seq (fstC p1) (sndC p1) = p1 := by kernel_rfl
  rw [← e]
  exact seqQ (fun ρ w => b3 R  w) (b4_ok R ρ w h) (fun ρ w h => b3_ok R ρ w h)
/- x0 l, x1 r -/
def b1 (R : Ending → World → Prop) (x0 x1 : Value) (w : World) (_r : Tok R := tok R) : Prop :=
  RUN Tryd.prog (pan R) (Builtin.len_ #[26] 3 #[x0]) w fun v1 w2 =>
  RUN Tryd.prog (pan R) (Builtin.len_ #[23] 3 #[x1]) w2 fun v3 w4 =>
  RUN Tryd.prog (pan R) (bins .neq 3 (.tmp 7) (.tmp 9) v1 v3) w4 fun v5 w6 =>
  SPL v5
  (R (.returned (Go.Value.bool Bool.false)) w6)
  (b4 R x0 x1 w6)
abbrev q10 (R : Ending → World → Prop) : Exit → Env → World → Prop := QX (fun ρ w => b4 R (ρ 0) (ρ 1) w) (fun ρ w => R (.returned (ρ 4)) w) []
theorem b1_eq (R : Ending → World → Prop) (ρ : Env) (w : World) : (b1 R (ρ 0) (ρ 1) w) = codeP Tryd.prog (pan R) (preC 1 code) (q10 R) ρ w := by kernel_rfl
theorem b1_ok (R : Ending → World → Prop) (ρ : Env) (w : World) (h : b1 R (ρ 0) (ρ 1) w) : codeP Tryd.prog (pan R) code (q1 R) ρ w := by
  have e : appC 1 (preC 1 code) (dropC 2 code) = code := by kernel_rfl
  rw [← e]
  exact appQ (fun ρ w => b4 R (ρ 0) (ρ 1) w) 1 ((b1_eq R ρ w).mp h) (fun ρ w h => k2_ok R ρ w h)
/-- What is owed for a call. -/
def run (R : Ending → World → Prop) (a0 a1 : Value) (w : World) : Prop := b1 R a0 a1 w
theorem calls (R : Ending → World → Prop) (a0 a1 : Value) (w : World) (h : run R a0 a1 w) : Calls Tryd.prog id #[a0, a1] w R :=
  calls_of_t (f := id) (fn := Tryd.f12) (c := code) (by kernel_rfl) Tryd.func12 (by kernel_rfl) (by kernel_rfl) (args := [a0, a1]) (Nat.le_of_ble_eq_true rfl) rfl (b1_ok R (envOf [a0, a1]) w h)
theorem enters : Enters Tryd.prog id := fun args w => Tryd.call12 args w
theorem ct {a0 a1 : Value} {w : World} {S : Value → World → Prop} (h : ∀ R : Ending → World → Prop, (∀ v w, S v w → R (.returned v) w) → run R a0 a1 w) : Ct Tryd.prog id #[a0, a1] w S :=
  Ct.intro enters fun R hR => calls R a0 a1 w (h R hR)
attribute [irreducible] b3 b9 b12 b11 b7 l6 b4 b1 run
end law03_are

/-! ### presage/presagelaw03.pick -/
namespace law03_pick
noncomputable def code : Code := bodyOf Tryd.f14
noncomputable abbrev p1 : Code := dropC 2 code
/- x0 c, x1 n -/
def b2 (R : Ending → World → Prop) (x0 x1 : Value) (w : World) (_r : Tok R := tok R) : Prop :=
  RUN Tryd.prog (pan R) (bins .rem 3 (.tmp 10) (.tmp 11) x0 x1) w fun v1 w2 =>
  R (.returned v1) w2
abbrev q1 (R : Ending → World → Prop) : Exit → Env → World → Prop := QX (fun ρ w => R (.returned (ρ 4)) w) (fun ρ w => R (.returned (ρ 4)) w) []
theorem b2_eq (R : Ending → World → Prop) (ρ : Env) (w : World) : (b2 R (ρ 0) (ρ 1) w) = codeP Tryd.prog (pan R) p1 (q1 R) ρ w := by kernel_rfl
theorem b2_ok (R : Ending → World → Prop) (ρ : Env) (w : World) (h : b2 R (ρ 0) (ρ 1) w) : codeP Tryd.prog (pan R) p1 (q1 R) ρ w := (b2_eq R ρ w).mp h
/- x0 c, x1 n -/
def b1 (R : Ending → World → Prop) (x0 x1 : Value) (w : World) (_r : Tok R := tok R) : Prop :=
  RUN Tryd.prog (pan R) (bins .lss 3 (.tmp 5) (.const (Go.Value.int Go.IntKind.i64 0)) x0 (Go.Value.int Go.IntKind.i64 0)) w fun v1 w2 =>
  SPL v1
  (RUN Tryd.prog (pan R) (bins .add 3 (.tmp 7) (.const (Go.Value.int Go.IntKind.i64 1)) x0 (Go.Value.int Go.IntKind.i64 1)) w2 fun v3 w4 =>
  RUN Tryd.prog (pan R) (Op.unary .neg v3) w4 fun v5 w6 =>
  b2 R v5 x1 w6)
  (b2 R x0 x1 w2)
abbrev q2 (R : Ending → World → Prop) : Exit → Env → World → Prop := QX (fun ρ w => b2 R (ρ 0) (ρ 1) w) (fun ρ w => R (.returned (ρ 4)) w) []
theorem b1_eq (R : Ending → World → Prop) (ρ : Env) (w : World) : (b1 R (ρ 0) (ρ 1) w) = codeP Tryd.prog (pan R) (preC 1 code) (q2 R) ρ w := by kernel_rfl
theorem b1_ok (R : Ending → World → Prop) (ρ : Env) (w : World) (h : b1 R (ρ 0) (ρ 1) w) : codeP Tryd.prog (pan R) code (q1 R) ρ w := by
  have e : appC 1 (preC 1 code) (dropC 2 code) = code := by kernel_rfl
  rw [← e]
  exact appQ (fun ρ w => b2 R (ρ 0) (ρ 1) w) 1 ((b1_eq R ρ w).mp h) (fun ρ w h => b2_ok R ρ w h)
/-- What is owed for a call. -/
def run (R : Ending → World → Prop) (a0 a1 : Value) (w : World) : Prop := b1 R a0 a1 w
theorem calls (R : Ending → World → Prop) (a0 a1 : Value) (w : World) (h : run R a0 a1 w) : Calls Tryd.prog id #[a0, a1] w R :=
  calls_of_t (f := id) (fn := Tryd.f14) (c := code) (by kernel_rfl) Tryd.func14 (by kernel_rfl) (by kernel_rfl) (args := [a0, a1]) (Nat.le_of_ble_eq_true rfl) rfl (b1_ok R (envOf [a0, a1]) w h)
theorem enters : Enters Tryd.prog id := fun args w => Tryd.call14 args w
theorem ct {a0 a1 : Value} {w : World} {S : Value → World → Prop} (h : ∀ R : Ending → World → Prop, (∀ v w, S v w → R (.returned v) w) → run R a0 a1 w) : Ct Tryd.prog id #[a0, a1] w S :=
  Ct.intro enters fun R hR => calls R a0 a1 w (h R hR)
attribute [irreducible] b2 b1 run
end law03_pick

/-! ### presage/presagelaw03.made -/
namespace law03_made
noncomputable def code : Code := bodyOf Tryd.f15
/- x0 p -/
def b1 (R : Ending → World → Prop) (x0 : Value) (w : World) (_r : Tok R := tok R) : Prop :=
  RUN Tryd.prog (pan R) (Instr.box 48 x0) w fun v1 w2 =>
  RUN Tryd.prog (pan R) (Instr.alloc 36 true (.tuple #[])) w2 fun v3 w4 =>
  RUN Tryd.prog (pan R) (Instr.fieldAt 48 v1 0) w4 fun v5 w6 =>
  RUN Tryd.prog (pan R) (Instr.loadAt 3 v5) w6 fun v7 w8 =>
  CALL Tryd.prog (pan R) law03_pick.id #[v7, (Go.Value.int Go.IntKind.i64 4)] w8 fun v9 w10 =>
  RUN Tryd.prog (pan R) (bins .eql 3 (.tmp 11) (.const (Go.Value.int Go.IntKind.i64 0)) v9 (Go.Value.int Go.IntKind.i64 0)) w10 fun v11 w12 =>
  SPL v11
  (RUN Tryd.prog (pan R) (Instr.fieldAt 48 v1 3) w12 fun v13 w14 =>
  RUN Tryd.prog (pan R) (Instr.loadAt 9 v13) w14 fun v15 w16 =>
  CALL Tryd.prog (pan R) law03_letters.id #[v15, (Go.Value.bool Bool.false)] w16 fun v17 w18 =>
  RUN Tryd.prog (pan R) (Instr.build 36 #[(0, (Go.Value.int Go.IntKind.i64 1)), (1, v17)]) w18 fun v19 w20 =>
  RUNU Tryd.prog (pan R) (Instr.storeAt 36 v3 v19) w20 fun w21 =>
  LD Tryd.prog (Instr.loadAt 36 v3) w21 fun r1 => R (.returned (.tuple #[v17, r1])) w21)
  (RUN Tryd.prog (pan R) (bins .eql 3 (.tmp 11) (.const (Go.Value.int Go.IntKind.i64 1)) v9 (Go.Value.int Go.IntKind.i64 1)) w12 fun v22 w23 =>
  SPL v22
  (RUN Tryd.prog (pan R) (Instr.fieldAt 48 v1 3) w23 fun v24 w25 =>
  RUN Tryd.prog (pan R) (Instr.loadAt 9 v24) w25 fun v26 w27 =>
  CALL Tryd.prog (pan R) law03_letters.id #[v26, (Go.Value.bool Bool.true)] w27 fun v28 w29 =>
  RUN Tryd.prog (pan R) (bins .add 9 (.const (Go.Value.string { data := #[39] })) (.tmp 25) (Go.Value.string { data := #[39] }) v28) w29 fun v30 w31 =>
  RUN Tryd.prog (pan R) (bins .add 9 (.tmp 26) (.const (Go.Value.string { data := #[39] })) v30 (Go.Value.string { data := #[39] })) w31 fun v32 w33 =>
  RUN Tryd.prog (pan R) (Instr.build 36 #[(0, (Go.Value.int Go.IntKind.i64 2)), (1, v28)]) w33 fun v34 w35 =>
  RUNU Tryd.prog (pan R) (Instr.storeAt 36 v3 v34) w35 fun w36 =>
  LD Tryd.prog (Instr.loadAt 36 v3) w36 fun r1 => R (.returned (.tuple #[v32, r1])) w36)
  (RUN Tryd.prog (pan R) (bins .eql 3 (.tmp 11) (.const (Go.Value.int Go.IntKind.i64 2)) v9 (Go.Value.int Go.IntKind.i64 2)) w23 fun v37 w38 =>
  SPL v37
  (RUN Tryd.prog (pan R) (Instr.buildSlice 28 7 #[(0, (Go.Value.string { data := #[37, 116, 111, 107, 101, 110] })), (1, (Go.Value.string { data := #[37, 108, 101, 102, 116] })), (2, (Go.Value.string { data := #[37, 114, 105, 103, 104, 116] })), (3, (Go.Value.string { data := #[37, 110, 111, 110, 97, 115, 115, 111, 99] })), (4, (Go.Value.string { data := #[37, 115, 116, 97, 114, 116] })), (5, (Go.Value.string { data := #[37, 112, 114, 101, 99] })), (6, (Go.Value.string { data := #[37, 110, 111, 110, 101] }))]) w38 fun v39 w40 =>
  RUN Tryd.prog (pan R) (Instr.fieldAt 48 v1 1) w40 fun v41 w42 =>
  RUN Tryd.prog (pan R) (Instr.loadAt 3 v41) w42 fun v43 w44 =>
  RUN Tryd.prog (pan R) (Builtin.len_ #[28] 3 #[v39]) w44 fun v45 w46 =>
  CALL Tryd.prog (pan R) law03_pick.id #[v43, v45] w46 fun v47 w48 =>
  RUN Tryd.prog (pan R) (Instr.indexAt 28 v39 v47) w48 fun v49 w50 =>
  RUN Tryd.prog (pan R) (Instr.loadAt 9 v49) w50 fun v51 w52 =>
  RUN Tryd.prog (pan R) (Instr.build 36 #[(0, (Go.Value.int Go.IntKind.i64 3)), (1, v51)]) w52 fun v53 w54 =>
  RUNU Tryd.prog (pan R) (Instr.storeAt 36 v3 v53) w54 fun w55 =>
  LD Tryd.prog (Instr.loadAt 36 v3) w55 fun r1 => R (.returned (.tuple #[v51, r1])) w55)
  (RUN Tryd.prog (pan R) (Instr.fieldAt 48 v1 1) w38 fun v56 w57 =>
  RUN Tryd.prog (pan R) (Instr.loadAt 3 v56) w57 fun v58 w59 =>
  CALL Tryd.prog (pan R) law03_pick.id #[v58, (Go.Value.int Go.IntKind.i64 3)] w59 fun v60 w61 =>
  RUN Tryd.prog (pan R) (Instr.sliceAt 9 (Go.Value.string { data := #[58, 124, 59] }) (some v60) none none) w61 fun v62 w63 =>
  RUN Tryd.prog (pan R) (Instr.sliceAt 9 v62 none (some (Go.Value.int Go.IntKind.i64 1)) none) w63 fun v64 w65 =>
  RUN Tryd.prog (pan R) (Instr.build 36 #[(0, (Go.Value.int Go.IntKind.i64 4)), (1, v64)]) w65 fun v66 w67 =>
  RUNU Tryd.prog (pan R) (Instr.storeAt 36 v3 v66) w67 fun w68 =>
  LD Tryd.prog (Instr.loadAt 36 v3) w68 fun r1 => R (.returned (.tuple #[v64, r1])) w68)))
abbrev q1 (R : Ending → World → Prop) : Exit → Env → World → Prop := QX (fun ρ w => LD Tryd.prog (Instr.loadAt 36 (ρ 3)) w fun r1 => R (.returned (.tuple #[(ρ 2), r1])) w) (fun ρ w => LD Tryd.prog (Instr.loadAt 36 (ρ 3)) w fun r1 => R (.returned (.tuple #[(ρ 2), r1])) w) []
theorem b1_eq (R : Ending → World → Prop) (ρ : Env) (w : World) : (b1 R (ρ 0) w) = codeP Tryd.prog (pan R) code (q1 R) ρ w := by kernel_rfl
theorem b1_ok (R : Ending → World → Prop) (ρ : Env) (w : World) (h : b1 R (ρ 0) w) : codeP Tryd.prog (pan R) code (q1 R) ρ w := (b1_eq R ρ w).mp h
/-- What is owed for a call. -/
def run (R : Ending → World → Prop) (a0 : Value) (w : World) : Prop := b1 R a0 w
theorem calls (R : Ending → World → Prop) (a0 : Value) (w : World) (h : run R a0 w) : Calls Tryd.prog id #[a0] w R :=
  calls_of_tc (f := id) (fn := Tryd.f15) (c := code) (by kernel_rfl) Tryd.func15 (by kernel_rfl) (by kernel_rfl) (args := [a0]) (Nat.le_of_ble_eq_true rfl) rfl (b1_ok R (envOf [a0]) w h)
theorem enters : Enters Tryd.prog id := fun args w => Tryd.call15 args w
theorem ct {a0 : Value} {w : World} {S : Value → World → Prop} (h : ∀ R : Ending → World → Prop, (∀ v w, S v w → R (.returned v) w) → run R a0 w) : Ct Tryd.prog id #[a0] w S :=
  Ct.intro enters fun R hR => calls R a0 w (h R hR)
attribute [irreducible] b1 run
end law03_made

/-! ### presage/presagelaw03.letters -/
namespace law03_letters
noncomputable def code : Code := bodyOf Tryd.f25
noncomputable abbrev p1 : Code := dropC 2 code
/- x5 b -/
def b3 (R : Ending → World → Prop) (x5 : Value) (w : World) (_r : Tok R := tok R) : Prop :=
  RUN Tryd.prog (pan R) (Builtin.len_ #[66] 3 #[x5]) w fun v1 w2 =>
  RUN Tryd.prog (pan R) (bins .eql 3 (.tmp 44) (.const (Go.Value.int Go.IntKind.i64 0)) v1 (Go.Value.int Go.IntKind.i64 0)) w2 fun v3 w4 =>
  SPL v3
  (R (.returned (Go.Value.string { data := #[110] })) w4)
  (RUN Tryd.prog (pan R) (convert 66 9 x5) w4 fun v5 w6 =>
  R (.returned v5) w6)
abbrev q1 (R : Ending → World → Prop) : Exit → Env → World → Prop := QX (fun ρ w => R (.returned (ρ 4)) w) (fun ρ w => R (.returned (ρ 4)) w) []
theorem b3_eq (R : Ending → World → Prop) (ρ : Env) (w : World) : (b3 R (ρ 5) w) = codeP Tryd.prog (pan R) (sndC p1) (q1 R) ρ w := by kernel_rfl
theorem b3_ok (R : Ending → World → Prop) (ρ : Env) (w : World) (h : b3 R (ρ 5) w) : codeP Tryd.prog (pan R) (sndC p1) (q1 R) ρ w := (b3_eq R ρ w).mp h
noncomputable abbrev p2 : Code := dropC 1 (fstC p1)
noncomputable abbrev p3 : Code := loopC (blkC p2)
noncomputable abbrev p4 : Code := sndC (sndC p3)
/- x5 b, x6 i -/
def b9 (R : Ending → World → Prop) (C6 : Value → Value → World → Prop) (x5 x6 : Value) (w : World) (_r : Tok R := tok R) (_C6 : Tok C6 := tok C6) : Prop :=
  RUN Tryd.prog (pan R) (bins .add 3 (.tmp 16) (.const (Go.Value.int Go.IntKind.i64 1)) x6 (Go.Value.int Go.IntKind.i64 1)) w fun v1 w2 =>
  C6 x5 v1 w2
abbrev q2 (R : Ending → World → Prop) (C6 : Value → Value → World → Prop) : Exit → Env → World → Prop := QX (fun ρ w => C6 (ρ 5) (ρ 6) w) (fun ρ w => R (.returned (ρ 4)) w) [(0, (fun ρ w => b3 R (ρ 5) w))]
theorem b9_eq (R : Ending → World → Prop) (C6 : Value → Value → World → Prop) (ρ : Env) (w : World) : (b9 R C6 (ρ 5) (ρ 6) w) = codeP Tryd.prog (pan R) p4 (q2 R C6) ρ w := by kernel_rfl
theorem b9_ok (R : Ending → World → Prop) (C6 : Value → Value → World → Prop) (ρ : Env) (w : World) (h : b9 R C6 (ρ 5) (ρ 6) w) : codeP Tryd.prog (pan R) p4 (q2 R C6) ρ w := (b9_eq R C6 ρ w).mp h
noncomputable abbrev p5 : Code := fstC (sndC p3)
noncomputable abbrev p6 : Code := dropC 2 (blkC p5)
/- x5 b, x6 i, x7 c -/
def b13 (R : Ending → World → Prop) (C6 : Value → Value → World → Prop) (x5 x6 x7 : Value) (w : World) (_r : Tok R := tok R) (_C6 : Tok C6 := tok C6) : Prop :=
  RUN Tryd.prog (pan R) (Instr.buildSlice 66 1 #[(0, x7)]) w fun v1 w2 =>
  RUN Tryd.prog (pan R) (Builtin.append_ #[66, 66] 66 #[x5, v1]) w2 fun v3 w4 =>
  b9 R C6 v3 x6 w4
abbrev q3 (R : Ending → World → Prop) (C6 : Value → Value → World → Prop) : Exit → Env → World → Prop := QX (fun ρ w => b9 R C6 (ρ 5) (ρ 6) w) (fun ρ w => R (.returned (ρ 4)) w) [(2, (fun ρ w => b9 R C6 (ρ 5) (ρ 6) w)), (0, (fun ρ w => b3 R (ρ 5) w))]
theorem b13_eq (R : Ending → World → Prop) (C6 : Value → Value → World → Prop) (ρ : Env) (w : World) : (b13 R C6 (ρ 5) (ρ 6) (ρ 7) w) = codeP Tryd.prog (pan R) (sndC p6) (q3 R C6) ρ w := by kernel_rfl
theorem b13_ok (R : Ending → World → Prop) (C6 : Value → Value → World → Prop) (ρ : Env) (w : World) (h : b13 R C6 (ρ 5) (ρ 6) (ρ 7) w) : codeP Tryd.prog (pan R) (sndC p6) (q3 R C6) ρ w := (b13_eq R C6 ρ w).mp h
noncomputable abbrev p7 : Code := dropC 1 (fstC p6)
noncomputable abbrev p8 : Code := dropC 2 (thnC p7)
/- x5 b, x6 i, x7 c -/
def b17 (R : Ending → World → Prop) (C6 : Value → Value → World → Prop) (x5 x6 x7 x38 : Value) (w : World) (_r : Tok R := tok R) (_C6 : Tok C6 := tok C6) : Prop :=
  SPL x38
  (b13 R C6 x5 x6 (Go.Value.int Go.IntKind.u8 113) w)
  (b13 R C6 x5 x6 x7 w)
abbrev q4 (R : Ending → World → Prop) (C6 : Value → Value → World → Prop) : Exit → Env → World → Prop := QX (fun ρ w => b13 R C6 (ρ 5) (ρ 6) (ρ 7) w) (fun ρ w => R (.returned (ρ 4)) w) [(2, (fun ρ w => b9 R C6 (ρ 5) (ρ 6) w)), (0, (fun ρ w => b3 R (ρ 5) w))]
theorem b17_eq (R : Ending → World → Prop) (C6 : Value → Value → World → Prop) (ρ : Env) (w : World) : (b17 R C6 (ρ 5) (ρ 6) (ρ 7) (ρ 38) w) = codeP Tryd.prog (pan R) p8 (q4 R C6) ρ w := by kernel_rfl
theorem b17_ok (R : Ending → World → Prop) (C6 : Value → Value → World → Prop) (ρ : Env) (w : World) (h : b17 R C6 (ρ 5) (ρ 6) (ρ 7) (ρ 38) w) : codeP Tryd.prog (pan R) p8 (q4 R C6) ρ w := (b17_eq R C6 ρ w).mp h
/- x0 s, x5 b, x6 i -/
def b16 (R : Ending → World → Prop) (C6 : Value → Value → World → Prop) (x0 x5 x6 : Value) (w : World) (_r : Tok R := tok R) (_C6 : Tok C6 := tok C6) : Prop :=
  RUN Tryd.prog (pan R) (Instr.index 9 x0 x6) w fun v1 w2 =>
  RUN Tryd.prog (pan R) (convert 5 3 v1) w2 fun v3 w4 =>
  RUN Tryd.prog (pan R) (bins .rem 3 (.tmp 30) (.const (Go.Value.int Go.IntKind.i64 13)) v3 (Go.Value.int Go.IntKind.i64 13)) w4 fun v5 w6 =>
  RUN Tryd.prog (pan R) (Instr.index 9 (Go.Value.string { data := #[97, 98, 99, 120, 121, 122, 65, 66, 90, 95, 48, 49, 57] }) v5) w6 fun v7 w8 =>
  RUN Tryd.prog (pan R) (bins .eql 3 (.tmp 33) (.const (Go.Value.int Go.IntKind.i64 0)) x6 (Go.Value.int Go.IntKind.i64 0)) w8 fun v9 w10 =>
  SPL v9
  (RUN Tryd.prog (pan R) (bins .lss 5 (.tmp 36) (.const (Go.Value.int Go.IntKind.u8 65)) v7 (Go.Value.int Go.IntKind.u8 65)) w10 fun v11 w12 =>
  b17 R C6 x5 x6 v7 v11 w12)
  (b17 R C6 x5 x6 v7 (Go.Value.bool Bool.false) w10)
abbrev q5 (R : Ending → World → Prop) (C6 : Value → Value → World → Prop) : Exit → Env → World → Prop := QX (fun ρ w => b17 R C6 (ρ 5) (ρ 6) (ρ 7) (ρ 38) w) (fun ρ w => R (.returned (ρ 4)) w) [(2, (fun ρ w => b9 R C6 (ρ 5) (ρ 6) w)), (0, (fun ρ w => b3 R (ρ 5) w))]
theorem b16_eq (R : Ending → World → Prop) (C6 : Value → Value → World → Prop) (ρ : Env) (w : World) : (b16 R C6 (ρ 0) (ρ 5) (ρ 6) w) = codeP Tryd.prog (pan R) (preC 1 (thnC p7)) (q5 R C6) ρ w := by kernel_rfl
theorem b16_ok (R : Ending → World → Prop) (C6 : Value → Value → World → Prop) (ρ : Env) (w : World) (h : b16 R C6 (ρ 0) (ρ 5) (ρ 6) w) : codeP Tryd.prog (pan R) (thnC p7) (q4 R C6) ρ w := by
  have e : appC 1 (preC 1 (thnC p7)) (dropC 2 (thnC p7)) = (thnC p7) := by kernel_rfl
  rw [← e]
  exact appQ (fun ρ w => b17 R C6 (ρ 5) (ρ 6) (ρ 7) (ρ 38) w) 1 ((b16_eq R C6 ρ w).mp h) (fun ρ w h => b17_ok R C6 ρ w h)
/- x5 b, x6 i, x7 c -/
def b18 (R : Ending → World → Prop) (C6 : Value → Value → World → Prop) (x5 x6 x7 : Value) (w : World) (_r : Tok R := tok R) (_C6 : Tok C6 := tok C6) : Prop :=
  b13 R C6 x5 x6 x7 w
theorem b18_eq (R : Ending → World → Prop) (C6 : Value → Value → World → Prop) (ρ : Env) (w : World) : (b18 R C6 (ρ 5) (ρ 6) (ρ 7) w) = codeP Tryd.prog (pan R) (elsC p7) (q4 R C6) ρ w := by kernel_rfl
theorem b18_ok (R : Ending → World → Prop) (C6 : Value → Value → World → Prop) (ρ : Env) (w : World) (h : b18 R C6 (ρ 5) (ρ 6) (ρ 7) w) : codeP Tryd.prog (pan R) (elsC p7) (q4 R C6) ρ w := (b18_eq R C6 ρ w).mp h
/- x0 s, x5 b, x6 i, x7 c -/
def b15 (R : Ending → World → Prop) (C6 : Value → Value → World → Prop) (x0 x5 x6 x7 x26 : Value) (w : World) (_r : Tok R := tok R) (_C6 : Tok C6 := tok C6) : Prop :=
  SPL x26 (b16 R C6 x0 x5 x6 w) (b18 R C6 x5 x6 x7 w)
theorem b15_ok (R : Ending → World → Prop) (C6 : Value → Value → World → Prop) (ρ : Env) (w : World) (h : b15 R C6 (ρ 0) (ρ 5) (ρ 6) (ρ 7) (ρ 26) w) : codeP Tryd.prog (pan R) p7 (q4 R C6) ρ w := by
  have e : Code.cond (.tmp 26) (thnC p7) (elsC p7) = p7 := by kernel_rfl
  rw [← e]
  exact condQ' h (fun h => b16_ok R C6 ρ w h) (fun h => b18_ok R C6 ρ w h)
/- x0 s, x1 any, x5 b, x6 i, x7 c -/
def b14 (R : Ending → World → Prop) (C6 : Value → Value → World → Prop) (x0 x1 x5 x6 x7 : Value) (w : World) (_r : Tok R := tok R) (_C6 : Tok C6 := tok C6) : Prop :=
  RUN Tryd.prog (pan R) (Op.unary .not x1) w fun v1 w2 =>
  b15 R C6 x0 x5 x6 x7 v1 w2
abbrev q6 (R : Ending → World → Prop) (C6 : Value → Value → World → Prop) : Exit → Env → World → Prop := QX (fun ρ w => b15 R C6 (ρ 0) (ρ 5) (ρ 6) (ρ 7) (ρ 26) w) (fun ρ w => R (.returned (ρ 4)) w) [(2, (fun ρ w => b9 R C6 (ρ 5) (ρ 6) w)), (0, (fun ρ w => b3 R (ρ 5) w))]
theorem b14_eq (R : Ending → World → Prop) (C6 : Value → Value → World → Prop) (ρ : Env) (w : World) : (b14 R C6 (ρ 0) (ρ 1) (ρ 5) (ρ 6) (ρ 7) w) = codeP Tryd.prog (pan R) (preC 0 (fstC p6)) (q6 R C6) ρ w := by kernel_rfl
theorem b14_ok (R : Ending → World → Prop) (C6 : Value → Value → World → Prop) (ρ : Env) (w : World) (h : b14 R C6 (ρ 0) (ρ 1) (ρ 5) (ρ 6) (ρ 7) w) : codeP Tryd.prog (pan R) (fstC p6) (q4 R C6) ρ w := by
  have e : appC 0 (preC 0 (fstC p6)) (dropC 1 (fstC p6)) = (fstC p6) := by kernel_rfl
  rw [← e]
  exact appQ (fun ρ w => b15 R C6 (ρ 0) (ρ 5) (ρ 6) (ρ 7) (ρ 26) w) 0 ((b14_eq R C6 ρ w).mp h) (fun ρ w h => b15_ok R C6 ρ w h)
theorem k12_ok (R : Ending → World → Prop) (C6 : Value → Value → World → Prop) (ρ : Env) (w : World) (h : b14 R C6 (ρ 0) (ρ 1) (ρ 5) (ρ 6) (ρ 7) w) : codeP Tryd.prog (pan R) p6 (q3 R C6) ρ w := by
  have e : Code.seq (fstC p6) (sndC p6) = p6 := by kernel_rfl
  rw [← e]
  exact seqQ (fun ρ w => b13 R C6 (ρ 5) (ρ 6) (ρ 7) w) (b14_ok R C6 ρ w h) (fun ρ w h => b13_ok R C6 ρ w h)
/- x0 s, x1 any, x5 b, x6 i -/
def b11 (R : Ending → World → Prop) (C6 : Value → Value → World → Prop) (x0 x1 x5 x6 : Value) (w : World) (_r : Tok R := tok R) (_C6 : Tok C6 := tok C6) : Prop :=
  RUN Tryd.prog (pan R) (Instr.index 9 x0 x6) w fun v1 w2 =>
  RUN Tryd.prog (pan R) (bins .rem 5 (.tmp 20) (.const (Go.Value.int Go.IntKind.u8 95)) v1 (Go.Value.int Go.IntKind.u8 95)) w2 fun v3 w4 =>
  RUN Tryd.prog (pan R) (bins .add 5 (.const (Go.Value.int Go.IntKind.u8 32)) (.tmp 21) (Go.Value.int Go.IntKind.u8 32) v3) w4 fun v5 w6 =>
  RUN Tryd.prog (pan R) (bins .eql 5 (.tmp 23) (.const (Go.Value.int Go.IntKind.u8 39)) v5 (Go.Value.int Go.IntKind.u8 39)) w6 fun v7 w8 =>
  SPL v7
  (b14 R C6 x0 x1 x5 x6 (Go.Value.int Go.IntKind.u8 126) w8)
  (b14 R C6 x0 x1 x5 x6 v5 w8)
abbrev q7 (R : Ending → World → Prop) (C6 : Value → Value → World → Prop) : Exit → Env → World → Prop := QX (fun ρ w => b14 R C6 (ρ 0) (ρ 1) (ρ 5) (ρ 6) (ρ 7) w) (fun ρ w => R (.returned (ρ 4)) w) [(2, (fun ρ w => b9 R C6 (ρ 5) (ρ 6) w)), (0, (fun ρ w => b3 R (ρ 5) w))]
theorem b11_eq (R : Ending → World → Prop) (C6 : Value → Value → World → Prop) (ρ : Env) (w : World) : (b11 R C6 (ρ 0) (ρ 1) (ρ 5) (ρ 6) w) = codeP Tryd.prog (pan R) (preC 1 (blkC p5)) (q7 R C6) ρ w := by kernel_rfl
theorem b11_ok (R : Ending → World → Prop) (C6 : Value → Value → World → Prop) (ρ : Env) (w : World) (h : b11 R C6 (ρ 0) (ρ 1) (ρ 5) (ρ 6) w) : codeP Tryd.prog (pan R) (blkC p5) (q3 R C6) ρ w := by
  have e : appC 1 (preC 1 (blkC p5)) (dropC 2 (blkC p5)) = (blkC p5) := by kernel_rfl
  rw [← e]
  exact appQ (fun ρ w => b14 R C6 (ρ 0) (ρ 1) (ρ 5) (ρ 6) (ρ 7) w) 1 ((b11_eq R C6 ρ w).mp h) (fun ρ w h => k12_ok R C6 ρ w h)
abbrev q8 (R : Ending → World → Prop) (C6 : Value → Value → World → Prop) : Exit → Env → World → Prop := QX (fun ρ w => b9 R C6 (ρ 5) (ρ 6) w) (fun ρ w => R (.returned (ρ 4)) w) [(0, (fun ρ w => b3 R (ρ 5) w))]
theorem k10_ok (R : Ending → World → Prop) (C6 : Value → Value → World → Prop) (ρ : Env) (w : World) (h : b11 R C6 (ρ 0) (ρ 1) (ρ 5) (ρ 6) w) : codeP Tryd.prog (pan R) p5 (q8 R C6) ρ w := by
  have e : Code.block 1 (blkC p5) = p5 := by kernel_rfl
  rw [← e]
  exact blockQ (b11_ok R C6 ρ w h)
theorem k8_ok (R : Ending → World → Prop) (C6 : Value → Value → World → Prop) (ρ : Env) (w : World) (h : b11 R C6 (ρ 0) (ρ 1) (ρ 5) (ρ 6) w) : codeP Tryd.prog (pan R) (sndC p3) (q2 R C6) ρ w := by
  have e : Code.seq (fstC (sndC p3)) (sndC (sndC p3)) = (sndC p3) := by kernel_rfl
  rw [← e]
  exact seqQ (fun ρ w => b9 R C6 (ρ 5) (ρ 6) w) (k10_ok R C6 ρ w h) (fun ρ w h => b9_ok R C6 ρ w h)
noncomputable abbrev p9 : Code := dropC 1 (fstC p3)
/- x0 s, x1 any, x5 b, x6 i -/
def b20 (R : Ending → World → Prop) (C6 : Value → Value → World → Prop) (x0 x1 x5 x6 x15 : Value) (w : World) (_r : Tok R := tok R) (_C6 : Tok C6 := tok C6) : Prop :=
  SPL x15
  (b11 R C6 x0 x1 x5 x6 w)
  (b3 R x5 w)
abbrev q9 (R : Ending → World → Prop) (C6 : Value → Value → World → Prop) : Exit → Env → World → Prop := QX (fun ρ w => b11 R C6 (ρ 0) (ρ 1) (ρ 5) (ρ 6) w) (fun ρ w => R (.returned (ρ 4)) w) [(0, (fun ρ w => b3 R (ρ 5) w))]
theorem b20_eq (R : Ending → World → Prop) (C6 : Value → Value → World → Prop) (ρ : Env) (w : World) : (b20 R C6 (ρ 0) (ρ 1) (ρ 5) (ρ 6) (ρ 15) w) = codeP Tryd.prog (pan R) p9 (q9 R C6) ρ w := by kernel_rfl
theorem b20_ok (R : Ending → World → Prop) (C6 : Value → Value → World → Prop) (ρ : Env) (w : World) (h : b20 R C6 (ρ 0) (ρ 1) (ρ 5) (ρ 6) (ρ 15) w) : codeP Tryd.prog (pan R) p9 (q9 R C6) ρ w := (b20_eq R C6 ρ w).mp h
/- x0 s, x1 any, x5 b, x6 i -/
def b19 (R : Ending → World → Prop) (C6 : Value → Value → World → Prop) (x0 x1 x5 x6 : Value) (w : World) (_r : Tok R := tok R) (_C6 : Tok C6 := tok C6) : Prop :=
  RUN Tryd.prog (pan R) (Builtin.len_ #[9] 3 #[x0]) w fun v1 w2 =>
  RUN Tryd.prog (pan R) (bins .lss 3 (.tmp 8) (.tmp 10) x6 v1) w2 fun v3 w4 =>
  SPL v3
  (RUN Tryd.prog (pan R) (bins .lss 3 (.tmp 13) (.const (Go.Value.int Go.IntKind.i64 16)) x6 (Go.Value.int Go.IntKind.i64 16)) w4 fun v5 w6 =>
  b20 R C6 x0 x1 x5 x6 v5 w6)
  (b20 R C6 x0 x1 x5 x6 (Go.Value.bool Bool.false) w4)
abbrev q10 (R : Ending → World → Prop) (C6 : Value → Value → World → Prop) : Exit → Env → World → Prop := QX (fun ρ w => b20 R C6 (ρ 0) (ρ 1) (ρ 5) (ρ 6) (ρ 15) w) (fun ρ w => R (.returned (ρ 4)) w) [(0, (fun ρ w => b3 R (ρ 5) w))]
theorem b19_eq (R : Ending → World → Prop) (C6 : Value → Value → World → Prop) (ρ : Env) (w : World) : (b19 R C6 (ρ 0) (ρ 1) (ρ 5) (ρ 6) w) = codeP Tryd.prog (pan R) (preC 0 (fstC p3)) (q10 R C6) ρ w := by kernel_rfl
theorem b19_ok (R : Ending → World → Prop) (C6 : Value → Value → World → Prop) (ρ : Env) (w : World) (h : b19 R C6 (ρ 0) (ρ 1) (ρ 5) (ρ 6) w) : codeP Tryd.prog (pan R) (fstC p3) (q9 R C6) ρ w := by
  have e : appC 0 (preC 0 (fstC p3)) (dropC 1 (fstC p3)) = (fstC p3) := by kernel_rfl
  rw [← e]
  exact appQ (fun ρ w => b20 R C6 (ρ 0) (ρ 1) (ρ 5) (ρ 6) (ρ 15) w) 0 ((b19_eq R C6 ρ w).mp h) (fun ρ w h => b20_ok R C6 ρ w h)
theorem k7_ok (R : Ending → World → Prop) (C6 : Value → Value → World → Prop) (ρ : Env) (w : World) (h : b19 R C6 (ρ 0) (ρ 1) (ρ 5) (ρ 6) w) : codeP Tryd.prog (pan R) p3 (q2 R C6) ρ w := by
  have e : Code.seq (fstC p3) (sndC p3) = p3 := by kernel_rfl
  rw [← e]
  exact seqQ (fun ρ w => b11 R C6 (ρ 0) (ρ 1) (ρ 5) (ρ 6) w) (b19_ok R C6 ρ w h) (fun ρ w h => k8_ok R C6 ρ w h)
/- x0 s, x1 any, x5 b, x6 i -/
def l6 (R : Ending → World → Prop) (x0 x1 x5 x6 : Value) (w : World) (_r : Tok R := tok R) : Prop :=
  ∃ (J : Value → Value → World → Prop) (μ : Value → Value → World → Nat), J x5 x6 w ∧ ∀ y5 y6 w0, J y5 y6 w0 → b19 R (fun z5 z6 w1 => J z5 z6 w1 ∧ μ z5 z6 w1 < μ y5 y6 w0) x0 x1 y5 y6 w0
abbrev q11 (R : Ending → World → Prop) : Exit → Env → World → Prop := QX (fun ρ w => b3 R (ρ 5) w) (fun ρ w => R (.returned (ρ 4)) w) [(0, (fun ρ w => b3 R (ρ 5) w))]
theorem l6_ok (R : Ending → World → Prop) (ρ : Env) (w : World) (h : l6 R (ρ 0) (ρ 1) (ρ 5) (ρ 6) w) : codeP Tryd.prog (pan R) (blkC p2) (q11 R) ρ w := by
  unfold l6 at h
  obtain ⟨J, μ, h0, hr⟩ := h
  have e : Code.loop (loopC (blkC p2)) = (blkC p2) := by kernel_rfl
  rw [← e]
  refine loopQ (fun ρ' w' => J (ρ' 5) (ρ' 6) w') (fun ρ' w' => μ (ρ' 5) (ρ' 6) w') h0 fun ρ' w' hA hI => ?_
  have e0 : ρ' 0 = ρ 0 := Agree.at hA 0 (by kernel_rfl)
  have e1 : ρ' 1 = ρ 1 := Agree.at hA 1 (by kernel_rfl)
  have h1 := hr (ρ' 5) (ρ' 6) w' hI
  rw [← e0, ← e1] at h1
  exact k7_ok R (fun z5 z6 w1 => J z5 z6 w1 ∧ μ z5 z6 w1 < μ (ρ' 5) (ρ' 6) w') ρ' w' h1
theorem l6_intro (R : Ending → World → Prop) (x0 x1 x5 x6 : Value) (w : World) (J : Value → Value → World → Prop) (μ : Value → Value → World → Nat) (h0 : J x5 x6 w)
    (hr : ∀ y5 y6 w0, J y5 y6 w0 → ∀ C6 : Value → Value → World → Prop, (∀ z5 z6 w1, J z5 z6 w1 → μ z5 z6 w1 < μ y5 y6 w0 → C6 z5 z6 w1) → b19 R C6 x0 x1 y5 y6 w0) : l6 R x0 x1 x5 x6 w := by
  unfold l6
  exact ⟨J, μ, h0, fun y5 y6 w0 hJ => hr y5 y6 w0 hJ _ (fun z5 z6 w1 h1 h2 => ⟨h1, h2⟩)⟩
abbrev q12 (R : Ending → World → Prop) : Exit → Env → World → Prop := QX (fun ρ w => b3 R (ρ 5) w) (fun ρ w => R (.returned (ρ 4)) w) []
theorem k5_ok (R : Ending → World → Prop) (ρ : Env) (w : World) (h : l6 R (ρ 0) (ρ 1) (ρ 5) (ρ 6) w) : codeP Tryd.prog (pan R) p2 (q12 R) ρ w := by
  have e : Code.block 0 (blkC p2) = p2 := by kernel_rfl
  rw [← e]
  exact blockQ (l6_ok R ρ w h)
/- x0 s, x1 any, x5 b -/
def b4 (R : Ending → World → Prop) (x0 x1 x5 : Value) (w : World) (_r : Tok R := tok R) : Prop :=
  l6 R x0 x1 x5 (Go.Value.int Go.IntKind.i64 0) w
abbrev q13 (R : Ending → World → Prop) : Exit → Env → World → Prop := QX (fun ρ w => l6 R (ρ 0) (ρ 1) (ρ 5) (ρ 6) w) (fun ρ w => R (.returned (ρ 4)) w) []
theorem b4_eq (R : Ending → World → Prop) (ρ : Env) (w : World) : (b4 R (ρ 0) (ρ 1) (ρ 5) w) = codeP Tryd.prog (pan R) (preC 0 (fstC p1)) (q13 R) ρ w := by kernel_rfl
theorem b4_ok (R : Ending → World → Prop) (ρ : Env) (w : World) (h : b4 R (ρ 0) (ρ 1) (ρ 5) w) : codeP Tryd.prog (pan R) (fstC p1) (q12 R) ρ w := by
  have e : appC 0 (preC 0 (fstC p1)) (dropC 1 (fstC p1)) = (fstC p1) := by kernel_rfl
  rw [← e]
  exact appQ (fun ρ w => l6 R (ρ 0) (ρ 1) (ρ 5) (ρ 6) w) 0 ((b4_eq R ρ w).mp h) (fun ρ w h => k5_ok R ρ w h)
theorem k2_ok (R : Ending → World → Prop) (ρ : Env) (w : World) (h : b4 R (ρ 0) (ρ 1) (ρ 5) w) : codeP Tryd.prog (pan R) p1 (q1 R) ρ w := by
  have e : Code.seq (fstC p1) (sndC p1) = p1 := by kernel_rfl
  rw [← e]
  exact seqQ (fun ρ w => b3 R (ρ 5) w) (b4_ok R ρ w h) (fun ρ w h => b3_ok R ρ w h)
/- x0 s, x1 any -/
def b1 (R : Ending → World → Prop) (x0 x1 : Value) (w : World) (_r : Tok R := tok R) : Prop :=
  b4 R x0 x1 (Go.Value.slice Option.none 0 0) w
abbrev q14 (R : Ending → World → Prop) : Exit → Env → World → Prop := QX (fun ρ w => b4 R (ρ 0) (ρ 1) (ρ 5) w) (fun ρ w => R (.returned (ρ 4)) w) []
theorem b1_eq (R : Ending → World → Prop) (ρ : Env) (w : World) : (b1 R (ρ 0) (ρ 1) w) = codeP Tryd.prog (pan R) (preC 1 code) (q14 R) ρ w := by kernel_rfl
theorem b1_ok (R : Ending → World → Prop) (ρ : Env) (w : World) (h : b1 R (ρ 0) (ρ 1) w) : codeP Tryd.prog (pan R) code (q1 R) ρ w := by
  have e : appC 1 (preC 1 code) (dropC 2 code) = code := by kernel_rfl
  rw [← e]
  exact appQ (fun ρ w => b4 R (ρ 0) (ρ 1) (ρ 5) w) 1 ((b1_eq R ρ w).mp h) (fun ρ w h => k2_ok R ρ w h)
/-- What is owed for a call. -/
def run (R : Ending → World → Prop) (a0 a1 : Value) (w : World) : Prop := b1 R a0 a1 w
theorem calls (R : Ending → World → Prop) (a0 a1 : Value) (w : World) (h : run R a0 a1 w) : Calls Tryd.prog id #[a0, a1] w R :=
  calls_of_t (f := id) (fn := Tryd.f25) (c := code) (by kernel_rfl) Tryd.func25 (by kernel_rfl) (by kernel_rfl) (args := [a0, a1]) (Nat.le_of_ble_eq_true rfl) rfl (b1_ok R (envOf [a0, a1]) w h)
theorem enters : Enters Tryd.prog id := fun args w => Tryd.call25 args w
theorem ct {a0 a1 : Value} {w : World} {S : Value → World → Prop} (h : ∀ R : Ending → World → Prop, (∀ v w, S v w → R (.returned v) w) → run R a0 a1 w) : Ct Tryd.prog id #[a0, a1] w S :=
  Ct.intro enters fun R hR => calls R a0 a1 w (h R hR)
attribute [irreducible] b3 b9 b13 b17 b16 b18 b15 b14 b11 b20 b19 l6 b4 b1 run
end law03_letters
end Go.Proofs.YtgjifldciinehaaDoor
