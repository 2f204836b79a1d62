/- Shallow programs, written by a program of ours (gen.py) off the translation; each is tied to the code by the kernel. -/
import Derived.Test.YtkacbjhiobnbfaaGa
set_option linter.unusedVariables false
set_option maxRecDepth 100000
namespace Go.Proofs.Ytkacbjhiobnbfaa
open Go.Px

/-! ### presage/show.Text -/
namespace show_Text
noncomputable def code : Code := bodyOf Try.f16
noncomputable abbrev p1 : Code := dropC 4 code
noncomputable abbrev p2 : Code := dropC 2 (sndC p1)

def b5 (R : Ending → World → Prop) (x4 : Value) (w : World) (_r : Tok R := tok R) : Prop :=
  NILC x4 fun v1 =>
  RUN Try.prog (pan R) (Instr.fieldAt 102 v1 0) w fun v2 w3 =>
  CALL Try.prog (pan R) strings_Builder_String.id #[v2] w3 fun v4 w5 =>
  R (.returned (.tuple #[v4, (Go.Value.int Go.IntKind.i64 0)])) w5
abbrev q1 (R : Ending → World → Prop) : Exit → Env → World → Prop := QX (fun ρ w => R (.returned (.tuple #[(ρ 2), (ρ 3)])) w) (fun ρ w => R (.returned (.tuple #[(ρ 2), (ρ 3)])) w) []
theorem b5_eq (R : Ending → World → Prop) (ρ : Env) (w : World) : (b5 R (ρ 4) w) = codeP Try.prog (pan R) (sndC p2) (q1 R) ρ w := by kernel_rfl
theorem b5_ok (R : Ending → World → Prop) (ρ : Env) (w : World) (h : b5 R (ρ 4) w) : codeP Try.prog (pan R) (sndC p2) (q1 R) ρ w := (b5_eq R ρ w).mp h
noncomputable abbrev p3 : Code := dropC 1 (fstC p2)
noncomputable abbrev p4 : Code := loopC (blkC p3)
noncomputable abbrev p5 : Code := dropC 3 p4

def b10 (R : Ending → World → Prop) (C8 : Value → World → Prop) (x61 : Value) (w : World) (_r : Tok R := tok R) (_C8 : Tok C8 := tok C8) : Prop :=
  RUN Try.prog (pan R) (bins .add 3 (.tmp 61) (.const (Go.Value.int Go.IntKind.i64 1)) x61 (Go.Value.int Go.IntKind.i64 1)) w fun v1 w2 =>
  C8 v1 w2
abbrev q2 (R : Ending → World → Prop) (C8 : Value → World → Prop) : Exit → Env → World → Prop := QX (fun ρ w => C8 (ρ 61) w) (fun ρ w => R (.returned (.tuple #[(ρ 2), (ρ 3)])) w) [(4, (fun ρ w => b5 R (ρ 4) w))]
theorem b10_eq (R : Ending → World → Prop) (C8 : Value → World → Prop) (ρ : Env) (w : World) : (b10 R C8 (ρ 61) w) = codeP Try.prog (pan R) p5 (q2 R C8) ρ w := by kernel_rfl
theorem b10_ok (R : Ending → World → Prop) (C8 : Value → World → Prop) (ρ : Env) (w : World) (h : b10 R C8 (ρ 61) w) : codeP Try.prog (pan R) p5 (q2 R C8) ρ w := (b10_eq R C8 ρ w).mp h
def b9_1 (R : Ending → World → Prop) (C8 : Value → World → Prop) (x4 x61 : Value) (w34 : World) (_r : Tok R := tok R) (_C8 : Tok C8 := tok C8) : Prop :=
  NILC x4 fun v35 =>
  RUN Try.prog (pan R) (Instr.fieldAt 102 v35 0) w34 fun v36 w37 =>
  CALL Try.prog (pan R) strings_Builder_Len.id #[v36] w37 fun v38 w39 =>
  RUN Try.prog (pan R) (bins .gtr 3 (.tmp 88) (.const (Go.Value.int Go.IntKind.i64 8192)) v38 (Go.Value.int Go.IntKind.i64 8192)) w39 fun v40 w41 =>
  SPL v40
  (R (.returned (.tuple #[(Go.Value.string { data := #[] }), (Go.Value.int Go.IntKind.i64 11)])) w41)
  (b10 R C8 x61 w41)
def b9_2 (R : Ending → World → Prop) (C8 : Value → World → Prop) (x4 x61 : Value) (w30 : World) (_r : Tok R := tok R) (_C8 : Tok C8 := tok C8) : Prop :=
  RUN Try.prog (pan R) (Instr.buildSlice 23 1 #[(0, (Go.Value.string { data := #[59, 10] }))]) w30 fun v31 w32 =>
  CALL Try.prog (pan R) show_page_words.id #[x4, v31] w32 fun v33 w34 =>
  b9_1 R C8 x4 x61 w34
def b9_3 (R : Ending → World → Prop) (C8 : Value → World → Prop) (x4 x61 v7 : Value) (w26 : World) (_r : Tok R := tok R) (_C8 : Tok C8 := tok C8) : Prop :=
  RUN Try.prog (pan R) (Instr.loadAt 47 v7) w26 fun v27 w28 =>
  CALL Try.prog (pan R) show_page_grade.id #[x4, v27] w28 fun v29 w30 =>
  b9_2 R C8 x4 x61 w30
def b9_4 (R : Ending → World → Prop) (C8 : Value → World → Prop) (x4 x61 v7 v20 v21 v22 : Value) (w23 : World) (_r : Tok R := tok R) (_C8 : Tok C8 := tok C8) : Prop :=
  Sem.run Try.prog (Instr.loadAt 24 v20) w23 = .ok v21 w23 ∧ (PUR Try.prog (bins .add 9 (.tmp 74) (.const (Go.Value.string { data := #[32, 58] })) v22 (Go.Value.string { data := #[32, 58] })) fun v24 =>
  CALL Try.prog (pan R) show_page_line.id #[x4, v24, v21] w23 fun v25 w26 =>
  b9_3 R C8 x4 x61 v7 w26)
def b9_5 (R : Ending → World → Prop) (C8 : Value → World → Prop) (x4 x61 v7 : Value) (w17 : World) (_r : Tok R := tok R) (_C8 : Tok C8 := tok C8) : Prop :=
  PUR Try.prog (Instr.fieldAt 47 v7 0) fun v18 =>
  LD Try.prog (Instr.loadAt 3 v18) (World.drew w17) fun v19 =>
  PUR Try.prog (Instr.fieldAt 47 v7 1) fun v20 =>
  LD Try.prog (Instr.loadAt 24 v20) (World.drew w17) fun v21 =>
  CALL Try.prog (pan R) show_page_name.id #[x4, v19] (World.drew w17) fun v22 w23 =>
  b9_4 R C8 x4 x61 v7 v20 v21 v22 w23
def b9_6 (R : Ending → World → Prop) (C8 : Value → World → Prop) (x4 x59 x61 : Value) (w2 : World) (_r : Tok R := tok R) (_C8 : Tok C8 := tok C8) : Prop :=
  RUN Try.prog (pan R) (Instr.indexAt 25 x59 x61) w2 fun v3 w4 =>
  RUN Try.prog (pan R) (Instr.loadAt 47 v3) w4 fun v5 w6 =>
  RUN Try.prog (pan R) (Instr.alloc 47 true (.tuple #[])) w6 fun v7 w8 =>
  RUNU Try.prog (pan R) (Instr.storeAt 47 v7 v5) w8 fun w9 =>
  RUN Try.prog (pan R) (Instr.fieldAt 47 v7 0) w9 fun v10 w11 =>
  RUN Try.prog (pan R) (Instr.loadAt 3 v10) w11 fun v12 w13 =>
  CALL Try.prog (pan R) show_page_name.id #[x4, v12] w13 fun v14 w15 =>
  RUN Try.prog (pan R) (bins .eql 9 (.tmp 68) (.const (Go.Value.string { data := #[36, 115, 116, 97, 114, 116] })) v14 (Go.Value.string { data := #[36, 115, 116, 97, 114, 116] })) w15 fun v16 w17 =>
  SPL v16
  (b10 R C8 x61 w17)
  (b9_5 R C8 x4 x61 v7 w17)

def b9 (R : Ending → World → Prop) (C8 : Value → World → Prop) (x4 x59 x60 x61 : Value) (w : World) (_r : Tok R := tok R) (_C8 : Tok C8 := tok C8) : Prop :=
  RUN Try.prog (pan R) (bins .lss 3 (.tmp 61) (.tmp 60) x61 x60) w fun v1 w2 =>
  SPL v1
  (b9_6 R C8 x4 x59 x61 w2)
  (b5 R x4 w2)
abbrev q3 (R : Ending → World → Prop) (C8 : Value → World → Prop) : Exit → Env → World → Prop := QX (fun ρ w => b10 R C8 (ρ 61) w) (fun ρ w => R (.returned (.tuple #[(ρ 2), (ρ 3)])) w) [(4, (fun ρ w => b5 R (ρ 4) w))]
theorem b9_eq (R : Ending → World → Prop) (C8 : Value → World → Prop) (ρ : Env) (w : World) : (b9 R C8 (ρ 4) (ρ 59) (ρ 60) (ρ 61) w) = codeP Try.prog (pan R) (preC 2 p4) (q3 R C8) ρ w := by kernel_rfl
theorem b9_ok (R : Ending → World → Prop) (C8 : Value → World → Prop) (ρ : Env) (w : World) (h : b9 R C8 (ρ 4) (ρ 59) (ρ 60) (ρ 61) w) : codeP Try.prog (pan R) p4 (q2 R C8) ρ w := by
  have e : appC 2 (preC 2 p4) (dropC 3 p4) = p4 := by kernel_rfl
  rw [← e]
  exact appQ (fun ρ w => b10 R C8 (ρ 61) w) 2 ((b9_eq R C8 ρ w).mp h) (fun ρ w h => b10_ok R C8 ρ w h)

def l8 (R : Ending → World → Prop) (x4 x59 x60 x61 : Value) (w : World) (_r : Tok R := tok R) : Prop :=
  ∃ (J : Value → World → Prop) (μ : Value → World → Nat), J x61 w ∧ ∀ y61 w0, J y61 w0 → b9 R (fun z61 w1 => J z61 w1 ∧ μ z61 w1 < μ y61 w0) x4 x59 x60 y61 w0
abbrev q4 (R : Ending → World → Prop) : Exit → Env → World → Prop := QX (fun ρ w => b5 R (ρ 4) w) (fun ρ w => R (.returned (.tuple #[(ρ 2), (ρ 3)])) w) [(4, (fun ρ w => b5 R (ρ 4) w))]
theorem l8_ok (R : Ending → World → Prop) (ρ : Env) (w : World) (h : l8 R (ρ 4) (ρ 59) (ρ 60) (ρ 61) w) : codeP Try.prog (pan R) (blkC p3) (q4 R) ρ w := by
  unfold l8 at h
  obtain ⟨J, μ, h0, hr⟩ := h
  have e : Code.loop (loopC (blkC p3)) = (blkC p3) := by kernel_rfl
  rw [← e]
  refine loopQ (fun ρ' w' => J (ρ' 61) w') (fun ρ' w' => μ (ρ' 61) w') h0 fun ρ' w' hA hI => ?_
  have e4 : ρ' 4 = ρ 4 := Agree.at hA 4 (by kernel_rfl)
  have e59 : ρ' 59 = ρ 59 := Agree.at hA 59 (by kernel_rfl)
  have e60 : ρ' 60 = ρ 60 := Agree.at hA 60 (by kernel_rfl)
  have h1 := hr (ρ' 61) w' hI
  rw [← e4, ← e59, ← e60] at h1
  exact b9_ok R (fun z61 w1 => J z61 w1 ∧ μ z61 w1 < μ (ρ' 61) w') ρ' w' h1
theorem l8_intro (R : Ending → World → Prop) (x4 x59 x60 x61 : Value) (w : World) (J : Value → World → Prop) (μ : Value → World → Nat) (h0 : J x61 w)
    (hr : ∀ y61 w0, J y61 w0 → ∀ C8 : Value → World → Prop, (∀ z61 w1, J z61 w1 → μ z61 w1 < μ y61 w0 → C8 z61 w1) → b9 R C8 x4 x59 x60 y61 w0) : l8 R x4 x59 x60 x61 w := by
  unfold l8
  exact ⟨J, μ, h0, fun y61 w0 hJ => hr y61 w0 hJ _ (fun z61 w1 h1 h2 => ⟨h1, h2⟩)⟩
abbrev q5 (R : Ending → World → Prop) : Exit → Env → World → Prop := QX (fun ρ w => b5 R (ρ 4) w) (fun ρ w => R (.returned (.tuple #[(ρ 2), (ρ 3)])) w) []
theorem k7_ok (R : Ending → World → Prop) (ρ : Env) (w : World) (h : l8 R (ρ 4) (ρ 59) (ρ 60) (ρ 61) w) : codeP Try.prog (pan R) p3 (q5 R) ρ w := by
  have e : Code.block 2 (blkC p3) = p3 := by kernel_rfl
  rw [← e]
  exact blockQ (l8_ok R ρ w h)

def b6 (R : Ending → World → Prop) (x1 x4 : Value) (w : World) (_r : Tok R := tok R) : Prop :=
  RUN Try.prog (pan R) (Instr.fieldAt 27 x1 4) w fun v1 w2 =>
  RUN Try.prog (pan R) (Instr.loadAt 25 v1) w2 fun v3 w4 =>
  RUN Try.prog (pan R) (Builtin.len_ #[25] 3 #[v3]) w4 fun v5 w6 =>
  l8 R x4 v3 v5 (Go.Value.int Go.IntKind.i64 0) w6
abbrev q6 (R : Ending → World → Prop) : Exit → Env → World → Prop := QX (fun ρ w => l8 R (ρ 4) (ρ 59) (ρ 60) (ρ 61) w) (fun ρ w => R (.returned (.tuple #[(ρ 2), (ρ 3)])) w) []
theorem b6_eq (R : Ending → World → Prop) (ρ : Env) (w : World) : (b6 R (ρ 1) (ρ 4) w) = codeP Try.prog (pan R) (preC 0 (fstC p2)) (q6 R) ρ w := by kernel_rfl
theorem b6_ok (R : Ending → World → Prop) (ρ : Env) (w : World) (h : b6 R (ρ 1) (ρ 4) w) : codeP Try.prog (pan R) (fstC p2) (q5 R) ρ w := by
  have e : appC 0 (preC 0 (fstC p2)) (dropC 1 (fstC p2)) = (fstC p2) := by kernel_rfl
  rw [← e]
  exact appQ (fun ρ w => l8 R (ρ 4) (ρ 59) (ρ 60) (ρ 61) w) 0 ((b6_eq R ρ w).mp h) (fun ρ w h => k7_ok R ρ w h)
theorem k4_ok (R : Ending → World → Prop) (ρ : Env) (w : World) (h : b6 R (ρ 1) (ρ 4) w) : codeP Try.prog (pan R) p2 (q1 R) ρ w := by
  have e : Code.seq (fstC p2) (sndC p2) = p2 := by kernel_rfl
  rw [← e]
  exact seqQ (fun ρ w => b5 R (ρ 4) w) (b6_ok R ρ w h) (fun ρ w h => b5_ok R ρ w h)
def b3_1 (R : Ending → World → Prop) (x1 x4 : Value) (w8 : World) (_r : Tok R := tok R) : Prop :=
  RUN Try.prog (pan R) (Instr.buildSlice 23 1 #[(0, (Go.Value.string { data := #[59, 10] }))]) w8 fun v9 w10 =>
  CALL Try.prog (pan R) show_page_words.id #[x4, v9] w10 fun v11 w12 =>
  b6 R x1 x4 w12

def b3 (R : Ending → World → Prop) (x1 x4 : Value) (w : World) (_r : Tok R := tok R) : Prop :=
  RUN Try.prog (pan R) (Instr.fieldAt 27 x1 3) w fun v1 w2 =>
  RUN Try.prog (pan R) (Instr.loadAt 3 v1) w2 fun v3 w4 =>
  RUN Try.prog (pan R) (Instr.buildSlice 24 1 #[(0, v3)]) w4 fun v5 w6 =>
  CALL Try.prog (pan R) show_page_line.id #[x4, (Go.Value.string { data := #[37, 115, 116, 97, 114, 116] }), v5] w6 fun v7 w8 =>
  b3_1 R x1 x4 w8
abbrev q7 (R : Ending → World → Prop) : Exit → Env → World → Prop := QX (fun ρ w => b6 R (ρ 1) (ρ 4) w) (fun ρ w => R (.returned (.tuple #[(ρ 2), (ρ 3)])) w) []
theorem b3_eq (R : Ending → World → Prop) (ρ : Env) (w : World) : (b3 R (ρ 1) (ρ 4) w) = codeP Try.prog (pan R) (preC 1 (sndC p1)) (q7 R) ρ w := by kernel_rfl
theorem b3_ok (R : Ending → World → Prop) (ρ : Env) (w : World) (h : b3 R (ρ 1) (ρ 4) w) : codeP Try.prog (pan R) (sndC p1) (q1 R) ρ w := by
  have e : appC 1 (preC 1 (sndC p1)) (dropC 2 (sndC p1)) = (sndC p1) := by kernel_rfl
  rw [← e]
  exact appQ (fun ρ w => b6 R (ρ 1) (ρ 4) w) 1 ((b3_eq R ρ w).mp h) (fun ρ w h => k4_ok R ρ w h)
noncomputable abbrev p6 : Code := dropC 1 (fstC p1)
noncomputable abbrev p7 : Code := loopC (blkC p6)
noncomputable abbrev p8 : Code := dropC 2 p7

def b16 (R : Ending → World → Prop) (C13 : Value → World → Prop) (x31 : Value) (w : World) (_r : Tok R := tok R) (_C13 : Tok C13 := tok C13) : Prop :=
  RUN Try.prog (pan R) (bins .add 3 (.tmp 31) (.const (Go.Value.int Go.IntKind.i64 1)) x31 (Go.Value.int Go.IntKind.i64 1)) w fun v1 w2 =>
  C13 v1 w2
abbrev q8 (R : Ending → World → Prop) (C13 : Value → World → Prop) : Exit → Env → World → Prop := QX (fun ρ w => C13 (ρ 31) w) (fun ρ w => R (.returned (.tuple #[(ρ 2), (ρ 3)])) w) [(0, (fun ρ w => b3 R (ρ 1) (ρ 4) w))]
theorem b16_eq (R : Ending → World → Prop) (C13 : Value → World → Prop) (ρ : Env) (w : World) : (b16 R C13 (ρ 31) w) = codeP Try.prog (pan R) (sndC p8) (q8 R C13) ρ w := by kernel_rfl
theorem b16_ok (R : Ending → World → Prop) (C13 : Value → World → Prop) (ρ : Env) (w : World) (h : b16 R C13 (ρ 31) w) : codeP Try.prog (pan R) (sndC p8) (q8 R C13) ρ w := (b16_eq R C13 ρ w).mp h
noncomputable abbrev p9 : Code := blkC (fstC p8)
noncomputable abbrev p10 : Code := dropC 2 p9

def b19 (R : Ending → World → Prop) (C13 : Value → World → Prop) (x4 x31 : Value) (w : World) (_r : Tok R := tok R) (_C13 : Tok C13 := tok C13) : Prop :=
  RUN Try.prog (pan R) (Instr.buildSlice 23 1 #[(0, (Go.Value.string { data := #[59, 10] }))]) w fun v1 w2 =>
  CALL Try.prog (pan R) show_page_words.id #[x4, v1] w2 fun v3 w4 =>
  b16 R C13 x31 w4
abbrev q9 (R : Ending → World → Prop) (C13 : Value → World → Prop) : Exit → Env → World → Prop := QX (fun ρ w => b16 R C13 (ρ 31) w) (fun ρ w => R (.returned (.tuple #[(ρ 2), (ρ 3)])) w) [(2, (fun ρ w => b16 R C13 (ρ 31) w)), (0, (fun ρ w => b3 R (ρ 1) (ρ 4) w))]
theorem b19_eq (R : Ending → World → Prop) (C13 : Value → World → Prop) (ρ : Env) (w : World) : (b19 R C13 (ρ 4) (ρ 31) w) = codeP Try.prog (pan R) p10 (q9 R C13) ρ w := by kernel_rfl
theorem b19_ok (R : Ending → World → Prop) (C13 : Value → World → Prop) (ρ : Env) (w : World) (h : b19 R C13 (ρ 4) (ρ 31) w) : codeP Try.prog (pan R) p10 (q9 R C13) ρ w := (b19_eq R C13 ρ w).mp h
def b18_1 (R : Ending → World → Prop) (C13 : Value → World → Prop) (x4 x31 v8 v18 : Value) (w19 : World) (_r : Tok R := tok R) (_C13 : Tok C13 := tok C13) : Prop :=
  RUN Try.prog (pan R) (Instr.buildSlice 23 3 #[(0, (Go.Value.string { data := #[37, 108, 101, 102, 116] })), (1, (Go.Value.string { data := #[37, 114, 105, 103, 104, 116] })), (2, (Go.Value.string { data := #[37, 110, 111, 110, 97, 115, 115, 111, 99] }))]) w19 fun v20 w21 =>
  PUR Try.prog (Instr.indexAt 23 v20 v8) fun v22 =>
  LD Try.prog (Instr.loadAt 9 v22) w21 fun v23 =>
  CALL Try.prog (pan R) show_page_line.id #[x4, v23, v18] w21 fun v24 w25 =>
  b19 R C13 x4 x31 w25

def b18 (R : Ending → World → Prop) (C13 : Value → World → Prop) (x4 x29 x31 : Value) (w : World) (_r : Tok R := tok R) (_C13 : Tok C13 := tok C13) : Prop :=
  RUN Try.prog (pan R) (Instr.indexAt 24 x29 x31) w fun v1 w2 =>
  RUN Try.prog (pan R) (Instr.loadAt 3 v1) w2 fun v3 w4 =>
  RUN Try.prog (pan R) (Instr.alloc 3 true (.tuple #[])) w4 fun v5 w6 =>
  RUNU Try.prog (pan R) (Instr.storeAt 3 v5 x31) w6 fun w7 =>
  PUR Try.prog (bins .sub 3 (.tmp 38) (.const (Go.Value.int Go.IntKind.i64 1)) v3 (Go.Value.int Go.IntKind.i64 1)) fun v8 =>
  PUR Try.prog (Instr.makeFunc (.func show_Text_2.id) #[] #[v5]) fun v9 =>
  (RUN Try.prog (pan R) (Instr.buildSlice 23 3 #[(0, (Go.Value.string { data := #[37, 108, 101, 102, 116] })), (1, (Go.Value.string { data := #[37, 114, 105, 103, 104, 116] })), (2, (Go.Value.string { data := #[37, 110, 111, 110, 97, 115, 115, 111, 99] }))]) (World.drew w7) fun v10 w11 =>
  PUR Try.prog (Instr.indexAt 23 v10 v8) fun v12 =>
  LD Try.prog (Instr.loadAt 9 v12) w11 fun v13 =>
  CALL Try.prog (pan R) show_page_terms.id #[x4, v9] w11 fun v14 w15 =>
  Sem.run Try.prog (Instr.loadAt 9 v12) w15 = .ok v13 w15 ∧ (CALL Try.prog (pan R) show_page_line.id #[x4, v13, v14] w15 fun v16 w17 =>
  b19 R C13 x4 x31 w17)) ∧
  (CALL Try.prog (pan R) show_page_terms.id #[x4, v9] (World.drew w7) fun v18 w19 =>
  b18_1 R C13 x4 x31 v8 v18 w19)
abbrev q10 (R : Ending → World → Prop) (C13 : Value → World → Prop) : Exit → Env → World → Prop := QX (fun ρ w => b19 R C13 (ρ 4) (ρ 31) w) (fun ρ w => R (.returned (.tuple #[(ρ 2), (ρ 3)])) w) [(2, (fun ρ w => b16 R C13 (ρ 31) w)), (0, (fun ρ w => b3 R (ρ 1) (ρ 4) w))]
theorem b18_eq (R : Ending → World → Prop) (C13 : Value → World → Prop) (ρ : Env) (w : World) : (b18 R C13 (ρ 4) (ρ 29) (ρ 31) w) = codeP Try.prog (pan R) (preC 1 p9) (q10 R C13) ρ w := by kernel_rfl
theorem b18_ok (R : Ending → World → Prop) (C13 : Value → World → Prop) (ρ : Env) (w : World) (h : b18 R C13 (ρ 4) (ρ 29) (ρ 31) w) : codeP Try.prog (pan R) p9 (q9 R C13) ρ w := by
  have e : appC 1 (preC 1 p9) (dropC 2 p9) = p9 := by kernel_rfl
  rw [← e]
  exact appQ (fun ρ w => b19 R C13 (ρ 4) (ρ 31) w) 1 ((b18_eq R C13 ρ w).mp h) (fun ρ w h => b19_ok R C13 ρ w h)
abbrev q11 (R : Ending → World → Prop) (C13 : Value → World → Prop) : Exit → Env → World → Prop := QX (fun ρ w => b16 R C13 (ρ 31) w) (fun ρ w => R (.returned (.tuple #[(ρ 2), (ρ 3)])) w) [(0, (fun ρ w => b3 R (ρ 1) (ρ 4) w))]
theorem k17_ok (R : Ending → World → Prop) (C13 : Value → World → Prop) (ρ : Env) (w : World) (h : b18 R C13 (ρ 4) (ρ 29) (ρ 31) w) : codeP Try.prog (pan R) (fstC p8) (q11 R C13) ρ w := by
  have e : Code.block 1 (blkC (fstC p8)) = (fstC p8) := by kernel_rfl
  rw [← e]
  exact blockQ (b18_ok R C13 ρ w h)
theorem k15_ok (R : Ending → World → Prop) (C13 : Value → World → Prop) (ρ : Env) (w : World) (h : b18 R C13 (ρ 4) (ρ 29) (ρ 31) w) : codeP Try.prog (pan R) p8 (q8 R C13) ρ w := by
  have e : Code.seq (fstC p8) (sndC p8) = p8 := by kernel_rfl
  rw [← e]
  exact seqQ (fun ρ w => b16 R C13 (ρ 31) w) (k17_ok R C13 ρ w h) (fun ρ w h => b16_ok R C13 ρ w h)

def b14 (R : Ending → World → Prop) (C13 : Value → World → Prop) (x1 x4 x29 x30 x31 : Value) (w : World) (_r : Tok R := tok R) (_C13 : Tok C13 := tok C13) : Prop :=
  RUN Try.prog (pan R) (bins .lss 3 (.tmp 31) (.tmp 30) x31 x30) w fun v1 w2 =>
  SPL v1
  (b18 R C13 x4 x29 x31 w2)
  (b3 R x1 x4 w2)
abbrev q12 (R : Ending → World → Prop) (C13 : Value → World → Prop) : Exit → Env → World → Prop := QX (fun ρ w => b18 R C13 (ρ 4) (ρ 29) (ρ 31) w) (fun ρ w => R (.returned (.tuple #[(ρ 2), (ρ 3)])) w) [(0, (fun ρ w => b3 R (ρ 1) (ρ 4) w))]
theorem b14_eq (R : Ending → World → Prop) (C13 : Value → World → Prop) (ρ : Env) (w : World) : (b14 R C13 (ρ 1) (ρ 4) (ρ 29) (ρ 30) (ρ 31) w) = codeP Try.prog (pan R) (preC 1 p7) (q12 R C13) ρ w := by kernel_rfl
theorem b14_ok (R : Ending → World → Prop) (C13 : Value → World → Prop) (ρ : Env) (w : World) (h : b14 R C13 (ρ 1) (ρ 4) (ρ 29) (ρ 30) (ρ 31) w) : codeP Try.prog (pan R) p7 (q8 R C13) ρ w := by
  have e : appC 1 (preC 1 p7) (dropC 2 p7) = p7 := by kernel_rfl
  rw [← e]
  exact appQ (fun ρ w => b18 R C13 (ρ 4) (ρ 29) (ρ 31) w) 1 ((b14_eq R C13 ρ w).mp h) (fun ρ w h => k15_ok R C13 ρ w h)

def l13 (R : Ending → World → Prop) (x1 x4 x29 x30 x31 : Value) (w : World) (_r : Tok R := tok R) : Prop :=
  ∃ (J : Value → World → Prop) (μ : Value → World → Nat), J x31 w ∧ ∀ y31 w0, J y31 w0 → b14 R (fun z31 w1 => J z31 w1 ∧ μ z31 w1 < μ y31 w0) x1 x4 x29 x30 y31 w0
abbrev q13 (R : Ending → World → Prop) : Exit → Env → World → Prop := QX (fun ρ w => b3 R (ρ 1) (ρ 4) w) (fun ρ w => R (.returned (.tuple #[(ρ 2), (ρ 3)])) w) [(0, (fun ρ w => b3 R (ρ 1) (ρ 4) w))]
theorem l13_ok (R : Ending → World → Prop) (ρ : Env) (w : World) (h : l13 R (ρ 1) (ρ 4) (ρ 29) (ρ 30) (ρ 31) w) : codeP Try.prog (pan R) (blkC p6) (q13 R) ρ w := by
  unfold l13 at h
  obtain ⟨J, μ, h0, hr⟩ := h
  have e : Code.loop (loopC (blkC p6)) = (blkC p6) := by kernel_rfl
  rw [← e]
  refine loopQ (fun ρ' w' => J (ρ' 31) w') (fun ρ' w' => μ (ρ' 31) w') h0 fun ρ' w' hA hI => ?_
  have e1 : ρ' 1 = ρ 1 := Agree.at hA 1 (by kernel_rfl)
  have e4 : ρ' 4 = ρ 4 := Agree.at hA 4 (by kernel_rfl)
  have e29 : ρ' 29 = ρ 29 := Agree.at hA 29 (by kernel_rfl)
  have e30 : ρ' 30 = ρ 30 := Agree.at hA 30 (by kernel_rfl)
  have h1 := hr (ρ' 31) w' hI
  rw [← e1, ← e4, ← e29, ← e30] at h1
  exact b14_ok R (fun z31 w1 => J z31 w1 ∧ μ z31 w1 < μ (ρ' 31) w') ρ' w' h1
theorem l13_intro (R : Ending → World → Prop) (x1 x4 x29 x30 x31 : Value) (w : World) (J : Value → World → Prop) (μ : Value → World → Nat) (h0 : J x31 w)
    (hr : ∀ y31 w0, J y31 w0 → ∀ C13 : Value → World → Prop, (∀ z31 w1, J z31 w1 → μ z31 w1 < μ y31 w0 → C13 z31 w1) → b14 R C13 x1 x4 x29 x30 y31 w0) : l13 R x1 x4 x29 x30 x31 w := by
  unfold l13
  exact ⟨J, μ, h0, fun y31 w0 hJ => hr y31 w0 hJ _ (fun z31 w1 h1 h2 => ⟨h1, h2⟩)⟩
abbrev q14 (R : Ending → World → Prop) : Exit → Env → World → Prop := QX (fun ρ w => b3 R (ρ 1) (ρ 4) w) (fun ρ w => R (.returned (.tuple #[(ρ 2), (ρ 3)])) w) []
theorem k12_ok (R : Ending → World → Prop) (ρ : Env) (w : World) (h : l13 R (ρ 1) (ρ 4) (ρ 29) (ρ 30) (ρ 31) w) : codeP Try.prog (pan R) p6 (q14 R) ρ w := by
  have e : Code.block 0 (blkC p6) = p6 := by kernel_rfl
  rw [← e]
  exact blockQ (l13_ok R ρ w h)

def b11 (R : Ending → World → Prop) (x1 x4 : Value) (w : World) (_r : Tok R := tok R) : Prop :=
  RUN Try.prog (pan R) (Instr.fieldAt 27 x1 2) w fun v1 w2 =>
  RUN Try.prog (pan R) (Instr.loadAt 24 v1) w2 fun v3 w4 =>
  RUN Try.prog (pan R) (Builtin.len_ #[24] 3 #[v3]) w4 fun v5 w6 =>
  l13 R x1 x4 v3 v5 (Go.Value.int Go.IntKind.i64 0) w6
abbrev q15 (R : Ending → World → Prop) : Exit → Env → World → Prop := QX (fun ρ w => l13 R (ρ 1) (ρ 4) (ρ 29) (ρ 30) (ρ 31) w) (fun ρ w => R (.returned (.tuple #[(ρ 2), (ρ 3)])) w) []
theorem b11_eq (R : Ending → World → Prop) (ρ : Env) (w : World) : (b11 R (ρ 1) (ρ 4) w) = codeP Try.prog (pan R) (preC 0 (fstC p1)) (q15 R) ρ w := by kernel_rfl
theorem b11_ok (R : Ending → World → Prop) (ρ : Env) (w : World) (h : b11 R (ρ 1) (ρ 4) w) : codeP Try.prog (pan R) (fstC p1) (q14 R) ρ w := by
  have e : appC 0 (preC 0 (fstC p1)) (dropC 1 (fstC p1)) = (fstC p1) := by kernel_rfl
  rw [← e]
  exact appQ (fun ρ w => l13 R (ρ 1) (ρ 4) (ρ 29) (ρ 30) (ρ 31) w) 0 ((b11_eq R ρ w).mp h) (fun ρ w h => k12_ok R ρ w h)
theorem k2_ok (R : Ending → World → Prop) (ρ : Env) (w : World) (h : b11 R (ρ 1) (ρ 4) w) : codeP Try.prog (pan R) p1 (q1 R) ρ w := by
  have e : Code.seq (fstC p1) (sndC p1) = p1 := by kernel_rfl
  rw [← e]
  exact seqQ (fun ρ w => b3 R (ρ 1) (ρ 4) w) (b11_ok R ρ w h) (fun ρ w h => b3_ok R ρ w h)
def b1_1 (R : Ending → World → Prop) (v1 v7 : Value) (w24 : World) (_r : Tok R := tok R) : Prop :=
  RUN Try.prog (pan R) (Instr.buildSlice 23 1 #[(0, (Go.Value.string { data := #[59, 10] }))]) w24 fun v25 w26 =>
  CALL Try.prog (pan R) show_page_words.id #[v7, v25] w26 fun v27 w28 =>
  b11 R v1 v7 w28
def b1_2 (R : Ending → World → Prop) (v1 v7 : Value) (w20 : World) (_r : Tok R := tok R) : Prop :=
  CALL Try.prog (pan R) show_page_terms.id #[v7, (Go.Value.func (.func show_Text_1.id) #[] #[])] w20 fun v21 w22 =>
  CALL Try.prog (pan R) show_page_line.id #[v7, (Go.Value.string { data := #[37, 116, 111, 107, 101, 110] }), v21] w22 fun v23 w24 =>
  b1_1 R v1 v7 w24
def b1_3 (R : Ending → World → Prop) (v1 v7 : Value) (w12 : World) (_r : Tok R := tok R) : Prop :=
  RUN Try.prog (pan R) (Instr.fieldAt 27 v1 0) w12 fun v13 w14 =>
  RUN Try.prog (pan R) (Instr.loadAt 22 v13) w14 fun v15 w16 =>
  RUN Try.prog (pan R) (Builtin.len_ #[22] 3 #[v15]) w16 fun v17 w18 =>
  RUN Try.prog (pan R) (bins .gtr 3 (.tmp 19) (.const (Go.Value.int Go.IntKind.i64 1)) v17 (Go.Value.int Go.IntKind.i64 1)) w18 fun v19 w20 =>
  SPL v19
  (b1_2 R v1 v7 w20)
  (b11 R v1 v7 w20)
def b1_4 (R : Ending → World → Prop) (v1 v5 : Value) (w6 : World) (_r : Tok R := tok R) : Prop :=
  RUN Try.prog (pan R) (Instr.extract v5 0) w6 fun v7 w8 =>
  RUN Try.prog (pan R) (Instr.extract v5 1) w8 fun v9 w10 =>
  RUN Try.prog (pan R) (Op.unary .not v9) w10 fun v11 w12 =>
  SPL v11
  (R (.returned (.tuple #[(Go.Value.string { data := #[] }), (Go.Value.int Go.IntKind.i64 1)])) w12)
  (b1_3 R v1 v7 w12)

def b1 (R : Ending → World → Prop) (x0 : Value) (w : World) (_r : Tok R := tok R) : Prop :=
  RUN Try.prog (pan R) (Instr.box 27 x0) w fun v1 w2 =>
  RUN Try.prog (pan R) (Instr.loadAt 27 v1) w2 fun v3 w4 =>
  CALL Try.prog (pan R) show_open.id #[v3] w4 fun v5 w6 =>
  b1_4 R v1 v5 w6
abbrev q16 (R : Ending → World → Prop) : Exit → Env → World → Prop := QX (fun ρ w => b11 R (ρ 1) (ρ 4) w) (fun ρ w => R (.returned (.tuple #[(ρ 2), (ρ 3)])) w) []
theorem b1_eq (R : Ending → World → Prop) (ρ : Env) (w : World) : (b1 R (ρ 0) w) = codeP Try.prog (pan R) (preC 3 code) (q16 R) ρ w := by kernel_rfl
theorem b1_ok (R : Ending → World → Prop) (ρ : Env) (w : World) (h : b1 R (ρ 0) w) : codeP Try.prog (pan R) code (q1 R) ρ w := by
  have e : appC 3 (preC 3 code) (dropC 4 code) = code := by kernel_rfl
  rw [← e]
  exact appQ (fun ρ w => b11 R (ρ 1) (ρ 4) w) 3 ((b1_eq R ρ w).mp h) (fun ρ w h => k2_ok R ρ w h)
/-- What is owed for a call. -/
def run (R : Ending → World → Prop) (a0 : Value) (w : World) : Prop := b1 R a0 w
theorem calls (R : Ending → World → Prop) (a0 : Value) (w : World) (h : run R a0 w) : Calls Try.prog id #[a0] w R :=
  calls_of_tt (f := id) (fn := Try.f16) (c := code) (by kernel_rfl) Try.func16 (by kernel_rfl) (by kernel_rfl) (args := [a0]) (Nat.le_of_ble_eq_true rfl) rfl (b1_ok R (envOf [a0]) w h)
theorem enters : Enters Try.prog id := fun args w => Try.call16 args w
theorem ct {a0 : Value} {w : World} {S : Value → World → Prop} (h : ∀ R : Ending → World → Prop, (∀ v w, S v w → R (.returned v) w) → run R a0 w) : Ct Try.prog id #[a0] w S :=
  Ct.intro enters fun R hR => calls R a0 w (h R hR)
attribute [irreducible] b5 b10 b9_1 b9_2 b9_3 b9_4 b9_5 b9_6 b9 l8 b6 b3_1 b3 b16 b19 b18_1 b18 b14 l13 b11 b1_1 b1_2 b1_3 b1_4 b1 run
attribute [go_sem] b5 b10 b9_1 b9_2 b9_3 b9_4 b9_5 b9_6 b9 b6 b3_1 b3 b16 b19 b18_1 b18 b14 b11 b1_1 b1_2 b1_3 b1_4 b1 run
end show_Text

/-! ### presage/show.Row -/
namespace show_Row
noncomputable def code : Code := bodyOf Try.f22
noncomputable abbrev p1 : Code := dropC 2 code
def b3_1 (R : Ending → World → Prop) (x6 : Value) (w4 : World) (_r : Tok R := tok R) : Prop :=
  RUN Try.prog (pan R) (Instr.loadAt 88 x6) w4 fun v5 w6 =>
  NILC v5 fun v7 =>
  RUN Try.prog (pan R) (Instr.fieldAt 102 v7 0) w6 fun v8 w9 =>
  CALL Try.prog (pan R) strings_Builder_String.id #[v8] w9 fun v10 w11 =>
  CALL Try.prog (pan R) strings_TrimPrefix.id #[v10, (Go.Value.string { data := #[32] })] w11 fun v12 w13 =>
  R (.returned (.tuple #[v12, (Go.Value.int Go.IntKind.i64 0)])) w13
/- x1 syms, x6 p -/
def b3 (R : Ending → World → Prop) (x1 x6 : Value) (w : World) (_r : Tok R := tok R) : Prop :=
  RUN Try.prog (pan R) (Instr.loadAt 88 x6) w fun v1 w2 =>
  CALL Try.prog (pan R) show_page_names.id #[v1, x1] w2 fun v3 w4 =>
  b3_1 R x6 w4
abbrev q1 (R : Ending → World → Prop) : Exit → Env → World → Prop := QX (fun ρ w => R (.returned (.tuple #[(ρ 4), (ρ 5)])) w) (fun ρ w => R (.returned (.tuple #[(ρ 4), (ρ 5)])) w) []
theorem b3_eq (R : Ending → World → Prop) (ρ : Env) (w : World) : (b3 R (ρ 1) (ρ 6) w) = codeP Try.prog (pan R) (sndC p1) (q1 R) ρ w := by kernel_rfl
theorem b3_ok (R : Ending → World → Prop) (ρ : Env) (w : World) (h : b3 R (ρ 1) (ρ 6) w) : codeP Try.prog (pan R) (sndC p1) (q1 R) ρ w := (b3_eq R ρ w).mp h
noncomputable abbrev p2 : Code := dropC 1 (fstC p1)
/- x1 syms, x6 p -/
def b5 (R : Ending → World → Prop) (x1 x6 x19 : Value) (w : World) (_r : Tok R := tok R) : Prop :=
  SPL x19
  (R (.returned (.tuple #[(Go.Value.string { data := #[] }), (Go.Value.int Go.IntKind.i64 1)])) w)
  (b3 R x1 x6 w)
abbrev q2 (R : Ending → World → Prop) : Exit → Env → World → Prop := QX (fun ρ w => b3 R (ρ 1) (ρ 6) w) (fun ρ w => R (.returned (.tuple #[(ρ 4), (ρ 5)])) w) []
theorem b5_eq (R : Ending → World → Prop) (ρ : Env) (w : World) : (b5 R (ρ 1) (ρ 6) (ρ 19) w) = codeP Try.prog (pan R) p2 (q2 R) ρ w := by kernel_rfl
theorem b5_ok (R : Ending → World → Prop) (ρ : Env) (w : World) (h : b5 R (ρ 1) (ρ 6) (ρ 19) w) : codeP Try.prog (pan R) p2 (q2 R) ρ w := (b5_eq R ρ w).mp h
def b4_1 (R : Ending → World → Prop) (x1 x6 : Value) (w2 : World) (_r : Tok R := tok R) : Prop :=
  RUN Try.prog (pan R) (Instr.makeFunc (.func show_Row_1.id) #[] #[x6]) w2 fun v3 w4 =>
  CALL Try.prog (pan R) slices_ContainsFunc_int_int.id #[x1, v3] w4 fun v5 w6 =>
  b5 R x1 x6 v5 w6
/- x1 syms, x6 p, x7 ok -/
def b4 (R : Ending → World → Prop) (x1 x6 x7 : Value) (w : World) (_r : Tok R := tok R) : Prop :=
  RUN Try.prog (pan R) (Op.unary .not x7) w fun v1 w2 =>
  SPL v1
  (b5 R x1 x6 (Go.Value.bool Bool.true) w2)
  (b4_1 R x1 x6 w2)
abbrev q3 (R : Ending → World → Prop) : Exit → Env → World → Prop := QX (fun ρ w => b5 R (ρ 1) (ρ 6) (ρ 19) w) (fun ρ w => R (.returned (.tuple #[(ρ 4), (ρ 5)])) w) []
theorem b4_eq (R : Ending → World → Prop) (ρ : Env) (w : World) : (b4 R (ρ 1) (ρ 6) (ρ 7) w) = codeP Try.prog (pan R) (preC 0 (fstC p1)) (q3 R) ρ w := by kernel_rfl
theorem b4_ok (R : Ending → World → Prop) (ρ : Env) (w : World) (h : b4 R (ρ 1) (ρ 6) (ρ 7) w) : codeP Try.prog (pan R) (fstC p1) (q2 R) ρ w := by
  have e : appC 0 (preC 0 (fstC p1)) (dropC 1 (fstC p1)) = (fstC p1) := by kernel_rfl
  rw [← e]
  exact appQ (fun ρ w => b5 R (ρ 1) (ρ 6) (ρ 19) w) 0 ((b4_eq R ρ w).mp h) (fun ρ w h => b5_ok R ρ w h)
theorem k2_ok (R : Ending → World → Prop) (ρ : Env) (w : World) (h : b4 R (ρ 1) (ρ 6) (ρ 7) w) : codeP Try.prog (pan R) p1 (q1 R) ρ w := by
  have e : Code.seq (fstC p1) (sndC p1) = p1 := by kernel_rfl
  rw [← e]
  exact seqQ (fun ρ w => b3 R (ρ 1) (ρ 6) w) (b4_ok R ρ w h) (fun ρ w h => b3_ok R ρ w h)
def b1_1 (R : Ending → World → Prop) (x1 v5 : Value) (w6 : World) (_r : Tok R := tok R) : Prop :=
  RUN Try.prog (pan R) (Instr.extract v5 0) w6 fun v7 w8 =>
  RUN Try.prog (pan R) (Instr.extract v5 1) w8 fun v9 w10 =>
  RUN Try.prog (pan R) (Instr.alloc 88 true (.tuple #[])) w10 fun v11 w12 =>
  RUNU Try.prog (pan R) (Instr.storeAt 88 v11 v7) w12 fun w13 =>
  b4 R x1 v11 v9 w13
/- x0 g, x1 syms -/
def b1 (R : Ending → World → Prop) (x0 x1 : Value) (w : World) (_r : Tok R := tok R) : Prop :=
  RUN Try.prog (pan R) (Instr.box 27 x0) w fun v1 w2 =>
  RUN Try.prog (pan R) (Instr.loadAt 27 v1) w2 fun v3 w4 =>
  CALL Try.prog (pan R) show_open.id #[v3] w4 fun v5 w6 =>
  b1_1 R x1 v5 w6
abbrev q4 (R : Ending → World → Prop) : Exit → Env → World → Prop := QX (fun ρ w => b4 R (ρ 1) (ρ 6) (ρ 7) w) (fun ρ w => R (.returned (.tuple #[(ρ 4), (ρ 5)])) w) []
theorem b1_eq (R : Ending → World → Prop) (ρ : Env) (w : World) : (b1 R (ρ 0) (ρ 1) w) = codeP Try.prog (pan R) (preC 1 code) (q4 R) ρ w := by kernel_rfl
theorem b1_ok (R : Ending → World → Prop) (ρ : Env) (w : World) (h : b1 R (ρ 0) (ρ 1) w) : codeP Try.prog (pan R) code (q1 R) ρ w := by
  have e : appC 1 (preC 1 code) (dropC 2 code) = code := by kernel_rfl
  rw [← e]
  exact appQ (fun ρ w => b4 R (ρ 1) (ρ 6) (ρ 7) w) 1 ((b1_eq R ρ w).mp h) (fun ρ w h => k2_ok R ρ w h)
/-- What is owed for a call. -/
def run (R : Ending → World → Prop) (a0 a1 : Value) (w : World) : Prop := b1 R a0 a1 w
theorem calls (R : Ending → World → Prop) (a0 a1 : Value) (w : World) (h : run R a0 a1 w) : Calls Try.prog id #[a0, a1] w R :=
  calls_of_tt (f := id) (fn := Try.f22) (c := code) (by kernel_rfl) Try.func22 (by kernel_rfl) (by kernel_rfl) (args := [a0, a1]) (Nat.le_of_ble_eq_true rfl) rfl (b1_ok R (envOf [a0, a1]) w h)
theorem enters : Enters Try.prog id := fun args w => Try.call22 args w
theorem ct {a0 a1 : Value} {w : World} {S : Value → World → Prop} (h : ∀ R : Ending → World → Prop, (∀ v w, S v w → R (.returned v) w) → run R a0 a1 w) : Ct Try.prog id #[a0, a1] w S :=
  Ct.intro enters fun R hR => calls R a0 a1 w (h R hR)
attribute [irreducible] b3_1 b3 b5 b4_1 b4 b1_1 b1 run
attribute [go_sem] b3_1 b3 b5 b4_1 b4 b1_1 b1 run
end show_Row

/-! ### presage/show.Symbol -/
namespace show_Symbol
noncomputable def code : Code := bodyOf Try.f25
def b1_1 (R : Ending → World → Prop) (v7 : Value) (w8 : World) (_r : Tok R := tok R) : Prop :=
  RUN Try.prog (pan R) (Instr.extract v7 0) w8 fun v9 w10 =>
  RUN Try.prog (pan R) (Instr.extract v7 1) w10 fun v11 w12 =>
  R (.returned (.tuple #[v9, v11])) w12
/- x0 g, x1 sym -/
def b1 (R : Ending → World → Prop) (x0 x1 : Value) (w : World) (_r : Tok R := tok R) : Prop :=
  RUN Try.prog (pan R) (Instr.box 27 x0) w fun v1 w2 =>
  RUN Try.prog (pan R) (Instr.loadAt 27 v1) w2 fun v3 w4 =>
  RUN Try.prog (pan R) (Instr.buildSlice 24 1 #[(0, x1)]) w4 fun v5 w6 =>
  CALL Try.prog (pan R) show_Row.id #[v3, v5] w6 fun v7 w8 =>
  b1_1 R v7 w8
abbrev q1 (R : Ending → World → Prop) : Exit → Env → World → Prop := QX (fun ρ w => R (.returned (.tuple #[(ρ 4), (ρ 5)])) w) (fun ρ w => R (.returned (.tuple #[(ρ 4), (ρ 5)])) w) []
theorem b1_eq (R : Ending → World → Prop) (ρ : Env) (w : World) : (b1 R (ρ 0) (ρ 1) w) = codeP Try.prog (pan R) code (q1 R) ρ w := by kernel_rfl
theorem b1_ok (R : Ending → World → Prop) (ρ : Env) (w : World) (h : b1 R (ρ 0) (ρ 1) w) : codeP Try.prog (pan R) code (q1 R) ρ w := (b1_eq R ρ w).mp h
/-- What is owed for a call. -/
def run (R : Ending → World → Prop) (a0 a1 : Value) (w : World) : Prop := b1 R a0 a1 w
theorem calls (R : Ending → World → Prop) (a0 a1 : Value) (w : World) (h : run R a0 a1 w) : Calls Try.prog id #[a0, a1] w R :=
  calls_of_tt (f := id) (fn := Try.f25) (c := code) (by kernel_rfl) Try.func25 (by kernel_rfl) (by kernel_rfl) (args := [a0, a1]) (Nat.le_of_ble_eq_true rfl) rfl (b1_ok R (envOf [a0, a1]) w h)
theorem enters : Enters Try.prog id := fun args w => Try.call25 args w
theorem ct {a0 a1 : Value} {w : World} {S : Value → World → Prop} (h : ∀ R : Ending → World → Prop, (∀ v w, S v w → R (.returned v) w) → run R a0 a1 w) : Ct Try.prog id #[a0, a1] w S :=
  Ct.intro enters fun R hR => calls R a0 a1 w (h R hR)
attribute [irreducible] b1_1 b1 run
attribute [go_sem] b1_1 b1 run
end show_Symbol

/-! ### presage/show.Prod -/
namespace show_Prod
noncomputable def code : Code := bodyOf Try.f27
def b1_1 (R : Ending → World → Prop) (v5 : Value) (w6 : World) (_r : Tok R := tok R) : Prop :=
  RUN Try.prog (pan R) (Instr.extract v5 0) w6 fun v7 w8 =>
  RUN Try.prog (pan R) (Instr.extract v5 1) w8 fun v9 w10 =>
  R (.returned (.tuple #[v7, v9])) w10
/- x0 g, x1 prod -/
def b1 (R : Ending → World → Prop) (x0 x1 : Value) (w : World) (_r : Tok R := tok R) : Prop :=
  RUN Try.prog (pan R) (Instr.box 27 x0) w fun v1 w2 =>
  RUN Try.prog (pan R) (Instr.loadAt 27 v1) w2 fun v3 w4 =>
  CALL Try.prog (pan R) show_rule.id #[v3, x1, (Go.Value.int Go.IntKind.i64 (-1))] w4 fun v5 w6 =>
  b1_1 R v5 w6
abbrev q1 (R : Ending → World → Prop) : Exit → Env → World → Prop := QX (fun ρ w => R (.returned (.tuple #[(ρ 4), (ρ 5)])) w) (fun ρ w => R (.returned (.tuple #[(ρ 4), (ρ 5)])) w) []
theorem b1_eq (R : Ending → World → Prop) (ρ : Env) (w : World) : (b1 R (ρ 0) (ρ 1) w) = codeP Try.prog (pan R) code (q1 R) ρ w := by kernel_rfl
theorem b1_ok (R : Ending → World → Prop) (ρ : Env) (w : World) (h : b1 R (ρ 0) (ρ 1) w) : codeP Try.prog (pan R) code (q1 R) ρ w := (b1_eq R ρ w).mp h
/-- What is owed for a call. -/
def run (R : Ending → World → Prop) (a0 a1 : Value) (w : World) : Prop := b1 R a0 a1 w
theorem calls (R : Ending → World → Prop) (a0 a1 : Value) (w : World) (h : run R a0 a1 w) : Calls Try.prog id #[a0, a1] w R :=
  calls_of_tt (f := id) (fn := Try.f27) (c := code) (by kernel_rfl) Try.func27 (by kernel_rfl) (by kernel_rfl) (args := [a0, a1]) (Nat.le_of_ble_eq_true rfl) rfl (b1_ok R (envOf [a0, a1]) w h)
theorem enters : Enters Try.prog id := fun args w => Try.call27 args w
theorem ct {a0 a1 : Value} {w : World} {S : Value → World → Prop} (h : ∀ R : Ending → World → Prop, (∀ v w, S v w → R (.returned v) w) → run R a0 a1 w) : Ct Try.prog id #[a0, a1] w S :=
  Ct.intro enters fun R hR => calls R a0 a1 w (h R hR)
attribute [irreducible] b1_1 b1 run
attribute [go_sem] b1_1 b1 run
end show_Prod

/-! ### presage/show.Item -/
namespace show_Item
noncomputable def code : Code := bodyOf Try.f29
def b1_1 (R : Ending → World → Prop) (v21 : Value) (w22 : World) (_r : Tok R := tok R) : Prop :=
  RUN Try.prog (pan R) (Instr.extract v21 0) w22 fun v23 w24 =>
  RUN Try.prog (pan R) (Instr.extract v21 1) w24 fun v25 w26 =>
  R (.returned (.tuple #[v23, v25])) w26
def b1_2 (R : Ending → World → Prop) (v1 v3 : Value) (w10 : World) (_r : Tok R := tok R) : Prop :=
  RUN Try.prog (pan R) (Instr.loadAt 27 v1) w10 fun v11 w12 =>
  RUN Try.prog (pan R) (Instr.fieldAt 36 v3 0) w12 fun v13 w14 =>
  RUN Try.prog (pan R) (Instr.loadAt 3 v13) w14 fun v15 w16 =>
  RUN Try.prog (pan R) (Instr.fieldAt 36 v3 1) w16 fun v17 w18 =>
  RUN Try.prog (pan R) (Instr.loadAt 3 v17) w18 fun v19 w20 =>
  CALL Try.prog (pan R) show_rule.id #[v11, v15, v19] w20 fun v21 w22 =>
  b1_1 R v21 w22
/- x0 g, x1 item -/
def b1 (R : Ending → World → Prop) (x0 x1 : Value) (w : World) (_r : Tok R := tok R) : Prop :=
  RUN Try.prog (pan R) (Instr.box 27 x0) w fun v1 w2 =>
  RUN Try.prog (pan R) (Instr.box 36 x1) w2 fun v3 w4 =>
  RUN Try.prog (pan R) (Instr.fieldAt 36 v3 1) w4 fun v5 w6 =>
  RUN Try.prog (pan R) (Instr.loadAt 3 v5) w6 fun v7 w8 =>
  RUN Try.prog (pan R) (bins .lss 3 (.tmp 7) (.const (Go.Value.int Go.IntKind.i64 0)) v7 (Go.Value.int Go.IntKind.i64 0)) w8 fun v9 w10 =>
  SPL v9
  (R (.returned (.tuple #[(Go.Value.string { data := #[] }), (Go.Value.int Go.IntKind.i64 1)])) w10)
  (b1_2 R v1 v3 w10)
abbrev q1 (R : Ending → World → Prop) : Exit → Env → World → Prop := QX (fun ρ w => R (.returned (.tuple #[(ρ 4), (ρ 5)])) w) (fun ρ w => R (.returned (.tuple #[(ρ 4), (ρ 5)])) w) []
theorem b1_eq (R : Ending → World → Prop) (ρ : Env) (w : World) : (b1 R (ρ 0) (ρ 1) w) = codeP Try.prog (pan R) code (q1 R) ρ w := by kernel_rfl
theorem b1_ok (R : Ending → World → Prop) (ρ : Env) (w : World) (h : b1 R (ρ 0) (ρ 1) w) : codeP Try.prog (pan R) code (q1 R) ρ w := (b1_eq R ρ w).mp h
/-- What is owed for a call. -/
def run (R : Ending → World → Prop) (a0 a1 : Value) (w : World) : Prop := b1 R a0 a1 w
theorem calls (R : Ending → World → Prop) (a0 a1 : Value) (w : World) (h : run R a0 a1 w) : Calls Try.prog id #[a0, a1] w R :=
  calls_of_tt (f := id) (fn := Try.f29) (c := code) (by kernel_rfl) Try.func29 (by kernel_rfl) (by kernel_rfl) (args := [a0, a1]) (Nat.le_of_ble_eq_true rfl) rfl (b1_ok R (envOf [a0, a1]) w h)
theorem enters : Enters Try.prog id := fun args w => Try.call29 args w
theorem ct {a0 a1 : Value} {w : World} {S : Value → World → Prop} (h : ∀ R : Ending → World → Prop, (∀ v w, S v w → R (.returned v) w) → run R a0 a1 w) : Ct Try.prog id #[a0, a1] w S :=
  Ct.intro enters fun R hR => calls R a0 a1 w (h R hR)
attribute [irreducible] b1_1 b1_2 b1 run
attribute [go_sem] b1_1 b1_2 b1 run
end show_Item

/-! ### presage/show.open -/
namespace show_open
noncomputable def code : Code := bodyOf Try.f63
def b1_1 (R : Ending → World → Prop) (v1 v6 : Value) (w9 : World) (_r : Tok R := tok R) : Prop :=
  LD Try.prog (Instr.loadAt 27 v1) w9 fun v10 =>
  CALL Try.prog (pan R) gram_Closed.id #[v10] w9 fun v11 w12 =>
  R (.returned (.tuple #[v6, v11])) w12
def b1_2 (R : Ending → World → Prop) (v4 : Value) (w14 : World) (_r : Tok R := tok R) : Prop :=
  (RUN Try.prog (pan R) (Instr.box 102 v4) w14 fun v15 w16 =>
  R (.returned (.tuple #[v15, (Go.Value.bool Bool.true)])) w16) ∧
  (RUN Try.prog (pan R) (Instr.box 102 v4) w14 fun v17 w18 =>
  R (.returned (.tuple #[v17, (Go.Value.bool Bool.true)])) w18)
def b1_3 (R : Ending → World → Prop) (v1 v3 v4 : Value) (w14 : World) (_r : Tok R := tok R) : Prop :=
  LD Try.prog (Instr.loadAt 27 v1) w14 fun v19 =>
  (RUN Try.prog (pan R) (Instr.box 102 v4) w14 fun v20 w21 =>
  Sem.run Try.prog (Instr.loadAt 27 v1) w21 = .ok v19 w21 ∧ (CALL Try.prog (pan R) gram_Closed.id #[v19] w21 fun v22 w23 =>
  R (.returned (.tuple #[v20, v22])) w23)) ∧
  (CALL Try.prog (pan R) gram_Closed.id #[v19] w14 fun v24 w25 =>
  Sem.run Try.prog (Instr.loadAt 27 v1) w25 = .ok v3 w25 ∧ (RUN Try.prog (pan R) (Instr.box 102 v4) w25 fun v26 w27 =>
  R (.returned (.tuple #[v26, v24])) w27))
/- x0 g -/
def b1 (R : Ending → World → Prop) (x0 : Value) (w : World) (_r : Tok R := tok R) : Prop :=
  RUN Try.prog (pan R) (Instr.box 27 x0) w fun v1 w2 =>
  LD Try.prog (Instr.loadAt 27 v1) (World.drew w2) fun v3 =>
  PUR Try.prog (Instr.build 102 #[(1, v3)]) fun v4 =>
  LD Try.prog (Instr.loadAt 27 v1) (World.drew w2) fun v5 =>
  (RUN Try.prog (pan R) (Instr.box 102 v4) (World.drew w2) fun v6 w7 =>
  Sem.run Try.prog (Instr.loadAt 27 v1) w7 = .ok v5 w7 ∧ (CALL Try.prog (pan R) gram_Valid.id #[v5] w7 fun v8 w9 =>
  SPL v8
  (R (.returned (.tuple #[v6, (Go.Value.bool Bool.true)])) w9)
  (b1_1 R v1 v6 w9))) ∧
  (CALL Try.prog (pan R) gram_Valid.id #[v5] (World.drew w2) fun v13 w14 =>
  Sem.run Try.prog (Instr.loadAt 27 v1) w14 = .ok v3 w14 ∧ (SPL v13
  (b1_2 R v4 w14)
  (b1_3 R v1 v3 v4 w14)))
abbrev q1 (R : Ending → World → Prop) : Exit → Env → World → Prop := QX (fun ρ w => R (.returned (.tuple #[(ρ 2), (ρ 3)])) w) (fun ρ w => R (.returned (.tuple #[(ρ 2), (ρ 3)])) w) []
theorem b1_eq (R : Ending → World → Prop) (ρ : Env) (w : World) : (b1 R (ρ 0) w) = codeP Try.prog (pan R) code (q1 R) ρ w := by kernel_rfl
theorem b1_ok (R : Ending → World → Prop) (ρ : Env) (w : World) (h : b1 R (ρ 0) w) : codeP Try.prog (pan R) code (q1 R) ρ w := (b1_eq R ρ w).mp h
/-- What is owed for a call. -/
def run (R : Ending → World → Prop) (a0 : Value) (w : World) : Prop := b1 R a0 w
theorem calls (R : Ending → World → Prop) (a0 : Value) (w : World) (h : run R a0 w) : Calls Try.prog id #[a0] w R :=
  calls_of_tt (f := id) (fn := Try.f63) (c := code) (by kernel_rfl) Try.func63 (by kernel_rfl) (by kernel_rfl) (args := [a0]) (Nat.le_of_ble_eq_true rfl) rfl (b1_ok R (envOf [a0]) w h)
theorem enters : Enters Try.prog id := fun args w => Try.call63 args w
theorem ct {a0 : Value} {w : World} {S : Value → World → Prop} (h : ∀ R : Ending → World → Prop, (∀ v w, S v w → R (.returned v) w) → run R a0 w) : Ct Try.prog id #[a0] w S :=
  Ct.intro enters fun R hR => calls R a0 w (h R hR)
attribute [irreducible] b1_1 b1_2 b1_3 b1 run
attribute [go_sem] b1_1 b1_2 b1_3 b1 run
end show_open

/-! ### (*presage/show.page).line -/
namespace show_page_line
noncomputable def code : Code := bodyOf Try.f64
/- x0 p, x1 first, x2 syms -/
def b1 (R : Ending → World → Prop) (x0 x1 x2 : Value) (w : World) (_r : Tok R := tok R) : Prop :=
  NILC x0 fun v1 =>
  RUN Try.prog (pan R) (Instr.fieldAt 102 v1 0) w fun v2 w3 =>
  CALL Try.prog (pan R) strings_Builder_WriteString.id #[v2, x1] w3 fun v4 w5 =>
  CALL Try.prog (pan R) show_page_names.id #[x0, x2] w5 fun v6 w7 =>
  R (.returned (.tuple #[])) w7
abbrev q1 (R : Ending → World → Prop) : Exit → Env → World → Prop := QX (fun ρ w => R (.returned (.tuple #[])) w) (fun ρ w => R (.returned (.tuple #[])) w) []
theorem b1_eq (R : Ending → World → Prop) (ρ : Env) (w : World) : (b1 R (ρ 0) (ρ 1) (ρ 2) w) = codeP Try.prog (pan R) code (q1 R) ρ w := by kernel_rfl
theorem b1_ok (R : Ending → World → Prop) (ρ : Env) (w : World) (h : b1 R (ρ 0) (ρ 1) (ρ 2) w) : codeP Try.prog (pan R) code (q1 R) ρ w := (b1_eq R ρ w).mp h
/-- What is owed for a call. -/
def run (R : Ending → World → Prop) (a0 a1 a2 : Value) (w : World) : Prop := b1 R a0 a1 a2 w
theorem calls (R : Ending → World → Prop) (a0 a1 a2 : Value) (w : World) (h : run R a0 a1 a2 w) : Calls Try.prog id #[a0, a1, a2] w R :=
  calls_of_0 (f := id) (fn := Try.f64) (c := code) (by kernel_rfl) Try.func64 (by kernel_rfl) (by kernel_rfl) (args := [a0, a1, a2]) (Nat.le_of_ble_eq_true rfl) rfl (b1_ok R (envOf [a0, a1, a2]) w h)
theorem enters : Enters Try.prog id := fun args w => Try.call64 args w
theorem ct {a0 a1 a2 : Value} {w : World} {S : Value → World → Prop} (h : ∀ R : Ending → World → Prop, (∀ v w, S v w → R (.returned v) w) → run R a0 a1 a2 w) : Ct Try.prog id #[a0, a1, a2] w S :=
  Ct.intro enters fun R hR => calls R a0 a1 a2 w (h R hR)
attribute [irreducible] b1 run
attribute [go_sem] b1 run
end show_page_line

/-! ### (*presage/show.page).terms -/
namespace show_page_terms
noncomputable def code : Code := bodyOf Try.f65
noncomputable abbrev p1 : Code := dropC 2 code
/- x5 out -/
def b3 (R : Ending → World → Prop) (x5 : Value) (w : World) (_r : Tok R := tok R) : Prop :=
  R (.returned x5) w
abbrev q1 (R : Ending → World → Prop) : Exit → Env → World → Prop := QX (fun ρ w => R (.returned (ρ 4)) w) (fun ρ w => R (.returned (ρ 4)) w) []
theorem b3_eq (R : Ending → World → Prop) (ρ : Env) (w : World) : (b3 R (ρ 5) w) = codeP Try.prog (pan R) (sndC p1) (q1 R) ρ w := by kernel_rfl
theorem b3_ok (R : Ending → World → Prop) (ρ : Env) (w : World) (h : b3 R (ρ 5) w) : codeP Try.prog (pan R) (sndC p1) (q1 R) ρ w := (b3_eq R ρ w).mp h
noncomputable abbrev p2 : Code := dropC 1 (fstC p1)
noncomputable abbrev p3 : Code := loopC (blkC p2)
noncomputable abbrev p4 : Code := dropC 3 p3
/- x5 out -/
def b8 (R : Ending → World → Prop) (C6 : Value → Value → World → Prop) (x5 x15 : Value) (w : World) (_r : Tok R := tok R) (_C6 : Tok C6 := tok C6) : Prop :=
  RUN Try.prog (pan R) (bins .add 3 (.tmp 15) (.const (Go.Value.int Go.IntKind.i64 1)) x15 (Go.Value.int Go.IntKind.i64 1)) w fun v1 w2 =>
  C6 x5 v1 w2
abbrev q2 (R : Ending → World → Prop) (C6 : Value → Value → World → Prop) : Exit → Env → World → Prop := QX (fun ρ w => C6 (ρ 5) (ρ 15) w) (fun ρ w => R (.returned (ρ 4)) w) [(0, (fun ρ w => b3 R (ρ 5) w))]
theorem b8_eq (R : Ending → World → Prop) (C6 : Value → Value → World → Prop) (ρ : Env) (w : World) : (b8 R C6 (ρ 5) (ρ 15) w) = codeP Try.prog (pan R) p4 (q2 R C6) ρ w := by kernel_rfl
theorem b8_ok (R : Ending → World → Prop) (C6 : Value → Value → World → Prop) (ρ : Env) (w : World) (h : b8 R C6 (ρ 5) (ρ 15) w) : codeP Try.prog (pan R) p4 (q2 R C6) ρ w := (b8_eq R C6 ρ w).mp h
def b7_1 (R : Ending → World → Prop) (C6 : Value → Value → World → Prop) (x5 x15 : Value) (w15 : World) (_r : Tok R := tok R) (_C6 : Tok C6 := tok C6) : Prop :=
  RUN Try.prog (pan R) (bins .add 3 (.tmp 25) (.const (Go.Value.int Go.IntKind.i64 1)) x15 (Go.Value.int Go.IntKind.i64 1)) w15 fun v16 w17 =>
  RUN Try.prog (pan R) (Instr.buildSlice 24 1 #[(0, v16)]) w17 fun v18 w19 =>
  RUN Try.prog (pan R) (Builtin.append_ #[24, 24] 24 #[x5, v18]) w19 fun v20 w21 =>
  b8 R C6 v20 x15 w21
def b7_2 (R : Ending → World → Prop) (C6 : Value → Value → World → Prop) (x1 x5 x13 x15 : Value) (w2 : World) (_r : Tok R := tok R) (_C6 : Tok C6 := tok C6) : Prop :=
  RUN Try.prog (pan R) (Instr.indexAt 22 x13 x15) w2 fun v3 w4 =>
  RUN Try.prog (pan R) (Instr.loadAt 106 v3) w4 fun v5 w6 =>
  RUN Try.prog (pan R) (Instr.alloc 106 true (.tuple #[])) w6 fun v7 w8 =>
  RUNU Try.prog (pan R) (Instr.storeAt 106 v7 v5) w8 fun w9 =>
  RUN Try.prog (pan R) (Instr.fieldAt 106 v7 1) w9 fun v10 w11 =>
  RUN Try.prog (pan R) (Instr.loadAt 3 v10) w11 fun v12 w13 =>
  CALLY Try.prog (pan R) x1 [v12] w13 fun v14 w15 =>
  SPL v14
  (b7_1 R C6 x5 x15 w15)
  (b8 R C6 x5 x15 w15)
/- x1 is, x5 out -/
def b7 (R : Ending → World → Prop) (C6 : Value → Value → World → Prop) (x1 x5 x13 x14 x15 : Value) (w : World) (_r : Tok R := tok R) (_C6 : Tok C6 := tok C6) : Prop :=
  RUN Try.prog (pan R) (bins .lss 3 (.tmp 15) (.tmp 14) x15 x14) w fun v1 w2 =>
  SPL v1
  (b7_2 R C6 x1 x5 x13 x15 w2)
  (b3 R x5 w2)
abbrev q3 (R : Ending → World → Prop) (C6 : Value → Value → World → Prop) : Exit → Env → World → Prop := QX (fun ρ w => b8 R C6 (ρ 5) (ρ 15) w) (fun ρ w => R (.returned (ρ 4)) w) [(0, (fun ρ w => b3 R (ρ 5) w))]
theorem b7_eq (R : Ending → World → Prop) (C6 : Value → Value → World → Prop) (ρ : Env) (w : World) : (b7 R C6 (ρ 1) (ρ 5) (ρ 13) (ρ 14) (ρ 15) w) = codeP Try.prog (pan R) (preC 2 p3) (q3 R C6) ρ w := by kernel_rfl
theorem b7_ok (R : Ending → World → Prop) (C6 : Value → Value → World → Prop) (ρ : Env) (w : World) (h : b7 R C6 (ρ 1) (ρ 5) (ρ 13) (ρ 14) (ρ 15) w) : codeP Try.prog (pan R) p3 (q2 R C6) ρ w := by
  have e : appC 2 (preC 2 p3) (dropC 3 p3) = p3 := by kernel_rfl
  rw [← e]
  exact appQ (fun ρ w => b8 R C6 (ρ 5) (ρ 15) w) 2 ((b7_eq R C6 ρ w).mp h) (fun ρ w h => b8_ok R C6 ρ w h)
/- x1 is, x5 out -/
def l6 (R : Ending → World → Prop) (x1 x5 x13 x14 x15 : Value) (w : World) (_r : Tok R := tok R) : Prop :=
  ∃ (J : Value → Value → World → Prop) (μ : Value → Value → World → Nat), J x5 x15 w ∧ ∀ y5 y15 w0, J y5 y15 w0 → b7 R (fun z5 z15 w1 => J z5 z15 w1 ∧ μ z5 z15 w1 < μ y5 y15 w0) x1 y5 x13 x14 y15 w0
abbrev q4 (R : Ending → World → Prop) : Exit → Env → World → Prop := QX (fun ρ w => b3 R (ρ 5) w) (fun ρ w => R (.returned (ρ 4)) w) [(0, (fun ρ w => b3 R (ρ 5) w))]
theorem l6_ok (R : Ending → World → Prop) (ρ : Env) (w : World) (h : l6 R (ρ 1) (ρ 5) (ρ 13) (ρ 14) (ρ 15) w) : codeP Try.prog (pan R) (blkC p2) (q4 R) ρ w := by
  unfold l6 at h
  obtain ⟨J, μ, h0, hr⟩ := h
  have e : Code.loop (loopC (blkC p2)) = (blkC p2) := by kernel_rfl
  rw [← e]
  refine loopQ (fun ρ' w' => J (ρ' 5) (ρ' 15) w') (fun ρ' w' => μ (ρ' 5) (ρ' 15) w') h0 fun ρ' w' hA hI => ?_
  have e1 : ρ' 1 = ρ 1 := Agree.at hA 1 (by kernel_rfl)
  have e13 : ρ' 13 = ρ 13 := Agree.at hA 13 (by kernel_rfl)
  have e14 : ρ' 14 = ρ 14 := Agree.at hA 14 (by kernel_rfl)
  have h1 := hr (ρ' 5) (ρ' 15) w' hI
  rw [← e1, ← e13, ← e14] at h1
  exact b7_ok R (fun z5 z15 w1 => J z5 z15 w1 ∧ μ z5 z15 w1 < μ (ρ' 5) (ρ' 15) w') ρ' w' h1
theorem l6_intro (R : Ending → World → Prop) (x1 x5 x13 x14 x15 : Value) (w : World) (J : Value → Value → World → Prop) (μ : Value → Value → World → Nat) (h0 : J x5 x15 w)
    (hr : ∀ y5 y15 w0, J y5 y15 w0 → ∀ C6 : Value → Value → World → Prop, (∀ z5 z15 w1, J z5 z15 w1 → μ z5 z15 w1 < μ y5 y15 w0 → C6 z5 z15 w1) → b7 R C6 x1 y5 x13 x14 y15 w0) : l6 R x1 x5 x13 x14 x15 w := by
  unfold l6
  exact ⟨J, μ, h0, fun y5 y15 w0 hJ => hr y5 y15 w0 hJ _ (fun z5 z15 w1 h1 h2 => ⟨h1, h2⟩)⟩
abbrev q5 (R : Ending → World → Prop) : Exit → Env → World → Prop := QX (fun ρ w => b3 R (ρ 5) w) (fun ρ w => R (.returned (ρ 4)) w) []
theorem k5_ok (R : Ending → World → Prop) (ρ : Env) (w : World) (h : l6 R (ρ 1) (ρ 5) (ρ 13) (ρ 14) (ρ 15) w) : codeP Try.prog (pan R) p2 (q5 R) ρ w := by
  have e : Code.block 0 (blkC p2) = p2 := by kernel_rfl
  rw [← e]
  exact blockQ (l6_ok R ρ w h)
/- x0 p, x1 is, x5 out -/
def b4 (R : Ending → World → Prop) (x0 x1 x5 : Value) (w : World) (_r : Tok R := tok R) : Prop :=
  NILC x0 fun v1 =>
  RUN Try.prog (pan R) (Instr.fieldAt 102 v1 1) w fun v2 w3 =>
  RUN Try.prog (pan R) (Instr.fieldAt 27 v2 0) w3 fun v4 w5 =>
  RUN Try.prog (pan R) (Instr.loadAt 22 v4) w5 fun v6 w7 =>
  RUN Try.prog (pan R) (Instr.sliceAt 22 v6 (some (Go.Value.int Go.IntKind.i64 1)) none none) w7 fun v8 w9 =>
  RUN Try.prog (pan R) (Builtin.len_ #[22] 3 #[v8]) w9 fun v10 w11 =>
  l6 R x1 x5 v8 v10 (Go.Value.int Go.IntKind.i64 0) w11
abbrev q6 (R : Ending → World → Prop) : Exit → Env → World → Prop := QX (fun ρ w => l6 R (ρ 1) (ρ 5) (ρ 13) (ρ 14) (ρ 15) w) (fun ρ w => R (.returned (ρ 4)) w) []
theorem b4_eq (R : Ending → World → Prop) (ρ : Env) (w : World) : (b4 R (ρ 0) (ρ 1) (ρ 5) w) = codeP Try.prog (pan R) (preC 0 (fstC p1)) (q6 R) ρ w := by kernel_rfl
theorem b4_ok (R : Ending → World → Prop) (ρ : Env) (w : World) (h : b4 R (ρ 0) (ρ 1) (ρ 5) w) : codeP Try.prog (pan R) (fstC p1) (q5 R) ρ w := by
  have e : appC 0 (preC 0 (fstC p1)) (dropC 1 (fstC p1)) = (fstC p1) := by kernel_rfl
  rw [← e]
  exact appQ (fun ρ w => l6 R (ρ 1) (ρ 5) (ρ 13) (ρ 14) (ρ 15) w) 0 ((b4_eq R ρ w).mp h) (fun ρ w h => k5_ok R ρ w h)
theorem k2_ok (R : Ending → World → Prop) (ρ : Env) (w : World) (h : b4 R (ρ 0) (ρ 1) (ρ 5) w) : codeP Try.prog (pan R) p1 (q1 R) ρ w := by
  have e : Code.seq (fstC p1) (sndC p1) = p1 := by kernel_rfl
  rw [← e]
  exact seqQ (fun ρ w => b3 R (ρ 5) w) (b4_ok R ρ w h) (fun ρ w h => b3_ok R ρ w h)
/- x0 p, x1 is -/
def b1 (R : Ending → World → Prop) (x0 x1 : Value) (w : World) (_r : Tok R := tok R) : Prop :=
  b4 R x0 x1 (Go.Value.slice Option.none 0 0) w
abbrev q7 (R : Ending → World → Prop) : Exit → Env → World → Prop := QX (fun ρ w => b4 R (ρ 0) (ρ 1) (ρ 5) w) (fun ρ w => R (.returned (ρ 4)) w) []
theorem b1_eq (R : Ending → World → Prop) (ρ : Env) (w : World) : (b1 R (ρ 0) (ρ 1) w) = codeP Try.prog (pan R) (preC 1 code) (q7 R) ρ w := by kernel_rfl
theorem b1_ok (R : Ending → World → Prop) (ρ : Env) (w : World) (h : b1 R (ρ 0) (ρ 1) w) : codeP Try.prog (pan R) code (q1 R) ρ w := by
  have e : appC 1 (preC 1 code) (dropC 2 code) = code := by kernel_rfl
  rw [← e]
  exact appQ (fun ρ w => b4 R (ρ 0) (ρ 1) (ρ 5) w) 1 ((b1_eq R ρ w).mp h) (fun ρ w h => k2_ok R ρ w h)
/-- What is owed for a call. -/
def run (R : Ending → World → Prop) (a0 a1 : Value) (w : World) : Prop := b1 R a0 a1 w
theorem calls (R : Ending → World → Prop) (a0 a1 : Value) (w : World) (h : run R a0 a1 w) : Calls Try.prog id #[a0, a1] w R :=
  calls_of_t (f := id) (fn := Try.f65) (c := code) (by kernel_rfl) Try.func65 (by kernel_rfl) (by kernel_rfl) (args := [a0, a1]) (Nat.le_of_ble_eq_true rfl) rfl (b1_ok R (envOf [a0, a1]) w h)
theorem enters : Enters Try.prog id := fun args w => Try.call65 args w
theorem ct {a0 a1 : Value} {w : World} {S : Value → World → Prop} (h : ∀ R : Ending → World → Prop, (∀ v w, S v w → R (.returned v) w) → run R a0 a1 w) : Ct Try.prog id #[a0, a1] w S :=
  Ct.intro enters fun R hR => calls R a0 a1 w (h R hR)
attribute [irreducible] b3 b8 b7_1 b7_2 b7 l6 b4 b1 run
attribute [go_sem] b3 b8 b7_1 b7_2 b7 b4 b1 run
end show_page_terms

/-! ### presage/show.Text$1 -/
namespace show_Text_1
noncomputable def code : Code := bodyOf Try.f66

def b1 (R : Ending → World → Prop) (w : World) (_r : Tok R := tok R) : Prop :=
  R (.returned (Go.Value.bool Bool.true)) w
abbrev q1 (R : Ending → World → Prop) : Exit → Env → World → Prop := QX (fun ρ w => R (.returned (ρ 2)) w) (fun ρ w => R (.returned (ρ 2)) w) []
theorem b1_eq (R : Ending → World → Prop) (ρ : Env) (w : World) : (b1 R w) = codeP Try.prog (pan R) code (q1 R) ρ w := by kernel_rfl
theorem b1_ok (R : Ending → World → Prop) (ρ : Env) (w : World) (h : b1 R w) : codeP Try.prog (pan R) code (q1 R) ρ w := (b1_eq R ρ w).mp h
/-- What is owed for a call. -/
def run (R : Ending → World → Prop) (a0 : Value) (w : World) : Prop := b1 R w
theorem calls (R : Ending → World → Prop) (a0 : Value) (w : World) (h : run R a0 w) : Calls Try.prog id #[a0] w R :=
  calls_of_t (f := id) (fn := Try.f66) (c := code) (by kernel_rfl) Try.func66 (by kernel_rfl) (by kernel_rfl) (args := [a0]) (Nat.le_of_ble_eq_true rfl) rfl (b1_ok R (envOf [a0]) w h)
theorem enters : Enters Try.prog id := fun args w => Try.call66 args w
theorem ct {a0 : Value} {w : World} {S : Value → World → Prop} (h : ∀ R : Ending → World → Prop, (∀ v w, S v w → R (.returned v) w) → run R a0 w) : Ct Try.prog id #[a0] w S :=
  Ct.intro enters fun R hR => calls R a0 w (h R hR)
attribute [irreducible] b1 run
attribute [go_sem] b1 run
end show_Text_1

/-! ### (*presage/show.page).words -/
namespace show_page_words
noncomputable def code : Code := bodyOf Try.f67
noncomputable abbrev p1 : Code := dropC 1 code
noncomputable abbrev p2 : Code := loopC (blkC p1)
def b4_1 (R : Ending → World → Prop) (C3 : Value → World → Prop) (x0 x8 v5 : Value) (w11 : World) (_r : Tok R := tok R) (_C3 : Tok C3 := tok C3) : Prop :=
  NILC x0 fun v12 =>
  RUN Try.prog (pan R) (Instr.fieldAt 102 v12 0) w11 fun v13 w14 =>
  CALL Try.prog (pan R) strings_Builder_WriteString.id #[v13, v5] w14 fun v15 w16 =>
  RUN Try.prog (pan R) (bins .add 3 (.tmp 8) (.const (Go.Value.int Go.IntKind.i64 1)) x8 (Go.Value.int Go.IntKind.i64 1)) w16 fun v17 w18 =>
  C3 v17 w18
def b4_2 (R : Ending → World → Prop) (C3 : Value → World → Prop) (x0 x6 x8 : Value) (w2 : World) (_r : Tok R := tok R) (_C3 : Tok C3 := tok C3) : Prop :=
  RUN Try.prog (pan R) (Instr.indexAt 23 x6 x8) w2 fun v3 w4 =>
  RUN Try.prog (pan R) (Instr.loadAt 9 v3) w4 fun v5 w6 =>
  NILC x0 fun v7 =>
  RUN Try.prog (pan R) (Instr.fieldAt 102 v7 0) w6 fun v8 w9 =>
  CALL Try.prog (pan R) strings_Builder_WriteString.id #[v8, (Go.Value.string { data := #[32] })] w9 fun v10 w11 =>
  b4_1 R C3 x0 x8 v5 w11
/- x0 p -/
def b4 (R : Ending → World → Prop) (C3 : Value → World → Prop) (x0 x6 x7 x8 : Value) (w : World) (_r : Tok R := tok R) (_C3 : Tok C3 := tok C3) : Prop :=
  RUN Try.prog (pan R) (bins .lss 3 (.tmp 8) (.tmp 7) x8 x7) w fun v1 w2 =>
  SPL v1
  (b4_2 R C3 x0 x6 x8 w2)
  (R (.returned (.tuple #[])) w2)
abbrev q1 (R : Ending → World → Prop) (C3 : Value → World → Prop) : Exit → Env → World → Prop := QX (fun ρ w => C3 (ρ 8) w) (fun ρ w => R (.returned (.tuple #[])) w) [(0, (fun ρ w => R (.returned (.tuple #[])) w))]
theorem b4_eq (R : Ending → World → Prop) (C3 : Value → World → Prop) (ρ : Env) (w : World) : (b4 R C3 (ρ 0) (ρ 6) (ρ 7) (ρ 8) w) = codeP Try.prog (pan R) p2 (q1 R C3) ρ w := by kernel_rfl
theorem b4_ok (R : Ending → World → Prop) (C3 : Value → World → Prop) (ρ : Env) (w : World) (h : b4 R C3 (ρ 0) (ρ 6) (ρ 7) (ρ 8) w) : codeP Try.prog (pan R) p2 (q1 R C3) ρ w := (b4_eq R C3 ρ w).mp h
/- x0 p -/
def l3 (R : Ending → World → Prop) (x0 x6 x7 x8 : Value) (w : World) (_r : Tok R := tok R) : Prop :=
  ∃ (J : Value → World → Prop) (μ : Value → World → Nat), J x8 w ∧ ∀ y8 w0, J y8 w0 → b4 R (fun z8 w1 => J z8 w1 ∧ μ z8 w1 < μ y8 w0) x0 x6 x7 y8 w0
abbrev q2 (R : Ending → World → Prop) : Exit → Env → World → Prop := QX (fun ρ w => R (.returned (.tuple #[])) w) (fun ρ w => R (.returned (.tuple #[])) w) [(0, (fun ρ w => R (.returned (.tuple #[])) w))]
theorem l3_ok (R : Ending → World → Prop) (ρ : Env) (w : World) (h : l3 R (ρ 0) (ρ 6) (ρ 7) (ρ 8) w) : codeP Try.prog (pan R) (blkC p1) (q2 R) ρ w := by
  unfold l3 at h
  obtain ⟨J, μ, h0, hr⟩ := h
  have e : Code.loop (loopC (blkC p1)) = (blkC p1) := by kernel_rfl
  rw [← e]
  refine loopQ (fun ρ' w' => J (ρ' 8) w') (fun ρ' w' => μ (ρ' 8) w') h0 fun ρ' w' hA hI => ?_
  have e0 : ρ' 0 = ρ 0 := Agree.at hA 0 (by kernel_rfl)
  have e6 : ρ' 6 = ρ 6 := Agree.at hA 6 (by kernel_rfl)
  have e7 : ρ' 7 = ρ 7 := Agree.at hA 7 (by kernel_rfl)
  have h1 := hr (ρ' 8) w' hI
  rw [← e0, ← e6, ← e7] at h1
  exact b4_ok R (fun z8 w1 => J z8 w1 ∧ μ z8 w1 < μ (ρ' 8) w') ρ' w' h1
theorem l3_intro (R : Ending → World → Prop) (x0 x6 x7 x8 : Value) (w : World) (J : Value → World → Prop) (μ : Value → World → Nat) (h0 : J x8 w)
    (hr : ∀ y8 w0, J y8 w0 → ∀ C3 : Value → World → Prop, (∀ z8 w1, J z8 w1 → μ z8 w1 < μ y8 w0 → C3 z8 w1) → b4 R C3 x0 x6 x7 y8 w0) : l3 R x0 x6 x7 x8 w := by
  unfold l3
  exact ⟨J, μ, h0, fun y8 w0 hJ => hr y8 w0 hJ _ (fun z8 w1 h1 h2 => ⟨h1, h2⟩)⟩
abbrev q3 (R : Ending → World → Prop) : Exit → Env → World → Prop := QX (fun ρ w => R (.returned (.tuple #[])) w) (fun ρ w => R (.returned (.tuple #[])) w) []
theorem k2_ok (R : Ending → World → Prop) (ρ : Env) (w : World) (h : l3 R (ρ 0) (ρ 6) (ρ 7) (ρ 8) w) : codeP Try.prog (pan R) p1 (q3 R) ρ w := by
  have e : Code.block 0 (blkC p1) = p1 := by kernel_rfl
  rw [← e]
  exact blockQ (l3_ok R ρ w h)
/- x0 p, x1 l -/
def b1 (R : Ending → World → Prop) (x0 x1 : Value) (w : World) (_r : Tok R := tok R) : Prop :=
  RUN Try.prog (pan R) (Builtin.len_ #[23] 3 #[x1]) w fun v1 w2 =>
  l3 R x0 x1 v1 (Go.Value.int Go.IntKind.i64 0) w2
abbrev q4 (R : Ending → World → Prop) : Exit → Env → World → Prop := QX (fun ρ w => l3 R (ρ 0) (ρ 6) (ρ 7) (ρ 8) w) (fun ρ w => R (.returned (.tuple #[])) w) []
theorem b1_eq (R : Ending → World → Prop) (ρ : Env) (w : World) : (b1 R (ρ 0) (ρ 1) w) = codeP Try.prog (pan R) (preC 0 code) (q4 R) ρ w := by kernel_rfl
theorem b1_ok (R : Ending → World → Prop) (ρ : Env) (w : World) (h : b1 R (ρ 0) (ρ 1) w) : codeP Try.prog (pan R) code (q3 R) ρ w := by
  have e : appC 0 (preC 0 code) (dropC 1 code) = code := by kernel_rfl
  rw [← e]
  exact appQ (fun ρ w => l3 R (ρ 0) (ρ 6) (ρ 7) (ρ 8) w) 0 ((b1_eq R ρ w).mp h) (fun ρ w h => k2_ok R ρ w h)
/-- What is owed for a call. -/
def run (R : Ending → World → Prop) (a0 a1 : Value) (w : World) : Prop := b1 R a0 a1 w
theorem calls (R : Ending → World → Prop) (a0 a1 : Value) (w : World) (h : run R a0 a1 w) : Calls Try.prog id #[a0, a1] w R :=
  calls_of_0 (f := id) (fn := Try.f67) (c := code) (by kernel_rfl) Try.func67 (by kernel_rfl) (by kernel_rfl) (args := [a0, a1]) (Nat.le_of_ble_eq_true rfl) rfl (b1_ok R (envOf [a0, a1]) w h)
theorem enters : Enters Try.prog id := fun args w => Try.call67 args w
theorem ct {a0 a1 : Value} {w : World} {S : Value → World → Prop} (h : ∀ R : Ending → World → Prop, (∀ v w, S v w → R (.returned v) w) → run R a0 a1 w) : Ct Try.prog id #[a0, a1] w S :=
  Ct.intro enters fun R hR => calls R a0 a1 w (h R hR)
attribute [irreducible] b4_1 b4_2 b4 l3 b1 run
attribute [go_sem] b4_1 b4_2 b4 b1 run
end show_page_words

/-! ### presage/show.Text$2 -/
namespace show_Text_2
noncomputable def code : Code := bodyOf Try.f68
/- x0 level -/
def b1 (R : Ending → World → Prop) (x0 x1 : Value) (w : World) (_r : Tok R := tok R) : Prop :=
  RUN Try.prog (pan R) (Instr.loadAt 3 x1) w fun v1 w2 =>
  RUN Try.prog (pan R) (bins .add 3 (.tmp 5) (.const (Go.Value.int Go.IntKind.i64 1)) v1 (Go.Value.int Go.IntKind.i64 1)) w2 fun v3 w4 =>
  RUN Try.prog (pan R) (bins .eql 3 (.tmp 4) (.tmp 6) x0 v3) w4 fun v5 w6 =>
  R (.returned v5) w6
abbrev q1 (R : Ending → World → Prop) : Exit → Env → World → Prop := QX (fun ρ w => R (.returned (ρ 3)) w) (fun ρ w => R (.returned (ρ 3)) w) []
theorem b1_eq (R : Ending → World → Prop) (ρ : Env) (w : World) : (b1 R (ρ 0) (ρ 1) w) = codeP Try.prog (pan R) code (q1 R) ρ w := by kernel_rfl
theorem b1_ok (R : Ending → World → Prop) (ρ : Env) (w : World) (h : b1 R (ρ 0) (ρ 1) w) : codeP Try.prog (pan R) code (q1 R) ρ w := (b1_eq R ρ w).mp h
/-- What is owed for a call. -/
def run (R : Ending → World → Prop) (a0 a1 : Value) (w : World) : Prop := b1 R a0 a1 w
theorem calls (R : Ending → World → Prop) (a0 a1 : Value) (w : World) (h : run R a0 a1 w) : Calls Try.prog id #[a0, a1] w R :=
  calls_of_t (f := id) (fn := Try.f68) (c := code) (by kernel_rfl) Try.func68 (by kernel_rfl) (by kernel_rfl) (args := [a0, a1]) (Nat.le_of_ble_eq_true rfl) rfl (b1_ok R (envOf [a0, a1]) w h)
theorem enters : Enters Try.prog id := fun args w => Try.call68 args w
theorem ct {a0 a1 : Value} {w : World} {S : Value → World → Prop} (h : ∀ R : Ending → World → Prop, (∀ v w, S v w → R (.returned v) w) → run R a0 a1 w) : Ct Try.prog id #[a0, a1] w S :=
  Ct.intro enters fun R hR => calls R a0 a1 w (h R hR)
attribute [irreducible] b1 run
attribute [go_sem] b1 run
end show_Text_2

/-! ### (*presage/show.page).name -/
namespace show_page_name
noncomputable def code : Code := bodyOf Try.f69
def b1_1 (R : Ending → World → Prop) (x0 x1 : Value) (w13 : World) (_r : Tok R := tok R) : Prop :=
  NILC x0 fun v14 =>
  RUN Try.prog (pan R) (Instr.fieldAt 102 v14 1) w13 fun v15 w16 =>
  RUN Try.prog (pan R) (Instr.fieldAt 27 v15 0) w16 fun v17 w18 =>
  RUN Try.prog (pan R) (Instr.loadAt 22 v17) w18 fun v19 w20 =>
  RUN Try.prog (pan R) (Instr.indexAt 22 v19 x1) w20 fun v21 w22 =>
  RUN Try.prog (pan R) (Instr.fieldAt 106 v21 0) w22 fun v23 w24 =>
  RUN Try.prog (pan R) (Instr.loadAt 9 v23) w24 fun v25 w26 =>
  RUN Try.prog (pan R) (bins .add 9 (.const (Go.Value.string { data := #[39] })) (.tmp 27) (Go.Value.string { data := #[39] }) v25) w26 fun v27 w28 =>
  RUN Try.prog (pan R) (bins .add 9 (.tmp 28) (.const (Go.Value.string { data := #[39] })) v27 (Go.Value.string { data := #[39] })) w28 fun v29 w30 =>
  R (.returned v29) w30
def b1_2 (R : Ending → World → Prop) (x0 x1 v8 : Value) (w45 : World) (_r : Tok R := tok R) : Prop :=
  NILC x0 fun v46 =>
  RUN Try.prog (pan R) (Instr.fieldAt 102 v46 1) w45 fun v47 w48 =>
  RUN Try.prog (pan R) (Instr.fieldAt 27 v47 1) w48 fun v49 w50 =>
  RUN Try.prog (pan R) (Instr.loadAt 23 v49) w50 fun v51 w52 =>
  RUN Try.prog (pan R) (bins .sub 3 (.tmp 47) (.tmp 48) x1 v8) w52 fun v53 w54 =>
  RUN Try.prog (pan R) (Instr.indexAt 23 v51 v53) w54 fun v55 w56 =>
  RUN Try.prog (pan R) (Instr.loadAt 9 v55) w56 fun v57 w58 =>
  R (.returned v57) w58
def b1_3 (R : Ending → World → Prop) (x0 x1 v8 : Value) (w13 : World) (_r : Tok R := tok R) : Prop :=
  NILC x0 fun v31 =>
  RUN Try.prog (pan R) (Instr.fieldAt 102 v31 1) w13 fun v32 w33 =>
  RUN Try.prog (pan R) (Instr.fieldAt 27 v32 1) w33 fun v34 w35 =>
  RUN Try.prog (pan R) (Instr.loadAt 23 v34) w35 fun v36 w37 =>
  RUN Try.prog (pan R) (bins .sub 3 (.tmp 36) (.tmp 37) x1 v8) w37 fun v38 w39 =>
  RUN Try.prog (pan R) (Instr.indexAt 23 v36 v38) w39 fun v40 w41 =>
  RUN Try.prog (pan R) (Instr.loadAt 9 v40) w41 fun v42 w43 =>
  RUN Try.prog (pan R) (bins .eql 9 (.tmp 40) (.const (Go.Value.string { data := #[] })) v42 (Go.Value.string { data := #[] })) w43 fun v44 w45 =>
  SPL v44
  (R (.returned (Go.Value.string { data := #[36, 115, 116, 97, 114, 116] })) w45)
  (b1_2 R x0 x1 v8 w45)
/- x0 p, x1 s -/
def b1 (R : Ending → World → Prop) (x0 x1 : Value) (w : World) (_r : Tok R := tok R) : Prop :=
  NILC x0 fun v1 =>
  RUN Try.prog (pan R) (Instr.fieldAt 102 v1 1) w fun v2 w3 =>
  RUN Try.prog (pan R) (Instr.fieldAt 27 v2 0) w3 fun v4 w5 =>
  RUN Try.prog (pan R) (Instr.loadAt 22 v4) w5 fun v6 w7 =>
  RUN Try.prog (pan R) (Builtin.len_ #[22] 3 #[v6]) w7 fun v8 w9 =>
  RUN Try.prog (pan R) (bins .eql 3 (.tmp 13) (.const (Go.Value.int Go.IntKind.i64 0)) x1 (Go.Value.int Go.IntKind.i64 0)) w9 fun v10 w11 =>
  SPL v10
  (R (.returned (Go.Value.string { data := #[36, 101, 110, 100] })) w11)
  (RUN Try.prog (pan R) (bins .lss 3 (.tmp 16) (.tmp 17) x1 v8) w11 fun v12 w13 =>
  SPL v12
  (b1_1 R x0 x1 w13)
  (b1_3 R x0 x1 v8 w13))
abbrev q1 (R : Ending → World → Prop) : Exit → Env → World → Prop := QX (fun ρ w => R (.returned (ρ 4)) w) (fun ρ w => R (.returned (ρ 4)) w) []
theorem b1_eq (R : Ending → World → Prop) (ρ : Env) (w : World) : (b1 R (ρ 0) (ρ 1) w) = codeP Try.prog (pan R) code (q1 R) ρ w := by kernel_rfl
theorem b1_ok (R : Ending → World → Prop) (ρ : Env) (w : World) (h : b1 R (ρ 0) (ρ 1) w) : codeP Try.prog (pan R) code (q1 R) ρ w := (b1_eq R ρ w).mp h
/-- What is owed for a call. -/
def run (R : Ending → World → Prop) (a0 a1 : Value) (w : World) : Prop := b1 R a0 a1 w
theorem calls (R : Ending → World → Prop) (a0 a1 : Value) (w : World) (h : run R a0 a1 w) : Calls Try.prog id #[a0, a1] w R :=
  calls_of_t (f := id) (fn := Try.f69) (c := code) (by kernel_rfl) Try.func69 (by kernel_rfl) (by kernel_rfl) (args := [a0, a1]) (Nat.le_of_ble_eq_true rfl) rfl (b1_ok R (envOf [a0, a1]) w h)
theorem enters : Enters Try.prog id := fun args w => Try.call69 args w
theorem ct {a0 a1 : Value} {w : World} {S : Value → World → Prop} (h : ∀ R : Ending → World → Prop, (∀ v w, S v w → R (.returned v) w) → run R a0 a1 w) : Ct Try.prog id #[a0, a1] w S :=
  Ct.intro enters fun R hR => calls R a0 a1 w (h R hR)
attribute [irreducible] b1_1 b1_2 b1_3 b1 run
attribute [go_sem] b1_1 b1_2 b1_3 b1 run
end show_page_name

/-! ### (*presage/show.page).grade -/
namespace show_page_grade
noncomputable def code : Code := bodyOf Try.f70
noncomputable abbrev p1 : Code := dropC 2 code
def b3_1 (R : Ending → World → Prop) (x0 : Value) (w8 : World) (_r : Tok R := tok R) : Prop :=
  RUN Try.prog (pan R) (Instr.buildSlice 23 1 #[(0, (Go.Value.string { data := #[37, 110, 111, 110, 101] }))]) w8 fun v9 w10 =>
  CALL Try.prog (pan R) show_page_words.id #[x0, v9] w10 fun v11 w12 =>
  R (.returned (.tuple #[])) w12
def b3_2 (R : Ending → World → Prop) (x0 v19 : Value) (w20 : World) (_r : Tok R := tok R) : Prop :=
  RUN Try.prog (pan R) (Instr.indexAt 24 v19 (Go.Value.int Go.IntKind.i64 0)) w20 fun v21 w22 =>
  RUN Try.prog (pan R) (Instr.loadAt 3 v21) w22 fun v23 w24 =>
  RUN Try.prog (pan R) (Instr.buildSlice 24 1 #[(0, v23)]) w24 fun v25 w26 =>
  CALL Try.prog (pan R) show_page_names.id #[x0, v25] w26 fun v27 w28 =>
  R (.returned (.tuple #[])) w28
def b3_3 (R : Ending → World → Prop) (x0 x3 : Value) (w16 : World) (_r : Tok R := tok R) : Prop :=
  RUN Try.prog (pan R) (Instr.makeFunc (.func show_page_grade_1.id) #[] #[x3]) w16 fun v17 w18 =>
  CALL Try.prog (pan R) show_page_terms.id #[x0, v17] w18 fun v19 w20 =>
  b3_2 R x0 v19 w20
def b3_4 (R : Ending → World → Prop) (x0 x3 : Value) (w8 : World) (_r : Tok R := tok R) : Prop :=
  RUN Try.prog (pan R) (Instr.buildSlice 23 1 #[(0, (Go.Value.string { data := #[37, 112, 114, 101, 99] }))]) w8 fun v13 w14 =>
  CALL Try.prog (pan R) show_page_words.id #[x0, v13] w14 fun v15 w16 =>
  b3_3 R x0 x3 w16
/- x0 p, x3 q, x4 own -/
def b3 (R : Ending → World → Prop) (x0 x3 x4 : Value) (w : World) (_r : Tok R := tok R) : Prop :=
  RUN Try.prog (pan R) (Instr.fieldAt 47 x3 2) w fun v1 w2 =>
  RUN Try.prog (pan R) (Instr.loadAt 3 v1) w2 fun v3 w4 =>
  RUN Try.prog (pan R) (bins .eql 3 (.tmp 33) (.tmp 46) v3 x4) w4 fun v5 w6 =>
  SPL v5
  (R (.returned (.tuple #[])) w6)
  (RUN Try.prog (pan R) (bins .eql 3 (.tmp 33) (.const (Go.Value.int Go.IntKind.i64 0)) v3 (Go.Value.int Go.IntKind.i64 0)) w6 fun v7 w8 =>
  SPL v7
  (b3_1 R x0 w8)
  (b3_4 R x0 x3 w8))
abbrev q1 (R : Ending → World → Prop) : Exit → Env → World → Prop := QX (fun ρ w => R (.returned (.tuple #[])) w) (fun ρ w => R (.returned (.tuple #[])) w) []
theorem b3_eq (R : Ending → World → Prop) (ρ : Env) (w : World) : (b3 R (ρ 0) (ρ 3) (ρ 4) w) = codeP Try.prog (pan R) (sndC p1) (q1 R) ρ w := by kernel_rfl
theorem b3_ok (R : Ending → World → Prop) (ρ : Env) (w : World) (h : b3 R (ρ 0) (ρ 3) (ρ 4) w) : codeP Try.prog (pan R) (sndC p1) (q1 R) ρ w := (b3_eq R ρ w).mp h
noncomputable abbrev p2 : Code := dropC 1 (fstC p1)
noncomputable abbrev p3 : Code := loopC (blkC p2)
noncomputable abbrev p4 : Code := dropC 3 p3
/- x4 own -/
def b8 (R : Ending → World → Prop) (C6 : Value → Value → World → Prop) (x4 x10 : Value) (w : World) (_r : Tok R := tok R) (_C6 : Tok C6 := tok C6) : Prop :=
  RUN Try.prog (pan R) (bins .add 3 (.tmp 10) (.const (Go.Value.int Go.IntKind.i64 1)) x10 (Go.Value.int Go.IntKind.i64 1)) w fun v1 w2 =>
  C6 x4 v1 w2
abbrev q2 (R : Ending → World → Prop) (C6 : Value → Value → World → Prop) : Exit → Env → World → Prop := QX (fun ρ w => C6 (ρ 4) (ρ 10) w) (fun ρ w => R (.returned (.tuple #[])) w) [(0, (fun ρ w => b3 R (ρ 0) (ρ 3) (ρ 4) w))]
theorem b8_eq (R : Ending → World → Prop) (C6 : Value → Value → World → Prop) (ρ : Env) (w : World) : (b8 R C6 (ρ 4) (ρ 10) w) = codeP Try.prog (pan R) p4 (q2 R C6) ρ w := by kernel_rfl
theorem b8_ok (R : Ending → World → Prop) (C6 : Value → Value → World → Prop) (ρ : Env) (w : World) (h : b8 R C6 (ρ 4) (ρ 10) w) : codeP Try.prog (pan R) p4 (q2 R C6) ρ w := (b8_eq R C6 ρ w).mp h
def b7_1 (R : Ending → World → Prop) (C6 : Value → Value → World → Prop) (x0 x10 v5 : Value) (w17 : World) (_r : Tok R := tok R) (_C6 : Tok C6 := tok C6) : Prop :=
  NILC x0 fun v18 =>
  RUN Try.prog (pan R) (Instr.fieldAt 102 v18 1) w17 fun v19 w20 =>
  RUN Try.prog (pan R) (Instr.fieldAt 27 v19 0) w20 fun v21 w22 =>
  RUN Try.prog (pan R) (Instr.loadAt 22 v21) w22 fun v23 w24 =>
  RUN Try.prog (pan R) (Instr.indexAt 22 v23 v5) w24 fun v25 w26 =>
  RUN Try.prog (pan R) (Instr.fieldAt 106 v25 1) w26 fun v27 w28 =>
  RUN Try.prog (pan R) (Instr.loadAt 3 v27) w28 fun v29 w30 =>
  b8 R C6 v29 x10 w30
def b7_2 (R : Ending → World → Prop) (C6 : Value → Value → World → Prop) (x0 x4 x8 x10 : Value) (w2 : World) (_r : Tok R := tok R) (_C6 : Tok C6 := tok C6) : Prop :=
  RUN Try.prog (pan R) (Instr.indexAt 24 x8 x10) w2 fun v3 w4 =>
  RUN Try.prog (pan R) (Instr.loadAt 3 v3) w4 fun v5 w6 =>
  NILC x0 fun v7 =>
  RUN Try.prog (pan R) (Instr.fieldAt 102 v7 1) w6 fun v8 w9 =>
  RUN Try.prog (pan R) (Instr.fieldAt 27 v8 0) w9 fun v10 w11 =>
  RUN Try.prog (pan R) (Instr.loadAt 22 v10) w11 fun v12 w13 =>
  RUN Try.prog (pan R) (Builtin.len_ #[22] 3 #[v12]) w13 fun v14 w15 =>
  RUN Try.prog (pan R) (bins .lss 3 (.tmp 14) (.tmp 20) v5 v14) w15 fun v16 w17 =>
  SPL v16
  (b7_1 R C6 x0 x10 v5 w17)
  (b8 R C6 x4 x10 w17)
/- x0 p, x3 q, x4 own -/
def b7 (R : Ending → World → Prop) (C6 : Value → Value → World → Prop) (x0 x3 x4 x8 x9 x10 : Value) (w : World) (_r : Tok R := tok R) (_C6 : Tok C6 := tok C6) : Prop :=
  RUN Try.prog (pan R) (bins .lss 3 (.tmp 10) (.tmp 9) x10 x9) w fun v1 w2 =>
  SPL v1
  (b7_2 R C6 x0 x4 x8 x10 w2)
  (b3 R x0 x3 x4 w2)
abbrev q3 (R : Ending → World → Prop) (C6 : Value → Value → World → Prop) : Exit → Env → World → Prop := QX (fun ρ w => b8 R C6 (ρ 4) (ρ 10) w) (fun ρ w => R (.returned (.tuple #[])) w) [(0, (fun ρ w => b3 R (ρ 0) (ρ 3) (ρ 4) w))]
theorem b7_eq (R : Ending → World → Prop) (C6 : Value → Value → World → Prop) (ρ : Env) (w : World) : (b7 R C6 (ρ 0) (ρ 3) (ρ 4) (ρ 8) (ρ 9) (ρ 10) w) = codeP Try.prog (pan R) (preC 2 p3) (q3 R C6) ρ w := by kernel_rfl
theorem b7_ok (R : Ending → World → Prop) (C6 : Value → Value → World → Prop) (ρ : Env) (w : World) (h : b7 R C6 (ρ 0) (ρ 3) (ρ 4) (ρ 8) (ρ 9) (ρ 10) w) : codeP Try.prog (pan R) p3 (q2 R C6) ρ w := by
  have e : appC 2 (preC 2 p3) (dropC 3 p3) = p3 := by kernel_rfl
  rw [← e]
  exact appQ (fun ρ w => b8 R C6 (ρ 4) (ρ 10) w) 2 ((b7_eq R C6 ρ w).mp h) (fun ρ w h => b8_ok R C6 ρ w h)
/- x0 p, x3 q, x4 own -/
def l6 (R : Ending → World → Prop) (x0 x3 x4 x8 x9 x10 : Value) (w : World) (_r : Tok R := tok R) : Prop :=
  ∃ (J : Value → Value → World → Prop) (μ : Value → Value → World → Nat), J x4 x10 w ∧ ∀ y4 y10 w0, J y4 y10 w0 → b7 R (fun z4 z10 w1 => J z4 z10 w1 ∧ μ z4 z10 w1 < μ y4 y10 w0) x0 x3 y4 x8 x9 y10 w0
abbrev q4 (R : Ending → World → Prop) : Exit → Env → World → Prop := QX (fun ρ w => b3 R (ρ 0) (ρ 3) (ρ 4) w) (fun ρ w => R (.returned (.tuple #[])) w) [(0, (fun ρ w => b3 R (ρ 0) (ρ 3) (ρ 4) w))]
theorem l6_ok (R : Ending → World → Prop) (ρ : Env) (w : World) (h : l6 R (ρ 0) (ρ 3) (ρ 4) (ρ 8) (ρ 9) (ρ 10) w) : codeP Try.prog (pan R) (blkC p2) (q4 R) ρ w := by
  unfold l6 at h
  obtain ⟨J, μ, h0, hr⟩ := h
  have e : Code.loop (loopC (blkC p2)) = (blkC p2) := by kernel_rfl
  rw [← e]
  refine loopQ (fun ρ' w' => J (ρ' 4) (ρ' 10) w') (fun ρ' w' => μ (ρ' 4) (ρ' 10) w') h0 fun ρ' w' hA hI => ?_
  have e0 : ρ' 0 = ρ 0 := Agree.at hA 0 (by kernel_rfl)
  have e3 : ρ' 3 = ρ 3 := Agree.at hA 3 (by kernel_rfl)
  have e8 : ρ' 8 = ρ 8 := Agree.at hA 8 (by kernel_rfl)
  have e9 : ρ' 9 = ρ 9 := Agree.at hA 9 (by kernel_rfl)
  have h1 := hr (ρ' 4) (ρ' 10) w' hI
  rw [← e0, ← e3, ← e8, ← e9] at h1
  exact b7_ok R (fun z4 z10 w1 => J z4 z10 w1 ∧ μ z4 z10 w1 < μ (ρ' 4) (ρ' 10) w') ρ' w' h1
theorem l6_intro (R : Ending → World → Prop) (x0 x3 x4 x8 x9 x10 : Value) (w : World) (J : Value → Value → World → Prop) (μ : Value → Value → World → Nat) (h0 : J x4 x10 w)
    (hr : ∀ y4 y10 w0, J y4 y10 w0 → ∀ C6 : Value → Value → World → Prop, (∀ z4 z10 w1, J z4 z10 w1 → μ z4 z10 w1 < μ y4 y10 w0 → C6 z4 z10 w1) → b7 R C6 x0 x3 y4 x8 x9 y10 w0) : l6 R x0 x3 x4 x8 x9 x10 w := by
  unfold l6
  exact ⟨J, μ, h0, fun y4 y10 w0 hJ => hr y4 y10 w0 hJ _ (fun z4 z10 w1 h1 h2 => ⟨h1, h2⟩)⟩
abbrev q5 (R : Ending → World → Prop) : Exit → Env → World → Prop := QX (fun ρ w => b3 R (ρ 0) (ρ 3) (ρ 4) w) (fun ρ w => R (.returned (.tuple #[])) w) []
theorem k5_ok (R : Ending → World → Prop) (ρ : Env) (w : World) (h : l6 R (ρ 0) (ρ 3) (ρ 4) (ρ 8) (ρ 9) (ρ 10) w) : codeP Try.prog (pan R) p2 (q5 R) ρ w := by
  have e : Code.block 0 (blkC p2) = p2 := by kernel_rfl
  rw [← e]
  exact blockQ (l6_ok R ρ w h)
/- x0 p, x3 q, x4 own -/
def b4 (R : Ending → World → Prop) (x0 x3 x4 : Value) (w : World) (_r : Tok R := tok R) : Prop :=
  RUN Try.prog (pan R) (Instr.fieldAt 47 x3 1) w fun v1 w2 =>
  RUN Try.prog (pan R) (Instr.loadAt 24 v1) w2 fun v3 w4 =>
  RUN Try.prog (pan R) (Builtin.len_ #[24] 3 #[v3]) w4 fun v5 w6 =>
  l6 R x0 x3 x4 v3 v5 (Go.Value.int Go.IntKind.i64 0) w6
abbrev q6 (R : Ending → World → Prop) : Exit → Env → World → Prop := QX (fun ρ w => l6 R (ρ 0) (ρ 3) (ρ 4) (ρ 8) (ρ 9) (ρ 10) w) (fun ρ w => R (.returned (.tuple #[])) w) []
theorem b4_eq (R : Ending → World → Prop) (ρ : Env) (w : World) : (b4 R (ρ 0) (ρ 3) (ρ 4) w) = codeP Try.prog (pan R) (preC 0 (fstC p1)) (q6 R) ρ w := by kernel_rfl
theorem b4_ok (R : Ending → World → Prop) (ρ : Env) (w : World) (h : b4 R (ρ 0) (ρ 3) (ρ 4) w) : codeP Try.prog (pan R) (fstC p1) (q5 R) ρ w := by
  have e : appC 0 (preC 0 (fstC p1)) (dropC 1 (fstC p1)) = (fstC p1) := by kernel_rfl
  rw [← e]
  exact appQ (fun ρ w => l6 R (ρ 0) (ρ 3) (ρ 4) (ρ 8) (ρ 9) (ρ 10) w) 0 ((b4_eq R ρ w).mp h) (fun ρ w h => k5_ok R ρ w h)
theorem k2_ok (R : Ending → World → Prop) (ρ : Env) (w : World) (h : b4 R (ρ 0) (ρ 3) (ρ 4) w) : codeP Try.prog (pan R) p1 (q1 R) ρ w := by
  have e : Code.seq (fstC p1) (sndC p1) = p1 := by kernel_rfl
  rw [← e]
  exact seqQ (fun ρ w => b3 R (ρ 0) (ρ 3) (ρ 4) w) (b4_ok R ρ w h) (fun ρ w h => b3_ok R ρ w h)
/- x0 p, x1 q -/
def b1 (R : Ending → World → Prop) (x0 x1 : Value) (w : World) (_r : Tok R := tok R) : Prop :=
  RUN Try.prog (pan R) (Instr.box 47 x1) w fun v1 w2 =>
  b4 R x0 v1 (Go.Value.int Go.IntKind.i64 0) w2
abbrev q7 (R : Ending → World → Prop) : Exit → Env → World → Prop := QX (fun ρ w => b4 R (ρ 0) (ρ 3) (ρ 4) w) (fun ρ w => R (.returned (.tuple #[])) w) []
theorem b1_eq (R : Ending → World → Prop) (ρ : Env) (w : World) : (b1 R (ρ 0) (ρ 1) w) = codeP Try.prog (pan R) (preC 1 code) (q7 R) ρ w := by kernel_rfl
theorem b1_ok (R : Ending → World → Prop) (ρ : Env) (w : World) (h : b1 R (ρ 0) (ρ 1) w) : codeP Try.prog (pan R) code (q1 R) ρ w := by
  have e : appC 1 (preC 1 code) (dropC 2 code) = code := by kernel_rfl
  rw [← e]
  exact appQ (fun ρ w => b4 R (ρ 0) (ρ 3) (ρ 4) w) 1 ((b1_eq R ρ w).mp h) (fun ρ w h => k2_ok R ρ w h)
/-- What is owed for a call. -/
def run (R : Ending → World → Prop) (a0 a1 : Value) (w : World) : Prop := b1 R a0 a1 w
theorem calls (R : Ending → World → Prop) (a0 a1 : Value) (w : World) (h : run R a0 a1 w) : Calls Try.prog id #[a0, a1] w R :=
  calls_of_0 (f := id) (fn := Try.f70) (c := code) (by kernel_rfl) Try.func70 (by kernel_rfl) (by kernel_rfl) (args := [a0, a1]) (Nat.le_of_ble_eq_true rfl) rfl (b1_ok R (envOf [a0, a1]) w h)
theorem enters : Enters Try.prog id := fun args w => Try.call70 args w
theorem ct {a0 a1 : Value} {w : World} {S : Value → World → Prop} (h : ∀ R : Ending → World → Prop, (∀ v w, S v w → R (.returned v) w) → run R a0 a1 w) : Ct Try.prog id #[a0, a1] w S :=
  Ct.intro enters fun R hR => calls R a0 a1 w (h R hR)
attribute [irreducible] b3_1 b3_2 b3_3 b3_4 b3 b8 b7_1 b7_2 b7 l6 b4 b1 run
attribute [go_sem] b3_1 b3_2 b3_3 b3_4 b3 b8 b7_1 b7_2 b7 b4 b1 run
end show_page_grade

/-! ### (*strings.Builder).Len -/
namespace strings_Builder_Len
noncomputable def code : Code := bodyOf Try.f71
/- x0 b -/
def b1 (R : Ending → World → Prop) (x0 : Value) (w : World) (_r : Tok R := tok R) : Prop :=
  NILC x0 fun v1 =>
  RUN Try.prog (pan R) (Instr.fieldAt 100 v1 1) w fun v2 w3 =>
  RUN Try.prog (pan R) (Instr.loadAt 98 v2) w3 fun v4 w5 =>
  RUN Try.prog (pan R) (Builtin.len_ #[98] 3 #[v4]) w5 fun v6 w7 =>
  R (.returned v6) w7
abbrev q1 (R : Ending → World → Prop) : Exit → Env → World → Prop := QX (fun ρ w => R (.returned (ρ 2)) w) (fun ρ w => R (.returned (ρ 2)) w) []
theorem b1_eq (R : Ending → World → Prop) (ρ : Env) (w : World) : (b1 R (ρ 0) w) = codeP Try.prog (pan R) code (q1 R) ρ w := by kernel_rfl
theorem b1_ok (R : Ending → World → Prop) (ρ : Env) (w : World) (h : b1 R (ρ 0) w) : codeP Try.prog (pan R) code (q1 R) ρ w := (b1_eq R ρ w).mp h
/-- What is owed for a call. -/
def run (R : Ending → World → Prop) (a0 : Value) (w : World) : Prop := b1 R a0 w
theorem calls (R : Ending → World → Prop) (a0 : Value) (w : World) (h : run R a0 w) : Calls Try.prog id #[a0] w R :=
  calls_of_t (f := id) (fn := Try.f71) (c := code) (by kernel_rfl) Try.func71 (by kernel_rfl) (by kernel_rfl) (args := [a0]) (Nat.le_of_ble_eq_true rfl) rfl (b1_ok R (envOf [a0]) w h)
theorem enters : Enters Try.prog id := fun args w => Try.call71 args w
theorem ct {a0 : Value} {w : World} {S : Value → World → Prop} (h : ∀ R : Ending → World → Prop, (∀ v w, S v w → R (.returned v) w) → run R a0 w) : Ct Try.prog id #[a0] w S :=
  Ct.intro enters fun R hR => calls R a0 w (h R hR)
attribute [irreducible] b1 run
attribute [go_sem] b1 run
end strings_Builder_Len

/-! ### (*strings.Builder).String -/
namespace strings_Builder_String
noncomputable def code : Code := bodyOf Try.f72
/- x0 b -/
def b1 (R : Ending → World → Prop) (x0 : Value) (w : World) (_r : Tok R := tok R) : Prop :=
  NILC x0 fun v1 =>
  PUR Try.prog (Instr.fieldAt 100 v1 1) fun v2 =>
  LD Try.prog (Instr.loadAt 98 v2) (World.drew w) fun v3 =>
  NILC x0 fun v4 =>
  PUR Try.prog (Instr.fieldAt 100 v4 1) fun v5 =>
  LD Try.prog (Instr.loadAt 98 v5) (World.drew w) fun v6 =>
  LD Try.prog (Builtin.len_ #[98] 3 #[v6]) (World.drew w) fun v7 =>
  RUN Try.prog (pan R) (Builtin.unsafeSliceData_ #[98] 155 #[v3]) (World.drew w) fun v8 w9 =>
  Sem.run Try.prog (Builtin.len_ #[98] 3 #[v6]) w9 = .ok v7 w9 ∧ (Sem.run Try.prog (Instr.loadAt 98 v5) w9 = .ok v6 w9 ∧ (RUN Try.prog (pan R) (Builtin.unsafeString_ #[155, 3] 9 #[v8, v7]) w9 fun v10 w11 =>
  R (.returned v10) w11))
abbrev q1 (R : Ending → World → Prop) : Exit → Env → World → Prop := QX (fun ρ w => R (.returned (ρ 2)) w) (fun ρ w => R (.returned (ρ 2)) w) []
theorem b1_eq (R : Ending → World → Prop) (ρ : Env) (w : World) : (b1 R (ρ 0) w) = codeP Try.prog (pan R) code (q1 R) ρ w := by kernel_rfl
theorem b1_ok (R : Ending → World → Prop) (ρ : Env) (w : World) (h : b1 R (ρ 0) w) : codeP Try.prog (pan R) code (q1 R) ρ w := (b1_eq R ρ w).mp h
/-- What is owed for a call. -/
def run (R : Ending → World → Prop) (a0 : Value) (w : World) : Prop := b1 R a0 w
theorem calls (R : Ending → World → Prop) (a0 : Value) (w : World) (h : run R a0 w) : Calls Try.prog id #[a0] w R :=
  calls_of_t (f := id) (fn := Try.f72) (c := code) (by kernel_rfl) Try.func72 (by kernel_rfl) (by kernel_rfl) (args := [a0]) (Nat.le_of_ble_eq_true rfl) rfl (b1_ok R (envOf [a0]) w h)
theorem enters : Enters Try.prog id := fun args w => Try.call72 args w
theorem ct {a0 : Value} {w : World} {S : Value → World → Prop} (h : ∀ R : Ending → World → Prop, (∀ v w, S v w → R (.returned v) w) → run R a0 w) : Ct Try.prog id #[a0] w S :=
  Ct.intro enters fun R hR => calls R a0 w (h R hR)
attribute [irreducible] b1 run
attribute [go_sem] b1 run
end strings_Builder_String

/-! ### presage/show.Row$1 -/
namespace show_Row_1
noncomputable def code : Code := bodyOf Try.f79
/- x0 s -/
def b1 (R : Ending → World → Prop) (x0 x1 : Value) (w : World) (_r : Tok R := tok R) : Prop :=
  RUN Try.prog (pan R) (Instr.loadAt 88 x1) w fun v1 w2 =>
  CALL Try.prog (pan R) show_page_isSymbol.id #[v1, x0] w2 fun v3 w4 =>
  RUN Try.prog (pan R) (Op.unary .not v3) w4 fun v5 w6 =>
  R (.returned v5) w6
abbrev q1 (R : Ending → World → Prop) : Exit → Env → World → Prop := QX (fun ρ w => R (.returned (ρ 3)) w) (fun ρ w => R (.returned (ρ 3)) w) []
theorem b1_eq (R : Ending → World → Prop) (ρ : Env) (w : World) : (b1 R (ρ 0) (ρ 1) w) = codeP Try.prog (pan R) code (q1 R) ρ w := by kernel_rfl
theorem b1_ok (R : Ending → World → Prop) (ρ : Env) (w : World) (h : b1 R (ρ 0) (ρ 1) w) : codeP Try.prog (pan R) code (q1 R) ρ w := (b1_eq R ρ w).mp h
/-- What is owed for a call. -/
def run (R : Ending → World → Prop) (a0 a1 : Value) (w : World) : Prop := b1 R a0 a1 w
theorem calls (R : Ending → World → Prop) (a0 a1 : Value) (w : World) (h : run R a0 a1 w) : Calls Try.prog id #[a0, a1] w R :=
  calls_of_t (f := id) (fn := Try.f79) (c := code) (by kernel_rfl) Try.func79 (by kernel_rfl) (by kernel_rfl) (args := [a0, a1]) (Nat.le_of_ble_eq_true rfl) rfl (b1_ok R (envOf [a0, a1]) w h)
theorem enters : Enters Try.prog id := fun args w => Try.call79 args w
theorem ct {a0 a1 : Value} {w : World} {S : Value → World → Prop} (h : ∀ R : Ending → World → Prop, (∀ v w, S v w → R (.returned v) w) → run R a0 a1 w) : Ct Try.prog id #[a0, a1] w S :=
  Ct.intro enters fun R hR => calls R a0 a1 w (h R hR)
attribute [irreducible] b1 run
attribute [go_sem] b1 run
end show_Row_1

/-! ### (*presage/show.page).isSymbol -/
namespace show_page_isSymbol
noncomputable def code : Code := bodyOf Try.f80
def b1_1 (R : Ending → World → Prop) (x0 x1 : Value) (w : World) (_r : Tok R := tok R) : Prop :=
  NILC x0 fun v2 =>
  PUR Try.prog (Instr.fieldAt 102 v2 1) fun v3 =>
  PUR Try.prog (Instr.fieldAt 27 v3 0) fun v4 =>
  LD Try.prog (Instr.loadAt 22 v4) (World.drew w) fun v5 =>
  LD Try.prog (Builtin.len_ #[22] 3 #[v5]) (World.drew w) fun v6 =>
  NILC x0 fun v7 =>
  PUR Try.prog (Instr.fieldAt 102 v7 1) fun v8 =>
  PUR Try.prog (Instr.fieldAt 27 v8 1) fun v9 =>
  LD Try.prog (Instr.loadAt 23 v9) (World.drew w) fun v10 =>
  LD Try.prog (Builtin.len_ #[23] 3 #[v10]) (World.drew w) fun v11 =>
  PUR Try.prog (bins .add 3 (.tmp 14) (.tmp 20) v6 v11) fun v12 =>
  PUR Try.prog (bins .lss 3 (.tmp 8) (.tmp 21) x1 v12) fun v13 =>
  R (.returned v13) (World.drew w)
/- x0 p, x1 s -/
def b1 (R : Ending → World → Prop) (x0 x1 : Value) (w : World) (_r : Tok R := tok R) : Prop :=
  PUR Try.prog (bins .leq 3 (.const (Go.Value.int Go.IntKind.i64 0)) (.tmp 5) (Go.Value.int Go.IntKind.i64 0) x1) fun v1 =>
  SPL v1
  (b1_1 R x0 x1 w)
  (R (.returned (Go.Value.bool Bool.false)) (World.drew w))
abbrev q1 (R : Ending → World → Prop) : Exit → Env → World → Prop := QX (fun ρ w => R (.returned (ρ 4)) w) (fun ρ w => R (.returned (ρ 4)) w) []
theorem b1_eq (R : Ending → World → Prop) (ρ : Env) (w : World) : (b1 R (ρ 0) (ρ 1) w) = codeP Try.prog (pan R) code (q1 R) ρ w := by kernel_rfl
theorem b1_ok (R : Ending → World → Prop) (ρ : Env) (w : World) (h : b1 R (ρ 0) (ρ 1) w) : codeP Try.prog (pan R) code (q1 R) ρ w := (b1_eq R ρ w).mp h
/-- What is owed for a call. -/
def run (R : Ending → World → Prop) (a0 a1 : Value) (w : World) : Prop := b1 R a0 a1 w
theorem calls (R : Ending → World → Prop) (a0 a1 : Value) (w : World) (h : run R a0 a1 w) : Calls Try.prog id #[a0, a1] w R :=
  calls_of_t (f := id) (fn := Try.f80) (c := code) (by kernel_rfl) Try.func80 (by kernel_rfl) (by kernel_rfl) (args := [a0, a1]) (Nat.le_of_ble_eq_true rfl) rfl (b1_ok R (envOf [a0, a1]) w h)
theorem enters : Enters Try.prog id := fun args w => Try.call80 args w
theorem ct {a0 a1 : Value} {w : World} {S : Value → World → Prop} (h : ∀ R : Ending → World → Prop, (∀ v w, S v w → R (.returned v) w) → run R a0 a1 w) : Ct Try.prog id #[a0, a1] w S :=
  Ct.intro enters fun R hR => calls R a0 a1 w (h R hR)
attribute [irreducible] b1_1 b1 run
attribute [go_sem] b1_1 b1 run
end show_page_isSymbol

/-! ### (*presage/show.page).names -/
namespace show_page_names
noncomputable def code : Code := bodyOf Try.f81
noncomputable abbrev p1 : Code := dropC 1 code
noncomputable abbrev p2 : Code := loopC (blkC p1)
def b4_1 (R : Ending → World → Prop) (C3 : Value → World → Prop) (x0 x8 v7 : Value) (w8 : World) (_r : Tok R := tok R) (_C3 : Tok C3 := tok C3) : Prop :=
  RUN Try.prog (pan R) (Instr.buildSlice 23 1 #[(0, v7)]) w8 fun v9 w10 =>
  CALL Try.prog (pan R) show_page_words.id #[x0, v9] w10 fun v11 w12 =>
  RUN Try.prog (pan R) (bins .add 3 (.tmp 8) (.const (Go.Value.int Go.IntKind.i64 1)) x8 (Go.Value.int Go.IntKind.i64 1)) w12 fun v13 w14 =>
  C3 v13 w14
def b4_2 (R : Ending → World → Prop) (C3 : Value → World → Prop) (x0 x6 x8 : Value) (w2 : World) (_r : Tok R := tok R) (_C3 : Tok C3 := tok C3) : Prop :=
  RUN Try.prog (pan R) (Instr.indexAt 24 x6 x8) w2 fun v3 w4 =>
  RUN Try.prog (pan R) (Instr.loadAt 3 v3) w4 fun v5 w6 =>
  CALL Try.prog (pan R) show_page_name.id #[x0, v5] w6 fun v7 w8 =>
  b4_1 R C3 x0 x8 v7 w8
/- x0 p -/
def b4 (R : Ending → World → Prop) (C3 : Value → World → Prop) (x0 x6 x7 x8 : Value) (w : World) (_r : Tok R := tok R) (_C3 : Tok C3 := tok C3) : Prop :=
  RUN Try.prog (pan R) (bins .lss 3 (.tmp 8) (.tmp 7) x8 x7) w fun v1 w2 =>
  SPL v1
  (b4_2 R C3 x0 x6 x8 w2)
  (R (.returned (.tuple #[])) w2)
abbrev q1 (R : Ending → World → Prop) (C3 : Value → World → Prop) : Exit → Env → World → Prop := QX (fun ρ w => C3 (ρ 8) w) (fun ρ w => R (.returned (.tuple #[])) w) [(0, (fun ρ w => R (.returned (.tuple #[])) w))]
theorem b4_eq (R : Ending → World → Prop) (C3 : Value → World → Prop) (ρ : Env) (w : World) : (b4 R C3 (ρ 0) (ρ 6) (ρ 7) (ρ 8) w) = codeP Try.prog (pan R) p2 (q1 R C3) ρ w := by kernel_rfl
theorem b4_ok (R : Ending → World → Prop) (C3 : Value → World → Prop) (ρ : Env) (w : World) (h : b4 R C3 (ρ 0) (ρ 6) (ρ 7) (ρ 8) w) : codeP Try.prog (pan R) p2 (q1 R C3) ρ w := (b4_eq R C3 ρ w).mp h
/- x0 p -/
def l3 (R : Ending → World → Prop) (x0 x6 x7 x8 : Value) (w : World) (_r : Tok R := tok R) : Prop :=
  ∃ (J : Value → World → Prop) (μ : Value → World → Nat), J x8 w ∧ ∀ y8 w0, J y8 w0 → b4 R (fun z8 w1 => J z8 w1 ∧ μ z8 w1 < μ y8 w0) x0 x6 x7 y8 w0
abbrev q2 (R : Ending → World → Prop) : Exit → Env → World → Prop := QX (fun ρ w => R (.returned (.tuple #[])) w) (fun ρ w => R (.returned (.tuple #[])) w) [(0, (fun ρ w => R (.returned (.tuple #[])) w))]
theorem l3_ok (R : Ending → World → Prop) (ρ : Env) (w : World) (h : l3 R (ρ 0) (ρ 6) (ρ 7) (ρ 8) w) : codeP Try.prog (pan R) (blkC p1) (q2 R) ρ w := by
  unfold l3 at h
  obtain ⟨J, μ, h0, hr⟩ := h
  have e : Code.loop (loopC (blkC p1)) = (blkC p1) := by kernel_rfl
  rw [← e]
  refine loopQ (fun ρ' w' => J (ρ' 8) w') (fun ρ' w' => μ (ρ' 8) w') h0 fun ρ' w' hA hI => ?_
  have e0 : ρ' 0 = ρ 0 := Agree.at hA 0 (by kernel_rfl)
  have e6 : ρ' 6 = ρ 6 := Agree.at hA 6 (by kernel_rfl)
  have e7 : ρ' 7 = ρ 7 := Agree.at hA 7 (by kernel_rfl)
  have h1 := hr (ρ' 8) w' hI
  rw [← e0, ← e6, ← e7] at h1
  exact b4_ok R (fun z8 w1 => J z8 w1 ∧ μ z8 w1 < μ (ρ' 8) w') ρ' w' h1
theorem l3_intro (R : Ending → World → Prop) (x0 x6 x7 x8 : Value) (w : World) (J : Value → World → Prop) (μ : Value → World → Nat) (h0 : J x8 w)
    (hr : ∀ y8 w0, J y8 w0 → ∀ C3 : Value → World → Prop, (∀ z8 w1, J z8 w1 → μ z8 w1 < μ y8 w0 → C3 z8 w1) → b4 R C3 x0 x6 x7 y8 w0) : l3 R x0 x6 x7 x8 w := by
  unfold l3
  exact ⟨J, μ, h0, fun y8 w0 hJ => hr y8 w0 hJ _ (fun z8 w1 h1 h2 => ⟨h1, h2⟩)⟩
abbrev q3 (R : Ending → World → Prop) : Exit → Env → World → Prop := QX (fun ρ w => R (.returned (.tuple #[])) w) (fun ρ w => R (.returned (.tuple #[])) w) []
theorem k2_ok (R : Ending → World → Prop) (ρ : Env) (w : World) (h : l3 R (ρ 0) (ρ 6) (ρ 7) (ρ 8) w) : codeP Try.prog (pan R) p1 (q3 R) ρ w := by
  have e : Code.block 0 (blkC p1) = p1 := by kernel_rfl
  rw [← e]
  exact blockQ (l3_ok R ρ w h)
/- x0 p, x1 syms -/
def b1 (R : Ending → World → Prop) (x0 x1 : Value) (w : World) (_r : Tok R := tok R) : Prop :=
  RUN Try.prog (pan R) (Builtin.len_ #[24] 3 #[x1]) w fun v1 w2 =>
  l3 R x0 x1 v1 (Go.Value.int Go.IntKind.i64 0) w2
abbrev q4 (R : Ending → World → Prop) : Exit → Env → World → Prop := QX (fun ρ w => l3 R (ρ 0) (ρ 6) (ρ 7) (ρ 8) w) (fun ρ w => R (.returned (.tuple #[])) w) []
theorem b1_eq (R : Ending → World → Prop) (ρ : Env) (w : World) : (b1 R (ρ 0) (ρ 1) w) = codeP Try.prog (pan R) (preC 0 code) (q4 R) ρ w := by kernel_rfl
theorem b1_ok (R : Ending → World → Prop) (ρ : Env) (w : World) (h : b1 R (ρ 0) (ρ 1) w) : codeP Try.prog (pan R) code (q3 R) ρ w := by
  have e : appC 0 (preC 0 code) (dropC 1 code) = code := by kernel_rfl
  rw [← e]
  exact appQ (fun ρ w => l3 R (ρ 0) (ρ 6) (ρ 7) (ρ 8) w) 0 ((b1_eq R ρ w).mp h) (fun ρ w h => k2_ok R ρ w h)
/-- What is owed for a call. -/
def run (R : Ending → World → Prop) (a0 a1 : Value) (w : World) : Prop := b1 R a0 a1 w
theorem calls (R : Ending → World → Prop) (a0 a1 : Value) (w : World) (h : run R a0 a1 w) : Calls Try.prog id #[a0, a1] w R :=
  calls_of_0 (f := id) (fn := Try.f81) (c := code) (by kernel_rfl) Try.func81 (by kernel_rfl) (by kernel_rfl) (args := [a0, a1]) (Nat.le_of_ble_eq_true rfl) rfl (b1_ok R (envOf [a0, a1]) w h)
theorem enters : Enters Try.prog id := fun args w => Try.call81 args w
theorem ct {a0 a1 : Value} {w : World} {S : Value → World → Prop} (h : ∀ R : Ending → World → Prop, (∀ v w, S v w → R (.returned v) w) → run R a0 a1 w) : Ct Try.prog id #[a0, a1] w S :=
  Ct.intro enters fun R hR => calls R a0 a1 w (h R hR)
attribute [irreducible] b4_1 b4_2 b4 l3 b1 run
attribute [go_sem] b4_1 b4_2 b4 b1 run
end show_page_names

/-! ### strings.TrimPrefix -/
namespace strings_TrimPrefix
noncomputable def code : Code := bodyOf Try.f82
/- x0 s, x1 prefix -/
def b1 (R : Ending → World → Prop) (x0 x1 : Value) (w : World) (_r : Tok R := tok R) : Prop :=
  CALL Try.prog (pan R) internal_stringslite_TrimPrefix.id #[x0, x1] w fun v1 w2 =>
  R (.returned v1) w2
abbrev q1 (R : Ending → World → Prop) : Exit → Env → World → Prop := QX (fun ρ w => R (.returned (ρ 4)) w) (fun ρ w => R (.returned (ρ 4)) w) []
theorem b1_eq (R : Ending → World → Prop) (ρ : Env) (w : World) : (b1 R (ρ 0) (ρ 1) w) = codeP Try.prog (pan R) code (q1 R) ρ w := by kernel_rfl
theorem b1_ok (R : Ending → World → Prop) (ρ : Env) (w : World) (h : b1 R (ρ 0) (ρ 1) w) : codeP Try.prog (pan R) code (q1 R) ρ w := (b1_eq R ρ w).mp h
/-- What is owed for a call. -/
def run (R : Ending → World → Prop) (a0 a1 : Value) (w : World) : Prop := b1 R a0 a1 w
theorem calls (R : Ending → World → Prop) (a0 a1 : Value) (w : World) (h : run R a0 a1 w) : Calls Try.prog id #[a0, a1] w R :=
  calls_of_t (f := id) (fn := Try.f82) (c := code) (by kernel_rfl) Try.func82 (by kernel_rfl) (by kernel_rfl) (args := [a0, a1]) (Nat.le_of_ble_eq_true rfl) rfl (b1_ok R (envOf [a0, a1]) w h)
theorem enters : Enters Try.prog id := fun args w => Try.call82 args w
theorem ct {a0 a1 : Value} {w : World} {S : Value → World → Prop} (h : ∀ R : Ending → World → Prop, (∀ v w, S v w → R (.returned v) w) → run R a0 a1 w) : Ct Try.prog id #[a0, a1] w S :=
  Ct.intro enters fun R hR => calls R a0 a1 w (h R hR)
attribute [irreducible] b1 run
attribute [go_sem] b1 run
end strings_TrimPrefix

/-! ### presage/show.rule -/
namespace show_rule
noncomputable def code : Code := bodyOf Try.f83
noncomputable abbrev p1 : Code := dropC 2 code
noncomputable abbrev p2 : Code := dropC 2 (sndC p1)
noncomputable abbrev p3 : Code := dropC 1 p2
def b5_1 (R : Ending → World → Prop) (x8 : Value) (w10 : World) (_r : Tok R := tok R) : Prop :=
  NILC x8 fun v11 =>
  RUN Try.prog (pan R) (Instr.fieldAt 102 v11 0) w10 fun v12 w13 =>
  CALL Try.prog (pan R) strings_Builder_String.id #[v12] w13 fun v14 w15 =>
  R (.returned (.tuple #[v14, (Go.Value.int Go.IntKind.i64 0)])) w15

def b5 (R : Ending → World → Prop) (x2 x8 x10 : Value) (w : World) (_r : Tok R := tok R) : Prop :=
  RUN Try.prog (pan R) (Instr.fieldAt 47 x10 1) w fun v1 w2 =>
  RUN Try.prog (pan R) (Instr.loadAt 24 v1) w2 fun v3 w4 =>
  RUN Try.prog (pan R) (Builtin.max_ #[3, 3] 3 #[x2, (Go.Value.int Go.IntKind.i64 0)]) w4 fun v5 w6 =>
  RUN Try.prog (pan R) (Instr.sliceAt 24 v3 (some v5) none none) w6 fun v7 w8 =>
  CALL Try.prog (pan R) show_page_names.id #[x8, v7] w8 fun v9 w10 =>
  b5_1 R x8 w10
abbrev q1 (R : Ending → World → Prop) : Exit → Env → World → Prop := QX (fun ρ w => R (.returned (.tuple #[(ρ 6), (ρ 7)])) w) (fun ρ w => R (.returned (.tuple #[(ρ 6), (ρ 7)])) w) []
theorem b5_eq (R : Ending → World → Prop) (ρ : Env) (w : World) : (b5 R (ρ 2) (ρ 8) (ρ 10) w) = codeP Try.prog (pan R) p3 (q1 R) ρ w := by kernel_rfl
theorem b5_ok (R : Ending → World → Prop) (ρ : Env) (w : World) (h : b5 R (ρ 2) (ρ 8) (ρ 10) w) : codeP Try.prog (pan R) p3 (q1 R) ρ w := (b5_eq R ρ w).mp h
def b4_1 (R : Ending → World → Prop) (x2 x8 x10 : Value) (w2 : World) (_r : Tok R := tok R) : Prop :=
  RUN Try.prog (pan R) (Instr.buildSlice 23 1 #[(0, (Go.Value.string { data := #[46] }))]) w2 fun v3 w4 =>
  CALL Try.prog (pan R) show_page_words.id #[x8, v3] w4 fun v5 w6 =>
  b5 R x2 x8 x10 w6

def b4 (R : Ending → World → Prop) (x2 x8 x10 : Value) (w : World) (_r : Tok R := tok R) : Prop :=
  RUN Try.prog (pan R) (bins .geq 3 (.tmp 57) (.const (Go.Value.int Go.IntKind.i64 0)) x2 (Go.Value.int Go.IntKind.i64 0)) w fun v1 w2 =>
  SPL v1
  (b4_1 R x2 x8 x10 w2)
  (b5 R x2 x8 x10 w2)
abbrev q2 (R : Ending → World → Prop) : Exit → Env → World → Prop := QX (fun ρ w => b5 R (ρ 2) (ρ 8) (ρ 10) w) (fun ρ w => R (.returned (.tuple #[(ρ 6), (ρ 7)])) w) []
theorem b4_eq (R : Ending → World → Prop) (ρ : Env) (w : World) : (b4 R (ρ 2) (ρ 8) (ρ 10) w) = codeP Try.prog (pan R) (preC 0 p2) (q2 R) ρ w := by kernel_rfl
theorem b4_ok (R : Ending → World → Prop) (ρ : Env) (w : World) (h : b4 R (ρ 2) (ρ 8) (ρ 10) w) : codeP Try.prog (pan R) p2 (q1 R) ρ w := by
  have e : appC 0 (preC 0 p2) (dropC 1 p2) = p2 := by kernel_rfl
  rw [← e]
  exact appQ (fun ρ w => b5 R (ρ 2) (ρ 8) (ρ 10) w) 0 ((b4_eq R ρ w).mp h) (fun ρ w h => b5_ok R ρ w h)
def b3_1 (R : Ending → World → Prop) (x2 x8 v9 v14 v15 v16 : Value) (w17 : World) (_r : Tok R := tok R) : Prop :=
  Sem.run Try.prog (Instr.loadAt 24 v14) w17 = .ok v15 w17 ∧ (PUR Try.prog (bins .add 9 (.tmp 49) (.const (Go.Value.string { data := #[32, 45, 62] })) v16 (Go.Value.string { data := #[32, 45, 62] })) fun v18 =>
  RUN Try.prog (pan R) (Builtin.max_ #[3, 3] 3 #[x2, (Go.Value.int Go.IntKind.i64 0)]) w17 fun v19 w20 =>
  Sem.run Try.prog (Instr.loadAt 24 v14) w20 = .ok v15 w20 ∧ (PUR Try.prog (Instr.sliceAt 24 v15 none (some v19) none) fun v21 =>
  CALL Try.prog (pan R) show_page_line.id #[x8, v18, v21] w20 fun v22 w23 =>
  b4 R x2 x8 v9 w23))
def b3_2 (R : Ending → World → Prop) (x2 x8 v9 v14 v15 v26 v27 : Value) (w28 : World) (_r : Tok R := tok R) : Prop :=
  Sem.run Try.prog (Instr.loadAt 24 v14) w28 = .ok v15 w28 ∧ (PUR Try.prog (bins .add 9 (.tmp 49) (.const (Go.Value.string { data := #[32, 45, 62] })) v27 (Go.Value.string { data := #[32, 45, 62] })) fun v29 =>
  CALL Try.prog (pan R) show_page_line.id #[x8, v29, v26] w28 fun v30 w31 =>
  b4 R x2 x8 v9 w31)

def b3 (R : Ending → World → Prop) (x1 x2 x3 x8 : Value) (w : World) (_r : Tok R := tok R) : Prop :=
  RUN Try.prog (pan R) (Instr.fieldAt 27 x3 4) w fun v1 w2 =>
  RUN Try.prog (pan R) (Instr.loadAt 25 v1) w2 fun v3 w4 =>
  RUN Try.prog (pan R) (Instr.indexAt 25 v3 x1) w4 fun v5 w6 =>
  RUN Try.prog (pan R) (Instr.loadAt 47 v5) w6 fun v7 w8 =>
  RUN Try.prog (pan R) (Instr.alloc 47 true (.tuple #[])) w8 fun v9 w10 =>
  RUNU Try.prog (pan R) (Instr.storeAt 47 v9 v7) w10 fun w11 =>
  PUR Try.prog (Instr.fieldAt 47 v9 0) fun v12 =>
  LD Try.prog (Instr.loadAt 3 v12) (World.drew w11) fun v13 =>
  PUR Try.prog (Instr.fieldAt 47 v9 1) fun v14 =>
  LD Try.prog (Instr.loadAt 24 v14) (World.drew w11) fun v15 =>
  (CALL Try.prog (pan R) show_page_name.id #[x8, v13] (World.drew w11) fun v16 w17 =>
  b3_1 R x2 x8 v9 v14 v15 v16 w17) ∧
  (RUN Try.prog (pan R) (Builtin.max_ #[3, 3] 3 #[x2, (Go.Value.int Go.IntKind.i64 0)]) (World.drew w11) fun v24 w25 =>
  Sem.run Try.prog (Instr.loadAt 24 v14) w25 = .ok v15 w25 ∧ (Sem.run Try.prog (Instr.loadAt 3 v12) w25 = .ok v13 w25 ∧ (PUR Try.prog (Instr.sliceAt 24 v15 none (some v24) none) fun v26 =>
  CALL Try.prog (pan R) show_page_name.id #[x8, v13] w25 fun v27 w28 =>
  b3_2 R x2 x8 v9 v14 v15 v26 v27 w28)))
abbrev q3 (R : Ending → World → Prop) : Exit → Env → World → Prop := QX (fun ρ w => b4 R (ρ 2) (ρ 8) (ρ 10) w) (fun ρ w => R (.returned (.tuple #[(ρ 6), (ρ 7)])) w) []
theorem b3_eq (R : Ending → World → Prop) (ρ : Env) (w : World) : (b3 R (ρ 1) (ρ 2) (ρ 3) (ρ 8) w) = codeP Try.prog (pan R) (preC 1 (sndC p1)) (q3 R) ρ w := by kernel_rfl
theorem b3_ok (R : Ending → World → Prop) (ρ : Env) (w : World) (h : b3 R (ρ 1) (ρ 2) (ρ 3) (ρ 8) w) : codeP Try.prog (pan R) (sndC p1) (q1 R) ρ w := by
  have e : appC 1 (preC 1 (sndC p1)) (dropC 2 (sndC p1)) = (sndC p1) := by kernel_rfl
  rw [← e]
  exact appQ (fun ρ w => b4 R (ρ 2) (ρ 8) (ρ 10) w) 1 ((b3_eq R ρ w).mp h) (fun ρ w h => b4_ok R ρ w h)
noncomputable abbrev p4 : Code := dropC 1 (fstC p1)

def b7 (R : Ending → World → Prop) (x1 x2 x3 x8 x39 : Value) (w : World) (_r : Tok R := tok R) : Prop :=
  SPL x39
  (R (.returned (.tuple #[(Go.Value.string { data := #[] }), (Go.Value.int Go.IntKind.i64 1)])) w)
  (b3 R x1 x2 x3 x8 w)
abbrev q4 (R : Ending → World → Prop) : Exit → Env → World → Prop := QX (fun ρ w => b3 R (ρ 1) (ρ 2) (ρ 3) (ρ 8) w) (fun ρ w => R (.returned (.tuple #[(ρ 6), (ρ 7)])) w) []
theorem b7_eq (R : Ending → World → Prop) (ρ : Env) (w : World) : (b7 R (ρ 1) (ρ 2) (ρ 3) (ρ 8) (ρ 39) w) = codeP Try.prog (pan R) p4 (q4 R) ρ w := by kernel_rfl
theorem b7_ok (R : Ending → World → Prop) (ρ : Env) (w : World) (h : b7 R (ρ 1) (ρ 2) (ρ 3) (ρ 8) (ρ 39) w) : codeP Try.prog (pan R) p4 (q4 R) ρ w := (b7_eq R ρ w).mp h
def b6_1 (R : Ending → World → Prop) (x1 x2 x3 x8 : Value) (w12 : World) (_r : Tok R := tok R) : Prop :=
  RUN Try.prog (pan R) (Instr.fieldAt 27 x3 4) w12 fun v13 w14 =>
  RUN Try.prog (pan R) (Instr.loadAt 25 v13) w14 fun v15 w16 =>
  RUN Try.prog (pan R) (Instr.indexAt 25 v15 x1) w16 fun v17 w18 =>
  RUN Try.prog (pan R) (Instr.fieldAt 47 v17 1) w18 fun v19 w20 =>
  RUN Try.prog (pan R) (Instr.loadAt 24 v19) w20 fun v21 w22 =>
  RUN Try.prog (pan R) (Builtin.len_ #[24] 3 #[v21]) w22 fun v23 w24 =>
  RUN Try.prog (pan R) (bins .gtr 3 (.tmp 30) (.tmp 37) x2 v23) w24 fun v25 w26 =>
  b7 R x1 x2 x3 x8 v25 w26
def b6_2 (R : Ending → World → Prop) (x1 x2 x3 x8 : Value) (w4 : World) (_r : Tok R := tok R) : Prop :=
  RUN Try.prog (pan R) (Instr.fieldAt 27 x3 4) w4 fun v5 w6 =>
  RUN Try.prog (pan R) (Instr.loadAt 25 v5) w6 fun v7 w8 =>
  RUN Try.prog (pan R) (Builtin.len_ #[25] 3 #[v7]) w8 fun v9 w10 =>
  RUN Try.prog (pan R) (bins .geq 3 (.tmp 23) (.tmp 26) x1 v9) w10 fun v11 w12 =>
  SPL v11
  (b7 R x1 x2 x3 x8 (Go.Value.bool Bool.true) w12)
  (b6_1 R x1 x2 x3 x8 w12)

def b6 (R : Ending → World → Prop) (x1 x2 x3 x8 x9 : Value) (w : World) (_r : Tok R := tok R) : Prop :=
  RUN Try.prog (pan R) (Op.unary .not x9) w fun v1 w2 =>
  SPL v1
  (b7 R x1 x2 x3 x8 (Go.Value.bool Bool.true) w2)
  (RUN Try.prog (pan R) (bins .lss 3 (.tmp 19) (.const (Go.Value.int Go.IntKind.i64 0)) x1 (Go.Value.int Go.IntKind.i64 0)) w2 fun v3 w4 =>
  SPL v3
  (b7 R x1 x2 x3 x8 (Go.Value.bool Bool.true) w4)
  (b6_2 R x1 x2 x3 x8 w4))
abbrev q5 (R : Ending → World → Prop) : Exit → Env → World → Prop := QX (fun ρ w => b7 R (ρ 1) (ρ 2) (ρ 3) (ρ 8) (ρ 39) w) (fun ρ w => R (.returned (.tuple #[(ρ 6), (ρ 7)])) w) []
theorem b6_eq (R : Ending → World → Prop) (ρ : Env) (w : World) : (b6 R (ρ 1) (ρ 2) (ρ 3) (ρ 8) (ρ 9) w) = codeP Try.prog (pan R) (preC 0 (fstC p1)) (q5 R) ρ w := by kernel_rfl
theorem b6_ok (R : Ending → World → Prop) (ρ : Env) (w : World) (h : b6 R (ρ 1) (ρ 2) (ρ 3) (ρ 8) (ρ 9) w) : codeP Try.prog (pan R) (fstC p1) (q4 R) ρ w := by
  have e : appC 0 (preC 0 (fstC p1)) (dropC 1 (fstC p1)) = (fstC p1) := by kernel_rfl
  rw [← e]
  exact appQ (fun ρ w => b7 R (ρ 1) (ρ 2) (ρ 3) (ρ 8) (ρ 39) w) 0 ((b6_eq R ρ w).mp h) (fun ρ w h => b7_ok R ρ w h)
theorem k2_ok (R : Ending → World → Prop) (ρ : Env) (w : World) (h : b6 R (ρ 1) (ρ 2) (ρ 3) (ρ 8) (ρ 9) w) : codeP Try.prog (pan R) p1 (q1 R) ρ w := by
  have e : Code.seq (fstC p1) (sndC p1) = p1 := by kernel_rfl
  rw [← e]
  exact seqQ (fun ρ w => b3 R (ρ 1) (ρ 2) (ρ 3) (ρ 8) w) (b6_ok R ρ w h) (fun ρ w h => b3_ok R ρ w h)
def b1_1 (R : Ending → World → Prop) (x1 x2 v1 v5 : Value) (w6 : World) (_r : Tok R := tok R) : Prop :=
  RUN Try.prog (pan R) (Instr.extract v5 0) w6 fun v7 w8 =>
  RUN Try.prog (pan R) (Instr.extract v5 1) w8 fun v9 w10 =>
  b6 R x1 x2 v1 v7 v9 w10

def b1 (R : Ending → World → Prop) (x0 x1 x2 : Value) (w : World) (_r : Tok R := tok R) : Prop :=
  RUN Try.prog (pan R) (Instr.box 27 x0) w fun v1 w2 =>
  RUN Try.prog (pan R) (Instr.loadAt 27 v1) w2 fun v3 w4 =>
  CALL Try.prog (pan R) show_open.id #[v3] w4 fun v5 w6 =>
  b1_1 R x1 x2 v1 v5 w6
abbrev q6 (R : Ending → World → Prop) : Exit → Env → World → Prop := QX (fun ρ w => b6 R (ρ 1) (ρ 2) (ρ 3) (ρ 8) (ρ 9) w) (fun ρ w => R (.returned (.tuple #[(ρ 6), (ρ 7)])) w) []
theorem b1_eq (R : Ending → World → Prop) (ρ : Env) (w : World) : (b1 R (ρ 0) (ρ 1) (ρ 2) w) = codeP Try.prog (pan R) (preC 1 code) (q6 R) ρ w := by kernel_rfl
theorem b1_ok (R : Ending → World → Prop) (ρ : Env) (w : World) (h : b1 R (ρ 0) (ρ 1) (ρ 2) w) : codeP Try.prog (pan R) code (q1 R) ρ w := by
  have e : appC 1 (preC 1 code) (dropC 2 code) = code := by kernel_rfl
  rw [← e]
  exact appQ (fun ρ w => b6 R (ρ 1) (ρ 2) (ρ 3) (ρ 8) (ρ 9) w) 1 ((b1_eq R ρ w).mp h) (fun ρ w h => k2_ok R ρ w h)
/-- What is owed for a call. -/
def run (R : Ending → World → Prop) (a0 a1 a2 : Value) (w : World) : Prop := b1 R a0 a1 a2 w
theorem calls (R : Ending → World → Prop) (a0 a1 a2 : Value) (w : World) (h : run R a0 a1 a2 w) : Calls Try.prog id #[a0, a1, a2] w R :=
  calls_of_tt (f := id) (fn := Try.f83) (c := code) (by kernel_rfl) Try.func83 (by kernel_rfl) (by kernel_rfl) (args := [a0, a1, a2]) (Nat.le_of_ble_eq_true rfl) rfl (b1_ok R (envOf [a0, a1, a2]) w h)
theorem enters : Enters Try.prog id := fun args w => Try.call83 args w
theorem ct {a0 a1 a2 : Value} {w : World} {S : Value → World → Prop} (h : ∀ R : Ending → World → Prop, (∀ v w, S v w → R (.returned v) w) → run R a0 a1 a2 w) : Ct Try.prog id #[a0, a1, a2] w S :=
  Ct.intro enters fun R hR => calls R a0 a1 a2 w (h R hR)
attribute [irreducible] b5_1 b5 b4_1 b4 b3_1 b3_2 b3 b7 b6_1 b6_2 b6 b1_1 b1 run
attribute [go_sem] b5_1 b5 b4_1 b4 b3_1 b3_2 b3 b7 b6_1 b6_2 b6 b1_1 b1 run
end show_rule

/-! ### (*strings.Builder).WriteString -/
namespace strings_Builder_WriteString
noncomputable def code : Code := bodyOf Try.f95
def b1_1 (R : Ending → World → Prop) (x0 x1 : Value) (w2 : World) (_r : Tok R := tok R) : Prop :=
  NILC x0 fun v3 =>
  RUN Try.prog (pan R) (Instr.fieldAt 100 v3 1) w2 fun v4 w5 =>
  RUN Try.prog (pan R) (Instr.loadAt 98 v4) w5 fun v6 w7 =>
  RUN Try.prog (pan R) (Builtin.append_ #[98, 9] 98 #[v6, x1]) w7 fun v8 w9 =>
  NILC x0 fun v10 =>
  RUN Try.prog (pan R) (Instr.fieldAt 100 v10 1) w9 fun v11 w12 =>
  RUNU Try.prog (pan R) (Instr.storeAt 98 v11 v8) w12 fun w13 =>
  RUN Try.prog (pan R) (Builtin.len_ #[9] 3 #[x1]) w13 fun v14 w15 =>
  R (.returned (.tuple #[v14, Go.Value.nilIface])) w15
/- x0 b, x1 s -/
def b1 (R : Ending → World → Prop) (x0 x1 : Value) (w : World) (_r : Tok R := tok R) : Prop :=
  CALL Try.prog (pan R) strings_Builder_copyCheck.id #[x0] w fun v1 w2 =>
  b1_1 R x0 x1 w2
abbrev q1 (R : Ending → World → Prop) : Exit → Env → World → Prop := QX (fun ρ w => R (.returned (.tuple #[(ρ 4), (ρ 5)])) w) (fun ρ w => R (.returned (.tuple #[(ρ 4), (ρ 5)])) w) []
theorem b1_eq (R : Ending → World → Prop) (ρ : Env) (w : World) : (b1 R (ρ 0) (ρ 1) w) = codeP Try.prog (pan R) code (q1 R) ρ w := by kernel_rfl
theorem b1_ok (R : Ending → World → Prop) (ρ : Env) (w : World) (h : b1 R (ρ 0) (ρ 1) w) : codeP Try.prog (pan R) code (q1 R) ρ w := (b1_eq R ρ w).mp h
/-- What is owed for a call. -/
def run (R : Ending → World → Prop) (a0 a1 : Value) (w : World) : Prop := b1 R a0 a1 w
theorem calls (R : Ending → World → Prop) (a0 a1 : Value) (w : World) (h : run R a0 a1 w) : Calls Try.prog id #[a0, a1] w R :=
  calls_of_tt (f := id) (fn := Try.f95) (c := code) (by kernel_rfl) Try.func95 (by kernel_rfl) (by kernel_rfl) (args := [a0, a1]) (Nat.le_of_ble_eq_true rfl) rfl (b1_ok R (envOf [a0, a1]) w h)
theorem enters : Enters Try.prog id := fun args w => Try.call95 args w
theorem ct {a0 a1 : Value} {w : World} {S : Value → World → Prop} (h : ∀ R : Ending → World → Prop, (∀ v w, S v w → R (.returned v) w) → run R a0 a1 w) : Ct Try.prog id #[a0, a1] w S :=
  Ct.intro enters fun R hR => calls R a0 a1 w (h R hR)
attribute [irreducible] b1_1 b1 run
attribute [go_sem] b1_1 b1 run
end strings_Builder_WriteString

/-! ### (*presage/show.page).grade$1 -/
namespace show_page_grade_1
noncomputable def code : Code := bodyOf Try.f119
/- x0 level -/
def b1 (R : Ending → World → Prop) (x0 x1 : Value) (w : World) (_r : Tok R := tok R) : Prop :=
  RUN Try.prog (pan R) (Instr.fieldAt 47 x1 2) w fun v1 w2 =>
  RUN Try.prog (pan R) (Instr.loadAt 3 v1) w2 fun v3 w4 =>
  RUN Try.prog (pan R) (bins .eql 3 (.tmp 4) (.tmp 6) x0 v3) w4 fun v5 w6 =>
  R (.returned v5) w6
abbrev q1 (R : Ending → World → Prop) : Exit → Env → World → Prop := QX (fun ρ w => R (.returned (ρ 3)) w) (fun ρ w => R (.returned (ρ 3)) w) []
theorem b1_eq (R : Ending → World → Prop) (ρ : Env) (w : World) : (b1 R (ρ 0) (ρ 1) w) = codeP Try.prog (pan R) code (q1 R) ρ w := by kernel_rfl
theorem b1_ok (R : Ending → World → Prop) (ρ : Env) (w : World) (h : b1 R (ρ 0) (ρ 1) w) : codeP Try.prog (pan R) code (q1 R) ρ w := (b1_eq R ρ w).mp h
/-- What is owed for a call. -/
def run (R : Ending → World → Prop) (a0 a1 : Value) (w : World) : Prop := b1 R a0 a1 w
theorem calls (R : Ending → World → Prop) (a0 a1 : Value) (w : World) (h : run R a0 a1 w) : Calls Try.prog id #[a0, a1] w R :=
  calls_of_t (f := id) (fn := Try.f119) (c := code) (by kernel_rfl) Try.func119 (by kernel_rfl) (by kernel_rfl) (args := [a0, a1]) (Nat.le_of_ble_eq_true rfl) rfl (b1_ok R (envOf [a0, a1]) w h)
theorem enters : Enters Try.prog id := fun args w => Try.call119 args w
theorem ct {a0 a1 : Value} {w : World} {S : Value → World → Prop} (h : ∀ R : Ending → World → Prop, (∀ v w, S v w → R (.returned v) w) → run R a0 a1 w) : Ct Try.prog id #[a0, a1] w S :=
  Ct.intro enters fun R hR => calls R a0 a1 w (h R hR)
attribute [irreducible] b1 run
attribute [go_sem] b1 run
end show_page_grade_1

/-! ### internal/stringslite.TrimPrefix -/
namespace internal_stringslite_TrimPrefix
noncomputable def code : Code := bodyOf Try.f126
def b1_1 (R : Ending → World → Prop) (x0 x1 : Value) (w2 : World) (_r : Tok R := tok R) : Prop :=
  RUN Try.prog (pan R) (Builtin.len_ #[9] 3 #[x1]) w2 fun v3 w4 =>
  RUN Try.prog (pan R) (Instr.sliceAt 9 x0 (some v3) none none) w4 fun v5 w6 =>
  R (.returned v5) w6
/- x0 s, x1 prefix -/
def b1 (R : Ending → World → Prop) (x0 x1 : Value) (w : World) (_r : Tok R := tok R) : Prop :=
  CALL Try.prog (pan R) internal_stringslite_HasPrefix.id #[x0, x1] w fun v1 w2 =>
  SPL v1
  (b1_1 R x0 x1 w2)
  (R (.returned x0) w2)
abbrev q1 (R : Ending → World → Prop) : Exit → Env → World → Prop := QX (fun ρ w => R (.returned (ρ 4)) w) (fun ρ w => R (.returned (ρ 4)) w) []
theorem b1_eq (R : Ending → World → Prop) (ρ : Env) (w : World) : (b1 R (ρ 0) (ρ 1) w) = codeP Try.prog (pan R) code (q1 R) ρ w := by kernel_rfl
theorem b1_ok (R : Ending → World → Prop) (ρ : Env) (w : World) (h : b1 R (ρ 0) (ρ 1) w) : codeP Try.prog (pan R) code (q1 R) ρ w := (b1_eq R ρ w).mp h
/-- What is owed for a call. -/
def run (R : Ending → World → Prop) (a0 a1 : Value) (w : World) : Prop := b1 R a0 a1 w
theorem calls (R : Ending → World → Prop) (a0 a1 : Value) (w : World) (h : run R a0 a1 w) : Calls Try.prog id #[a0, a1] w R :=
  calls_of_t (f := id) (fn := Try.f126) (c := code) (by kernel_rfl) Try.func126 (by kernel_rfl) (by kernel_rfl) (args := [a0, a1]) (Nat.le_of_ble_eq_true rfl) rfl (b1_ok R (envOf [a0, a1]) w h)
theorem enters : Enters Try.prog id := fun args w => Try.call126 args w
theorem ct {a0 a1 : Value} {w : World} {S : Value → World → Prop} (h : ∀ R : Ending → World → Prop, (∀ v w, S v w → R (.returned v) w) → run R a0 a1 w) : Ct Try.prog id #[a0, a1] w S :=
  Ct.intro enters fun R hR => calls R a0 a1 w (h R hR)
attribute [irreducible] b1_1 b1 run
attribute [go_sem] b1_1 b1 run
end internal_stringslite_TrimPrefix

/-! ### (*strings.Builder).copyCheck -/
namespace strings_Builder_copyCheck
noncomputable def code : Code := bodyOf Try.f132
def b1_1 (R : Ending → World → Prop) (x0 v10 : Value) (w11 : World) (_r : Tok R := tok R) : Prop :=
  RUN Try.prog (pan R) (convert 184 97 v10) w11 fun v12 w13 =>
  NILC x0 fun v14 =>
  RUN Try.prog (pan R) (Instr.fieldAt 100 v14 0) w13 fun v15 w16 =>
  RUNU Try.prog (pan R) (Instr.storeAt 97 v15 v12) w16 fun w17 =>
  R (.returned (.tuple #[])) w17
def b1_2 (R : Ending → World → Prop) (x0 : Value) (w7 : World) (_r : Tok R := tok R) : Prop :=
  RUN Try.prog (pan R) (convert 97 184 x0) w7 fun v8 w9 =>
  CALL Try.prog (pan R) internal_abi_NoEscape.id #[v8] w9 fun v10 w11 =>
  b1_1 R x0 v10 w11
def b1_3 (R : Ending → World → Prop) (x0 : Value) (w7 : World) (_r : Tok R := tok R) : Prop :=
  NILC x0 fun v18 =>
  RUN Try.prog (pan R) (Instr.fieldAt 100 v18 0) w7 fun v19 w20 =>
  RUN Try.prog (pan R) (Instr.loadAt 97 v19) w20 fun v21 w22 =>
  RUN Try.prog (pan R) (bins .neq 97 (.tmp 17) (.tmp 18) v21 x0) w22 fun v23 w24 =>
  SPL v23
  (False)
  (R (.returned (.tuple #[])) w24)
/- x0 b -/
def b1 (R : Ending → World → Prop) (x0 : Value) (w : World) (_r : Tok R := tok R) : Prop :=
  NILC x0 fun v1 =>
  RUN Try.prog (pan R) (Instr.fieldAt 100 v1 0) w fun v2 w3 =>
  RUN Try.prog (pan R) (Instr.loadAt 97 v2) w3 fun v4 w5 =>
  RUN Try.prog (pan R) (bins .eql 97 (.tmp 5) (.const (Go.Value.pointer Option.none)) v4 (Go.Value.pointer Option.none)) w5 fun v6 w7 =>
  SPL v6
  (b1_2 R x0 w7)
  (b1_3 R x0 w7)
abbrev q1 (R : Ending → World → Prop) : Exit → Env → World → Prop := QX (fun ρ w => R (.returned (.tuple #[])) w) (fun ρ w => R (.returned (.tuple #[])) w) []
theorem b1_eq (R : Ending → World → Prop) (ρ : Env) (w : World) : (b1 R (ρ 0) w) = codeP Try.prog (pan R) code (q1 R) ρ w := by kernel_rfl
theorem b1_ok (R : Ending → World → Prop) (ρ : Env) (w : World) (h : b1 R (ρ 0) w) : codeP Try.prog (pan R) code (q1 R) ρ w := (b1_eq R ρ w).mp h
/-- What is owed for a call. -/
def run (R : Ending → World → Prop) (a0 : Value) (w : World) : Prop := b1 R a0 w
theorem calls (R : Ending → World → Prop) (a0 : Value) (w : World) (h : run R a0 w) : Calls Try.prog id #[a0] w R :=
  calls_of_0 (f := id) (fn := Try.f132) (c := code) (by kernel_rfl) Try.func132 (by kernel_rfl) (by kernel_rfl) (args := [a0]) (Nat.le_of_ble_eq_true rfl) rfl (b1_ok R (envOf [a0]) w h)
theorem enters : Enters Try.prog id := fun args w => Try.call132 args w
theorem ct {a0 : Value} {w : World} {S : Value → World → Prop} (h : ∀ R : Ending → World → Prop, (∀ v w, S v w → R (.returned v) w) → run R a0 w) : Ct Try.prog id #[a0] w S :=
  Ct.intro enters fun R hR => calls R a0 w (h R hR)
attribute [irreducible] b1_1 b1_2 b1_3 b1 run
attribute [go_sem] b1_1 b1_2 b1_3 b1 run
end strings_Builder_copyCheck

/-! ### internal/stringslite.HasPrefix -/
namespace internal_stringslite_HasPrefix
noncomputable def code : Code := bodyOf Try.f153
def b1_1 (R : Ending → World → Prop) (x0 x1 : Value) (w6 : World) (_r : Tok R := tok R) : Prop :=
  RUN Try.prog (pan R) (Builtin.len_ #[9] 3 #[x1]) w6 fun v7 w8 =>
  RUN Try.prog (pan R) (Instr.sliceAt 9 x0 none (some v7) none) w8 fun v9 w10 =>
  RUN Try.prog (pan R) (bins .eql 9 (.tmp 14) (.tmp 15) v9 x1) w10 fun v11 w12 =>
  R (.returned v11) w12
/- x0 s, x1 prefix -/
def b1 (R : Ending → World → Prop) (x0 x1 : Value) (w : World) (_r : Tok R := tok R) : Prop :=
  RUN Try.prog (pan R) (Builtin.len_ #[9] 3 #[x0]) w fun v1 w2 =>
  RUN Try.prog (pan R) (Builtin.len_ #[9] 3 #[x1]) w2 fun v3 w4 =>
  RUN Try.prog (pan R) (bins .geq 3 (.tmp 6) (.tmp 8) v1 v3) w4 fun v5 w6 =>
  SPL v5
  (b1_1 R x0 x1 w6)
  (R (.returned (Go.Value.bool Bool.false)) w6)
abbrev q1 (R : Ending → World → Prop) : Exit → Env → World → Prop := QX (fun ρ w => R (.returned (ρ 4)) w) (fun ρ w => R (.returned (ρ 4)) w) []
theorem b1_eq (R : Ending → World → Prop) (ρ : Env) (w : World) : (b1 R (ρ 0) (ρ 1) w) = codeP Try.prog (pan R) code (q1 R) ρ w := by kernel_rfl
theorem b1_ok (R : Ending → World → Prop) (ρ : Env) (w : World) (h : b1 R (ρ 0) (ρ 1) w) : codeP Try.prog (pan R) code (q1 R) ρ w := (b1_eq R ρ w).mp h
/-- What is owed for a call. -/
def run (R : Ending → World → Prop) (a0 a1 : Value) (w : World) : Prop := b1 R a0 a1 w
theorem calls (R : Ending → World → Prop) (a0 a1 : Value) (w : World) (h : run R a0 a1 w) : Calls Try.prog id #[a0, a1] w R :=
  calls_of_t (f := id) (fn := Try.f153) (c := code) (by kernel_rfl) Try.func153 (by kernel_rfl) (by kernel_rfl) (args := [a0, a1]) (Nat.le_of_ble_eq_true rfl) rfl (b1_ok R (envOf [a0, a1]) w h)
theorem enters : Enters Try.prog id := fun args w => Try.call153 args w
theorem ct {a0 a1 : Value} {w : World} {S : Value → World → Prop} (h : ∀ R : Ending → World → Prop, (∀ v w, S v w → R (.returned v) w) → run R a0 a1 w) : Ct Try.prog id #[a0, a1] w S :=
  Ct.intro enters fun R hR => calls R a0 a1 w (h R hR)
attribute [irreducible] b1_1 b1 run
attribute [go_sem] b1_1 b1 run
end internal_stringslite_HasPrefix
end Go.Proofs.Ytkacbjhiobnbfaa

