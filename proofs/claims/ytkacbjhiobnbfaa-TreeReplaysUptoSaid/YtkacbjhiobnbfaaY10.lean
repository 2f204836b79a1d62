/- Shallow programs, written by a program of ours (gen.py) off the translation; each is tied to the code by the kernel. -/
import Derived.Test.YtkacbjhiobnbfaaY04
set_option linter.unusedVariables false
set_option maxRecDepth 100000
namespace Go.Proofs.Ytkacbjhiobnbfaa
open Go.Px Try Instr

/-! ### presage/presageref06.Sentence -/
namespace ref06_Sentence
noncomputable def code : Code := bodyOf f46
noncomputable abbrev p1 : Code := dropC 3 code

def b3 (R : EP) (w : World) (_r : Tok R := tok R) : Prop :=
 R (.returned (Value.bool false)) w
abbrev r0 (R : EP) (z : Env) (w : World) : Prop := R (.returned (z 4)) w
abbrev q1 (R : EP) : XP := QX (r0 R) (r0 R) []
theorem b3_ok (R : EP) : TI prog R (sndC p1) (q1 R) fun z w => b3 R w := ofT
noncomputable abbrev p2 : Code := dropC 1 (fstC p1)
noncomputable abbrev p3 : Code := loopC (blkC p2)
noncomputable abbrev p4 : Code := dropC 1 p3

def b9 (R : EP) (C6 : VP) (x7 : Value) (w : World) (_r : Tok R := tok R) (_C6 : Tok C6 := tok C6) : Prop :=
 RUN prog R (bins .add 3 (.tmp 30) (.const (Value.int .i64 1)) x7 (Value.int .i64 1)) w fun v1 w2 =>
 C6 v1 w2
abbrev q2 (R : EP) (C6 : VP) : XP := QX (fun z w => C6 (z 7) w) (r0 R) [(0, (fun z w => b3 R  w))]
theorem b9_ok (R : EP) (C6 : VP) : TI prog R (sndC p4) (q2 R C6) fun z w => b9 R C6 (z 7) w := ofT
noncomputable abbrev p5 : Code := blkC (fstC p4)
noncomputable abbrev p6 : Code := dropC 3 p5

def b12 (R : EP) (C6 : VP) (x7 x68 : Value) (w : World) (_r : Tok R := tok R) (_C6 : Tok C6 := tok C6) : Prop :=
 SPL x68
 (R (.returned (Value.bool true)) w)
 (b9 R C6 x7 w)
abbrev q3 (R : EP) (C6 : VP) : XP := QX (fun z w => b9 R C6 (z 7) w) (r0 R) [(2, (fun z w => b9 R C6 (z 7) w)), (0, (fun z w => b3 R  w))]
theorem b12_ok (R : EP) (C6 : VP) : TI prog R p6 (q3 R C6) fun z w => b12 R C6 (z 7) (z 68) w := ofT
def b11_1 (R : EP) (C6 : VP) (x2 x7 v25 : Value) (w45 : World) (_r : Tok R := tok R) (_C6 : Tok C6 := tok C6) : Prop :=
 RUN prog R (fieldAt 47 v25 0) w45 fun v46 w47 =>
 RUN prog R (loadAt 3 v46) w47 fun v48 w49 =>
 RUN prog R (fieldAt 27 x2 3) w49 fun v50 w51 =>
 RUN prog R (loadAt 3 v50) w51 fun v52 w53 =>
 RUN prog R (bins .eql 3 (.tmp 64) (.tmp 66) v48 v52) w53 fun v54 w55 =>
 b12 R C6 x7 v54 w55
def b11_2 (R : EP) (C6 : VP) (x2 x7 v14 v25 : Value) (w33 : World) (_r : Tok R := tok R) (_C6 : Tok C6 := tok C6) : Prop :=
 RUN prog R (fieldAt 137 v14 1) w33 fun v34 w35 =>
 RUN prog R (loadAt 3 v34) w35 fun v36 w37 =>
 RUN prog R (fieldAt 47 v25 1) w37 fun v38 w39 =>
 RUN prog R (loadAt 24 v38) w39 fun v40 w41 =>
 RUN prog R (Builtin.len_ #[24] 3 #[v40]) w41 fun v42 w43 =>
 RUN prog R (bins .eql 3 (.tmp 56) (.tmp 59) v36 v42) w43 fun v44 w45 =>
 SPL v44
 (b11_1 R C6 x2 x7 v25 w45)
 (b12 R C6 x7 (Value.bool false) w45)

def b11 (R : EP) (C6 : VP) (x2 x5 x6 x7 : Value) (w : World) (_r : Tok R := tok R) (_C6 : Tok C6 := tok C6) : Prop :=
 NILC x5 fun v1 =>
 RUN prog R (fieldAt 135 v1 2) w fun v2 w3 =>
 RUN prog R (loadAt 133 v2) w3 fun v4 w5 =>
 RUN prog R (indexAt 133 v4 x6) w5 fun v6 w7 =>
 RUN prog R (loadAt 131 v6) w7 fun v8 w9 =>
 RUN prog R (indexAt 131 v8 x7) w9 fun v10 w11 =>
 RUN prog R (loadAt 137 v10) w11 fun v12 w13 =>
 RUN prog R (alloc 137 true (.tuple #[])) w13 fun v14 w15 =>
 RUNU prog R (storeAt 137 v14 v12) w15 fun w16 =>
 NILC x5 fun v17 =>
 PUR prog (fieldAt 135 v17 0) fun v18 =>
 PUR prog (fieldAt 27 v18 4) fun v19 =>
 LD prog (loadAt 25 v19) (World.drew w16) fun v20 =>
 PUR prog (fieldAt 137 v14 0) fun v21 =>
 LD prog (loadAt 3 v21) (World.drew w16) fun v22 =>
 PUR prog (indexAt 25 v20 v22) fun v23 =>
 LD prog (loadAt 47 v23) (World.drew w16) fun v24 =>
 RUN prog R (alloc 47 true (.tuple #[])) (World.drew w16) fun v25 w26 =>
 Sem.run prog (loadAt 47 v23) w26 = .ok v24 w26 ∧ (Sem.run prog (loadAt 3 v21) w26 = .ok v22 w26 ∧ (Sem.run prog (loadAt 25 v19) w26 = .ok v20 w26 ∧ (RUNU prog R (storeAt 47 v25 v24) w26 fun w27 =>
 RUN prog R (fieldAt 137 v14 2) w27 fun v28 w29 =>
 RUN prog R (loadAt 3 v28) w29 fun v30 w31 =>
 RUN prog R (bins .eql 3 (.tmp 52) (.const (Value.int .i64 0)) v30 (Value.int .i64 0)) w31 fun v32 w33 =>
 SPL v32
 (b11_2 R C6 x2 x7 v14 v25 w33)
 (b12 R C6 x7 (Value.bool false) w33))))
theorem b11_ok (R : EP) (C6 : VP) : TI prog R p5 (q3 R C6) fun z w => b11 R C6 (z 2) (z 5) (z 6) (z 7) w := appT 2 (b12_ok R C6)
abbrev q4 (R : EP) (C6 : VP) : XP := QX (fun z w => b9 R C6 (z 7) w) (r0 R) [(0, (fun z w => b3 R  w))]
theorem k10_ok (R : EP) (C6 : VP) : TI prog R (fstC p4) (q4 R C6) fun z w => b11 R C6 (z 2) (z 5) (z 6) (z 7) w := blockT 1 (b11_ok R C6)
theorem k8_ok (R : EP) (C6 : VP) : TI prog R p4 (q2 R C6) fun z w => b11 R C6 (z 2) (z 5) (z 6) (z 7) w := seqT (k10_ok R C6) (b9_ok R C6)

def b7 (R : EP) (C6 : VP) (x2 x5 x6 x7 : Value) (w : World) (_r : Tok R := tok R) (_C6 : Tok C6 := tok C6) : Prop :=
 NILC x5 fun v1 =>
 RUN prog R (fieldAt 135 v1 2) w fun v2 w3 =>
 RUN prog R (loadAt 133 v2) w3 fun v4 w5 =>
 RUN prog R (indexAt 133 v4 x6) w5 fun v6 w7 =>
 RUN prog R (loadAt 131 v6) w7 fun v8 w9 =>
 RUN prog R (Builtin.len_ #[131] 3 #[v8]) w9 fun v10 w11 =>
 RUN prog R (bins .lss 3 (.tmp 20) (.tmp 28) x7 v10) w11 fun v12 w13 =>
 SPL v12
 (b11 R C6 x2 x5 x6 x7 w13)
 (b3 R w13)
theorem b7_ok (R : EP) (C6 : VP) : TI prog R p3 (q2 R C6) fun z w => b7 R C6 (z 2) (z 5) (z 6) (z 7) w := appT 0 (k8_ok R C6)

def l6 (R : EP) (x2 x5 x6 x7 : Value) (w : World) (_r : Tok R := tok R) : Prop :=
 ∃ (J : VP) (μ : Value → World → Nat), J x7 w ∧ ∀ y7 w0, J y7 w0 → b7 R (fun z7 w1 => J z7 w1 ∧ μ z7 w1 < μ y7 w0) x2 x5 x6 y7 w0
abbrev q5 (R : EP) : XP := QX (fun z w => b3 R  w) (r0 R) [(0, (fun z w => b3 R  w))]
theorem l6_ok (R : EP) : TI prog R (blkC p2) (q5 R) fun z w => l6 R (z 2) (z 5) (z 6) (z 7) w := fun z w h => by
 unfold l6 at h
 obtain ⟨J, μ, h0, hr⟩ := h
 refine loopT (fun z' w' => J (z' 7) w') (fun z' w' => μ (z' 7) w') h0 fun z' w' hA hI => b7_ok R (fun z7 w1 => J z7 w1 ∧ μ z7 w1 < μ (z' 7) w') z' w' ?_
 have h1 := hr (z' 7) w' hI
 rwa [← hA.on 2, ← hA.on 5, ← hA.on 6] at h1
theorem l6_intro (R : EP) (x2 x5 x6 x7 : Value) (w : World) (J : VP) (μ : Value → World → Nat) (h0 : J x7 w)
   (hr : ∀ y7 w0, J y7 w0 → ∀ C6 : VP, (∀ z7 w1, J z7 w1 → μ z7 w1 < μ y7 w0 → C6 z7 w1) → b7 R C6 x2 x5 x6 y7 w0) : l6 R x2 x5 x6 x7 w := by
 unfold l6
 exact ⟨J, μ, h0, fun y7 w0 hJ => hr y7 w0 hJ _ (fun z7 w1 h1 h2 => ⟨h1, h2⟩)⟩
abbrev q6 (R : EP) : XP := QX (fun z w => b3 R  w) (r0 R) []
theorem k5_ok (R : EP) : TI prog R p2 (q6 R) fun z w => l6 R (z 2) (z 5) (z 6) (z 7) w := blockT 0 (l6_ok R)

def b4 (R : EP) (x2 x5 x6 : Value) (w : World) (_r : Tok R := tok R) : Prop :=
 l6 R x2 x5 x6 (Value.int .i64 0) w
theorem b4_ok (R : EP) : TI prog R (fstC p1) (q6 R) fun z w => b4 R (z 2) (z 5) (z 6) w := appT 0 (k5_ok R)
theorem k2_ok (R : EP) : TI prog R p1 (q1 R) fun z w => b4 R (z 2) (z 5) (z 6) w := seqT (b4_ok R) (b3_ok R)
def b1_1 (R : EP) (x1 v1 v5 : Value) (w6 : World) (_r : Tok R := tok R) : Prop :=
 RUN prog R (extract v5 0) w6 fun v7 w8 =>
 RUN prog R (extract v5 1) w8 fun v9 w10 =>
 RUN prog R (Builtin.len_ #[24] 3 #[x1]) w10 fun v11 w12 =>
 RUN prog R (bins .lss 3 (.tmp 16) (.tmp 18) v9 v11) w12 fun v13 w14 =>
 SPL v13
 (R (.returned (Value.bool false)) w14)
 (b4 R v1 v7 v9 w14)

def b1 (R : EP) (x0 x1 : Value) (w : World) (_r : Tok R := tok R) : Prop :=
 RUN prog R (box 27 x0) w fun v1 w2 =>
 RUN prog R (loadAt 27 v1) w2 fun v3 w4 =>
 CALL prog R ref06_read.id #[v3, x1] w4 fun v5 w6 =>
 b1_1 R x1 v1 v5 w6
theorem b1_ok (R : EP) : TI prog R code (q1 R) fun z w => b1 R (z 0) (z 1) w := appT 2 (k2_ok R)
def run (R : EP) (a0 a1 : Value) (w : World) : Prop := b1 R a0 a1 w
theorem calls (R : EP) (a0 a1 : Value) (w : World) (h : run R a0 a1 w) : Calls prog id #[a0, a1] w R := cls_t func46 [a0, a1] (b1_ok R _ w h)
theorem enters : Enters prog id := fun args w => call46 args w
theorem ct {a0 a1 : Value} {w : World} {S : VP} (h : ∀ R : EP, (∀ v w, S v w → R (.returned v) w) → run R a0 a1 w) : Ct prog id #[a0, a1] w S :=
 Ct.intro enters fun R hR => calls R a0 a1 w (h R hR)
attribute [irreducible] l6
attribute [irreducible, go_sem] b3 b9 b12 b11_1 b11_2 b11 b7 b4 b1_1 b1 run
end ref06_Sentence

/-! ### presage/presageref06.read -/
namespace ref06_read
noncomputable def code : Code := bodyOf f96
noncomputable abbrev p1 : Code := dropC 3 code
noncomputable abbrev p2 : Code := dropC 1 (sndC p1)
noncomputable abbrev p3 : Code := dropC 1 (sndC p2)
noncomputable abbrev p4 : Code := sndC (sndC p3)
noncomputable abbrev p5 : Code := dropC 1 p4

def b10 (R : EP) (x1 x9 : Value) (w : World) (_r : Tok R := tok R) : Prop :=
 RUN prog R (Builtin.len_ #[24] 3 #[x1]) w fun v1 w2 =>
 R (.returned (.tuple #[x9, v1])) w2
abbrev r0 (R : EP) (z : Env) (w : World) : Prop := R (.returned (.tuple #[(z 4), (z 5)])) w
abbrev q1 (R : EP) : XP := QX (r0 R) (r0 R) []
theorem b10_ok (R : EP) : TI prog R (sndC p5) (q1 R) fun z w => b10 R (z 1) (z 9) w := ofT
noncomputable abbrev p6 : Code := dropC 1 (fstC p5)
noncomputable abbrev p7 : Code := loopC (blkC p6)
noncomputable abbrev p8 : Code := dropC 1 p7

def b16 (R : EP) (C13 : VP) (x13 : Value) (w : World) (_r : Tok R := tok R) (_C13 : Tok C13 := tok C13) : Prop :=
 RUN prog R (bins .add 3 (.tmp 148) (.const (Value.int .i64 1)) x13 (Value.int .i64 1)) w fun v1 w2 =>
 C13 v1 w2
abbrev q2 (R : EP) (C13 : VP) : XP := QX (fun z w => C13 (z 13) w) (r0 R) [(16, (fun z w => b10 R (z 1) (z 9) w))]
theorem b16_ok (R : EP) (C13 : VP) : TI prog R (sndC p8) (q2 R C13) fun z w => b16 R C13 (z 13) w := ofT
noncomputable abbrev p9 : Code := blkC (fstC p8)
def b19_1 (R : EP) (C13 : VP) (x9 x13 : Value) (w15 : World) (_r : Tok R := tok R) (_C13 : Tok C13 := tok C13) : Prop :=
 RUN prog R (bins .add 3 (.tmp 221) (.const (Value.int .i64 1)) x13 (Value.int .i64 1)) w15 fun v16 w17 =>
 CALL prog R ref06_chart_fill.id #[x9, v16] w17 fun v18 w19 =>
 b16 R C13 x13 w19

def b19 (R : EP) (C13 : VP) (x9 x13 : Value) (w : World) (_r : Tok R := tok R) (_C13 : Tok C13 := tok C13) : Prop :=
 NILC x9 fun v1 =>
 RUN prog R (fieldAt 135 v1 2) w fun v2 w3 =>
 RUN prog R (loadAt 133 v2) w3 fun v4 w5 =>
 RUN prog R (bins .add 3 (.tmp 212) (.const (Value.int .i64 1)) x13 (Value.int .i64 1)) w5 fun v6 w7 =>
 RUN prog R (indexAt 133 v4 v6) w7 fun v8 w9 =>
 RUN prog R (loadAt 131 v8) w9 fun v10 w11 =>
 RUN prog R (Builtin.len_ #[131] 3 #[v10]) w11 fun v12 w13 =>
 RUN prog R (bins .eql 3 (.tmp 216) (.const (Value.int .i64 0)) v12 (Value.int .i64 0)) w13 fun v14 w15 =>
 SPL v14
 (R (.returned (.tuple #[x9, x13])) w15)
 (b19_1 R C13 x9 x13 w15)
abbrev q3 (R : EP) (C13 : VP) : XP := QX (fun z w => b16 R C13 (z 13) w) (r0 R) [(18, (fun z w => b16 R C13 (z 13) w)), (16, (fun z w => b10 R (z 1) (z 9) w))]
theorem b19_ok (R : EP) (C13 : VP) : TI prog R (sndC p9) (q3 R C13) fun z w => b19 R C13 (z 9) (z 13) w := ofT
noncomputable abbrev p10 : Code := dropC 1 (fstC p9)
noncomputable abbrev p11 : Code := loopC (blkC p10)
noncomputable abbrev p12 : Code := dropC 1 p11

def b25 (R : EP) (C13 : VP) (C22 : VP) (x14 : Value) (w : World) (_r : Tok R := tok R) (_C13 : Tok C13 := tok C13) (_C22 : Tok C22 := tok C22) : Prop :=
 RUN prog R (bins .add 3 (.tmp 160) (.const (Value.int .i64 1)) x14 (Value.int .i64 1)) w fun v1 w2 =>
 C22 v1 w2
abbrev q4 (R : EP) (C13 : VP) (C22 : VP) : XP := QX (fun z w => C22 (z 14) w) (r0 R) [(20, (fun z w => b19 R C13 (z 9) (z 13) w)), (18, (fun z w => b16 R C13 (z 13) w)), (16, (fun z w => b10 R (z 1) (z 9) w))]
theorem b25_ok (R : EP) (C13 : VP) (C22 : VP) : TI prog R (sndC p12) (q4 R C13 C22) fun z w => b25 R C13 C22 (z 14) w := ofT
noncomputable abbrev p13 : Code := blkC (fstC p12)
noncomputable abbrev p14 : Code := dropC 3 p13
def b28_1 (R : EP) (C13 : VP) (C22 : VP) (x9 x13 x14 x15 : Value) (w : World) (_r : Tok R := tok R) (_C13 : Tok C13 := tok C13) (_C22 : Tok C22 := tok C22) : Prop :=
 RUN prog R (bins .add 3 (.tmp 197) (.const (Value.int .i64 1)) x13 (Value.int .i64 1)) w fun v1 w2 =>
 RUN prog R (fieldAt 137 x15 0) w2 fun v3 w4 =>
 RUN prog R (loadAt 3 v3) w4 fun v5 w6 =>
 RUN prog R (fieldAt 137 x15 1) w6 fun v7 w8 =>
 RUN prog R (loadAt 3 v7) w8 fun v9 w10 =>
 RUN prog R (bins .add 3 (.tmp 202) (.const (Value.int .i64 1)) v9 (Value.int .i64 1)) w10 fun v11 w12 =>
 RUN prog R (fieldAt 137 x15 2) w12 fun v13 w14 =>
 RUN prog R (loadAt 3 v13) w14 fun v15 w16 =>
 RUN prog R (build 137 #[(0, v5), (1, v11), (2, v15)]) w16 fun v17 w18 =>
 CALL prog R ref06_chart_add.id #[x9, v1, v17] w18 fun v19 w20 =>
 b25 R C13 C22 x14 w20

def b28 (R : EP) (C13 : VP) (C22 : VP) (x9 x13 x14 x15 x195 : Value) (w : World) (_r : Tok R := tok R) (_C13 : Tok C13 := tok C13) (_C22 : Tok C22 := tok C22) : Prop :=
 SPL x195
 (b28_1 R C13 C22 x9 x13 x14 x15 w)
 (b25 R C13 C22 x14 w)
abbrev q5 (R : EP) (C13 : VP) (C22 : VP) : XP := QX (fun z w => b25 R C13 C22 (z 14) w) (r0 R) [(22, (fun z w => b25 R C13 C22 (z 14) w)), (20, (fun z w => b19 R C13 (z 9) (z 13) w)), (18, (fun z w => b16 R C13 (z 13) w)), (16, (fun z w => b10 R (z 1) (z 9) w))]
theorem b28_ok (R : EP) (C13 : VP) (C22 : VP) : TI prog R p14 (q5 R C13 C22) fun z w => b28 R C13 C22 (z 9) (z 13) (z 14) (z 15) (z 195) w := ofT
def b27_1 (R : EP) (C13 : VP) (C22 : VP) (x1 x9 x13 x14 v14 v29 : Value) (w30 : World) (_r : Tok R := tok R) (_C13 : Tok C13 := tok C13) (_C22 : Tok C22 := tok C22) : Prop :=
 PUR prog (fieldAt 137 v14 1) fun v35 =>
 LD prog (loadAt 3 v35) (World.drew w30) fun v36 =>
 PUR prog (indexAt 24 v29 v36) fun v37 =>
 LD prog (loadAt 3 v37) (World.drew w30) fun v38 =>
 PUR prog (indexAt 24 x1 x13) fun v39 =>
 LD prog (loadAt 3 v39) (World.drew w30) fun v40 =>
 PUR prog (bins .eql 3 (.tmp 189) (.tmp 193) v38 v40) fun v41 =>
 b28 R C13 C22 x9 x13 x14 v14 v41 (World.drew w30)

def b27 (R : EP) (C13 : VP) (C22 : VP) (x1 x7 x9 x13 x14 : Value) (w : World) (_r : Tok R := tok R) (_C13 : Tok C13 := tok C13) (_C22 : Tok C22 := tok C22) : Prop :=
 NILC x9 fun v1 =>
 RUN prog R (fieldAt 135 v1 2) w fun v2 w3 =>
 RUN prog R (loadAt 133 v2) w3 fun v4 w5 =>
 RUN prog R (indexAt 133 v4 x13) w5 fun v6 w7 =>
 RUN prog R (loadAt 131 v6) w7 fun v8 w9 =>
 RUN prog R (indexAt 131 v8 x14) w9 fun v10 w11 =>
 RUN prog R (loadAt 137 v10) w11 fun v12 w13 =>
 RUN prog R (alloc 137 true (.tuple #[])) w13 fun v14 w15 =>
 RUNU prog R (storeAt 137 v14 v12) w15 fun w16 =>
 RUN prog R (fieldAt 27 x7 4) w16 fun v17 w18 =>
 RUN prog R (loadAt 25 v17) w18 fun v19 w20 =>
 RUN prog R (fieldAt 137 v14 0) w20 fun v21 w22 =>
 RUN prog R (loadAt 3 v21) w22 fun v23 w24 =>
 RUN prog R (indexAt 25 v19 v23) w24 fun v25 w26 =>
 RUN prog R (fieldAt 47 v25 1) w26 fun v27 w28 =>
 RUN prog R (loadAt 24 v27) w28 fun v29 w30 =>
 PUR prog (fieldAt 137 v14 1) fun v31 =>
 LD prog (loadAt 3 v31) (World.drew w30) fun v32 =>
 LD prog (Builtin.len_ #[24] 3 #[v29]) (World.drew w30) fun v33 =>
 PUR prog (bins .lss 3 (.tmp 180) (.tmp 182) v32 v33) fun v34 =>
 SPL v34
 (b27_1 R C13 C22 x1 x9 x13 x14 v14 v29 w30)
 (b28 R C13 C22 x9 x13 x14 v14 (Value.bool false) (World.drew w30))
theorem b27_ok (R : EP) (C13 : VP) (C22 : VP) : TI prog R p13 (q5 R C13 C22) fun z w => b27 R C13 C22 (z 1) (z 7) (z 9) (z 13) (z 14) w := appT 2 (b28_ok R C13 C22)
abbrev q6 (R : EP) (C13 : VP) (C22 : VP) : XP := QX (fun z w => b25 R C13 C22 (z 14) w) (r0 R) [(20, (fun z w => b19 R C13 (z 9) (z 13) w)), (18, (fun z w => b16 R C13 (z 13) w)), (16, (fun z w => b10 R (z 1) (z 9) w))]
theorem k26_ok (R : EP) (C13 : VP) (C22 : VP) : TI prog R (fstC p12) (q6 R C13 C22) fun z w => b27 R C13 C22 (z 1) (z 7) (z 9) (z 13) (z 14) w := blockT 11 (b27_ok R C13 C22)
theorem k24_ok (R : EP) (C13 : VP) (C22 : VP) : TI prog R p12 (q4 R C13 C22) fun z w => b27 R C13 C22 (z 1) (z 7) (z 9) (z 13) (z 14) w := seqT (k26_ok R C13 C22) (b25_ok R C13 C22)

def b23 (R : EP) (C13 : VP) (C22 : VP) (x1 x7 x9 x13 x14 : Value) (w : World) (_r : Tok R := tok R) (_C13 : Tok C13 := tok C13) (_C22 : Tok C22 := tok C22) : Prop :=
 NILC x9 fun v1 =>
 RUN prog R (fieldAt 135 v1 2) w fun v2 w3 =>
 RUN prog R (loadAt 133 v2) w3 fun v4 w5 =>
 RUN prog R (indexAt 133 v4 x13) w5 fun v6 w7 =>
 RUN prog R (loadAt 131 v6) w7 fun v8 w9 =>
 RUN prog R (Builtin.len_ #[131] 3 #[v8]) w9 fun v10 w11 =>
 RUN prog R (bins .lss 3 (.tmp 150) (.tmp 158) x14 v10) w11 fun v12 w13 =>
 SPL v12
 (b27 R C13 C22 x1 x7 x9 x13 x14 w13)
 (b19 R C13 x9 x13 w13)
theorem b23_ok (R : EP) (C13 : VP) (C22 : VP) : TI prog R p11 (q4 R C13 C22) fun z w => b23 R C13 C22 (z 1) (z 7) (z 9) (z 13) (z 14) w := appT 0 (k24_ok R C13 C22)

def l22 (R : EP) (C13 : VP) (x1 x7 x9 x13 x14 : Value) (w : World) (_r : Tok R := tok R) (_C13 : Tok C13 := tok C13) : Prop :=
 ∃ (J : VP) (μ : Value → World → Nat), J x14 w ∧ ∀ y14 w0, J y14 w0 → b23 R C13 (fun z14 w1 => J z14 w1 ∧ μ z14 w1 < μ y14 w0) x1 x7 x9 x13 y14 w0
abbrev q7 (R : EP) (C13 : VP) : XP := QX (fun z w => b19 R C13 (z 9) (z 13) w) (r0 R) [(20, (fun z w => b19 R C13 (z 9) (z 13) w)), (18, (fun z w => b16 R C13 (z 13) w)), (16, (fun z w => b10 R (z 1) (z 9) w))]
theorem l22_ok (R : EP) (C13 : VP) : TI prog R (blkC p10) (q7 R C13) fun z w => l22 R C13 (z 1) (z 7) (z 9) (z 13) (z 14) w := fun z w h => by
 unfold l22 at h
 obtain ⟨J, μ, h0, hr⟩ := h
 refine loopT (fun z' w' => J (z' 14) w') (fun z' w' => μ (z' 14) w') h0 fun z' w' hA hI => b23_ok R C13 (fun z14 w1 => J z14 w1 ∧ μ z14 w1 < μ (z' 14) w') z' w' ?_
 have h1 := hr (z' 14) w' hI
 rwa [← hA.on 1, ← hA.on 7, ← hA.on 9, ← hA.on 13] at h1
theorem l22_intro (R : EP) (C13 : VP) (x1 x7 x9 x13 x14 : Value) (w : World) (J : VP) (μ : Value → World → Nat) (h0 : J x14 w)
   (hr : ∀ y14 w0, J y14 w0 → ∀ C22 : VP, (∀ z14 w1, J z14 w1 → μ z14 w1 < μ y14 w0 → C22 z14 w1) → b23 R C13 C22 x1 x7 x9 x13 y14 w0) : l22 R C13 x1 x7 x9 x13 x14 w := by
 unfold l22
 exact ⟨J, μ, h0, fun y14 w0 hJ => hr y14 w0 hJ _ (fun z14 w1 h1 h2 => ⟨h1, h2⟩)⟩
abbrev q8 (R : EP) (C13 : VP) : XP := QX (fun z w => b19 R C13 (z 9) (z 13) w) (r0 R) [(18, (fun z w => b16 R C13 (z 13) w)), (16, (fun z w => b10 R (z 1) (z 9) w))]
theorem k21_ok (R : EP) (C13 : VP) : TI prog R p10 (q8 R C13) fun z w => l22 R C13 (z 1) (z 7) (z 9) (z 13) (z 14) w := blockT 10 (l22_ok R C13)

def b20 (R : EP) (C13 : VP) (x1 x7 x9 x13 : Value) (w : World) (_r : Tok R := tok R) (_C13 : Tok C13 := tok C13) : Prop :=
 l22 R C13 x1 x7 x9 x13 (Value.int .i64 0) w
theorem b20_ok (R : EP) (C13 : VP) : TI prog R (fstC p9) (q8 R C13) fun z w => b20 R C13 (z 1) (z 7) (z 9) (z 13) w := appT 0 (k21_ok R C13)
theorem k18_ok (R : EP) (C13 : VP) : TI prog R p9 (q3 R C13) fun z w => b20 R C13 (z 1) (z 7) (z 9) (z 13) w := seqT (b20_ok R C13) (b19_ok R C13)
abbrev q9 (R : EP) (C13 : VP) : XP := QX (fun z w => b16 R C13 (z 13) w) (r0 R) [(16, (fun z w => b10 R (z 1) (z 9) w))]
theorem k17_ok (R : EP) (C13 : VP) : TI prog R (fstC p8) (q9 R C13) fun z w => b20 R C13 (z 1) (z 7) (z 9) (z 13) w := blockT 9 (k18_ok R C13)
theorem k15_ok (R : EP) (C13 : VP) : TI prog R p8 (q2 R C13) fun z w => b20 R C13 (z 1) (z 7) (z 9) (z 13) w := seqT (k17_ok R C13) (b16_ok R C13)

def b14 (R : EP) (C13 : VP) (x1 x7 x9 x13 : Value) (w : World) (_r : Tok R := tok R) (_C13 : Tok C13 := tok C13) : Prop :=
 RUN prog R (Builtin.len_ #[24] 3 #[x1]) w fun v1 w2 =>
 RUN prog R (bins .lss 3 (.tmp 144) (.tmp 146) x13 v1) w2 fun v3 w4 =>
 SPL v3
 (b20 R C13 x1 x7 x9 x13 w4)
 (b10 R x1 x9 w4)
theorem b14_ok (R : EP) (C13 : VP) : TI prog R p7 (q2 R C13) fun z w => b14 R C13 (z 1) (z 7) (z 9) (z 13) w := appT 0 (k15_ok R C13)

def l13 (R : EP) (x1 x7 x9 x13 : Value) (w : World) (_r : Tok R := tok R) : Prop :=
 ∃ (J : VP) (μ : Value → World → Nat), J x13 w ∧ ∀ y13 w0, J y13 w0 → b14 R (fun z13 w1 => J z13 w1 ∧ μ z13 w1 < μ y13 w0) x1 x7 x9 y13 w0
abbrev q10 (R : EP) : XP := QX (fun z w => b10 R (z 1) (z 9) w) (r0 R) [(16, (fun z w => b10 R (z 1) (z 9) w))]
theorem l13_ok (R : EP) : TI prog R (blkC p6) (q10 R) fun z w => l13 R (z 1) (z 7) (z 9) (z 13) w := fun z w h => by
 unfold l13 at h
 obtain ⟨J, μ, h0, hr⟩ := h
 refine loopT (fun z' w' => J (z' 13) w') (fun z' w' => μ (z' 13) w') h0 fun z' w' hA hI => b14_ok R (fun z13 w1 => J z13 w1 ∧ μ z13 w1 < μ (z' 13) w') z' w' ?_
 have h1 := hr (z' 13) w' hI
 rwa [← hA.on 1, ← hA.on 7, ← hA.on 9] at h1
theorem l13_intro (R : EP) (x1 x7 x9 x13 : Value) (w : World) (J : VP) (μ : Value → World → Nat) (h0 : J x13 w)
   (hr : ∀ y13 w0, J y13 w0 → ∀ C13 : VP, (∀ z13 w1, J z13 w1 → μ z13 w1 < μ y13 w0 → C13 z13 w1) → b14 R C13 x1 x7 x9 y13 w0) : l13 R x1 x7 x9 x13 w := by
 unfold l13
 exact ⟨J, μ, h0, fun y13 w0 hJ => hr y13 w0 hJ _ (fun z13 w1 h1 h2 => ⟨h1, h2⟩)⟩
abbrev q11 (R : EP) : XP := QX (fun z w => b10 R (z 1) (z 9) w) (r0 R) []
theorem k12_ok (R : EP) : TI prog R p6 (q11 R) fun z w => l13 R (z 1) (z 7) (z 9) (z 13) w := blockT 8 (l13_ok R)

def b11 (R : EP) (x1 x7 x9 : Value) (w : World) (_r : Tok R := tok R) : Prop :=
 l13 R x1 x7 x9 (Value.int .i64 0) w
theorem b11_ok (R : EP) : TI prog R (fstC p5) (q11 R) fun z w => b11 R (z 1) (z 7) (z 9) w := appT 0 (k12_ok R)
theorem k9_ok (R : EP) : TI prog R p5 (q1 R) fun z w => b11 R (z 1) (z 7) (z 9) w := seqT (b11_ok R) (b10_ok R)

def b8 (R : EP) (x1 x7 x9 : Value) (w : World) (_r : Tok R := tok R) : Prop :=
 CALL prog R ref06_chart_fill.id #[x9, (Value.int .i64 0)] w fun v1 w2 =>
 b11 R x1 x7 x9 w2
theorem b8_ok (R : EP) : TI prog R p4 (q1 R) fun z w => b8 R (z 1) (z 7) (z 9) w := appT 0 (k9_ok R)
noncomputable abbrev p15 : Code := fstC (sndC p3)
noncomputable abbrev p16 : Code := dropC 1 p15
noncomputable abbrev p17 : Code := loopC (blkC p16)
noncomputable abbrev p18 : Code := dropC 2 p17

def b33 (R : EP) (C31 : VP) (x12 : Value) (w : World) (_r : Tok R := tok R) (_C31 : Tok C31 := tok C31) : Prop :=
 RUN prog R (bins .add 3 (.tmp 127) (.const (Value.int .i64 1)) x12 (Value.int .i64 1)) w fun v1 w2 =>
 C31 v1 w2
abbrev q12 (R : EP) (C31 : VP) : XP := QX (fun z w => C31 (z 12) w) (r0 R) [(12, (fun z w => b8 R (z 1) (z 7) (z 9) w))]
theorem b33_ok (R : EP) (C31 : VP) : TI prog R p18 (q12 R C31) fun z w => b33 R C31 (z 12) w := ofT
def b32_1 (R : EP) (C31 : VP) (x9 x12 : Value) (w8 : World) (_r : Tok R := tok R) (_C31 : Tok C31 := tok C31) : Prop :=
 RUN prog R (build 137 #[(0, x12), (1, (Value.int .i64 0)), (2, (Value.int .i64 0))]) (World.drew w8) fun v17 w18 =>
 CALL prog R ref06_chart_add.id #[x9, (Value.int .i64 0), v17] w18 fun v19 w20 =>
 b33 R C31 x12 w20
def b32_2 (R : EP) (C31 : VP) (x2 x7 x9 x12 : Value) (w8 : World) (_r : Tok R := tok R) (_C31 : Tok C31 := tok C31) : Prop :=
 PUR prog (fieldAt 27 x7 4) fun v9 =>
 LD prog (loadAt 25 v9) (World.drew w8) fun v10 =>
 PUR prog (indexAt 25 v10 x12) fun v11 =>
 PUR prog (fieldAt 47 v11 0) fun v12 =>
 LD prog (loadAt 3 v12) (World.drew w8) fun v13 =>
 PUR prog (fieldAt 27 x2 3) fun v14 =>
 LD prog (loadAt 3 v14) (World.drew w8) fun v15 =>
 PUR prog (bins .eql 3 (.tmp 134) (.tmp 136) v13 v15) fun v16 =>
 SPL v16
 (b32_1 R C31 x9 x12 w8)
 (b33 R C31 x12 (World.drew w8))

def b32 (R : EP) (C31 : VP) (x1 x2 x7 x9 x12 : Value) (w : World) (_r : Tok R := tok R) (_C31 : Tok C31 := tok C31) : Prop :=
 RUN prog R (fieldAt 27 x7 4) w fun v1 w2 =>
 RUN prog R (loadAt 25 v1) w2 fun v3 w4 =>
 RUN prog R (Builtin.len_ #[25] 3 #[v3]) w4 fun v5 w6 =>
 RUN prog R (bins .lss 3 (.tmp 122) (.tmp 125) x12 v5) w6 fun v7 w8 =>
 SPL v7
 (b32_2 R C31 x2 x7 x9 x12 w8)
 (b8 R x1 x7 x9 w8)
theorem b32_ok (R : EP) (C31 : VP) : TI prog R p17 (q12 R C31) fun z w => b32 R C31 (z 1) (z 2) (z 7) (z 9) (z 12) w := appT 1 (b33_ok R C31)

def l31 (R : EP) (x1 x2 x7 x9 x12 : Value) (w : World) (_r : Tok R := tok R) : Prop :=
 ∃ (J : VP) (μ : Value → World → Nat), J x12 w ∧ ∀ y12 w0, J y12 w0 → b32 R (fun z12 w1 => J z12 w1 ∧ μ z12 w1 < μ y12 w0) x1 x2 x7 x9 y12 w0
abbrev q13 (R : EP) : XP := QX (fun z w => b8 R (z 1) (z 7) (z 9) w) (r0 R) [(12, (fun z w => b8 R (z 1) (z 7) (z 9) w))]
theorem l31_ok (R : EP) : TI prog R (blkC p16) (q13 R) fun z w => l31 R (z 1) (z 2) (z 7) (z 9) (z 12) w := fun z w h => by
 unfold l31 at h
 obtain ⟨J, μ, h0, hr⟩ := h
 refine loopT (fun z' w' => J (z' 12) w') (fun z' w' => μ (z' 12) w') h0 fun z' w' hA hI => b32_ok R (fun z12 w1 => J z12 w1 ∧ μ z12 w1 < μ (z' 12) w') z' w' ?_
 have h1 := hr (z' 12) w' hI
 rwa [← hA.on 1, ← hA.on 2, ← hA.on 7, ← hA.on 9] at h1
theorem l31_intro (R : EP) (x1 x2 x7 x9 x12 : Value) (w : World) (J : VP) (μ : Value → World → Nat) (h0 : J x12 w)
   (hr : ∀ y12 w0, J y12 w0 → ∀ C31 : VP, (∀ z12 w1, J z12 w1 → μ z12 w1 < μ y12 w0 → C31 z12 w1) → b32 R C31 x1 x2 x7 x9 y12 w0) : l31 R x1 x2 x7 x9 x12 w := by
 unfold l31
 exact ⟨J, μ, h0, fun y12 w0 hJ => hr y12 w0 hJ _ (fun z12 w1 h1 h2 => ⟨h1, h2⟩)⟩
abbrev q14 (R : EP) : XP := QX (fun z w => b8 R (z 1) (z 7) (z 9) w) (r0 R) []
theorem k30_ok (R : EP) : TI prog R p16 (q14 R) fun z w => l31 R (z 1) (z 2) (z 7) (z 9) (z 12) w := blockT 6 (l31_ok R)

def b29 (R : EP) (x1 x2 x7 x9 : Value) (w : World) (_r : Tok R := tok R) : Prop :=
 l31 R x1 x2 x7 x9 (Value.int .i64 0) w
theorem b29_ok (R : EP) : TI prog R p15 (q14 R) fun z w => b29 R (z 1) (z 2) (z 7) (z 9) w := appT 0 (k30_ok R)
theorem k7_ok (R : EP) : TI prog R (sndC p3) (q1 R) fun z w => b29 R (z 1) (z 2) (z 7) (z 9) w := seqT (b29_ok R) (b8_ok R)
noncomputable abbrev p19 : Code := dropC 1 (fstC p3)
noncomputable abbrev p20 : Code := loopC (blkC p19)
def b37_1 (R : EP) (C36 : VP) (x1 x9 x11 : Value) (w4 : World) (_r : Tok R := tok R) (_C36 : Tok C36 := tok C36) : Prop :=
 NILC x9 fun v5 =>
 PUR prog (fieldAt 135 v5 1) fun v6 =>
 LD prog (loadAt 132 v6) (World.drew w4) fun v7 =>
 NILC x9 fun v8 =>
 PUR prog (fieldAt 135 v8 4) fun v9 =>
 LD prog (loadAt 3 v9) (World.drew w4) fun v10 =>
 LD prog (Builtin.len_ #[24] 3 #[x1]) (World.drew w4) fun v11 =>
 PUR prog (bins .add 3 (.tmp 114) (.const (Value.int .i64 1)) v11 (Value.int .i64 1)) fun v12 =>
 PUR prog (bins .mul 3 (.tmp 112) (.tmp 115) v10 v12) fun v13 =>
 RUN prog R (makeSlice 68 v13 v13) (World.drew w4) fun v14 w15 =>
 Sem.run prog (loadAt 132 v6) w15 = .ok v7 w15 ∧ (RUN prog R (buildSlice 132 1 #[(0, v14)]) w15 fun v16 w17 =>
 Sem.run prog (loadAt 132 v6) w17 = .ok v7 w17 ∧ (RUN prog R (Builtin.append_ #[132, 132] 132 #[v7, v16]) w17 fun v18 w19 =>
 NILC x9 fun v20 =>
 PUR prog (fieldAt 135 v20 1) fun v21 =>
 RUNU prog R (storeAt 132 v21 v18) w19 fun w22 =>
 RUN prog R (bins .add 3 (.tmp 102) (.const (Value.int .i64 1)) x11 (Value.int .i64 1)) w22 fun v23 w24 =>
 C36 v23 w24))

def b37 (R : EP) (C36 : VP) (x1 x2 x7 x9 x11 : Value) (w : World) (_r : Tok R := tok R) (_C36 : Tok C36 := tok C36) : Prop :=
 RUN prog R (Builtin.len_ #[24] 3 #[x1]) w fun v1 w2 =>
 RUN prog R (bins .leq 3 (.tmp 98) (.tmp 100) x11 v1) w2 fun v3 w4 =>
 SPL v3
 (b37_1 R C36 x1 x9 x11 w4)
 (b29 R x1 x2 x7 x9 w4)
abbrev q15 (R : EP) (C36 : VP) : XP := QX (fun z w => C36 (z 11) w) (r0 R) [(8, (fun z w => b29 R (z 1) (z 2) (z 7) (z 9) w))]
theorem b37_ok (R : EP) (C36 : VP) : TI prog R p20 (q15 R C36) fun z w => b37 R C36 (z 1) (z 2) (z 7) (z 9) (z 11) w := ofT

def l36 (R : EP) (x1 x2 x7 x9 x11 : Value) (w : World) (_r : Tok R := tok R) : Prop :=
 ∃ (J : VP) (μ : Value → World → Nat), J x11 w ∧ ∀ y11 w0, J y11 w0 → b37 R (fun z11 w1 => J z11 w1 ∧ μ z11 w1 < μ y11 w0) x1 x2 x7 x9 y11 w0
abbrev q16 (R : EP) : XP := QX (fun z w => b29 R (z 1) (z 2) (z 7) (z 9) w) (r0 R) [(8, (fun z w => b29 R (z 1) (z 2) (z 7) (z 9) w))]
theorem l36_ok (R : EP) : TI prog R (blkC p19) (q16 R) fun z w => l36 R (z 1) (z 2) (z 7) (z 9) (z 11) w := fun z w h => by
 unfold l36 at h
 obtain ⟨J, μ, h0, hr⟩ := h
 refine loopT (fun z' w' => J (z' 11) w') (fun z' w' => μ (z' 11) w') h0 fun z' w' hA hI => b37_ok R (fun z11 w1 => J z11 w1 ∧ μ z11 w1 < μ (z' 11) w') z' w' ?_
 have h1 := hr (z' 11) w' hI
 rwa [← hA.on 1, ← hA.on 2, ← hA.on 7, ← hA.on 9] at h1
theorem l36_intro (R : EP) (x1 x2 x7 x9 x11 : Value) (w : World) (J : VP) (μ : Value → World → Nat) (h0 : J x11 w)
   (hr : ∀ y11 w0, J y11 w0 → ∀ C36 : VP, (∀ z11 w1, J z11 w1 → μ z11 w1 < μ y11 w0 → C36 z11 w1) → b37 R C36 x1 x2 x7 x9 y11 w0) : l36 R x1 x2 x7 x9 x11 w := by
 unfold l36
 exact ⟨J, μ, h0, fun y11 w0 hJ => hr y11 w0 hJ _ (fun z11 w1 h1 h2 => ⟨h1, h2⟩)⟩
abbrev q17 (R : EP) : XP := QX (fun z w => b29 R (z 1) (z 2) (z 7) (z 9) w) (r0 R) []
theorem k35_ok (R : EP) : TI prog R p19 (q17 R) fun z w => l36 R (z 1) (z 2) (z 7) (z 9) (z 11) w := blockT 4 (l36_ok R)

def b34 (R : EP) (x1 x2 x7 x9 : Value) (w : World) (_r : Tok R := tok R) : Prop :=
 l36 R x1 x2 x7 x9 (Value.int .i64 0) w
theorem b34_ok (R : EP) : TI prog R (fstC p3) (q17 R) fun z w => b34 R (z 1) (z 2) (z 7) (z 9) w := appT 0 (k35_ok R)
theorem k6_ok (R : EP) : TI prog R p3 (q1 R) fun z w => b34 R (z 1) (z 2) (z 7) (z 9) w := seqT (b34_ok R) (k7_ok R)

def b5 (R : EP) (x1 x2 x7 x9 : Value) (w : World) (_r : Tok R := tok R) : Prop :=
 RUN prog R (Builtin.len_ #[24] 3 #[x1]) w fun v1 w2 =>
 RUN prog R (bins .add 3 (.tmp 93) (.const (Value.int .i64 1)) v1 (Value.int .i64 1)) w2 fun v3 w4 =>
 RUN prog R (makeSlice 133 v3 v3) w4 fun v5 w6 =>
 NILC x9 fun v7 =>
 RUN prog R (fieldAt 135 v7 2) w6 fun v8 w9 =>
 RUNU prog R (storeAt 133 v8 v5) w9 fun w10 =>
 b34 R x1 x2 x7 x9 w10
theorem b5_ok (R : EP) : TI prog R (sndC p2) (q1 R) fun z w => b5 R (z 1) (z 2) (z 7) (z 9) w := appT 0 (k6_ok R)
noncomputable abbrev p21 : Code := dropC 1 (fstC p2)
noncomputable abbrev p22 : Code := loopC (blkC p21)
def b41_1 (R : EP) (C40 : VP) (x7 x9 x10 : Value) (w8 : World) (_r : Tok R := tok R) (_C40 : Tok C40 := tok C40) : Prop :=
 NILC x9 fun v9 =>
 PUR prog (fieldAt 135 v9 3) fun v10 =>
 LD prog (loadAt 24 v10) (World.drew w8) fun v11 =>
 NILC x9 fun v12 =>
 PUR prog (fieldAt 135 v12 4) fun v13 =>
 LD prog (loadAt 3 v13) (World.drew w8) fun v14 =>
 RUN prog R (buildSlice 24 1 #[(0, v14)]) (World.drew w8) fun v15 w16 =>
 Sem.run prog (loadAt 24 v10) w16 = .ok v11 w16 ∧ (RUN prog R (Builtin.append_ #[24, 24] 24 #[v11, v15]) w16 fun v17 w18 =>
 NILC x9 fun v19 =>
 PUR prog (fieldAt 135 v19 3) fun v20 =>
 RUNU prog R (storeAt 24 v20 v17) w18 fun w21 =>
 NILC x9 fun v22 =>
 PUR prog (fieldAt 135 v22 4) fun v23 =>
 LD prog (loadAt 3 v23) (World.drew w21) fun v24 =>
 PUR prog (fieldAt 27 x7 4) fun v25 =>
 LD prog (loadAt 25 v25) (World.drew w21) fun v26 =>
 PUR prog (indexAt 25 v26 x10) fun v27 =>
 PUR prog (fieldAt 47 v27 1) fun v28 =>
 LD prog (loadAt 24 v28) (World.drew w21) fun v29 =>
 LD prog (Builtin.len_ #[24] 3 #[v29]) (World.drew w21) fun v30 =>
 PUR prog (bins .add 3 (.tmp 79) (.tmp 86) v24 v30) fun v31 =>
 PUR prog (bins .add 3 (.tmp 87) (.const (Value.int .i64 1)) v31 (Value.int .i64 1)) fun v32 =>
 NILC x9 fun v33 =>
 PUR prog (fieldAt 135 v33 4) fun v34 =>
 RUNU prog R (storeAt 3 v34 v32) (World.drew w21) fun w35 =>
 RUN prog R (bins .add 3 (.tmp 60) (.const (Value.int .i64 1)) x10 (Value.int .i64 1)) w35 fun v36 w37 =>
 C40 v36 w37)

def b41 (R : EP) (C40 : VP) (x1 x2 x7 x9 x10 : Value) (w : World) (_r : Tok R := tok R) (_C40 : Tok C40 := tok C40) : Prop :=
 RUN prog R (fieldAt 27 x7 4) w fun v1 w2 =>
 RUN prog R (loadAt 25 v1) w2 fun v3 w4 =>
 RUN prog R (Builtin.len_ #[25] 3 #[v3]) w4 fun v5 w6 =>
 RUN prog R (bins .lss 3 (.tmp 55) (.tmp 58) x10 v5) w6 fun v7 w8 =>
 SPL v7
 (b41_1 R C40 x7 x9 x10 w8)
 (b5 R x1 x2 x7 x9 w8)
abbrev q18 (R : EP) (C40 : VP) : XP := QX (fun z w => C40 (z 10) w) (r0 R) [(4, (fun z w => b5 R (z 1) (z 2) (z 7) (z 9) w))]
theorem b41_ok (R : EP) (C40 : VP) : TI prog R p22 (q18 R C40) fun z w => b41 R C40 (z 1) (z 2) (z 7) (z 9) (z 10) w := ofT

def l40 (R : EP) (x1 x2 x7 x9 x10 : Value) (w : World) (_r : Tok R := tok R) : Prop :=
 ∃ (J : VP) (μ : Value → World → Nat), J x10 w ∧ ∀ y10 w0, J y10 w0 → b41 R (fun z10 w1 => J z10 w1 ∧ μ z10 w1 < μ y10 w0) x1 x2 x7 x9 y10 w0
abbrev q19 (R : EP) : XP := QX (fun z w => b5 R (z 1) (z 2) (z 7) (z 9) w) (r0 R) [(4, (fun z w => b5 R (z 1) (z 2) (z 7) (z 9) w))]
theorem l40_ok (R : EP) : TI prog R (blkC p21) (q19 R) fun z w => l40 R (z 1) (z 2) (z 7) (z 9) (z 10) w := fun z w h => by
 unfold l40 at h
 obtain ⟨J, μ, h0, hr⟩ := h
 refine loopT (fun z' w' => J (z' 10) w') (fun z' w' => μ (z' 10) w') h0 fun z' w' hA hI => b41_ok R (fun z10 w1 => J z10 w1 ∧ μ z10 w1 < μ (z' 10) w') z' w' ?_
 have h1 := hr (z' 10) w' hI
 rwa [← hA.on 1, ← hA.on 2, ← hA.on 7, ← hA.on 9] at h1
theorem l40_intro (R : EP) (x1 x2 x7 x9 x10 : Value) (w : World) (J : VP) (μ : Value → World → Nat) (h0 : J x10 w)
   (hr : ∀ y10 w0, J y10 w0 → ∀ C40 : VP, (∀ z10 w1, J z10 w1 → μ z10 w1 < μ y10 w0 → C40 z10 w1) → b41 R C40 x1 x2 x7 x9 y10 w0) : l40 R x1 x2 x7 x9 x10 w := by
 unfold l40
 exact ⟨J, μ, h0, fun y10 w0 hJ => hr y10 w0 hJ _ (fun z10 w1 h1 h2 => ⟨h1, h2⟩)⟩
abbrev q20 (R : EP) : XP := QX (fun z w => b5 R (z 1) (z 2) (z 7) (z 9) w) (r0 R) []
theorem k39_ok (R : EP) : TI prog R p21 (q20 R) fun z w => l40 R (z 1) (z 2) (z 7) (z 9) (z 10) w := blockT 2 (l40_ok R)

def b38 (R : EP) (x1 x2 x7 x9 : Value) (w : World) (_r : Tok R := tok R) : Prop :=
 l40 R x1 x2 x7 x9 (Value.int .i64 0) w
theorem b38_ok (R : EP) : TI prog R (fstC p2) (q20 R) fun z w => b38 R (z 1) (z 2) (z 7) (z 9) w := appT 0 (k39_ok R)
theorem k4_ok (R : EP) : TI prog R p2 (q1 R) fun z w => b38 R (z 1) (z 2) (z 7) (z 9) w := seqT (b38_ok R) (b5_ok R)

def b3 (R : EP) (x1 x2 x7 : Value) (w : World) (_r : Tok R := tok R) : Prop :=
 RUN prog R (loadAt 27 x7) w fun v1 w2 =>
 RUN prog R (build 135 #[(0, v1)]) w2 fun v3 w4 =>
 RUN prog R (box 135 v3) w4 fun v5 w6 =>
 b38 R x1 x2 x7 v5 w6
theorem b3_ok (R : EP) : TI prog R (sndC p1) (q1 R) fun z w => b3 R (z 1) (z 2) (z 7) w := appT 0 (k4_ok R)
noncomputable abbrev p23 : Code := dropC 1 (fstC p1)
noncomputable abbrev p24 : Code := loopC (blkC p23)
noncomputable abbrev p25 : Code := dropC 2 p24

def b46 (R : EP) (C44 : VP) (x8 : Value) (w : World) (_r : Tok R := tok R) (_C44 : Tok C44 := tok C44) : Prop :=
 RUN prog R (bins .add 3 (.tmp 31) (.const (Value.int .i64 1)) x8 (Value.int .i64 1)) w fun v1 w2 =>
 C44 v1 w2
abbrev q21 (R : EP) (C44 : VP) : XP := QX (fun z w => C44 (z 8) w) (r0 R) [(0, (fun z w => b3 R (z 1) (z 2) (z 7) w))]
theorem b46_ok (R : EP) (C44 : VP) : TI prog R p25 (q21 R C44) fun z w => b46 R C44 (z 8) w := ofT
def b45_1 (R : EP) (C44 : VP) (x2 x7 x8 : Value) (w16 : World) (_r : Tok R := tok R) (_C44 : Tok C44 := tok C44) : Prop :=
 PUR prog (fieldAt 27 x7 4) fun v17 =>
 LD prog (loadAt 25 v17) (World.drew w16) fun v18 =>
 PUR prog (fieldAt 27 x2 4) fun v19 =>
 LD prog (loadAt 25 v19) (World.drew w16) fun v20 =>
 PUR prog (indexAt 25 v20 x8) fun v21 =>
 LD prog (loadAt 47 v21) (World.drew w16) fun v22 =>
 RUN prog R (buildSlice 25 1 #[(0, v22)]) (World.drew w16) fun v23 w24 =>
 Sem.run prog (loadAt 25 v17) w24 = .ok v18 w24 ∧ (RUN prog R (Builtin.append_ #[25, 25] 25 #[v18, v23]) w24 fun v25 w26 =>
 PUR prog (fieldAt 27 x7 4) fun v27 =>
 RUNU prog R (storeAt 25 v27 v25) w26 fun w28 =>
 b46 R C44 x8 w28)
def b45_2 (R : EP) (C44 : VP) (x2 x6 x7 x8 : Value) (w8 : World) (_r : Tok R := tok R) (_C44 : Tok C44 := tok C44) : Prop :=
 LD prog (loadAt 27 x2) (World.drew w8) fun v9 =>
 PUR prog (fieldAt 27 x2 4) fun v10 =>
 LD prog (loadAt 25 v10) (World.drew w8) fun v11 =>
 PUR prog (indexAt 25 v11 x8) fun v12 =>
 PUR prog (fieldAt 47 v12 1) fun v13 =>
 LD prog (loadAt 24 v13) (World.drew w8) fun v14 =>
 CALL prog R ref06_Fits.id #[v9, x6, v14] (World.drew w8) fun v15 w16 =>
 SPL v15
 (b45_1 R C44 x2 x7 x8 w16)
 (b46 R C44 x8 w16)

def b45 (R : EP) (C44 : VP) (x1 x2 x6 x7 x8 : Value) (w : World) (_r : Tok R := tok R) (_C44 : Tok C44 := tok C44) : Prop :=
 RUN prog R (fieldAt 27 x2 4) w fun v1 w2 =>
 RUN prog R (loadAt 25 v1) w2 fun v3 w4 =>
 RUN prog R (Builtin.len_ #[25] 3 #[v3]) w4 fun v5 w6 =>
 RUN prog R (bins .lss 3 (.tmp 26) (.tmp 29) x8 v5) w6 fun v7 w8 =>
 SPL v7
 (b45_2 R C44 x2 x6 x7 x8 w8)
 (b3 R x1 x2 x7 w8)
theorem b45_ok (R : EP) (C44 : VP) : TI prog R p24 (q21 R C44) fun z w => b45 R C44 (z 1) (z 2) (z 6) (z 7) (z 8) w := appT 1 (b46_ok R C44)

def l44 (R : EP) (x1 x2 x6 x7 x8 : Value) (w : World) (_r : Tok R := tok R) : Prop :=
 ∃ (J : VP) (μ : Value → World → Nat), J x8 w ∧ ∀ y8 w0, J y8 w0 → b45 R (fun z8 w1 => J z8 w1 ∧ μ z8 w1 < μ y8 w0) x1 x2 x6 x7 y8 w0
abbrev q22 (R : EP) : XP := QX (fun z w => b3 R (z 1) (z 2) (z 7) w) (r0 R) [(0, (fun z w => b3 R (z 1) (z 2) (z 7) w))]
theorem l44_ok (R : EP) : TI prog R (blkC p23) (q22 R) fun z w => l44 R (z 1) (z 2) (z 6) (z 7) (z 8) w := fun z w h => by
 unfold l44 at h
 obtain ⟨J, μ, h0, hr⟩ := h
 refine loopT (fun z' w' => J (z' 8) w') (fun z' w' => μ (z' 8) w') h0 fun z' w' hA hI => b45_ok R (fun z8 w1 => J z8 w1 ∧ μ z8 w1 < μ (z' 8) w') z' w' ?_
 have h1 := hr (z' 8) w' hI
 rwa [← hA.on 1, ← hA.on 2, ← hA.on 6, ← hA.on 7] at h1
theorem l44_intro (R : EP) (x1 x2 x6 x7 x8 : Value) (w : World) (J : VP) (μ : Value → World → Nat) (h0 : J x8 w)
   (hr : ∀ y8 w0, J y8 w0 → ∀ C44 : VP, (∀ z8 w1, J z8 w1 → μ z8 w1 < μ y8 w0 → C44 z8 w1) → b45 R C44 x1 x2 x6 x7 y8 w0) : l44 R x1 x2 x6 x7 x8 w := by
 unfold l44
 exact ⟨J, μ, h0, fun y8 w0 hJ => hr y8 w0 hJ _ (fun z8 w1 h1 h2 => ⟨h1, h2⟩)⟩
abbrev q23 (R : EP) : XP := QX (fun z w => b3 R (z 1) (z 2) (z 7) w) (r0 R) []
theorem k43_ok (R : EP) : TI prog R p23 (q23 R) fun z w => l44 R (z 1) (z 2) (z 6) (z 7) (z 8) w := blockT 0 (l44_ok R)

def b42 (R : EP) (x1 x2 x6 x7 : Value) (w : World) (_r : Tok R := tok R) : Prop :=
 l44 R x1 x2 x6 x7 (Value.int .i64 0) w
theorem b42_ok (R : EP) : TI prog R (fstC p1) (q23 R) fun z w => b42 R (z 1) (z 2) (z 6) (z 7) w := appT 0 (k43_ok R)
theorem k2_ok (R : EP) : TI prog R p1 (q1 R) fun z w => b42 R (z 1) (z 2) (z 6) (z 7) w := seqT (b42_ok R) (b3_ok R)
def b1_1 (R : EP) (x1 v1 v5 : Value) (w6 : World) (_r : Tok R := tok R) : Prop :=
 RUN prog R (fieldAt 27 v1 0) w6 fun v7 w8 =>
 RUN prog R (loadAt 22 v7) w8 fun v9 w10 =>
 RUN prog R (fieldAt 27 v1 1) w10 fun v11 w12 =>
 RUN prog R (loadAt 23 v11) w12 fun v13 w14 =>
 RUN prog R (fieldAt 27 v1 3) w14 fun v15 w16 =>
 RUN prog R (loadAt 3 v15) w16 fun v17 w18 =>
 RUN prog R (build 27 #[(0, v9), (1, v13), (3, v17)]) w18 fun v19 w20 =>
 RUN prog R (alloc 27 true (.tuple #[])) w20 fun v21 w22 =>
 RUNU prog R (storeAt 27 v21 v19) w22 fun w23 =>
 b42 R x1 v1 v5 v21 w23

def b1 (R : EP) (x0 x1 : Value) (w : World) (_r : Tok R := tok R) : Prop :=
 RUN prog R (box 27 x0) w fun v1 w2 =>
 RUN prog R (loadAt 27 v1) w2 fun v3 w4 =>
 CALL prog R ref06_Marks.id #[v3] w4 fun v5 w6 =>
 b1_1 R x1 v1 v5 w6
theorem b1_ok (R : EP) : TI prog R code (q1 R) fun z w => b1 R (z 0) (z 1) w := appT 2 (k2_ok R)
def run (R : EP) (a0 a1 : Value) (w : World) : Prop := b1 R a0 a1 w
theorem calls (R : EP) (a0 a1 : Value) (w : World) (h : run R a0 a1 w) : Calls prog id #[a0, a1] w R :=
 calls_of_tt (f := id) (fn := f96) (c := code) (by kernel_rfl) func96 (by kernel_rfl) (by kernel_rfl) (args := [a0, a1]) (Nat.le_of_ble_eq_true rfl) rfl (b1_ok R (envOf [a0, a1]) w h)
theorem enters : Enters prog id := fun args w => call96 args w
theorem ct {a0 a1 : Value} {w : World} {S : VP} (h : ∀ R : EP, (∀ v w, S v w → R (.returned v) w) → run R a0 a1 w) : Ct prog id #[a0, a1] w S :=
 Ct.intro enters fun R hR => calls R a0 a1 w (h R hR)
attribute [irreducible] l22 l13 l31 l36 l40 l44
attribute [irreducible, go_sem] b10 b16 b19_1 b19 b25 b28_1 b28 b27_1 b27 b23 b20 b14 b11 b8 b33 b32_1 b32_2 b32 b29 b37_1 b37 b34 b5 b41_1 b41 b38 b3 b46 b45_1 b45_2 b45 b42 b1_1 b1 run
end ref06_read

/-! ### presage/presageref06.Marks -/
namespace ref06_Marks
noncomputable def code : Code := bodyOf f133
noncomputable abbrev p1 : Code := dropC 2 code
def b3 (R : EP) (x3 : Value) (w : World) (_r : Tok R := tok R) : Prop :=
 R (.returned x3) w
abbrev r0 (R : EP) (z : Env) (w : World) : Prop := R (.returned (z 2)) w
abbrev q1 (R : EP) : XP := QX (r0 R) (r0 R) []
theorem b3_ok (R : EP) : TI prog R (sndC p1) (q1 R) fun z w => b3 R (z 3) w := ofT
noncomputable abbrev p2 : Code := dropC 1 (fstC p1)
noncomputable abbrev p3 : Code := loopC (blkC p2)
noncomputable abbrev p4 : Code := dropC 1 p3
noncomputable abbrev p5 : Code := dropC 2 (blkC p4)
noncomputable abbrev p6 : Code := loopC (blkC p5)
noncomputable abbrev p7 : Code := dropC 1 p6
def b14 (R : EP) (C6 : VP) (C11 : Value → VP) (x4 x5 : Value) (w : World) (_r : Tok R := tok R) (_C6 : Tok C6 := tok C6) (_C11 : Tok C11 := tok C11) : Prop :=
 RUN prog R (bins .add 3 (.tmp 17) (.const (Value.int .i64 1)) x5 (Value.int .i64 1)) w fun v1 w2 =>
 C11 x4 v1 w2
abbrev q2 (R : EP) (C6 : VP) (C11 : Value → VP) : XP := QX (fun z w => C11 (z 4) (z 5) w) (r0 R) [(4, (fun z w => C6 (z 4) w)), (2, (fun z w => C6 (z 4) w)), (0, (fun z w => b3 R (z 3) w))]
theorem b14_ok (R : EP) (C6 : VP) (C11 : Value → VP) : TI prog R (sndC p7) (q2 R C6 C11) fun z w => b14 R C6 C11 (z 4) (z 5) w := ofT
noncomputable abbrev p8 : Code := blkC (fstC p7)
noncomputable abbrev p9 : Code := dropC 2 p8
def b17_1 (R : EP) (C6 : VP) (C11 : Value → VP) (x1 x3 x5 x6 : Value) (w : World) (_r : Tok R := tok R) (_C6 : Tok C6 := tok C6) (_C11 : Tok C11 := tok C11) : Prop :=
 RUN prog R (fieldAt 47 x6 0) w fun v1 w2 =>
 RUN prog R (loadAt 3 v1) w2 fun v3 w4 =>
 RUN prog R (fieldAt 27 x1 0) w4 fun v5 w6 =>
 RUN prog R (loadAt 22 v5) w6 fun v7 w8 =>
 RUN prog R (Builtin.len_ #[22] 3 #[v7]) w8 fun v9 w10 =>
 RUN prog R (bins .sub 3 (.tmp 43) (.tmp 46) v3 v9) w10 fun v11 w12 =>
 RUN prog R (indexAt 68 x3 v11) w12 fun v13 w14 =>
 RUNU prog R (storeAt 4 v13 (Value.bool true)) w14 fun w15 =>
 b14 R C6 C11 (Value.bool true) x5 w15
def b17 (R : EP) (C6 : VP) (C11 : Value → VP) (x1 x3 x4 x5 x6 x40 : Value) (w : World) (_r : Tok R := tok R) (_C6 : Tok C6 := tok C6) (_C11 : Tok C11 := tok C11) : Prop :=
 SPL x40
 (b17_1 R C6 C11 x1 x3 x5 x6 w)
 (b14 R C6 C11 x4 x5 w)
abbrev q3 (R : EP) (C6 : VP) (C11 : Value → VP) : XP := QX (fun z w => b14 R C6 C11 (z 4) (z 5) w) (r0 R) [(6, (fun z w => b14 R C6 C11 (z 4) (z 5) w)), (4, (fun z w => C6 (z 4) w)), (2, (fun z w => C6 (z 4) w)), (0, (fun z w => b3 R (z 3) w))]
theorem b17_ok (R : EP) (C6 : VP) (C11 : Value → VP) : TI prog R p9 (q3 R C6 C11) fun z w => b17 R C6 C11 (z 1) (z 3) (z 4) (z 5) (z 6) (z 40) w := ofT
def b16_1 (R : EP) (C6 : VP) (C11 : Value → VP) (x1 x3 x4 x5 v9 : Value) (w29 : World) (_r : Tok R := tok R) (_C6 : Tok C6 := tok C6) (_C11 : Tok C11 := tok C11) : Prop :=
 RUN prog R (loadAt 27 x1) w29 fun v30 w31 =>
 RUN prog R (fieldAt 47 v9 1) w31 fun v32 w33 =>
 RUN prog R (loadAt 24 v32) w33 fun v34 w35 =>
 CALL prog R ref06_Fits.id #[v30, x3, v34] w35 fun v36 w37 =>
 b17 R C6 C11 x1 x3 x4 x5 v9 v36 w37
def b16 (R : EP) (C6 : VP) (C11 : Value → VP) (x1 x3 x4 x5 : Value) (w : World) (_r : Tok R := tok R) (_C6 : Tok C6 := tok C6) (_C11 : Tok C11 := tok C11) : Prop :=
 RUN prog R (fieldAt 27 x1 4) w fun v1 w2 =>
 RUN prog R (loadAt 25 v1) w2 fun v3 w4 =>
 RUN prog R (indexAt 25 v3 x5) w4 fun v5 w6 =>
 RUN prog R (loadAt 47 v5) w6 fun v7 w8 =>
 RUN prog R (alloc 47 true (.tuple #[])) w8 fun v9 w10 =>
 RUNU prog R (storeAt 47 v9 v7) w10 fun w11 =>
 RUN prog R (fieldAt 47 v9 0) w11 fun v12 w13 =>
 RUN prog R (loadAt 3 v12) w13 fun v14 w15 =>
 RUN prog R (fieldAt 27 x1 0) w15 fun v16 w17 =>
 RUN prog R (loadAt 22 v16) w17 fun v18 w19 =>
 RUN prog R (Builtin.len_ #[22] 3 #[v18]) w19 fun v20 w21 =>
 RUN prog R (bins .sub 3 (.tmp 26) (.tmp 29) v14 v20) w21 fun v22 w23 =>
 RUN prog R (indexAt 68 x3 v22) w23 fun v24 w25 =>
 RUN prog R (loadAt 4 v24) w25 fun v26 w27 =>
 RUN prog R (Op.unary .not v26) w27 fun v28 w29 =>
 SPL v28
 (b16_1 R C6 C11 x1 x3 x4 x5 v9 w29)
 (b17 R C6 C11 x1 x3 x4 x5 v9 (Value.bool false) w29)
theorem b16_ok (R : EP) (C6 : VP) (C11 : Value → VP) : TI prog R p8 (q3 R C6 C11) fun z w => b16 R C6 C11 (z 1) (z 3) (z 4) (z 5) w := appT 1 (b17_ok R C6 C11)
abbrev q4 (R : EP) (C6 : VP) (C11 : Value → VP) : XP := QX (fun z w => b14 R C6 C11 (z 4) (z 5) w) (r0 R) [(4, (fun z w => C6 (z 4) w)), (2, (fun z w => C6 (z 4) w)), (0, (fun z w => b3 R (z 3) w))]
theorem k15_ok (R : EP) (C6 : VP) (C11 : Value → VP) : TI prog R (fstC p7) (q4 R C6 C11) fun z w => b16 R C6 C11 (z 1) (z 3) (z 4) (z 5) w := blockT 3 (b16_ok R C6 C11)
theorem k13_ok (R : EP) (C6 : VP) (C11 : Value → VP) : TI prog R p7 (q2 R C6 C11) fun z w => b16 R C6 C11 (z 1) (z 3) (z 4) (z 5) w := seqT (k15_ok R C6 C11) (b14_ok R C6 C11)
def b12 (R : EP) (C6 : VP) (C11 : Value → VP) (x1 x3 x4 x5 : Value) (w : World) (_r : Tok R := tok R) (_C6 : Tok C6 := tok C6) (_C11 : Tok C11 := tok C11) : Prop :=
 RUN prog R (fieldAt 27 x1 4) w fun v1 w2 =>
 RUN prog R (loadAt 25 v1) w2 fun v3 w4 =>
 RUN prog R (Builtin.len_ #[25] 3 #[v3]) w4 fun v5 w6 =>
 RUN prog R (bins .lss 3 (.tmp 12) (.tmp 15) x5 v5) w6 fun v7 w8 =>
 SPL v7
 (b16 R C6 C11 x1 x3 x4 x5 w8)
 (C6 x4 w8)
theorem b12_ok (R : EP) (C6 : VP) (C11 : Value → VP) : TI prog R p6 (q2 R C6 C11) fun z w => b12 R C6 C11 (z 1) (z 3) (z 4) (z 5) w := appT 0 (k13_ok R C6 C11)
def l11 (R : EP) (C6 : VP) (x1 x3 x4 x5 : Value) (w : World) (_r : Tok R := tok R) (_C6 : Tok C6 := tok C6) : Prop :=
 ∃ (J : Value → VP) (μ : Value → Value → World → Nat), J x4 x5 w ∧ ∀ y4 y5 w0, J y4 y5 w0 → b12 R C6 (fun z4 z5 w1 => J z4 z5 w1 ∧ μ z4 z5 w1 < μ y4 y5 w0) x1 x3 y4 y5 w0
abbrev q5 (R : EP) (C6 : VP) : XP := QX (fun z w => C6 (z 4) w) (r0 R) [(4, (fun z w => C6 (z 4) w)), (2, (fun z w => C6 (z 4) w)), (0, (fun z w => b3 R (z 3) w))]
theorem l11_ok (R : EP) (C6 : VP) : TI prog R (blkC p5) (q5 R C6) fun z w => l11 R C6 (z 1) (z 3) (z 4) (z 5) w := fun z w h => by
 unfold l11 at h
 obtain ⟨J, μ, h0, hr⟩ := h
 refine loopT (fun z' w' => J (z' 4) (z' 5) w') (fun z' w' => μ (z' 4) (z' 5) w') h0 fun z' w' hA hI => b12_ok R C6 (fun z4 z5 w1 => J z4 z5 w1 ∧ μ z4 z5 w1 < μ (z' 4) (z' 5) w') z' w' ?_
 have h1 := hr (z' 4) (z' 5) w' hI
 rwa [← hA.on 1, ← hA.on 3] at h1
theorem l11_intro (R : EP) (C6 : VP) (x1 x3 x4 x5 : Value) (w : World) (J : Value → VP) (μ : Value → Value → World → Nat) (h0 : J x4 x5 w)
   (hr : ∀ y4 y5 w0, J y4 y5 w0 → ∀ C11 : Value → VP, (∀ z4 z5 w1, J z4 z5 w1 → μ z4 z5 w1 < μ y4 y5 w0 → C11 z4 z5 w1) → b12 R C6 C11 x1 x3 y4 y5 w0) : l11 R C6 x1 x3 x4 x5 w := by
 unfold l11
 exact ⟨J, μ, h0, fun y4 y5 w0 hJ => hr y4 y5 w0 hJ _ (fun z4 z5 w1 h1 h2 => ⟨h1, h2⟩)⟩
abbrev q6 (R : EP) (C6 : VP) : XP := QX (fun z w => C6 (z 4) w) (r0 R) [(2, (fun z w => C6 (z 4) w)), (0, (fun z w => b3 R (z 3) w))]
theorem k10_ok (R : EP) (C6 : VP) : TI prog R p5 (q6 R C6) fun z w => l11 R C6 (z 1) (z 3) (z 4) (z 5) w := blockT 2 (l11_ok R C6)
def b9 (R : EP) (C6 : VP) (x1 x3 : Value) (w : World) (_r : Tok R := tok R) (_C6 : Tok C6 := tok C6) : Prop :=
 l11 R C6 x1 x3 (Value.bool false) (Value.int .i64 0) w
theorem b9_ok (R : EP) (C6 : VP) : TI prog R (blkC p4) (q6 R C6) fun z w => b9 R C6 (z 1) (z 3) w := appT 1 (k10_ok R C6)
abbrev q7 (R : EP) (C6 : VP) : XP := QX (fun z w => C6 (z 4) w) (r0 R) [(0, (fun z w => b3 R (z 3) w))]
theorem k8_ok (R : EP) (C6 : VP) : TI prog R p4 (q7 R C6) fun z w => b9 R C6 (z 1) (z 3) w := blockT 1 (b9_ok R C6)
def b7 (R : EP) (C6 : VP) (x1 x3 x4 : Value) (w : World) (_r : Tok R := tok R) (_C6 : Tok C6 := tok C6) : Prop :=
 SPL x4
 (b9 R C6 x1 x3 w)
 (b3 R x3 w)
theorem b7_ok (R : EP) (C6 : VP) : TI prog R p3 (q7 R C6) fun z w => b7 R C6 (z 1) (z 3) (z 4) w := appT 0 (k8_ok R C6)
def l6 (R : EP) (x1 x3 x4 : Value) (w : World) (_r : Tok R := tok R) : Prop :=
 ∃ (J : VP) (μ : Value → World → Nat), J x4 w ∧ ∀ y4 w0, J y4 w0 → b7 R (fun z4 w1 => J z4 w1 ∧ μ z4 w1 < μ y4 w0) x1 x3 y4 w0
abbrev q8 (R : EP) : XP := QX (fun z w => b3 R (z 3) w) (r0 R) [(0, (fun z w => b3 R (z 3) w))]
theorem l6_ok (R : EP) : TI prog R (blkC p2) (q8 R) fun z w => l6 R (z 1) (z 3) (z 4) w := fun z w h => by
 unfold l6 at h
 obtain ⟨J, μ, h0, hr⟩ := h
 refine loopT (fun z' w' => J (z' 4) w') (fun z' w' => μ (z' 4) w') h0 fun z' w' hA hI => b7_ok R (fun z4 w1 => J z4 w1 ∧ μ z4 w1 < μ (z' 4) w') z' w' ?_
 have h1 := hr (z' 4) w' hI
 rwa [← hA.on 1, ← hA.on 3] at h1
theorem l6_intro (R : EP) (x1 x3 x4 : Value) (w : World) (J : VP) (μ : Value → World → Nat) (h0 : J x4 w)
   (hr : ∀ y4 w0, J y4 w0 → ∀ C6 : VP, (∀ z4 w1, J z4 w1 → μ z4 w1 < μ y4 w0 → C6 z4 w1) → b7 R C6 x1 x3 y4 w0) : l6 R x1 x3 x4 w := by
 unfold l6
 exact ⟨J, μ, h0, fun y4 w0 hJ => hr y4 w0 hJ _ (fun z4 w1 h1 h2 => ⟨h1, h2⟩)⟩
abbrev q9 (R : EP) : XP := QX (fun z w => b3 R (z 3) w) (r0 R) []
theorem k5_ok (R : EP) : TI prog R p2 (q9 R) fun z w => l6 R (z 1) (z 3) (z 4) w := blockT 0 (l6_ok R)
def b4 (R : EP) (x1 x3 : Value) (w : World) (_r : Tok R := tok R) : Prop :=
 l6 R x1 x3 (Value.bool true) w
theorem b4_ok (R : EP) : TI prog R (fstC p1) (q9 R) fun z w => b4 R (z 1) (z 3) w := appT 0 (k5_ok R)
theorem k2_ok (R : EP) : TI prog R p1 (q1 R) fun z w => b4 R (z 1) (z 3) w := seqT (b4_ok R) (b3_ok R)
def b1 (R : EP) (x0 : Value) (w : World) (_r : Tok R := tok R) : Prop :=
 RUN prog R (box 27 x0) w fun v1 w2 =>
 RUN prog R (fieldAt 27 v1 1) w2 fun v3 w4 =>
 RUN prog R (loadAt 23 v3) w4 fun v5 w6 =>
 RUN prog R (Builtin.len_ #[23] 3 #[v5]) w6 fun v7 w8 =>
 RUN prog R (makeSlice 68 v7 v7) w8 fun v9 w10 =>
 b4 R v1 v9 w10
theorem b1_ok (R : EP) : TI prog R code (q1 R) fun z w => b1 R (z 0) w := appT 1 (k2_ok R)
def run (R : EP) (a0 : Value) (w : World) : Prop := b1 R a0 w
theorem calls (R : EP) (a0 : Value) (w : World) (h : run R a0 w) : Calls prog id #[a0] w R := cls_t func133 [a0] (b1_ok R _ w h)
theorem enters : Enters prog id := fun args w => call133 args w
theorem ct {a0 : Value} {w : World} {S : VP} (h : ∀ R : EP, (∀ v w, S v w → R (.returned v) w) → run R a0 w) : Ct prog id #[a0] w S :=
 Ct.intro enters fun R hR => calls R a0 w (h R hR)
attribute [irreducible] l11 l6
attribute [irreducible, go_sem] b3 b14 b17_1 b17 b16_1 b16 b12 b9 b7 b4 b1 run
end ref06_Marks

/-! ### presage/presageref06.Fits -/
namespace ref06_Fits
noncomputable def code : Code := bodyOf f134
noncomputable abbrev p1 : Code := dropC 1 code

def b3 (R : EP) (w : World) (_r : Tok R := tok R) : Prop :=
 R (.returned (Value.bool true)) w
abbrev r0 (R : EP) (z : Env) (w : World) : Prop := R (.returned (z 6)) w
abbrev q1 (R : EP) : XP := QX (r0 R) (r0 R) []
theorem b3_ok (R : EP) : TI prog R (sndC p1) (q1 R) fun z w => b3 R w := ofT
noncomputable abbrev p2 : Code := dropC 1 (fstC p1)
noncomputable abbrev p3 : Code := loopC (blkC p2)
noncomputable abbrev p4 : Code := dropC 1 p3
def b9 (R : EP) (C6 : VP) (x7 : Value) (w : World) (_r : Tok R := tok R) (_C6 : Tok C6 := tok C6) : Prop :=
 RUN prog R (bins .add 3 (.tmp 12) (.const (Value.int .i64 1)) x7 (Value.int .i64 1)) w fun v1 w2 =>
 C6 v1 w2
abbrev q2 (R : EP) (C6 : VP) : XP := QX (fun z w => C6 (z 7) w) (r0 R) [(0, (fun z w => b3 R  w))]
theorem b9_ok (R : EP) (C6 : VP) : TI prog R (sndC p4) (q2 R C6) fun z w => b9 R C6 (z 7) w := ofT
noncomputable abbrev p5 : Code := blkC (fstC p4)
noncomputable abbrev p6 : Code := dropC 1 p5
def b12 (R : EP) (C6 : VP) (x7 x35 : Value) (w : World) (_r : Tok R := tok R) (_C6 : Tok C6 := tok C6) : Prop :=
 SPL x35
 (R (.returned (Value.bool false)) w)
 (b9 R C6 x7 w)
abbrev q3 (R : EP) (C6 : VP) : XP := QX (fun z w => b9 R C6 (z 7) w) (r0 R) [(2, (fun z w => b9 R C6 (z 7) w)), (0, (fun z w => b3 R  w))]
theorem b12_ok (R : EP) (C6 : VP) : TI prog R p6 (q3 R C6) fun z w => b12 R C6 (z 7) (z 35) w := ofT
def b11_1 (R : EP) (C6 : VP) (x1 x2 x3 x7 : Value) (w : World) (_r : Tok R := tok R) (_C6 : Tok C6 := tok C6) : Prop :=
 PUR prog (indexAt 24 x2 x7) fun v7 =>
 LD prog (loadAt 3 v7) (World.drew w) fun v8 =>
 PUR prog (fieldAt 27 x3 0) fun v9 =>
 LD prog (loadAt 22 v9) (World.drew w) fun v10 =>
 LD prog (Builtin.len_ #[22] 3 #[v10]) (World.drew w) fun v11 =>
 PUR prog (bins .sub 3 (.tmp 27) (.tmp 30) v8 v11) fun v12 =>
 PUR prog (indexAt 68 x1 v12) fun v13 =>
 LD prog (loadAt 4 v13) (World.drew w) fun v14 =>
 PUR prog (Op.unary .not v14) fun v15 =>
 b12 R C6 x7 v15 (World.drew w)
def b11 (R : EP) (C6 : VP) (x1 x2 x3 x7 : Value) (w : World) (_r : Tok R := tok R) (_C6 : Tok C6 := tok C6) : Prop :=
 PUR prog (indexAt 24 x2 x7) fun v1 =>
 LD prog (loadAt 3 v1) (World.drew w) fun v2 =>
 PUR prog (fieldAt 27 x3 0) fun v3 =>
 LD prog (loadAt 22 v3) (World.drew w) fun v4 =>
 LD prog (Builtin.len_ #[22] 3 #[v4]) (World.drew w) fun v5 =>
 PUR prog (bins .geq 3 (.tmp 17) (.tmp 20) v2 v5) fun v6 =>
 SPL v6
 (b11_1 R C6 x1 x2 x3 x7 w)
 (b12 R C6 x7 (Value.bool false) (World.drew w))
theorem b11_ok (R : EP) (C6 : VP) : TI prog R p5 (q3 R C6) fun z w => b11 R C6 (z 1) (z 2) (z 3) (z 7) w := appT 0 (b12_ok R C6)
abbrev q4 (R : EP) (C6 : VP) : XP := QX (fun z w => b9 R C6 (z 7) w) (r0 R) [(0, (fun z w => b3 R  w))]
theorem k10_ok (R : EP) (C6 : VP) : TI prog R (fstC p4) (q4 R C6) fun z w => b11 R C6 (z 1) (z 2) (z 3) (z 7) w := blockT 1 (b11_ok R C6)
theorem k8_ok (R : EP) (C6 : VP) : TI prog R p4 (q2 R C6) fun z w => b11 R C6 (z 1) (z 2) (z 3) (z 7) w := seqT (k10_ok R C6) (b9_ok R C6)
def b7 (R : EP) (C6 : VP) (x1 x2 x3 x7 : Value) (w : World) (_r : Tok R := tok R) (_C6 : Tok C6 := tok C6) : Prop :=
 RUN prog R (Builtin.len_ #[24] 3 #[x2]) w fun v1 w2 =>
 RUN prog R (bins .lss 3 (.tmp 8) (.tmp 10) x7 v1) w2 fun v3 w4 =>
 SPL v3
 (b11 R C6 x1 x2 x3 x7 w4)
 (b3 R w4)
theorem b7_ok (R : EP) (C6 : VP) : TI prog R p3 (q2 R C6) fun z w => b7 R C6 (z 1) (z 2) (z 3) (z 7) w := appT 0 (k8_ok R C6)
def l6 (R : EP) (x1 x2 x3 x7 : Value) (w : World) (_r : Tok R := tok R) : Prop :=
 ∃ (J : VP) (μ : Value → World → Nat), J x7 w ∧ ∀ y7 w0, J y7 w0 → b7 R (fun z7 w1 => J z7 w1 ∧ μ z7 w1 < μ y7 w0) x1 x2 x3 y7 w0
abbrev q5 (R : EP) : XP := QX (fun z w => b3 R  w) (r0 R) [(0, (fun z w => b3 R  w))]
theorem l6_ok (R : EP) : TI prog R (blkC p2) (q5 R) fun z w => l6 R (z 1) (z 2) (z 3) (z 7) w := fun z w h => by
 unfold l6 at h
 obtain ⟨J, μ, h0, hr⟩ := h
 refine loopT (fun z' w' => J (z' 7) w') (fun z' w' => μ (z' 7) w') h0 fun z' w' hA hI => b7_ok R (fun z7 w1 => J z7 w1 ∧ μ z7 w1 < μ (z' 7) w') z' w' ?_
 have h1 := hr (z' 7) w' hI
 rwa [← hA.on 1, ← hA.on 2, ← hA.on 3] at h1
theorem l6_intro (R : EP) (x1 x2 x3 x7 : Value) (w : World) (J : VP) (μ : Value → World → Nat) (h0 : J x7 w)
   (hr : ∀ y7 w0, J y7 w0 → ∀ C6 : VP, (∀ z7 w1, J z7 w1 → μ z7 w1 < μ y7 w0 → C6 z7 w1) → b7 R C6 x1 x2 x3 y7 w0) : l6 R x1 x2 x3 x7 w := by
 unfold l6
 exact ⟨J, μ, h0, fun y7 w0 hJ => hr y7 w0 hJ _ (fun z7 w1 h1 h2 => ⟨h1, h2⟩)⟩
abbrev q6 (R : EP) : XP := QX (fun z w => b3 R  w) (r0 R) []
theorem k5_ok (R : EP) : TI prog R p2 (q6 R) fun z w => l6 R (z 1) (z 2) (z 3) (z 7) w := blockT 0 (l6_ok R)
def b4 (R : EP) (x1 x2 x3 : Value) (w : World) (_r : Tok R := tok R) : Prop :=
 l6 R x1 x2 x3 (Value.int .i64 0) w
theorem b4_ok (R : EP) : TI prog R (fstC p1) (q6 R) fun z w => b4 R (z 1) (z 2) (z 3) w := appT 0 (k5_ok R)
theorem k2_ok (R : EP) : TI prog R p1 (q1 R) fun z w => b4 R (z 1) (z 2) (z 3) w := seqT (b4_ok R) (b3_ok R)
def b1 (R : EP) (x0 x1 x2 : Value) (w : World) (_r : Tok R := tok R) : Prop :=
 RUN prog R (box 27 x0) w fun v1 w2 =>
 b4 R x1 x2 v1 w2
theorem b1_ok (R : EP) : TI prog R code (q1 R) fun z w => b1 R (z 0) (z 1) (z 2) w := appT 0 (k2_ok R)
def run (R : EP) (a0 a1 a2 : Value) (w : World) : Prop := b1 R a0 a1 a2 w
theorem calls (R : EP) (a0 a1 a2 : Value) (w : World) (h : run R a0 a1 a2 w) : Calls prog id #[a0, a1, a2] w R := cls_t func134 [a0, a1, a2] (b1_ok R _ w h)
theorem enters : Enters prog id := fun args w => call134 args w
theorem ct {a0 a1 a2 : Value} {w : World} {S : VP} (h : ∀ R : EP, (∀ v w, S v w → R (.returned v) w) → run R a0 a1 a2 w) : Ct prog id #[a0, a1, a2] w S :=
 Ct.intro enters fun R hR => calls R a0 a1 a2 w (h R hR)
attribute [irreducible] l6
attribute [irreducible, go_sem] b3 b9 b12 b11_1 b11 b7 b4 b1 run
end ref06_Fits

/-! ### (*presage/presageref06.chart).add -/
namespace ref06_chart_add
noncomputable def code : Code := bodyOf f135
def b1_1 (R : EP) (x0 x1 v1 v20 : Value) (w33 : World) (_r : Tok R := tok R) : Prop :=
 NILC x0 fun v34 =>
 RUN prog R (fieldAt 135 v34 1) w33 fun v35 w36 =>
 RUN prog R (loadAt 132 v35) w36 fun v37 w38 =>
 RUN prog R (indexAt 132 v37 x1) w38 fun v39 w40 =>
 RUN prog R (loadAt 68 v39) w40 fun v41 w42 =>
 RUN prog R (indexAt 68 v41 v20) w42 fun v43 w44 =>
 RUNU prog R (storeAt 4 v43 (Value.bool true)) w44 fun w45 =>
 NILC x0 fun v46 =>
 PUR prog (fieldAt 135 v46 2) fun v47 =>
 LD prog (loadAt 133 v47) (World.drew w45) fun v48 =>
 NILC x0 fun v49 =>
 PUR prog (fieldAt 135 v49 2) fun v50 =>
 LD prog (loadAt 133 v50) (World.drew w45) fun v51 =>
 PUR prog (indexAt 133 v51 x1) fun v52 =>
 LD prog (loadAt 131 v52) (World.drew w45) fun v53 =>
 LD prog (loadAt 137 v1) (World.drew w45) fun v54 =>
 RUN prog R (buildSlice 131 1 #[(0, v54)]) (World.drew w45) fun v55 w56 =>
 Sem.run prog (loadAt 131 v52) w56 = .ok v53 w56 ∧ (Sem.run prog (loadAt 133 v50) w56 = .ok v51 w56 ∧ (Sem.run prog (loadAt 133 v47) w56 = .ok v48 w56 ∧ (RUN prog R (Builtin.append_ #[131, 131] 131 #[v53, v55]) w56 fun v57 w58 =>
 Sem.run prog (loadAt 133 v47) w58 = .ok v48 w58 ∧ (PUR prog (indexAt 133 v48 x1) fun v59 =>
 RUNU prog R (storeAt 131 v59 v57) w58 fun w60 =>
 R (.returned (Value.bool true)) w60))))
def b1 (R : EP) (x0 x1 x2 : Value) (w : World) (_r : Tok R := tok R) : Prop :=
 RUN prog R (box 137 x2) w fun v1 w2 =>
 NILC x0 fun v3 =>
 PUR prog (fieldAt 135 v3 3) fun v4 =>
 LD prog (loadAt 24 v4) (World.drew w2) fun v5 =>
 PUR prog (fieldAt 137 v1 0) fun v6 =>
 LD prog (loadAt 3 v6) (World.drew w2) fun v7 =>
 PUR prog (indexAt 24 v5 v7) fun v8 =>
 LD prog (loadAt 3 v8) (World.drew w2) fun v9 =>
 PUR prog (fieldAt 137 v1 1) fun v10 =>
 LD prog (loadAt 3 v10) (World.drew w2) fun v11 =>
 PUR prog (bins .add 3 (.tmp 15) (.tmp 17) v9 v11) fun v12 =>
 NILC x0 fun v13 =>
 PUR prog (fieldAt 135 v13 2) fun v14 =>
 LD prog (loadAt 133 v14) (World.drew w2) fun v15 =>
 LD prog (Builtin.len_ #[133] 3 #[v15]) (World.drew w2) fun v16 =>
 PUR prog (bins .mul 3 (.tmp 18) (.tmp 23) v12 v16) fun v17 =>
 PUR prog (fieldAt 137 v1 2) fun v18 =>
 LD prog (loadAt 3 v18) (World.drew w2) fun v19 =>
 PUR prog (bins .add 3 (.tmp 24) (.tmp 26) v17 v19) fun v20 =>
 NILC x0 fun v21 =>
 RUN prog R (fieldAt 135 v21 1) (World.drew w2) fun v22 w23 =>
 RUN prog R (loadAt 132 v22) w23 fun v24 w25 =>
 RUN prog R (indexAt 132 v24 x1) w25 fun v26 w27 =>
 RUN prog R (loadAt 68 v26) w27 fun v28 w29 =>
 RUN prog R (indexAt 68 v28 v20) w29 fun v30 w31 =>
 RUN prog R (loadAt 4 v30) w31 fun v32 w33 =>
 SPL v32
 (R (.returned (Value.bool false)) w33)
 (b1_1 R x0 x1 v1 v20 w33)
abbrev r0 (R : EP) (z : Env) (w : World) : Prop := R (.returned (z 6)) w
abbrev q1 (R : EP) : XP := QX (r0 R) (r0 R) []
theorem b1_ok (R : EP) : TI prog R code (q1 R) fun z w => b1 R (z 0) (z 1) (z 2) w := ofT
def run (R : EP) (a0 a1 a2 : Value) (w : World) : Prop := b1 R a0 a1 a2 w
theorem calls (R : EP) (a0 a1 a2 : Value) (w : World) (h : run R a0 a1 a2 w) : Calls prog id #[a0, a1, a2] w R := cls_t func135 [a0, a1, a2] (b1_ok R _ w h)
theorem enters : Enters prog id := fun args w => call135 args w
theorem ct {a0 a1 a2 : Value} {w : World} {S : VP} (h : ∀ R : EP, (∀ v w, S v w → R (.returned v) w) → run R a0 a1 a2 w) : Ct prog id #[a0, a1, a2] w S :=
 Ct.intro enters fun R hR => calls R a0 a1 a2 w (h R hR)
attribute [irreducible, go_sem] b1_1 b1 run
end ref06_chart_add

/-! ### (*presage/presageref06.chart).fill -/
namespace ref06_chart_fill
noncomputable def code : Code := bodyOf f136
noncomputable abbrev p1 : Code := dropC 1 code
noncomputable abbrev p2 : Code := loopC (blkC p1)
noncomputable abbrev p3 : Code := dropC 1 p2
noncomputable abbrev p4 : Code := dropC 2 (blkC p3)
noncomputable abbrev p5 : Code := loopC (blkC p4)
noncomputable abbrev p6 : Code := dropC 1 p5

def b11 (R : EP) (C3 : VP) (C8 : Value → VP) (x4 x5 : Value) (w : World) (_r : Tok R := tok R) (_C3 : Tok C3 := tok C3) (_C8 : Tok C8 := tok C8) : Prop :=
 RUN prog R (bins .add 3 (.tmp 24) (.const (Value.int .i64 1)) x5 (Value.int .i64 1)) w fun v1 w2 =>
 C8 x4 v1 w2
abbrev r0 (R : EP) (z : Env) (w : World) : Prop := R (.returned (.tuple #[])) w
abbrev q1 (R : EP) (C3 : VP) (C8 : Value → VP) : XP := QX (fun z w => C8 (z 4) (z 5) w) (r0 R) [(4, (fun z w => C3 (z 4) w)), (2, (fun z w => C3 (z 4) w)), (0, (r0 R))]
theorem b11_ok (R : EP) (C3 : VP) (C8 : Value → VP) : TI prog R (sndC p6) (q1 R C3 C8) fun z w => b11 R C3 C8 (z 4) (z 5) w := ofT
noncomputable abbrev p7 : Code := blkC (fstC p6)
noncomputable abbrev p8 : Code := dropC 2 p7
noncomputable abbrev p9 : Code := dropC 2 (sndC p8)
noncomputable abbrev p10 : Code := loopC (blkC p9)
noncomputable abbrev p11 : Code := dropC 1 p10

def b20 (R : EP) (C3 : VP) (C8 : Value → VP) (C17 : Value → VP) (x4 x10 : Value) (w : World) (_r : Tok R := tok R) (_C3 : Tok C3 := tok C3) (_C8 : Tok C8 := tok C8) (_C17 : Tok C17 := tok C17) : Prop :=
 RUN prog R (bins .add 3 (.tmp 105) (.const (Value.int .i64 1)) x10 (Value.int .i64 1)) w fun v1 w2 =>
 C17 x4 v1 w2
abbrev q2 (R : EP) (C3 : VP) (C8 : Value → VP) (C17 : Value → VP) : XP := QX (fun z w => C17 (z 4) (z 10) w) (r0 R) [(12, (fun z w => b11 R C3 C8 (z 4) (z 5) w)), (6, (fun z w => b11 R C3 C8 (z 4) (z 5) w)), (4, (fun z w => C3 (z 4) w)), (2, (fun z w => C3 (z 4) w)), (0, (r0 R))]
theorem b20_ok (R : EP) (C3 : VP) (C8 : Value → VP) (C17 : Value → VP) : TI prog R (sndC p11) (q2 R C3 C8 C17) fun z w => b20 R C3 C8 C17 (z 4) (z 10) w := ofT
noncomputable abbrev p12 : Code := blkC (fstC p11)
noncomputable abbrev p13 : Code := dropC 3 p12

def b23 (R : EP) (C3 : VP) (C8 : Value → VP) (C17 : Value → VP) (x4 x10 x154 : Value) (w : World) (_r : Tok R := tok R) (_C3 : Tok C3 := tok C3) (_C8 : Tok C8 := tok C8) (_C17 : Tok C17 := tok C17) : Prop :=
 SPL x154
 (b20 R C3 C8 C17 (Value.bool true) x10 w)
 (b20 R C3 C8 C17 x4 x10 w)
abbrev q3 (R : EP) (C3 : VP) (C8 : Value → VP) (C17 : Value → VP) : XP := QX (fun z w => b20 R C3 C8 C17 (z 4) (z 10) w) (r0 R) [(14, (fun z w => b20 R C3 C8 C17 (z 4) (z 10) w)), (12, (fun z w => b11 R C3 C8 (z 4) (z 5) w)), (6, (fun z w => b11 R C3 C8 (z 4) (z 5) w)), (4, (fun z w => C3 (z 4) w)), (2, (fun z w => C3 (z 4) w)), (0, (r0 R))]
theorem b23_ok (R : EP) (C3 : VP) (C8 : Value → VP) (C17 : Value → VP) : TI prog R p13 (q3 R C3 C8 C17) fun z w => b23 R C3 C8 C17 (z 4) (z 10) (z 154) w := ofT
def b22_1 (R : EP) (C3 : VP) (C8 : Value → VP) (C17 : Value → VP) (x0 x1 x4 x10 v10 : Value) (w39 : World) (_r : Tok R := tok R) (_C3 : Tok C3 := tok C3) (_C8 : Tok C8 := tok C8) (_C17 : Tok C17 := tok C17) : Prop :=
 RUN prog R (fieldAt 137 v10 0) w39 fun v40 w41 =>
 RUN prog R (loadAt 3 v40) w41 fun v42 w43 =>
 RUN prog R (fieldAt 137 v10 1) w43 fun v44 w45 =>
 RUN prog R (loadAt 3 v44) w45 fun v46 w47 =>
 RUN prog R (bins .add 3 (.tmp 148) (.const (Value.int .i64 1)) v46 (Value.int .i64 1)) w47 fun v48 w49 =>
 RUN prog R (fieldAt 137 v10 2) w49 fun v50 w51 =>
 RUN prog R (loadAt 3 v50) w51 fun v52 w53 =>
 RUN prog R (build 137 #[(0, v42), (1, v48), (2, v52)]) w53 fun v54 w55 =>
 CALL prog R ref06_chart_add.id #[x0, x1, v54] w55 fun v56 w57 =>
 b23 R C3 C8 C17 x4 x10 v56 w57
def b22_2 (R : EP) (C3 : VP) (C8 : Value → VP) (C17 : Value → VP) (x0 x1 x4 x9 x10 v10 v21 : Value) (w29 : World) (_r : Tok R := tok R) (_C3 : Tok C3 := tok C3) (_C8 : Tok C8 := tok C8) (_C17 : Tok C17 := tok C17) : Prop :=
 RUN prog R (fieldAt 137 v10 1) w29 fun v30 w31 =>
 RUN prog R (loadAt 3 v30) w31 fun v32 w33 =>
 RUN prog R (indexAt 24 v21 v32) w33 fun v34 w35 =>
 RUN prog R (loadAt 3 v34) w35 fun v36 w37 =>
 RUN prog R (bins .eql 3 (.tmp 138) (.tmp 139) v36 x9) w37 fun v38 w39 =>
 SPL v38
 (b22_1 R C3 C8 C17 x0 x1 x4 x10 v10 w39)
 (b23 R C3 C8 C17 x4 x10 (Value.bool false) w39)

def b22 (R : EP) (C3 : VP) (C8 : Value → VP) (C17 : Value → VP) (x0 x1 x4 x6 x9 x10 : Value) (w : World) (_r : Tok R := tok R) (_C3 : Tok C3 := tok C3) (_C8 : Tok C8 := tok C8) (_C17 : Tok C17 := tok C17) : Prop :=
 NILC x0 fun v1 =>
 PUR prog (fieldAt 135 v1 2) fun v2 =>
 LD prog (loadAt 133 v2) (World.drew w) fun v3 =>
 PUR prog (fieldAt 137 x6 2) fun v4 =>
 LD prog (loadAt 3 v4) (World.drew w) fun v5 =>
 PUR prog (indexAt 133 v3 v5) fun v6 =>
 LD prog (loadAt 131 v6) (World.drew w) fun v7 =>
 PUR prog (indexAt 131 v7 x10) fun v8 =>
 LD prog (loadAt 137 v8) (World.drew w) fun v9 =>
 RUN prog R (alloc 137 true (.tuple #[])) (World.drew w) fun v10 w11 =>
 Sem.run prog (loadAt 137 v8) w11 = .ok v9 w11 ∧ (Sem.run prog (loadAt 131 v6) w11 = .ok v7 w11 ∧ (Sem.run prog (loadAt 3 v4) w11 = .ok v5 w11 ∧ (Sem.run prog (loadAt 133 v2) w11 = .ok v3 w11 ∧ (RUNU prog R (storeAt 137 v10 v9) w11 fun w12 =>
 NILC x0 fun v13 =>
 PUR prog (fieldAt 135 v13 0) fun v14 =>
 PUR prog (fieldAt 27 v14 4) fun v15 =>
 LD prog (loadAt 25 v15) (World.drew w12) fun v16 =>
 PUR prog (fieldAt 137 v10 0) fun v17 =>
 LD prog (loadAt 3 v17) (World.drew w12) fun v18 =>
 PUR prog (indexAt 25 v16 v18) fun v19 =>
 PUR prog (fieldAt 47 v19 1) fun v20 =>
 LD prog (loadAt 24 v20) (World.drew w12) fun v21 =>
 RUN prog R (fieldAt 137 v10 1) (World.drew w12) fun v22 w23 =>
 RUN prog R (loadAt 3 v22) w23 fun v24 w25 =>
 RUN prog R (Builtin.len_ #[24] 3 #[v21]) w25 fun v26 w27 =>
 RUN prog R (bins .lss 3 (.tmp 129) (.tmp 131) v24 v26) w27 fun v28 w29 =>
 SPL v28
 (b22_2 R C3 C8 C17 x0 x1 x4 x9 x10 v10 v21 w29)
 (b23 R C3 C8 C17 x4 x10 (Value.bool false) w29)))))
theorem b22_ok (R : EP) (C3 : VP) (C8 : Value → VP) (C17 : Value → VP) : TI prog R p12 (q3 R C3 C8 C17) fun z w => b22 R C3 C8 C17 (z 0) (z 1) (z 4) (z 6) (z 9) (z 10) w := appT 2 (b23_ok R C3 C8 C17)
abbrev q4 (R : EP) (C3 : VP) (C8 : Value → VP) (C17 : Value → VP) : XP := QX (fun z w => b20 R C3 C8 C17 (z 4) (z 10) w) (r0 R) [(12, (fun z w => b11 R C3 C8 (z 4) (z 5) w)), (6, (fun z w => b11 R C3 C8 (z 4) (z 5) w)), (4, (fun z w => C3 (z 4) w)), (2, (fun z w => C3 (z 4) w)), (0, (r0 R))]
theorem k21_ok (R : EP) (C3 : VP) (C8 : Value → VP) (C17 : Value → VP) : TI prog R (fstC p11) (q4 R C3 C8 C17) fun z w => b22 R C3 C8 C17 (z 0) (z 1) (z 4) (z 6) (z 9) (z 10) w := blockT 7 (b22_ok R C3 C8 C17)
theorem k19_ok (R : EP) (C3 : VP) (C8 : Value → VP) (C17 : Value → VP) : TI prog R p11 (q2 R C3 C8 C17) fun z w => b22 R C3 C8 C17 (z 0) (z 1) (z 4) (z 6) (z 9) (z 10) w := seqT (k21_ok R C3 C8 C17) (b20_ok R C3 C8 C17)

def b18 (R : EP) (C3 : VP) (C8 : Value → VP) (C17 : Value → VP) (x0 x1 x4 x5 x6 x9 x10 : Value) (w : World) (_r : Tok R := tok R) (_C3 : Tok C3 := tok C3) (_C8 : Tok C8 := tok C8) (_C17 : Tok C17 := tok C17) : Prop :=
 NILC x0 fun v1 =>
 PUR prog (fieldAt 135 v1 2) fun v2 =>
 LD prog (loadAt 133 v2) (World.drew w) fun v3 =>
 PUR prog (fieldAt 137 x6 2) fun v4 =>
 LD prog (loadAt 3 v4) (World.drew w) fun v5 =>
 PUR prog (indexAt 133 v3 v5) fun v6 =>
 LD prog (loadAt 131 v6) (World.drew w) fun v7 =>
 LD prog (Builtin.len_ #[131] 3 #[v7]) (World.drew w) fun v8 =>
 PUR prog (bins .lss 3 (.tmp 94) (.tmp 103) x10 v8) fun v9 =>
 SPL v9
 (b22 R C3 C8 C17 x0 x1 x4 x6 x9 x10 (World.drew w))
 (b11 R C3 C8 x4 x5 (World.drew w))
theorem b18_ok (R : EP) (C3 : VP) (C8 : Value → VP) (C17 : Value → VP) : TI prog R p10 (q2 R C3 C8 C17) fun z w => b18 R C3 C8 C17 (z 0) (z 1) (z 4) (z 5) (z 6) (z 9) (z 10) w := appT 0 (k19_ok R C3 C8 C17)

def l17 (R : EP) (C3 : VP) (C8 : Value → VP) (x0 x1 x4 x5 x6 x9 x10 : Value) (w : World) (_r : Tok R := tok R) (_C3 : Tok C3 := tok C3) (_C8 : Tok C8 := tok C8) : Prop :=
 ∃ (J : Value → VP) (μ : Value → Value → World → Nat), J x4 x10 w ∧ ∀ y4 y10 w0, J y4 y10 w0 → b18 R C3 C8 (fun z4 z10 w1 => J z4 z10 w1 ∧ μ z4 z10 w1 < μ y4 y10 w0) x0 x1 y4 x5 x6 x9 y10 w0
abbrev q5 (R : EP) (C3 : VP) (C8 : Value → VP) : XP := QX (fun z w => b11 R C3 C8 (z 4) (z 5) w) (r0 R) [(12, (fun z w => b11 R C3 C8 (z 4) (z 5) w)), (6, (fun z w => b11 R C3 C8 (z 4) (z 5) w)), (4, (fun z w => C3 (z 4) w)), (2, (fun z w => C3 (z 4) w)), (0, (r0 R))]
theorem l17_ok (R : EP) (C3 : VP) (C8 : Value → VP) : TI prog R (blkC p9) (q5 R C3 C8) fun z w => l17 R C3 C8 (z 0) (z 1) (z 4) (z 5) (z 6) (z 9) (z 10) w := fun z w h => by
 unfold l17 at h
 obtain ⟨J, μ, h0, hr⟩ := h
 refine loopT (fun z' w' => J (z' 4) (z' 10) w') (fun z' w' => μ (z' 4) (z' 10) w') h0 fun z' w' hA hI => b18_ok R C3 C8 (fun z4 z10 w1 => J z4 z10 w1 ∧ μ z4 z10 w1 < μ (z' 4) (z' 10) w') z' w' ?_
 have h1 := hr (z' 4) (z' 10) w' hI
 rwa [← hA.on 0, ← hA.on 1, ← hA.on 5, ← hA.on 6, ← hA.on 9] at h1
theorem l17_intro (R : EP) (C3 : VP) (C8 : Value → VP) (x0 x1 x4 x5 x6 x9 x10 : Value) (w : World) (J : Value → VP) (μ : Value → Value → World → Nat) (h0 : J x4 x10 w)
   (hr : ∀ y4 y10 w0, J y4 y10 w0 → ∀ C17 : Value → VP, (∀ z4 z10 w1, J z4 z10 w1 → μ z4 z10 w1 < μ y4 y10 w0 → C17 z4 z10 w1) → b18 R C3 C8 C17 x0 x1 y4 x5 x6 x9 y10 w0) : l17 R C3 C8 x0 x1 x4 x5 x6 x9 x10 w := by
 unfold l17
 exact ⟨J, μ, h0, fun y4 y10 w0 hJ => hr y4 y10 w0 hJ _ (fun z4 z10 w1 h1 h2 => ⟨h1, h2⟩)⟩
abbrev q6 (R : EP) (C3 : VP) (C8 : Value → VP) : XP := QX (fun z w => b11 R C3 C8 (z 4) (z 5) w) (r0 R) [(6, (fun z w => b11 R C3 C8 (z 4) (z 5) w)), (4, (fun z w => C3 (z 4) w)), (2, (fun z w => C3 (z 4) w)), (0, (r0 R))]
theorem k16_ok (R : EP) (C3 : VP) (C8 : Value → VP) : TI prog R p9 (q6 R C3 C8) fun z w => l17 R C3 C8 (z 0) (z 1) (z 4) (z 5) (z 6) (z 9) (z 10) w := blockT 6 (l17_ok R C3 C8)

def b15 (R : EP) (C3 : VP) (C8 : Value → VP) (x0 x1 x4 x5 x6 : Value) (w : World) (_r : Tok R := tok R) (_C3 : Tok C3 := tok C3) (_C8 : Tok C8 := tok C8) : Prop :=
 NILC x0 fun v1 =>
 PUR prog (fieldAt 135 v1 0) fun v2 =>
 PUR prog (fieldAt 27 v2 4) fun v3 =>
 LD prog (loadAt 25 v3) (World.drew w) fun v4 =>
 PUR prog (fieldAt 137 x6 0) fun v5 =>
 LD prog (loadAt 3 v5) (World.drew w) fun v6 =>
 PUR prog (indexAt 25 v4 v6) fun v7 =>
 PUR prog (fieldAt 47 v7 0) fun v8 =>
 LD prog (loadAt 3 v8) (World.drew w) fun v9 =>
 l17 R C3 C8 x0 x1 x4 x5 x6 v9 (Value.int .i64 0) (World.drew w)
theorem b15_ok (R : EP) (C3 : VP) (C8 : Value → VP) : TI prog R (sndC p8) (q6 R C3 C8) fun z w => b15 R C3 C8 (z 0) (z 1) (z 4) (z 5) (z 6) w := appT 1 (k16_ok R C3 C8)
noncomputable abbrev p14 : Code := dropC 1 (fstC p8)
noncomputable abbrev p15 : Code := sndC (thnC p14)

def b27 (R : EP) (C3 : VP) (C8 : Value → VP) (x4 x5 : Value) (w : World) (_r : Tok R := tok R) (_C3 : Tok C3 := tok C3) (_C8 : Tok C8 := tok C8) : Prop :=
 b11 R C3 C8 x4 x5 w
abbrev q7 (R : EP) (C3 : VP) (C8 : Value → VP) : XP := QX (fun z w => b15 R C3 C8 (z 0) (z 1) (z 4) (z 5) (z 6) w) (r0 R) [(6, (fun z w => b11 R C3 C8 (z 4) (z 5) w)), (4, (fun z w => C3 (z 4) w)), (2, (fun z w => C3 (z 4) w)), (0, (r0 R))]
theorem b27_ok (R : EP) (C3 : VP) (C8 : Value → VP) : TI prog R p15 (q7 R C3 C8) fun z w => b27 R C3 C8 (z 4) (z 5) w := ofT
noncomputable abbrev p16 : Code := fstC (thnC p14)
noncomputable abbrev p17 : Code := dropC 1 p16
noncomputable abbrev p18 : Code := loopC (blkC p17)
noncomputable abbrev p19 : Code := dropC 1 p18

def b33 (R : EP) (C3 : VP) (C8 : Value → VP) (C30 : Value → VP) (x4 x8 : Value) (w : World) (_r : Tok R := tok R) (_C3 : Tok C3 := tok C3) (_C8 : Tok C8 := tok C8) (_C30 : Tok C30 := tok C30) : Prop :=
 RUN prog R (bins .add 3 (.tmp 59) (.const (Value.int .i64 1)) x8 (Value.int .i64 1)) w fun v1 w2 =>
 C30 x4 v1 w2
abbrev q8 (R : EP) (C3 : VP) (C8 : Value → VP) (C30 : Value → VP) : XP := QX (fun z w => C30 (z 4) (z 8) w) (r0 R) [(8, (fun z w => b27 R C3 C8 (z 4) (z 5) w)), (6, (fun z w => b11 R C3 C8 (z 4) (z 5) w)), (4, (fun z w => C3 (z 4) w)), (2, (fun z w => C3 (z 4) w)), (0, (r0 R))]
theorem b33_ok (R : EP) (C3 : VP) (C8 : Value → VP) (C30 : Value → VP) : TI prog R (sndC p19) (q8 R C3 C8 C30) fun z w => b33 R C3 C8 C30 (z 4) (z 8) w := ofT
noncomputable abbrev p20 : Code := blkC (fstC p19)
noncomputable abbrev p21 : Code := dropC 1 p20

def b36 (R : EP) (C3 : VP) (C8 : Value → VP) (C30 : Value → VP) (x4 x8 x83 : Value) (w : World) (_r : Tok R := tok R) (_C3 : Tok C3 := tok C3) (_C8 : Tok C8 := tok C8) (_C30 : Tok C30 := tok C30) : Prop :=
 SPL x83
 (b33 R C3 C8 C30 (Value.bool true) x8 w)
 (b33 R C3 C8 C30 x4 x8 w)
abbrev q9 (R : EP) (C3 : VP) (C8 : Value → VP) (C30 : Value → VP) : XP := QX (fun z w => b33 R C3 C8 C30 (z 4) (z 8) w) (r0 R) [(10, (fun z w => b33 R C3 C8 C30 (z 4) (z 8) w)), (8, (fun z w => b27 R C3 C8 (z 4) (z 5) w)), (6, (fun z w => b11 R C3 C8 (z 4) (z 5) w)), (4, (fun z w => C3 (z 4) w)), (2, (fun z w => C3 (z 4) w)), (0, (r0 R))]
theorem b36_ok (R : EP) (C3 : VP) (C8 : Value → VP) (C30 : Value → VP) : TI prog R p21 (q9 R C3 C8 C30) fun z w => b36 R C3 C8 C30 (z 4) (z 8) (z 83) w := ofT
def b35_1 (R : EP) (C3 : VP) (C8 : Value → VP) (C30 : Value → VP) (x0 x1 x4 x8 : Value) (w : World) (_r : Tok R := tok R) (_C3 : Tok C3 := tok C3) (_C8 : Tok C8 := tok C8) (_C30 : Tok C30 := tok C30) : Prop :=
 PUR prog (build 137 #[(0, x8), (1, (Value.int .i64 0)), (2, x1)]) fun v13 =>
 CALL prog R ref06_chart_add.id #[x0, x1, v13] (World.drew w) fun v14 w15 =>
 b36 R C3 C8 C30 x4 x8 v14 w15

def b35 (R : EP) (C3 : VP) (C8 : Value → VP) (C30 : Value → VP) (x0 x1 x4 x6 x7 x8 : Value) (w : World) (_r : Tok R := tok R) (_C3 : Tok C3 := tok C3) (_C8 : Tok C8 := tok C8) (_C30 : Tok C30 := tok C30) : Prop :=
 NILC x0 fun v1 =>
 PUR prog (fieldAt 135 v1 0) fun v2 =>
 PUR prog (fieldAt 27 v2 4) fun v3 =>
 LD prog (loadAt 25 v3) (World.drew w) fun v4 =>
 PUR prog (indexAt 25 v4 x8) fun v5 =>
 PUR prog (fieldAt 47 v5 0) fun v6 =>
 LD prog (loadAt 3 v6) (World.drew w) fun v7 =>
 PUR prog (fieldAt 137 x6 1) fun v8 =>
 LD prog (loadAt 3 v8) (World.drew w) fun v9 =>
 PUR prog (indexAt 24 x7 v9) fun v10 =>
 LD prog (loadAt 3 v10) (World.drew w) fun v11 =>
 PUR prog (bins .eql 3 (.tmp 69) (.tmp 74) v7 v11) fun v12 =>
 SPL v12
 (b35_1 R C3 C8 C30 x0 x1 x4 x8 w)
 (b36 R C3 C8 C30 x4 x8 (Value.bool false) (World.drew w))
theorem b35_ok (R : EP) (C3 : VP) (C8 : Value → VP) (C30 : Value → VP) : TI prog R p20 (q9 R C3 C8 C30) fun z w => b35 R C3 C8 C30 (z 0) (z 1) (z 4) (z 6) (z 7) (z 8) w := appT 0 (b36_ok R C3 C8 C30)
abbrev q10 (R : EP) (C3 : VP) (C8 : Value → VP) (C30 : Value → VP) : XP := QX (fun z w => b33 R C3 C8 C30 (z 4) (z 8) w) (r0 R) [(8, (fun z w => b27 R C3 C8 (z 4) (z 5) w)), (6, (fun z w => b11 R C3 C8 (z 4) (z 5) w)), (4, (fun z w => C3 (z 4) w)), (2, (fun z w => C3 (z 4) w)), (0, (r0 R))]
theorem k34_ok (R : EP) (C3 : VP) (C8 : Value → VP) (C30 : Value → VP) : TI prog R (fstC p19) (q10 R C3 C8 C30) fun z w => b35 R C3 C8 C30 (z 0) (z 1) (z 4) (z 6) (z 7) (z 8) w := blockT 5 (b35_ok R C3 C8 C30)
theorem k32_ok (R : EP) (C3 : VP) (C8 : Value → VP) (C30 : Value → VP) : TI prog R p19 (q8 R C3 C8 C30) fun z w => b35 R C3 C8 C30 (z 0) (z 1) (z 4) (z 6) (z 7) (z 8) w := seqT (k34_ok R C3 C8 C30) (b33_ok R C3 C8 C30)

def b31 (R : EP) (C3 : VP) (C8 : Value → VP) (C30 : Value → VP) (x0 x1 x4 x5 x6 x7 x8 : Value) (w : World) (_r : Tok R := tok R) (_C3 : Tok C3 := tok C3) (_C8 : Tok C8 := tok C8) (_C30 : Tok C30 := tok C30) : Prop :=
 NILC x0 fun v1 =>
 RUN prog R (fieldAt 135 v1 0) w fun v2 w3 =>
 RUN prog R (fieldAt 27 v2 4) w3 fun v4 w5 =>
 RUN prog R (loadAt 25 v4) w5 fun v6 w7 =>
 RUN prog R (Builtin.len_ #[25] 3 #[v6]) w7 fun v8 w9 =>
 RUN prog R (bins .lss 3 (.tmp 51) (.tmp 57) x8 v8) w9 fun v10 w11 =>
 SPL v10
 (b35 R C3 C8 C30 x0 x1 x4 x6 x7 x8 w11)
 (b27 R C3 C8 x4 x5 w11)
theorem b31_ok (R : EP) (C3 : VP) (C8 : Value → VP) (C30 : Value → VP) : TI prog R p18 (q8 R C3 C8 C30) fun z w => b31 R C3 C8 C30 (z 0) (z 1) (z 4) (z 5) (z 6) (z 7) (z 8) w := appT 0 (k32_ok R C3 C8 C30)

def l30 (R : EP) (C3 : VP) (C8 : Value → VP) (x0 x1 x4 x5 x6 x7 x8 : Value) (w : World) (_r : Tok R := tok R) (_C3 : Tok C3 := tok C3) (_C8 : Tok C8 := tok C8) : Prop :=
 ∃ (J : Value → VP) (μ : Value → Value → World → Nat), J x4 x8 w ∧ ∀ y4 y8 w0, J y4 y8 w0 → b31 R C3 C8 (fun z4 z8 w1 => J z4 z8 w1 ∧ μ z4 z8 w1 < μ y4 y8 w0) x0 x1 y4 x5 x6 x7 y8 w0
abbrev q11 (R : EP) (C3 : VP) (C8 : Value → VP) : XP := QX (fun z w => b27 R C3 C8 (z 4) (z 5) w) (r0 R) [(8, (fun z w => b27 R C3 C8 (z 4) (z 5) w)), (6, (fun z w => b11 R C3 C8 (z 4) (z 5) w)), (4, (fun z w => C3 (z 4) w)), (2, (fun z w => C3 (z 4) w)), (0, (r0 R))]
theorem l30_ok (R : EP) (C3 : VP) (C8 : Value → VP) : TI prog R (blkC p17) (q11 R C3 C8) fun z w => l30 R C3 C8 (z 0) (z 1) (z 4) (z 5) (z 6) (z 7) (z 8) w := fun z w h => by
 unfold l30 at h
 obtain ⟨J, μ, h0, hr⟩ := h
 refine loopT (fun z' w' => J (z' 4) (z' 8) w') (fun z' w' => μ (z' 4) (z' 8) w') h0 fun z' w' hA hI => b31_ok R C3 C8 (fun z4 z8 w1 => J z4 z8 w1 ∧ μ z4 z8 w1 < μ (z' 4) (z' 8) w') z' w' ?_
 have h1 := hr (z' 4) (z' 8) w' hI
 rwa [← hA.on 0, ← hA.on 1, ← hA.on 5, ← hA.on 6, ← hA.on 7] at h1
theorem l30_intro (R : EP) (C3 : VP) (C8 : Value → VP) (x0 x1 x4 x5 x6 x7 x8 : Value) (w : World) (J : Value → VP) (μ : Value → Value → World → Nat) (h0 : J x4 x8 w)
   (hr : ∀ y4 y8 w0, J y4 y8 w0 → ∀ C30 : Value → VP, (∀ z4 z8 w1, J z4 z8 w1 → μ z4 z8 w1 < μ y4 y8 w0 → C30 z4 z8 w1) → b31 R C3 C8 C30 x0 x1 y4 x5 x6 x7 y8 w0) : l30 R C3 C8 x0 x1 x4 x5 x6 x7 x8 w := by
 unfold l30
 exact ⟨J, μ, h0, fun y4 y8 w0 hJ => hr y4 y8 w0 hJ _ (fun z4 z8 w1 h1 h2 => ⟨h1, h2⟩)⟩
abbrev q12 (R : EP) (C3 : VP) (C8 : Value → VP) : XP := QX (fun z w => b27 R C3 C8 (z 4) (z 5) w) (r0 R) [(6, (fun z w => b11 R C3 C8 (z 4) (z 5) w)), (4, (fun z w => C3 (z 4) w)), (2, (fun z w => C3 (z 4) w)), (0, (r0 R))]
theorem k29_ok (R : EP) (C3 : VP) (C8 : Value → VP) : TI prog R p17 (q12 R C3 C8) fun z w => l30 R C3 C8 (z 0) (z 1) (z 4) (z 5) (z 6) (z 7) (z 8) w := blockT 4 (l30_ok R C3 C8)

def b28 (R : EP) (C3 : VP) (C8 : Value → VP) (x0 x1 x4 x5 x6 x7 : Value) (w : World) (_r : Tok R := tok R) (_C3 : Tok C3 := tok C3) (_C8 : Tok C8 := tok C8) : Prop :=
 l30 R C3 C8 x0 x1 x4 x5 x6 x7 (Value.int .i64 0) w
theorem b28_ok (R : EP) (C3 : VP) (C8 : Value → VP) : TI prog R p16 (q12 R C3 C8) fun z w => b28 R C3 C8 (z 0) (z 1) (z 4) (z 5) (z 6) (z 7) w := appT 0 (k29_ok R C3 C8)
theorem k26_ok (R : EP) (C3 : VP) (C8 : Value → VP) : TI prog R (thnC p14) (q7 R C3 C8) fun z w => b28 R C3 C8 (z 0) (z 1) (z 4) (z 5) (z 6) (z 7) w := seqT (b28_ok R C3 C8) (b27_ok R C3 C8)

def b37 (R : EP) (C3 : VP) (C8 : Value → VP) (x0 x1 x4 x5 x6 : Value) (w : World) (_r : Tok R := tok R) (_C3 : Tok C3 := tok C3) (_C8 : Tok C8 := tok C8) : Prop :=
 b15 R C3 C8 x0 x1 x4 x5 x6 w
theorem b37_ok (R : EP) (C3 : VP) (C8 : Value → VP) : TI prog R (elsC p14) (q7 R C3 C8) fun z w => b37 R C3 C8 (z 0) (z 1) (z 4) (z 5) (z 6) w := ofT

def b25 (R : EP) (C3 : VP) (C8 : Value → VP) (x0 x1 x4 x5 x6 x7 x50 : Value) (w : World) (_r : Tok R := tok R) (_C3 : Tok C3 := tok C3) (_C8 : Tok C8 := tok C8) : Prop :=
 SPL x50 (b28 R C3 C8 x0 x1 x4 x5 x6 x7 w) (b37 R C3 C8 x0 x1 x4 x5 x6 w)
theorem b25_ok (R : EP) (C3 : VP) (C8 : Value → VP) : TI prog R p14 (q7 R C3 C8) fun z w => b25 R C3 C8 (z 0) (z 1) (z 4) (z 5) (z 6) (z 7) (z 50) w := fun z w h => by
 have e : Code.cond (.tmp 50) (thnC p14) (elsC p14) = p14 := by kernel_rfl
 rw [← e]
 exact condQ' h (fun h => k26_ok R C3 C8 z w h) (fun h => b37_ok R C3 C8 z w h)

def b24 (R : EP) (C3 : VP) (C8 : Value → VP) (x0 x1 x4 x5 x6 x7 : Value) (w : World) (_r : Tok R := tok R) (_C3 : Tok C3 := tok C3) (_C8 : Tok C8 := tok C8) : Prop :=
 RUN prog R (fieldAt 137 x6 1) w fun v1 w2 =>
 RUN prog R (loadAt 3 v1) w2 fun v3 w4 =>
 RUN prog R (Builtin.len_ #[24] 3 #[x7]) w4 fun v5 w6 =>
 RUN prog R (bins .lss 3 (.tmp 47) (.tmp 49) v3 v5) w6 fun v7 w8 =>
 b25 R C3 C8 x0 x1 x4 x5 x6 x7 v7 w8
theorem b24_ok (R : EP) (C3 : VP) (C8 : Value → VP) : TI prog R (fstC p8) (q7 R C3 C8) fun z w => b24 R C3 C8 (z 0) (z 1) (z 4) (z 5) (z 6) (z 7) w := appT 0 (b25_ok R C3 C8)
theorem k14_ok (R : EP) (C3 : VP) (C8 : Value → VP) : TI prog R p8 (q6 R C3 C8) fun z w => b24 R C3 C8 (z 0) (z 1) (z 4) (z 5) (z 6) (z 7) w := seqT (b24_ok R C3 C8) (b15_ok R C3 C8)

def b13 (R : EP) (C3 : VP) (C8 : Value → VP) (x0 x1 x4 x5 : Value) (w : World) (_r : Tok R := tok R) (_C3 : Tok C3 := tok C3) (_C8 : Tok C8 := tok C8) : Prop :=
 NILC x0 fun v1 =>
 RUN prog R (fieldAt 135 v1 2) w fun v2 w3 =>
 RUN prog R (loadAt 133 v2) w3 fun v4 w5 =>
 RUN prog R (indexAt 133 v4 x1) w5 fun v6 w7 =>
 RUN prog R (loadAt 131 v6) w7 fun v8 w9 =>
 RUN prog R (indexAt 131 v8 x5) w9 fun v10 w11 =>
 RUN prog R (loadAt 137 v10) w11 fun v12 w13 =>
 RUN prog R (alloc 137 true (.tuple #[])) w13 fun v14 w15 =>
 RUNU prog R (storeAt 137 v14 v12) w15 fun w16 =>
 NILC x0 fun v17 =>
 PUR prog (fieldAt 135 v17 0) fun v18 =>
 PUR prog (fieldAt 27 v18 4) fun v19 =>
 LD prog (loadAt 25 v19) (World.drew w16) fun v20 =>
 PUR prog (fieldAt 137 v14 0) fun v21 =>
 LD prog (loadAt 3 v21) (World.drew w16) fun v22 =>
 PUR prog (indexAt 25 v20 v22) fun v23 =>
 PUR prog (fieldAt 47 v23 1) fun v24 =>
 LD prog (loadAt 24 v24) (World.drew w16) fun v25 =>
 b24 R C3 C8 x0 x1 x4 x5 v14 v25 (World.drew w16)
theorem b13_ok (R : EP) (C3 : VP) (C8 : Value → VP) : TI prog R p7 (q6 R C3 C8) fun z w => b13 R C3 C8 (z 0) (z 1) (z 4) (z 5) w := appT 1 (k14_ok R C3 C8)
abbrev q13 (R : EP) (C3 : VP) (C8 : Value → VP) : XP := QX (fun z w => b11 R C3 C8 (z 4) (z 5) w) (r0 R) [(4, (fun z w => C3 (z 4) w)), (2, (fun z w => C3 (z 4) w)), (0, (r0 R))]
theorem k12_ok (R : EP) (C3 : VP) (C8 : Value → VP) : TI prog R (fstC p6) (q13 R C3 C8) fun z w => b13 R C3 C8 (z 0) (z 1) (z 4) (z 5) w := blockT 3 (b13_ok R C3 C8)
theorem k10_ok (R : EP) (C3 : VP) (C8 : Value → VP) : TI prog R p6 (q1 R C3 C8) fun z w => b13 R C3 C8 (z 0) (z 1) (z 4) (z 5) w := seqT (k12_ok R C3 C8) (b11_ok R C3 C8)

def b9 (R : EP) (C3 : VP) (C8 : Value → VP) (x0 x1 x4 x5 : Value) (w : World) (_r : Tok R := tok R) (_C3 : Tok C3 := tok C3) (_C8 : Tok C8 := tok C8) : Prop :=
 NILC x0 fun v1 =>
 RUN prog R (fieldAt 135 v1 2) w fun v2 w3 =>
 RUN prog R (loadAt 133 v2) w3 fun v4 w5 =>
 RUN prog R (indexAt 133 v4 x1) w5 fun v6 w7 =>
 RUN prog R (loadAt 131 v6) w7 fun v8 w9 =>
 RUN prog R (Builtin.len_ #[131] 3 #[v8]) w9 fun v10 w11 =>
 RUN prog R (bins .lss 3 (.tmp 14) (.tmp 22) x5 v10) w11 fun v12 w13 =>
 SPL v12
 (b13 R C3 C8 x0 x1 x4 x5 w13)
 (C3 x4 w13)
theorem b9_ok (R : EP) (C3 : VP) (C8 : Value → VP) : TI prog R p5 (q1 R C3 C8) fun z w => b9 R C3 C8 (z 0) (z 1) (z 4) (z 5) w := appT 0 (k10_ok R C3 C8)

def l8 (R : EP) (C3 : VP) (x0 x1 x4 x5 : Value) (w : World) (_r : Tok R := tok R) (_C3 : Tok C3 := tok C3) : Prop :=
 ∃ (J : Value → VP) (μ : Value → Value → World → Nat), J x4 x5 w ∧ ∀ y4 y5 w0, J y4 y5 w0 → b9 R C3 (fun z4 z5 w1 => J z4 z5 w1 ∧ μ z4 z5 w1 < μ y4 y5 w0) x0 x1 y4 y5 w0
abbrev q14 (R : EP) (C3 : VP) : XP := QX (fun z w => C3 (z 4) w) (r0 R) [(4, (fun z w => C3 (z 4) w)), (2, (fun z w => C3 (z 4) w)), (0, (r0 R))]
theorem l8_ok (R : EP) (C3 : VP) : TI prog R (blkC p4) (q14 R C3) fun z w => l8 R C3 (z 0) (z 1) (z 4) (z 5) w := fun z w h => by
 unfold l8 at h
 obtain ⟨J, μ, h0, hr⟩ := h
 refine loopT (fun z' w' => J (z' 4) (z' 5) w') (fun z' w' => μ (z' 4) (z' 5) w') h0 fun z' w' hA hI => b9_ok R C3 (fun z4 z5 w1 => J z4 z5 w1 ∧ μ z4 z5 w1 < μ (z' 4) (z' 5) w') z' w' ?_
 have h1 := hr (z' 4) (z' 5) w' hI
 rwa [← hA.on 0, ← hA.on 1] at h1
theorem l8_intro (R : EP) (C3 : VP) (x0 x1 x4 x5 : Value) (w : World) (J : Value → VP) (μ : Value → Value → World → Nat) (h0 : J x4 x5 w)
   (hr : ∀ y4 y5 w0, J y4 y5 w0 → ∀ C8 : Value → VP, (∀ z4 z5 w1, J z4 z5 w1 → μ z4 z5 w1 < μ y4 y5 w0 → C8 z4 z5 w1) → b9 R C3 C8 x0 x1 y4 y5 w0) : l8 R C3 x0 x1 x4 x5 w := by
 unfold l8
 exact ⟨J, μ, h0, fun y4 y5 w0 hJ => hr y4 y5 w0 hJ _ (fun z4 z5 w1 h1 h2 => ⟨h1, h2⟩)⟩
abbrev q15 (R : EP) (C3 : VP) : XP := QX (fun z w => C3 (z 4) w) (r0 R) [(2, (fun z w => C3 (z 4) w)), (0, (r0 R))]
theorem k7_ok (R : EP) (C3 : VP) : TI prog R p4 (q15 R C3) fun z w => l8 R C3 (z 0) (z 1) (z 4) (z 5) w := blockT 2 (l8_ok R C3)

def b6 (R : EP) (C3 : VP) (x0 x1 : Value) (w : World) (_r : Tok R := tok R) (_C3 : Tok C3 := tok C3) : Prop :=
 l8 R C3 x0 x1 (Value.bool false) (Value.int .i64 0) w
theorem b6_ok (R : EP) (C3 : VP) : TI prog R (blkC p3) (q15 R C3) fun z w => b6 R C3 (z 0) (z 1) w := appT 1 (k7_ok R C3)
abbrev q16 (R : EP) (C3 : VP) : XP := QX (fun z w => C3 (z 4) w) (r0 R) [(0, (r0 R))]
theorem k5_ok (R : EP) (C3 : VP) : TI prog R p3 (q16 R C3) fun z w => b6 R C3 (z 0) (z 1) w := blockT 1 (b6_ok R C3)

def b4 (R : EP) (C3 : VP) (x0 x1 x4 : Value) (w : World) (_r : Tok R := tok R) (_C3 : Tok C3 := tok C3) : Prop :=
 SPL x4
 (b6 R C3 x0 x1 w)
 (R (.returned (.tuple #[])) w)
theorem b4_ok (R : EP) (C3 : VP) : TI prog R p2 (q16 R C3) fun z w => b4 R C3 (z 0) (z 1) (z 4) w := appT 0 (k5_ok R C3)

def l3 (R : EP) (x0 x1 x4 : Value) (w : World) (_r : Tok R := tok R) : Prop :=
 ∃ (J : VP) (μ : Value → World → Nat), J x4 w ∧ ∀ y4 w0, J y4 w0 → b4 R (fun z4 w1 => J z4 w1 ∧ μ z4 w1 < μ y4 w0) x0 x1 y4 w0
abbrev q17 (R : EP) : XP := QX (r0 R) (r0 R) [(0, (r0 R))]
theorem l3_ok (R : EP) : TI prog R (blkC p1) (q17 R) fun z w => l3 R (z 0) (z 1) (z 4) w := fun z w h => by
 unfold l3 at h
 obtain ⟨J, μ, h0, hr⟩ := h
 refine loopT (fun z' w' => J (z' 4) w') (fun z' w' => μ (z' 4) w') h0 fun z' w' hA hI => b4_ok R (fun z4 w1 => J z4 w1 ∧ μ z4 w1 < μ (z' 4) w') z' w' ?_
 have h1 := hr (z' 4) w' hI
 rwa [← hA.on 0, ← hA.on 1] at h1
theorem l3_intro (R : EP) (x0 x1 x4 : Value) (w : World) (J : VP) (μ : Value → World → Nat) (h0 : J x4 w)
   (hr : ∀ y4 w0, J y4 w0 → ∀ C3 : VP, (∀ z4 w1, J z4 w1 → μ z4 w1 < μ y4 w0 → C3 z4 w1) → b4 R C3 x0 x1 y4 w0) : l3 R x0 x1 x4 w := by
 unfold l3
 exact ⟨J, μ, h0, fun y4 w0 hJ => hr y4 w0 hJ _ (fun z4 w1 h1 h2 => ⟨h1, h2⟩)⟩
abbrev q18 (R : EP) : XP := QX (r0 R) (r0 R) []
theorem k2_ok (R : EP) : TI prog R p1 (q18 R) fun z w => l3 R (z 0) (z 1) (z 4) w := blockT 0 (l3_ok R)

def b1 (R : EP) (x0 x1 : Value) (w : World) (_r : Tok R := tok R) : Prop :=
 l3 R x0 x1 (Value.bool true) w
theorem b1_ok (R : EP) : TI prog R code (q18 R) fun z w => b1 R (z 0) (z 1) w := appT 0 (k2_ok R)
def run (R : EP) (a0 a1 : Value) (w : World) : Prop := b1 R a0 a1 w
theorem calls (R : EP) (a0 a1 : Value) (w : World) (h : run R a0 a1 w) : Calls prog id #[a0, a1] w R := cls_0 func136 [a0, a1] (b1_ok R _ w h)
theorem enters : Enters prog id := fun args w => call136 args w
theorem ct {a0 a1 : Value} {w : World} {S : VP} (h : ∀ R : EP, (∀ v w, S v w → R (.returned v) w) → run R a0 a1 w) : Ct prog id #[a0, a1] w S :=
 Ct.intro enters fun R hR => calls R a0 a1 w (h R hR)
attribute [irreducible] l17 l30 l8 l3
attribute [irreducible, go_sem] b11 b20 b23 b22_1 b22_2 b22 b18 b15 b27 b33 b36 b35_1 b35 b31 b28 b37 b25 b24 b13 b9 b6 b4 b1 run
end ref06_chart_fill
end Go.Proofs.Ytkacbjhiobnbfaa
