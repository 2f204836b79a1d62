/- Shallow programs, written by a program of ours (gen.py) off the translation; each is tied to the code by the kernel. -/
import Derived.Test.YtkacbjhiobnbfaaY04
set_option linter.unusedVariables false
set_option maxRecDepth 100000
namespace Go.Proofs.Ytkacbjhiobnbfaa
open Go.Px Try Instr

/-! ### presage/presageref20.Copy -/
namespace ref20_Copy
noncomputable def code : Code := bodyOf f33
noncomputable abbrev p1 : Code := dropC 2 code
def b3 (R : EP) (x3 : Value) (w : World) (_r : Tok R := tok R) : Prop :=
 R (.returned x3) w
abbrev r0 (R : EP) (z : Env) (w : World) : Prop := R (.returned (z 2)) w
abbrev q1 (R : EP) : XP := QX (r0 R) (r0 R) []
theorem b3_ok (R : EP) : TI prog R (sndC p1) (q1 R) fun z w => b3 R (z 3) w := ofT
noncomputable abbrev p2 : Code := dropC 1 (fstC p1)
noncomputable abbrev p3 : Code := loopC (blkC p2)
def b7_1 (R : EP) (C6 : Value → VP) (x0 x3 x4 : Value) (w4 : World) (_r : Tok R := tok R) (_C6 : Tok C6 := tok C6) : Prop :=
 RUN prog R (indexAt 49 x0 x4) w4 fun v5 w6 =>
 RUN prog R (loadAt 61 v5) w6 fun v7 w8 =>
 RUN prog R (alloc 61 true (.tuple #[])) w8 fun v9 w10 =>
 RUNU prog R (storeAt 61 v9 v7) w10 fun w11 =>
 RUN prog R (buildSlice 24 0 #[]) w11 fun v12 w13 =>
 RUN prog R (indexAt 49 x0 x4) w13 fun v14 w15 =>
 RUN prog R (fieldAt 61 v14 3) w15 fun v16 w17 =>
 RUN prog R (loadAt 24 v16) w17 fun v18 w19 =>
 RUN prog R (Builtin.append_ #[24, 24] 24 #[v12, v18]) w19 fun v20 w21 =>
 RUN prog R (fieldAt 61 v9 3) w21 fun v22 w23 =>
 RUNU prog R (storeAt 24 v22 v20) w23 fun w24 =>
 RUN prog R (loadAt 61 v9) w24 fun v25 w26 =>
 RUN prog R (buildSlice 49 1 #[(0, v25)]) w26 fun v27 w28 =>
 RUN prog R (Builtin.append_ #[49, 49] 49 #[x3, v27]) w28 fun v29 w30 =>
 RUN prog R (bins .add 3 (.tmp 10) (.const (Value.int .i64 1)) x4 (Value.int .i64 1)) w30 fun v31 w32 =>
 C6 v29 v31 w32
def b7 (R : EP) (C6 : Value → VP) (x0 x3 x4 : Value) (w : World) (_r : Tok R := tok R) (_C6 : Tok C6 := tok C6) : Prop :=
 RUN prog R (Builtin.len_ #[49] 3 #[x0]) w fun v1 w2 =>
 RUN prog R (bins .lss 3 (.tmp 6) (.tmp 8) x4 v1) w2 fun v3 w4 =>
 SPL v3
 (b7_1 R C6 x0 x3 x4 w4)
 (b3 R x3 w4)
abbrev q2 (R : EP) (C6 : Value → VP) : XP := QX (fun z w => C6 (z 3) (z 4) w) (r0 R) [(0, (fun z w => b3 R (z 3) w))]
theorem b7_ok (R : EP) (C6 : Value → VP) : TI prog R p3 (q2 R C6) fun z w => b7 R C6 (z 0) (z 3) (z 4) w := ofT
def l6 (R : EP) (x0 x3 x4 : Value) (w : World) (_r : Tok R := tok R) : Prop :=
 ∃ (J : Value → VP) (μ : Value → Value → World → Nat), J x3 x4 w ∧ ∀ y3 y4 w0, J y3 y4 w0 → b7 R (fun z3 z4 w1 => J z3 z4 w1 ∧ μ z3 z4 w1 < μ y3 y4 w0) x0 y3 y4 w0
abbrev q3 (R : EP) : XP := QX (fun z w => b3 R (z 3) w) (r0 R) [(0, (fun z w => b3 R (z 3) w))]
theorem l6_ok (R : EP) : TI prog R (blkC p2) (q3 R) fun z w => l6 R (z 0) (z 3) (z 4) w := fun z w h => by
 unfold l6 at h
 obtain ⟨J, μ, h0, hr⟩ := h
 refine loopT (fun z' w' => J (z' 3) (z' 4) w') (fun z' w' => μ (z' 3) (z' 4) w') h0 fun z' w' hA hI => b7_ok R (fun z3 z4 w1 => J z3 z4 w1 ∧ μ z3 z4 w1 < μ (z' 3) (z' 4) w') z' w' ?_
 have h1 := hr (z' 3) (z' 4) w' hI
 rwa [← hA.on 0] at h1
theorem l6_intro (R : EP) (x0 x3 x4 : Value) (w : World) (J : Value → VP) (μ : Value → Value → World → Nat) (h0 : J x3 x4 w)
   (hr : ∀ y3 y4 w0, J y3 y4 w0 → ∀ C6 : Value → VP, (∀ z3 z4 w1, J z3 z4 w1 → μ z3 z4 w1 < μ y3 y4 w0 → C6 z3 z4 w1) → b7 R C6 x0 y3 y4 w0) : l6 R x0 x3 x4 w := by
 unfold l6
 exact ⟨J, μ, h0, fun y3 y4 w0 hJ => hr y3 y4 w0 hJ _ (fun z3 z4 w1 h1 h2 => ⟨h1, h2⟩)⟩
abbrev q4 (R : EP) : XP := QX (fun z w => b3 R (z 3) w) (r0 R) []
theorem k5_ok (R : EP) : TI prog R p2 (q4 R) fun z w => l6 R (z 0) (z 3) (z 4) w := blockT 0 (l6_ok R)
def b4 (R : EP) (x0 x3 : Value) (w : World) (_r : Tok R := tok R) : Prop :=
 l6 R x0 x3 (Value.int .i64 0) w
theorem b4_ok (R : EP) : TI prog R (fstC p1) (q4 R) fun z w => b4 R (z 0) (z 3) w := appT 0 (k5_ok R)
theorem k2_ok (R : EP) : TI prog R p1 (q1 R) fun z w => b4 R (z 0) (z 3) w := seqT (b4_ok R) (b3_ok R)
def b1 (R : EP) (x0 : Value) (w : World) (_r : Tok R := tok R) : Prop :=
 b4 R x0 (Value.slice Option.none 0 0) w
theorem b1_ok (R : EP) : TI prog R code (q1 R) fun z w => b1 R (z 0) w := appT 1 (k2_ok R)
def run (R : EP) (a0 : Value) (w : World) : Prop := b1 R a0 w
theorem calls (R : EP) (a0 : Value) (w : World) (h : run R a0 w) : Calls prog id #[a0] w R := cls_t func33 [a0] (b1_ok R _ w h)
theorem enters : Enters prog id := fun args w => call33 args w
theorem ct {a0 : Value} {w : World} {S : VP} (h : ∀ R : EP, (∀ v w, S v w → R (.returned v) w) → run R a0 w) : Ct prog id #[a0] w S :=
 Ct.intro enters fun R hR => calls R a0 w (h R hR)
attribute [irreducible] l6
attribute [irreducible, go_sem] b3 b7_1 b7 b4 b1 run
end ref20_Copy

/-! ### presage/presageref20.Walk -/
namespace ref20_Walk
noncomputable def code : Code := bodyOf f47
noncomputable abbrev p1 : Code := dropC 1 code
noncomputable abbrev p2 : Code := dropC 4 (sndC p1)

def b5 (R : EP) (x10 : Value) (w : World) (_r : Tok R := tok R) : Prop :=
 R (.returned (.tuple #[x10, (Value.bool true)])) w
abbrev r0 (R : EP) (z : Env) (w : World) : Prop := R (.returned (.tuple #[(z 6), (z 7)])) w
abbrev q1 (R : EP) : XP := QX (r0 R) (r0 R) []
theorem b5_ok (R : EP) : TI prog R (sndC p2) (q1 R) fun z w => b5 R (z 10) w := ofT
noncomputable abbrev p3 : Code := blkC (fstC p2)
noncomputable abbrev p4 : Code := dropC 1 (loopC p3)
noncomputable abbrev p5 : Code := dropC 4 (blkC p4)
noncomputable abbrev p6 : Code := sndC (sndC p5)
noncomputable abbrev p7 : Code := dropC 1 p6
noncomputable abbrev p8 : Code := loopC (blkC p7)
noncomputable abbrev p9 : Code := dropC 1 p8

def b18 (R : EP) (C7 : Value → VP) (C15 : Value → VP) (x9 x15 : Value) (w : World) (_r : Tok R := tok R) (_C7 : Tok C7 := tok C7) (_C15 : Tok C15 := tok C15) : Prop :=
 RUN prog R (bins .add 3 (.tmp 122) (.const (Value.int .i64 1)) x15 (Value.int .i64 1)) w fun v1 w2 =>
 C15 x9 v1 w2
abbrev q2 (R : EP) (C7 : Value → VP) (C15 : Value → VP) : XP := QX (fun z w => C15 (z 9) (z 15) w) (r0 R) [(8, (fun z w => C7 (z 9) (z 10) w)), (2, (fun z w => C7 (z 9) (z 10) w)), (0, (fun z w => b5 R (z 10) w))]
theorem b18_ok (R : EP) (C7 : Value → VP) (C15 : Value → VP) : TI prog R (sndC p9) (q2 R C7 C15) fun z w => b18 R C7 C15 (z 9) (z 15) w := ofT
noncomputable abbrev p10 : Code := blkC (fstC p9)
noncomputable abbrev p11 : Code := dropC 2 p10

def b21 (R : EP) (C7 : Value → VP) (C15 : Value → VP) (x9 x15 x16 : Value) (w : World) (_r : Tok R := tok R) (_C7 : Tok C7 := tok C7) (_C15 : Tok C15 := tok C15) : Prop :=
 RUN prog R (buildSlice 24 1 #[(0, x16)]) w fun v1 w2 =>
 RUN prog R (Builtin.append_ #[24, 24] 24 #[x9, v1]) w2 fun v3 w4 =>
 b18 R C7 C15 v3 x15 w4
abbrev q3 (R : EP) (C7 : Value → VP) (C15 : Value → VP) : XP := QX (fun z w => b18 R C7 C15 (z 9) (z 15) w) (r0 R) [(10, (fun z w => b18 R C7 C15 (z 9) (z 15) w)), (8, (fun z w => C7 (z 9) (z 10) w)), (2, (fun z w => C7 (z 9) (z 10) w)), (0, (fun z w => b5 R (z 10) w))]
theorem b21_ok (R : EP) (C7 : Value → VP) (C15 : Value → VP) : TI prog R p11 (q3 R C7 C15) fun z w => b21 R C7 C15 (z 9) (z 15) (z 16) w := ofT
def b20_1 (R : EP) (C7 : Value → VP) (C15 : Value → VP) (x9 x12 x15 : Value) (w18 : World) (_r : Tok R := tok R) (_C7 : Tok C7 := tok C7) (_C15 : Tok C15 := tok C15) : Prop :=
 RUN prog R (fieldAt 61 x12 3) w18 fun v19 w20 =>
 RUN prog R (loadAt 24 v19) w20 fun v21 w22 =>
 RUN prog R (indexAt 24 v21 x15) w22 fun v23 w24 =>
 RUN prog R (loadAt 3 v23) w24 fun v25 w26 =>
 b21 R C7 C15 x9 x15 v25 w26

def b20 (R : EP) (C7 : Value → VP) (C15 : Value → VP) (x2 x9 x12 x15 : Value) (w : World) (_r : Tok R := tok R) (_C7 : Tok C7 := tok C7) (_C15 : Tok C15 := tok C15) : Prop :=
 RUN prog R (fieldAt 61 x12 3) w fun v1 w2 =>
 RUN prog R (loadAt 24 v1) w2 fun v3 w4 =>
 RUN prog R (fieldAt 61 x12 3) w4 fun v5 w6 =>
 RUN prog R (loadAt 24 v5) w6 fun v7 w8 =>
 RUN prog R (Builtin.len_ #[24] 3 #[v7]) w8 fun v9 w10 =>
 RUN prog R (bins .sub 3 (.tmp 128) (.const (Value.int .i64 1)) v9 (Value.int .i64 1)) w10 fun v11 w12 =>
 RUN prog R (bins .sub 3 (.tmp 129) (.tmp 130) v11 x15) w12 fun v13 w14 =>
 RUN prog R (indexAt 24 v3 v13) w14 fun v15 w16 =>
 RUN prog R (loadAt 3 v15) w16 fun v17 w18 =>
 SPL x2
 (b20_1 R C7 C15 x9 x12 x15 w18)
 (b21 R C7 C15 x9 x15 v17 w18)
theorem b20_ok (R : EP) (C7 : Value → VP) (C15 : Value → VP) : TI prog R p10 (q3 R C7 C15) fun z w => b20 R C7 C15 (z 2) (z 9) (z 12) (z 15) w := appT 1 (b21_ok R C7 C15)
abbrev q4 (R : EP) (C7 : Value → VP) (C15 : Value → VP) : XP := QX (fun z w => b18 R C7 C15 (z 9) (z 15) w) (r0 R) [(8, (fun z w => C7 (z 9) (z 10) w)), (2, (fun z w => C7 (z 9) (z 10) w)), (0, (fun z w => b5 R (z 10) w))]
theorem k19_ok (R : EP) (C7 : Value → VP) (C15 : Value → VP) : TI prog R (fstC p9) (q4 R C7 C15) fun z w => b20 R C7 C15 (z 2) (z 9) (z 12) (z 15) w := blockT 5 (b20_ok R C7 C15)
theorem k17_ok (R : EP) (C7 : Value → VP) (C15 : Value → VP) : TI prog R p9 (q2 R C7 C15) fun z w => b20 R C7 C15 (z 2) (z 9) (z 12) (z 15) w := seqT (k19_ok R C7 C15) (b18_ok R C7 C15)

def b16 (R : EP) (C7 : Value → VP) (C15 : Value → VP) (x2 x9 x10 x12 x15 : Value) (w : World) (_r : Tok R := tok R) (_C7 : Tok C7 := tok C7) (_C15 : Tok C15 := tok C15) : Prop :=
 RUN prog R (fieldAt 61 x12 3) w fun v1 w2 =>
 RUN prog R (loadAt 24 v1) w2 fun v3 w4 =>
 RUN prog R (Builtin.len_ #[24] 3 #[v3]) w4 fun v5 w6 =>
 RUN prog R (bins .lss 3 (.tmp 117) (.tmp 120) x15 v5) w6 fun v7 w8 =>
 SPL v7
 (b20 R C7 C15 x2 x9 x12 x15 w8)
 (C7 x9 x10 w8)
theorem b16_ok (R : EP) (C7 : Value → VP) (C15 : Value → VP) : TI prog R p8 (q2 R C7 C15) fun z w => b16 R C7 C15 (z 2) (z 9) (z 10) (z 12) (z 15) w := appT 0 (k17_ok R C7 C15)

def l15 (R : EP) (C7 : Value → VP) (x2 x9 x10 x12 x15 : Value) (w : World) (_r : Tok R := tok R) (_C7 : Tok C7 := tok C7) : Prop :=
 ∃ (J : Value → VP) (μ : Value → Value → World → Nat), J x9 x15 w ∧ ∀ y9 y15 w0, J y9 y15 w0 → b16 R C7 (fun z9 z15 w1 => J z9 z15 w1 ∧ μ z9 z15 w1 < μ y9 y15 w0) x2 y9 x10 x12 y15 w0
abbrev q5 (R : EP) (C7 : Value → VP) : XP := QX (fun z w => C7 (z 9) (z 10) w) (r0 R) [(8, (fun z w => C7 (z 9) (z 10) w)), (2, (fun z w => C7 (z 9) (z 10) w)), (0, (fun z w => b5 R (z 10) w))]
theorem l15_ok (R : EP) (C7 : Value → VP) : TI prog R (blkC p7) (q5 R C7) fun z w => l15 R C7 (z 2) (z 9) (z 10) (z 12) (z 15) w := fun z w h => by
 unfold l15 at h
 obtain ⟨J, μ, h0, hr⟩ := h
 refine loopT (fun z' w' => J (z' 9) (z' 15) w') (fun z' w' => μ (z' 9) (z' 15) w') h0 fun z' w' hA hI => b16_ok R C7 (fun z9 z15 w1 => J z9 z15 w1 ∧ μ z9 z15 w1 < μ (z' 9) (z' 15) w') z' w' ?_
 have h1 := hr (z' 9) (z' 15) w' hI
 rwa [← hA.on 2, ← hA.on 10, ← hA.on 12] at h1
theorem l15_intro (R : EP) (C7 : Value → VP) (x2 x9 x10 x12 x15 : Value) (w : World) (J : Value → VP) (μ : Value → Value → World → Nat) (h0 : J x9 x15 w)
   (hr : ∀ y9 y15 w0, J y9 y15 w0 → ∀ C15 : Value → VP, (∀ z9 z15 w1, J z9 z15 w1 → μ z9 z15 w1 < μ y9 y15 w0 → C15 z9 z15 w1) → b16 R C7 C15 x2 y9 x10 x12 y15 w0) : l15 R C7 x2 x9 x10 x12 x15 w := by
 unfold l15
 exact ⟨J, μ, h0, fun y9 y15 w0 hJ => hr y9 y15 w0 hJ _ (fun z9 z15 w1 h1 h2 => ⟨h1, h2⟩)⟩
abbrev q6 (R : EP) (C7 : Value → VP) : XP := QX (fun z w => C7 (z 9) (z 10) w) (r0 R) [(2, (fun z w => C7 (z 9) (z 10) w)), (0, (fun z w => b5 R (z 10) w))]
theorem k14_ok (R : EP) (C7 : Value → VP) : TI prog R p7 (q6 R C7) fun z w => l15 R C7 (z 2) (z 9) (z 10) (z 12) (z 15) w := blockT 4 (l15_ok R C7)

def b13 (R : EP) (C7 : Value → VP) (x2 x9 x10 x12 : Value) (w : World) (_r : Tok R := tok R) (_C7 : Tok C7 := tok C7) : Prop :=
 l15 R C7 x2 x9 x10 x12 (Value.int .i64 0) w
theorem b13_ok (R : EP) (C7 : Value → VP) : TI prog R p6 (q6 R C7) fun z w => b13 R C7 (z 2) (z 9) (z 10) (z 12) w := appT 0 (k14_ok R C7)
noncomputable abbrev p12 : Code := fstC (sndC p5)
noncomputable abbrev p13 : Code := dropC 1 p12
noncomputable abbrev p14 : Code := loopC (blkC p13)
noncomputable abbrev p15 : Code := dropC 1 p14

def b27 (R : EP) (C7 : Value → VP) (C24 : VP) (x13 : Value) (w : World) (_r : Tok R := tok R) (_C7 : Tok C7 := tok C7) (_C24 : Tok C24 := tok C24) : Prop :=
 RUN prog R (bins .add 3 (.tmp 94) (.const (Value.int .i64 1)) x13 (Value.int .i64 1)) w fun v1 w2 =>
 C24 v1 w2
abbrev q7 (R : EP) (C7 : Value → VP) (C24 : VP) : XP := QX (fun z w => C24 (z 13) w) (r0 R) [(4, (fun z w => b13 R C7 (z 2) (z 9) (z 10) (z 12) w)), (2, (fun z w => C7 (z 9) (z 10) w)), (0, (fun z w => b5 R (z 10) w))]
theorem b27_ok (R : EP) (C7 : Value → VP) (C24 : VP) : TI prog R (sndC p15) (q7 R C7 C24) fun z w => b27 R C7 C24 (z 13) w := ofT
noncomputable abbrev p16 : Code := blkC (fstC p15)
noncomputable abbrev p17 : Code := dropC 1 p16

def b31 (R : EP) (C7 : Value → VP) (C24 : VP) (x8 x13 x14 : Value) (w : World) (_r : Tok R := tok R) (_C7 : Tok C7 := tok C7) (_C24 : Tok C24 := tok C24) : Prop :=
 RUN prog R (indexAt 68 x8 x14) w fun v1 w2 =>
 RUNU prog R (storeAt 4 v1 (Value.bool true)) w2 fun w3 =>
 b27 R C7 C24 x13 w3
abbrev q8 (R : EP) (C7 : Value → VP) (C24 : VP) : XP := QX (fun z w => b27 R C7 C24 (z 13) w) (r0 R) [(6, (fun z w => b27 R C7 C24 (z 13) w)), (4, (fun z w => b13 R C7 (z 2) (z 9) (z 10) (z 12) w)), (2, (fun z w => C7 (z 9) (z 10) w)), (0, (fun z w => b5 R (z 10) w))]
theorem b31_ok (R : EP) (C7 : Value → VP) (C24 : VP) : TI prog R (sndC p17) (q8 R C7 C24) fun z w => b31 R C7 C24 (z 8) (z 13) (z 14) w := ofT
noncomputable abbrev p18 : Code := dropC 1 (fstC p17)

def b33 (R : EP) (C7 : Value → VP) (C24 : VP) (x8 x13 x14 x113 : Value) (w : World) (_r : Tok R := tok R) (_C7 : Tok C7 := tok C7) (_C24 : Tok C24 := tok C24) : Prop :=
 SPL x113
 (R (.returned (.tuple #[(Value.slice Option.none 0 0), (Value.bool false)])) w)
 (b31 R C7 C24 x8 x13 x14 w)
abbrev q9 (R : EP) (C7 : Value → VP) (C24 : VP) : XP := QX (fun z w => b31 R C7 C24 (z 8) (z 13) (z 14) w) (r0 R) [(6, (fun z w => b27 R C7 C24 (z 13) w)), (4, (fun z w => b13 R C7 (z 2) (z 9) (z 10) (z 12) w)), (2, (fun z w => C7 (z 9) (z 10) w)), (0, (fun z w => b5 R (z 10) w))]
theorem b33_ok (R : EP) (C7 : Value → VP) (C24 : VP) : TI prog R p18 (q9 R C7 C24) fun z w => b33 R C7 C24 (z 8) (z 13) (z 14) (z 113) w := ofT
def b32_1 (R : EP) (C7 : Value → VP) (C24 : VP) (x8 x13 x14 : Value) (w4 : World) (_r : Tok R := tok R) (_C7 : Tok C7 := tok C7) (_C24 : Tok C24 := tok C24) : Prop :=
 RUN prog R (indexAt 68 x8 x14) w4 fun v5 w6 =>
 RUN prog R (loadAt 4 v5) w6 fun v7 w8 =>
 b33 R C7 C24 x8 x13 x14 v7 w8

def b32 (R : EP) (C7 : Value → VP) (C24 : VP) (x8 x11 x13 x14 : Value) (w : World) (_r : Tok R := tok R) (_C7 : Tok C7 := tok C7) (_C24 : Tok C24 := tok C24) : Prop :=
 RUN prog R (bins .lss 3 (.tmp 101) (.const (Value.int .i64 0)) x14 (Value.int .i64 0)) w fun v1 w2 =>
 SPL v1
 (b33 R C7 C24 x8 x13 x14 (Value.bool true) w2)
 (RUN prog R (bins .geq 3 (.tmp 104) (.tmp 105) x14 x11) w2 fun v3 w4 =>
 SPL v3
 (b33 R C7 C24 x8 x13 x14 (Value.bool true) w4)
 (b32_1 R C7 C24 x8 x13 x14 w4))
theorem b32_ok (R : EP) (C7 : Value → VP) (C24 : VP) : TI prog R (fstC p17) (q9 R C7 C24) fun z w => b32 R C7 C24 (z 8) (z 11) (z 13) (z 14) w := appT 0 (b33_ok R C7 C24)
theorem k30_ok (R : EP) (C7 : Value → VP) (C24 : VP) : TI prog R p17 (q8 R C7 C24) fun z w => b32 R C7 C24 (z 8) (z 11) (z 13) (z 14) w := seqT (b32_ok R C7 C24) (b31_ok R C7 C24)

def b29 (R : EP) (C7 : Value → VP) (C24 : VP) (x8 x11 x12 x13 : Value) (w : World) (_r : Tok R := tok R) (_C7 : Tok C7 := tok C7) (_C24 : Tok C24 := tok C24) : Prop :=
 RUN prog R (fieldAt 61 x12 3) w fun v1 w2 =>
 RUN prog R (loadAt 24 v1) w2 fun v3 w4 =>
 RUN prog R (indexAt 24 v3 x13) w4 fun v5 w6 =>
 RUN prog R (loadAt 3 v5) w6 fun v7 w8 =>
 b32 R C7 C24 x8 x11 x13 v7 w8
theorem b29_ok (R : EP) (C7 : Value → VP) (C24 : VP) : TI prog R p16 (q8 R C7 C24) fun z w => b29 R C7 C24 (z 8) (z 11) (z 12) (z 13) w := appT 0 (k30_ok R C7 C24)
abbrev q10 (R : EP) (C7 : Value → VP) (C24 : VP) : XP := QX (fun z w => b27 R C7 C24 (z 13) w) (r0 R) [(4, (fun z w => b13 R C7 (z 2) (z 9) (z 10) (z 12) w)), (2, (fun z w => C7 (z 9) (z 10) w)), (0, (fun z w => b5 R (z 10) w))]
theorem k28_ok (R : EP) (C7 : Value → VP) (C24 : VP) : TI prog R (fstC p15) (q10 R C7 C24) fun z w => b29 R C7 C24 (z 8) (z 11) (z 12) (z 13) w := blockT 3 (b29_ok R C7 C24)
theorem k26_ok (R : EP) (C7 : Value → VP) (C24 : VP) : TI prog R p15 (q7 R C7 C24) fun z w => b29 R C7 C24 (z 8) (z 11) (z 12) (z 13) w := seqT (k28_ok R C7 C24) (b27_ok R C7 C24)

def b25 (R : EP) (C7 : Value → VP) (C24 : VP) (x2 x8 x9 x10 x11 x12 x13 : Value) (w : World) (_r : Tok R := tok R) (_C7 : Tok C7 := tok C7) (_C24 : Tok C24 := tok C24) : Prop :=
 RUN prog R (fieldAt 61 x12 3) w fun v1 w2 =>
 RUN prog R (loadAt 24 v1) w2 fun v3 w4 =>
 RUN prog R (Builtin.len_ #[24] 3 #[v3]) w4 fun v5 w6 =>
 RUN prog R (bins .lss 3 (.tmp 89) (.tmp 92) x13 v5) w6 fun v7 w8 =>
 SPL v7
 (b29 R C7 C24 x8 x11 x12 x13 w8)
 (b13 R C7 x2 x9 x10 x12 w8)
theorem b25_ok (R : EP) (C7 : Value → VP) (C24 : VP) : TI prog R p14 (q7 R C7 C24) fun z w => b25 R C7 C24 (z 2) (z 8) (z 9) (z 10) (z 11) (z 12) (z 13) w := appT 0 (k26_ok R C7 C24)

def l24 (R : EP) (C7 : Value → VP) (x2 x8 x9 x10 x11 x12 x13 : Value) (w : World) (_r : Tok R := tok R) (_C7 : Tok C7 := tok C7) : Prop :=
 ∃ (J : VP) (μ : Value → World → Nat), J x13 w ∧ ∀ y13 w0, J y13 w0 → b25 R C7 (fun z13 w1 => J z13 w1 ∧ μ z13 w1 < μ y13 w0) x2 x8 x9 x10 x11 x12 y13 w0
abbrev q11 (R : EP) (C7 : Value → VP) : XP := QX (fun z w => b13 R C7 (z 2) (z 9) (z 10) (z 12) w) (r0 R) [(4, (fun z w => b13 R C7 (z 2) (z 9) (z 10) (z 12) w)), (2, (fun z w => C7 (z 9) (z 10) w)), (0, (fun z w => b5 R (z 10) w))]
theorem l24_ok (R : EP) (C7 : Value → VP) : TI prog R (blkC p13) (q11 R C7) fun z w => l24 R C7 (z 2) (z 8) (z 9) (z 10) (z 11) (z 12) (z 13) w := fun z w h => by
 unfold l24 at h
 obtain ⟨J, μ, h0, hr⟩ := h
 refine loopT (fun z' w' => J (z' 13) w') (fun z' w' => μ (z' 13) w') h0 fun z' w' hA hI => b25_ok R C7 (fun z13 w1 => J z13 w1 ∧ μ z13 w1 < μ (z' 13) w') z' w' ?_
 have h1 := hr (z' 13) w' hI
 rwa [← hA.on 2, ← hA.on 8, ← hA.on 9, ← hA.on 10, ← hA.on 11, ← hA.on 12] at h1
theorem l24_intro (R : EP) (C7 : Value → VP) (x2 x8 x9 x10 x11 x12 x13 : Value) (w : World) (J : VP) (μ : Value → World → Nat) (h0 : J x13 w)
   (hr : ∀ y13 w0, J y13 w0 → ∀ C24 : VP, (∀ z13 w1, J z13 w1 → μ z13 w1 < μ y13 w0 → C24 z13 w1) → b25 R C7 C24 x2 x8 x9 x10 x11 x12 y13 w0) : l24 R C7 x2 x8 x9 x10 x11 x12 x13 w := by
 unfold l24
 exact ⟨J, μ, h0, fun y13 w0 hJ => hr y13 w0 hJ _ (fun z13 w1 h1 h2 => ⟨h1, h2⟩)⟩
abbrev q12 (R : EP) (C7 : Value → VP) : XP := QX (fun z w => b13 R C7 (z 2) (z 9) (z 10) (z 12) w) (r0 R) [(2, (fun z w => C7 (z 9) (z 10) w)), (0, (fun z w => b5 R (z 10) w))]
theorem k23_ok (R : EP) (C7 : Value → VP) : TI prog R p13 (q12 R C7) fun z w => l24 R C7 (z 2) (z 8) (z 9) (z 10) (z 11) (z 12) (z 13) w := blockT 2 (l24_ok R C7)

def b22 (R : EP) (C7 : Value → VP) (x2 x8 x9 x10 x11 x12 : Value) (w : World) (_r : Tok R := tok R) (_C7 : Tok C7 := tok C7) : Prop :=
 l24 R C7 x2 x8 x9 x10 x11 x12 (Value.int .i64 0) w
theorem b22_ok (R : EP) (C7 : Value → VP) : TI prog R p12 (q12 R C7) fun z w => b22 R C7 (z 2) (z 8) (z 9) (z 10) (z 11) (z 12) w := appT 0 (k23_ok R C7)
theorem k12_ok (R : EP) (C7 : Value → VP) : TI prog R (sndC p5) (q6 R C7) fun z w => b22 R C7 (z 2) (z 8) (z 9) (z 10) (z 11) (z 12) w := seqT (b22_ok R C7) (b13_ok R C7)
noncomputable abbrev p19 : Code := dropC 1 (fstC p5)

def b35 (R : EP) (C7 : Value → VP) (x2 x8 x9 x10 x11 x12 x88 : Value) (w : World) (_r : Tok R := tok R) (_C7 : Tok C7 := tok C7) : Prop :=
 SPL x88
 (R (.returned (.tuple #[(Value.slice Option.none 0 0), (Value.bool false)])) w)
 (b22 R C7 x2 x8 x9 x10 x11 x12 w)
abbrev q13 (R : EP) (C7 : Value → VP) : XP := QX (fun z w => b22 R C7 (z 2) (z 8) (z 9) (z 10) (z 11) (z 12) w) (r0 R) [(2, (fun z w => C7 (z 9) (z 10) w)), (0, (fun z w => b5 R (z 10) w))]
theorem b35_ok (R : EP) (C7 : Value → VP) : TI prog R p19 (q13 R C7) fun z w => b35 R C7 (z 2) (z 8) (z 9) (z 10) (z 11) (z 12) (z 88) w := ofT
def b34_1 (R : EP) (C7 : Value → VP) (x2 x8 x9 x10 x11 x12 : Value) (w38 : World) (_r : Tok R := tok R) (_C7 : Tok C7 := tok C7) : Prop :=
 RUN prog R (fieldAt 61 x12 2) w38 fun v39 w40 =>
 RUN prog R (loadAt 3 v39) w40 fun v41 w42 =>
 RUN prog R (bins .neq 3 (.tmp 85) (.const (Value.int .i64 0)) v41 (Value.int .i64 0)) w42 fun v43 w44 =>
 b35 R C7 x2 x8 x9 x10 x11 x12 v43 w44
def b34_2 (R : EP) (C7 : Value → VP) (x2 x8 x9 x10 x11 x12 : Value) (w32 : World) (_r : Tok R := tok R) (_C7 : Tok C7 := tok C7) : Prop :=
 RUN prog R (fieldAt 61 x12 1) w32 fun v33 w34 =>
 RUN prog R (loadAt 3 v33) w34 fun v35 w36 =>
 RUN prog R (bins .geq 3 (.tmp 81) (.const (Value.int .i64 0)) v35 (Value.int .i64 0)) w36 fun v37 w38 =>
 SPL v37
 (b34_1 R C7 x2 x8 x9 x10 x11 x12 w38)
 (b35 R C7 x2 x8 x9 x10 x11 x12 (Value.bool false) w38)
def b34_3 (R : EP) (C7 : Value → VP) (x2 x8 x9 x10 x11 x12 : Value) (w24 : World) (_r : Tok R := tok R) (_C7 : Tok C7 := tok C7) : Prop :=
 RUN prog R (fieldAt 61 x12 3) w24 fun v25 w26 =>
 RUN prog R (loadAt 24 v25) w26 fun v27 w28 =>
 RUN prog R (Builtin.len_ #[24] 3 #[v27]) w28 fun v29 w30 =>
 RUN prog R (bins .gtr 3 (.tmp 75) (.const (Value.int .i64 0)) v29 (Value.int .i64 0)) w30 fun v31 w32 =>
 SPL v31
 (b35 R C7 x2 x8 x9 x10 x11 x12 (Value.bool true) w32)
 (b34_2 R C7 x2 x8 x9 x10 x11 x12 w32)
def b34_4 (R : EP) (C7 : Value → VP) (x2 x8 x9 x10 x11 x12 : Value) (w50 : World) (_r : Tok R := tok R) (_C7 : Tok C7 := tok C7) : Prop :=
 RUN prog R (fieldAt 61 x12 2) w50 fun v51 w52 =>
 RUN prog R (loadAt 3 v51) w52 fun v53 w54 =>
 RUN prog R (bins .neq 3 (.tmp 85) (.const (Value.int .i64 0)) v53 (Value.int .i64 0)) w54 fun v55 w56 =>
 b35 R C7 x2 x8 x9 x10 x11 x12 v55 w56
def b34_5 (R : EP) (C7 : Value → VP) (x2 x8 x9 x10 x11 x12 : Value) (w24 : World) (_r : Tok R := tok R) (_C7 : Tok C7 := tok C7) : Prop :=
 RUN prog R (fieldAt 61 x12 1) w24 fun v45 w46 =>
 RUN prog R (loadAt 3 v45) w46 fun v47 w48 =>
 RUN prog R (bins .geq 3 (.tmp 81) (.const (Value.int .i64 0)) v47 (Value.int .i64 0)) w48 fun v49 w50 =>
 SPL v49
 (b34_4 R C7 x2 x8 x9 x10 x11 x12 w50)
 (b35 R C7 x2 x8 x9 x10 x11 x12 (Value.bool false) w50)
def b34_6 (R : EP) (C7 : Value → VP) (x2 x8 x9 x10 x11 x12 : Value) (w18 : World) (_r : Tok R := tok R) (_C7 : Tok C7 := tok C7) : Prop :=
 RUN prog R (fieldAt 61 x12 1) w18 fun v19 w20 =>
 RUN prog R (loadAt 3 v19) w20 fun v21 w22 =>
 RUN prog R (bins .eql 3 (.tmp 70) (.const (Value.int .i64 (-1))) v21 (Value.int .i64 (-1))) w22 fun v23 w24 =>
 SPL v23
 (b34_3 R C7 x2 x8 x9 x10 x11 x12 w24)
 (b34_5 R C7 x2 x8 x9 x10 x11 x12 w24)
def b34_7 (R : EP) (C7 : Value → VP) (x2 x8 x9 x10 x11 x12 : Value) (w12 : World) (_r : Tok R := tok R) (_C7 : Tok C7 := tok C7) : Prop :=
 RUN prog R (fieldAt 61 x12 2) w12 fun v13 w14 =>
 RUN prog R (loadAt 3 v13) w14 fun v15 w16 =>
 RUN prog R (bins .lss 3 (.tmp 65) (.const (Value.int .i64 0)) v15 (Value.int .i64 0)) w16 fun v17 w18 =>
 SPL v17
 (b35 R C7 x2 x8 x9 x10 x11 x12 (Value.bool true) w18)
 (b34_6 R C7 x2 x8 x9 x10 x11 x12 w18)
def b34_8 (R : EP) (C7 : Value → VP) (x2 x8 x9 x10 x11 x12 : Value) (w6 : World) (_r : Tok R := tok R) (_C7 : Tok C7 := tok C7) : Prop :=
 RUN prog R (fieldAt 61 x12 1) w6 fun v7 w8 =>
 RUN prog R (loadAt 3 v7) w8 fun v9 w10 =>
 RUN prog R (bins .lss 3 (.tmp 60) (.const (Value.int .i64 (-1))) v9 (Value.int .i64 (-1))) w10 fun v11 w12 =>
 SPL v11
 (b35 R C7 x2 x8 x9 x10 x11 x12 (Value.bool true) w12)
 (b34_7 R C7 x2 x8 x9 x10 x11 x12 w12)

def b34 (R : EP) (C7 : Value → VP) (x2 x8 x9 x10 x11 x12 : Value) (w : World) (_r : Tok R := tok R) (_C7 : Tok C7 := tok C7) : Prop :=
 RUN prog R (fieldAt 61 x12 0) w fun v1 w2 =>
 RUN prog R (loadAt 3 v1) w2 fun v3 w4 =>
 RUN prog R (bins .lss 3 (.tmp 56) (.const (Value.int .i64 0)) v3 (Value.int .i64 0)) w4 fun v5 w6 =>
 SPL v5
 (b35 R C7 x2 x8 x9 x10 x11 x12 (Value.bool true) w6)
 (b34_8 R C7 x2 x8 x9 x10 x11 x12 w6)
theorem b34_ok (R : EP) (C7 : Value → VP) : TI prog R (fstC p5) (q13 R C7) fun z w => b34 R C7 (z 2) (z 8) (z 9) (z 10) (z 11) (z 12) w := appT 0 (b35_ok R C7)
theorem k11_ok (R : EP) (C7 : Value → VP) : TI prog R p5 (q6 R C7) fun z w => b34 R C7 (z 2) (z 8) (z 9) (z 10) (z 11) (z 12) w := seqT (b34_ok R C7) (k12_ok R C7)

def b10 (R : EP) (C7 : Value → VP) (x0 x2 x8 x9 x10 : Value) (w : World) (_r : Tok R := tok R) (_C7 : Tok C7 := tok C7) : Prop :=
 RUN prog R (Builtin.len_ #[24] 3 #[x9]) w fun v1 w2 =>
 RUN prog R (bins .sub 3 (.tmp 38) (.const (Value.int .i64 1)) v1 (Value.int .i64 1)) w2 fun v3 w4 =>
 RUN prog R (indexAt 24 x9 v3) w4 fun v5 w6 =>
 RUN prog R (loadAt 3 v5) w6 fun v7 w8 =>
 RUN prog R (Builtin.len_ #[24] 3 #[x9]) w8 fun v9 w10 =>
 RUN prog R (bins .sub 3 (.tmp 44) (.const (Value.int .i64 1)) v9 (Value.int .i64 1)) w10 fun v11 w12 =>
 RUN prog R (sliceAt 24 x9 none (some v11) none) w12 fun v13 w14 =>
 RUN prog R (indexAt 49 x0 v7) w14 fun v15 w16 =>
 RUN prog R (loadAt 61 v15) w16 fun v17 w18 =>
 RUN prog R (alloc 61 true (.tuple #[])) w18 fun v19 w20 =>
 RUNU prog R (storeAt 61 v19 v17) w20 fun w21 =>
 RUN prog R (buildSlice 24 1 #[(0, v7)]) w21 fun v22 w23 =>
 RUN prog R (Builtin.append_ #[24, 24] 24 #[x10, v22]) w23 fun v24 w25 =>
 b34 R C7 x2 x8 v13 v24 v7 v19 w25
theorem b10_ok (R : EP) (C7 : Value → VP) : TI prog R (blkC p4) (q6 R C7) fun z w => b10 R C7 (z 0) (z 2) (z 8) (z 9) (z 10) w := appT 3 (k11_ok R C7)
abbrev q14 (R : EP) (C7 : Value → VP) : XP := QX (fun z w => C7 (z 9) (z 10) w) (r0 R) [(0, (fun z w => b5 R (z 10) w))]
theorem k9_ok (R : EP) (C7 : Value → VP) : TI prog R p4 (q14 R C7) fun z w => b10 R C7 (z 0) (z 2) (z 8) (z 9) (z 10) w := blockT 1 (b10_ok R C7)

def b8 (R : EP) (C7 : Value → VP) (x0 x2 x8 x9 x10 : Value) (w : World) (_r : Tok R := tok R) (_C7 : Tok C7 := tok C7) : Prop :=
 RUN prog R (Builtin.len_ #[24] 3 #[x9]) w fun v1 w2 =>
 RUN prog R (bins .gtr 3 (.tmp 34) (.const (Value.int .i64 0)) v1 (Value.int .i64 0)) w2 fun v3 w4 =>
 SPL v3
 (b10 R C7 x0 x2 x8 x9 x10 w4)
 (b5 R x10 w4)
theorem b8_ok (R : EP) (C7 : Value → VP) : TI prog R (loopC p3) (q14 R C7) fun z w => b8 R C7 (z 0) (z 2) (z 8) (z 9) (z 10) w := appT 0 (k9_ok R C7)

def l7 (R : EP) (x0 x2 x8 x9 x10 : Value) (w : World) (_r : Tok R := tok R) : Prop :=
 ∃ (J : Value → VP) (μ : Value → Value → World → Nat), J x9 x10 w ∧ ∀ y9 y10 w0, J y9 y10 w0 → b8 R (fun z9 z10 w1 => J z9 z10 w1 ∧ μ z9 z10 w1 < μ y9 y10 w0) x0 x2 x8 y9 y10 w0
abbrev q15 (R : EP) : XP := QX (fun z w => b5 R (z 10) w) (r0 R) [(0, (fun z w => b5 R (z 10) w))]
theorem l7_ok (R : EP) : TI prog R p3 (q15 R) fun z w => l7 R (z 0) (z 2) (z 8) (z 9) (z 10) w := fun z w h => by
 unfold l7 at h
 obtain ⟨J, μ, h0, hr⟩ := h
 refine loopT (fun z' w' => J (z' 9) (z' 10) w') (fun z' w' => μ (z' 9) (z' 10) w') h0 fun z' w' hA hI => b8_ok R (fun z9 z10 w1 => J z9 z10 w1 ∧ μ z9 z10 w1 < μ (z' 9) (z' 10) w') z' w' ?_
 have h1 := hr (z' 9) (z' 10) w' hI
 rwa [← hA.on 0, ← hA.on 2, ← hA.on 8] at h1
theorem l7_intro (R : EP) (x0 x2 x8 x9 x10 : Value) (w : World) (J : Value → VP) (μ : Value → Value → World → Nat) (h0 : J x9 x10 w)
   (hr : ∀ y9 y10 w0, J y9 y10 w0 → ∀ C7 : Value → VP, (∀ z9 z10 w1, J z9 z10 w1 → μ z9 z10 w1 < μ y9 y10 w0 → C7 z9 z10 w1) → b8 R C7 x0 x2 x8 y9 y10 w0) : l7 R x0 x2 x8 x9 x10 w := by
 unfold l7
 exact ⟨J, μ, h0, fun y9 y10 w0 hJ => hr y9 y10 w0 hJ _ (fun z9 z10 w1 h1 h2 => ⟨h1, h2⟩)⟩
abbrev q16 (R : EP) : XP := QX (fun z w => b5 R (z 10) w) (r0 R) []
theorem k6_ok (R : EP) : TI prog R (fstC p2) (q16 R) fun z w => l7 R (z 0) (z 2) (z 8) (z 9) (z 10) w := blockT 0 (l7_ok R)
theorem k4_ok (R : EP) : TI prog R p2 (q1 R) fun z w => l7 R (z 0) (z 2) (z 8) (z 9) (z 10) w := seqT (k6_ok R) (b5_ok R)

def b3 (R : EP) (x0 x1 x2 : Value) (w : World) (_r : Tok R := tok R) : Prop :=
 RUN prog R (Builtin.len_ #[49] 3 #[x0]) w fun v1 w2 =>
 RUN prog R (makeSlice 68 v1 v1) w2 fun v3 w4 =>
 RUN prog R (indexAt 68 v3 x1) w4 fun v5 w6 =>
 RUNU prog R (storeAt 4 v5 (Value.bool true)) w6 fun w7 =>
 RUN prog R (buildSlice 24 1 #[(0, x1)]) w7 fun v8 w9 =>
 l7 R x0 x2 v3 v8 (Value.slice Option.none 0 0) w9
theorem b3_ok (R : EP) : TI prog R (sndC p1) (q1 R) fun z w => b3 R (z 0) (z 1) (z 2) w := appT 3 (k4_ok R)
noncomputable abbrev p20 : Code := dropC 1 (fstC p1)

def b37 (R : EP) (x0 x1 x2 x24 : Value) (w : World) (_r : Tok R := tok R) : Prop :=
 SPL x24
 (R (.returned (.tuple #[(Value.slice Option.none 0 0), (Value.bool false)])) w)
 (b3 R x0 x1 x2 w)
abbrev q17 (R : EP) : XP := QX (fun z w => b3 R (z 0) (z 1) (z 2) w) (r0 R) []
theorem b37_ok (R : EP) : TI prog R p20 (q17 R) fun z w => b37 R (z 0) (z 1) (z 2) (z 24) w := ofT
def b36_1 (R : EP) (x0 x1 x2 : Value) (w2 : World) (_r : Tok R := tok R) : Prop :=
 RUN prog R (Builtin.len_ #[49] 3 #[x0]) w2 fun v3 w4 =>
 RUN prog R (bins .geq 3 (.tmp 20) (.tmp 22) x1 v3) w4 fun v5 w6 =>
 b37 R x0 x1 x2 v5 w6

def b36 (R : EP) (x0 x1 x2 : Value) (w : World) (_r : Tok R := tok R) : Prop :=
 RUN prog R (bins .lss 3 (.tmp 17) (.const (Value.int .i64 0)) x1 (Value.int .i64 0)) w fun v1 w2 =>
 SPL v1
 (b37 R x0 x1 x2 (Value.bool true) w2)
 (b36_1 R x0 x1 x2 w2)
theorem b36_ok (R : EP) : TI prog R (fstC p1) (q17 R) fun z w => b36 R (z 0) (z 1) (z 2) w := appT 0 (b37_ok R)
theorem k2_ok (R : EP) : TI prog R p1 (q1 R) fun z w => b36 R (z 0) (z 1) (z 2) w := seqT (b36_ok R) (b3_ok R)

def b1 (R : EP) (x0 x1 x2 : Value) (w : World) (_r : Tok R := tok R) : Prop :=
 b36 R x0 x1 x2 w
theorem b1_ok (R : EP) : TI prog R code (q1 R) fun z w => b1 R (z 0) (z 1) (z 2) w := appT 0 (k2_ok R)
def run (R : EP) (a0 a1 a2 : Value) (w : World) : Prop := b1 R a0 a1 a2 w
theorem calls (R : EP) (a0 a1 a2 : Value) (w : World) (h : run R a0 a1 a2 w) : Calls prog id #[a0, a1, a2] w R :=
 calls_of_tt (f := id) (fn := f47) (c := code) (by kernel_rfl) func47 (by kernel_rfl) (by kernel_rfl) (args := [a0, a1, a2]) (Nat.le_of_ble_eq_true rfl) rfl (b1_ok R (envOf [a0, a1, a2]) w h)
theorem enters : Enters prog id := fun args w => call47 args w
theorem ct {a0 a1 a2 : Value} {w : World} {S : VP} (h : ∀ R : EP, (∀ v w, S v w → R (.returned v) w) → run R a0 a1 a2 w) : Ct prog id #[a0, a1, a2] w S :=
 Ct.intro enters fun R hR => calls R a0 a1 a2 w (h R hR)
attribute [irreducible] l15 l24 l7
attribute [irreducible, go_sem] b5 b18 b21 b20_1 b20 b16 b13 b27 b31 b33 b32_1 b32 b29 b25 b22 b35 b34_1 b34_2 b34_3 b34_4 b34_5 b34_6 b34_7 b34_8 b34 b10 b8 b3 b37 b36_1 b36 b1 run
end ref20_Walk

end Go.Proofs.Ytkacbjhiobnbfaa
