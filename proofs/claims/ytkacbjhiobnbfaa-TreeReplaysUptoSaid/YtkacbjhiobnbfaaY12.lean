/- Shallow programs, written by a program of ours (gen.py) off the translation; each is tied to the code by the kernel. -/
import Derived.Test.YtkacbjhiobnbfaaY04
set_option linter.unusedVariables false
set_option maxRecDepth 100000
namespace Go.Proofs.Ytkacbjhiobnbfaa
open Go.Px Try Instr

/-! ### presage/presagelaw20.TreeReplays -/
namespace law20_TreeReplays
noncomputable def code : Code := bodyOf f10
noncomputable abbrev p1 : Code := dropC 4 code
noncomputable abbrev p2 : Code := dropC 2 (sndC p1)
noncomputable abbrev p3 : Code := sndC (sndC p2)
noncomputable abbrev p4 : Code := dropC 2 (sndC p3)

def b9 (R : EP) (w : World) (_r : Tok R := tok R) : Prop :=
 CALL prog R law20_awake.id #[] w fun v1 w2 =>
 R (.returned v1) w2
abbrev r0 (R : EP) (z : Env) (w : World) : Prop := R (.returned (z 8)) w
abbrev q1 (R : EP) : XP := QX (r0 R) (r0 R) []
theorem b9_ok (R : EP) : TI prog R (sndC p4) (q1 R) fun z w => b9 R w := ofT
noncomputable abbrev p5 : Code := dropC 1 (fstC p4)
noncomputable abbrev p6 : Code := loopC (blkC p5)
noncomputable abbrev p7 : Code := sndC (sndC p6)

def b15 (R : EP) (C12 : VP) (x17 : Value) (w : World) (_r : Tok R := tok R) (_C12 : Tok C12 := tok C12) : Prop :=
 RUN prog R (bins .add 3 (.tmp 218) (.const (Value.int .i64 1)) x17 (Value.int .i64 1)) w fun v1 w2 =>
 C12 v1 w2
abbrev q2 (R : EP) (C12 : VP) : XP := QX (fun z w => C12 (z 17) w) (r0 R) [(8, (fun z w => b9 R  w))]
theorem b15_ok (R : EP) (C12 : VP) : TI prog R p7 (q2 R C12) fun z w => b15 R C12 (z 17) w := ofT
noncomputable abbrev p8 : Code := fstC (sndC p6)
noncomputable abbrev p9 : Code := dropC 4 (blkC p8)
noncomputable abbrev p10 : Code := dropC 1 (sndC p9)

def b20 (R : EP) (C12 : VP) (x17 x270 : Value) (w : World) (_r : Tok R := tok R) (_C12 : Tok C12 := tok C12) : Prop :=
 SPL x270
 (R (.returned (Value.bool false)) w)
 (b15 R C12 x17 w)
abbrev q3 (R : EP) (C12 : VP) : XP := QX (fun z w => b15 R C12 (z 17) w) (r0 R) [(10, (fun z w => b15 R C12 (z 17) w)), (8, (fun z w => b9 R  w))]
theorem b20_ok (R : EP) (C12 : VP) : TI prog R p10 (q3 R C12) fun z w => b20 R C12 (z 17) (z 270) w := ofT
def b19_1 (R : EP) (C12 : VP) (x2 x3 x17 x18 x21 v11 : Value) (w12 : World) (_r : Tok R := tok R) (_C12 : Tok C12 := tok C12) : Prop :=
 RUN prog R (buildSlice 24 0 #[]) w12 fun v13 w14 =>
 RUN prog R (Builtin.append_ #[24, 24] 24 #[v13, x3]) w14 fun v15 w16 =>
 CALL prog R tree_Derives.id #[v11, x18, x2, v15] w16 fun v17 w18 =>
 RUN prog R (bins .eql 4 (.tmp 267) (.tmp 268) v17 x21) w18 fun v19 w20 =>
 b20 R C12 x17 v19 w20
def b19_2 (R : EP) (C12 : VP) (x2 x3 x4 x17 x18 x21 : Value) (w8 : World) (_r : Tok R := tok R) (_C12 : Tok C12 := tok C12) : Prop :=
 RUN prog R (loadAt 27 x4) w8 fun v9 w10 =>
 CALL prog R ref02_Copy.id #[v9] w10 fun v11 w12 =>
 b19_1 R C12 x2 x3 x17 x18 x21 v11 w12

def b19 (R : EP) (C12 : VP) (x1 x2 x3 x4 x17 x18 x21 : Value) (w : World) (_r : Tok R := tok R) (_C12 : Tok C12 := tok C12) : Prop :=
 RUN prog R (indexAt 49 x1 x17) w fun v1 w2 =>
 RUN prog R (fieldAt 61 v1 2) w2 fun v3 w4 =>
 RUN prog R (loadAt 3 v3) w4 fun v5 w6 =>
 RUN prog R (bins .lss 3 (.tmp 257) (.const (Value.int .i64 8192)) v5 (Value.int .i64 8192)) w6 fun v7 w8 =>
 SPL v7
 (b19_2 R C12 x2 x3 x4 x17 x18 x21 w8)
 (b20 R C12 x17 (Value.bool false) w8)
theorem b19_ok (R : EP) (C12 : VP) : TI prog R (sndC p9) (q3 R C12) fun z w => b19 R C12 (z 1) (z 2) (z 3) (z 4) (z 17) (z 18) (z 21) w := appT 0 (b20_ok R C12)
noncomputable abbrev p11 : Code := dropC 1 (fstC p9)
noncomputable abbrev p12 : Code := loopC (blkC p11)
noncomputable abbrev p13 : Code := dropC 2 p12

def b25 (R : EP) (C12 : VP) (C23 : Value → VP) (x21 x22 : Value) (w : World) (_r : Tok R := tok R) (_C12 : Tok C12 := tok C12) (_C23 : Tok C23 := tok C23) : Prop :=
 RUN prog R (bins .add 3 (.tmp 242) (.const (Value.int .i64 1)) x22 (Value.int .i64 1)) w fun v1 w2 =>
 C23 x21 v1 w2
abbrev q4 (R : EP) (C12 : VP) (C23 : Value → VP) : XP := QX (fun z w => C23 (z 21) (z 22) w) (r0 R) [(12, (fun z w => b19 R C12 (z 1) (z 2) (z 3) (z 4) (z 17) (z 18) (z 21) w)), (10, (fun z w => b15 R C12 (z 17) w)), (8, (fun z w => b9 R  w))]
theorem b25_ok (R : EP) (C12 : VP) (C23 : Value → VP) : TI prog R p13 (q4 R C12 C23) fun z w => b25 R C12 C23 (z 21) (z 22) w := ofT
def b24_1 (R : EP) (C12 : VP) (C23 : Value → VP) (x17 x19 x22 : Value) (w4 : World) (_r : Tok R := tok R) (_C12 : Tok C12 := tok C12) (_C23 : Tok C23 := tok C23) : Prop :=
 RUN prog R (indexAt 24 x19 x22) w4 fun v5 w6 =>
 RUN prog R (loadAt 3 v5) w6 fun v7 w8 =>
 RUN prog R (bins .eql 3 (.tmp 249) (.tmp 250) v7 x17) w8 fun v9 w10 =>
 b25 R C12 C23 v9 x22 w10

def b24 (R : EP) (C12 : VP) (C23 : Value → VP) (x1 x2 x3 x4 x17 x18 x19 x21 x22 : Value) (w : World) (_r : Tok R := tok R) (_C12 : Tok C12 := tok C12) (_C23 : Tok C23 := tok C23) : Prop :=
 RUN prog R (Builtin.len_ #[24] 3 #[x19]) w fun v1 w2 =>
 RUN prog R (bins .lss 3 (.tmp 238) (.tmp 240) x22 v1) w2 fun v3 w4 =>
 SPL v3
 (SPL x21
 (b25 R C12 C23 (Value.bool true) x22 w4)
 (b24_1 R C12 C23 x17 x19 x22 w4))
 (b19 R C12 x1 x2 x3 x4 x17 x18 x21 w4)
theorem b24_ok (R : EP) (C12 : VP) (C23 : Value → VP) : TI prog R p12 (q4 R C12 C23) fun z w => b24 R C12 C23 (z 1) (z 2) (z 3) (z 4) (z 17) (z 18) (z 19) (z 21) (z 22) w := appT 1 (b25_ok R C12 C23)

def l23 (R : EP) (C12 : VP) (x1 x2 x3 x4 x17 x18 x19 x21 x22 : Value) (w : World) (_r : Tok R := tok R) (_C12 : Tok C12 := tok C12) : Prop :=
 ∃ (J : Value → VP) (μ : Value → Value → World → Nat), J x21 x22 w ∧ ∀ y21 y22 w0, J y21 y22 w0 → b24 R C12 (fun z21 z22 w1 => J z21 z22 w1 ∧ μ z21 z22 w1 < μ y21 y22 w0) x1 x2 x3 x4 x17 x18 x19 y21 y22 w0
abbrev q5 (R : EP) (C12 : VP) : XP := QX (fun z w => b19 R C12 (z 1) (z 2) (z 3) (z 4) (z 17) (z 18) (z 21) w) (r0 R) [(12, (fun z w => b19 R C12 (z 1) (z 2) (z 3) (z 4) (z 17) (z 18) (z 21) w)), (10, (fun z w => b15 R C12 (z 17) w)), (8, (fun z w => b9 R  w))]
theorem l23_ok (R : EP) (C12 : VP) : TI prog R (blkC p11) (q5 R C12) fun z w => l23 R C12 (z 1) (z 2) (z 3) (z 4) (z 17) (z 18) (z 19) (z 21) (z 22) w := fun z w h => by
 unfold l23 at h
 obtain ⟨J, μ, h0, hr⟩ := h
 refine loopT (fun z' w' => J (z' 21) (z' 22) w') (fun z' w' => μ (z' 21) (z' 22) w') h0 fun z' w' hA hI => b24_ok R C12 (fun z21 z22 w1 => J z21 z22 w1 ∧ μ z21 z22 w1 < μ (z' 21) (z' 22) w') z' w' ?_
 have h1 := hr (z' 21) (z' 22) w' hI
 rwa [← hA.on 1, ← hA.on 2, ← hA.on 3, ← hA.on 4, ← hA.on 17, ← hA.on 18, ← hA.on 19] at h1
theorem l23_intro (R : EP) (C12 : VP) (x1 x2 x3 x4 x17 x18 x19 x21 x22 : Value) (w : World) (J : Value → VP) (μ : Value → Value → World → Nat) (h0 : J x21 x22 w)
   (hr : ∀ y21 y22 w0, J y21 y22 w0 → ∀ C23 : Value → VP, (∀ z21 z22 w1, J z21 z22 w1 → μ z21 z22 w1 < μ y21 y22 w0 → C23 z21 z22 w1) → b24 R C12 C23 x1 x2 x3 x4 x17 x18 x19 y21 y22 w0) : l23 R C12 x1 x2 x3 x4 x17 x18 x19 x21 x22 w := by
 unfold l23
 exact ⟨J, μ, h0, fun y21 y22 w0 hJ => hr y21 y22 w0 hJ _ (fun z21 z22 w1 h1 h2 => ⟨h1, h2⟩)⟩
abbrev q6 (R : EP) (C12 : VP) : XP := QX (fun z w => b19 R C12 (z 1) (z 2) (z 3) (z 4) (z 17) (z 18) (z 21) w) (r0 R) [(10, (fun z w => b15 R C12 (z 17) w)), (8, (fun z w => b9 R  w))]
theorem k22_ok (R : EP) (C12 : VP) : TI prog R p11 (q6 R C12) fun z w => l23 R C12 (z 1) (z 2) (z 3) (z 4) (z 17) (z 18) (z 19) (z 21) (z 22) w := blockT 6 (l23_ok R C12)

def b21 (R : EP) (C12 : VP) (x1 x2 x3 x4 x17 x18 x19 x21 : Value) (w : World) (_r : Tok R := tok R) (_C12 : Tok C12 := tok C12) : Prop :=
 l23 R C12 x1 x2 x3 x4 x17 x18 x19 x21 (Value.int .i64 0) w
theorem b21_ok (R : EP) (C12 : VP) : TI prog R (fstC p9) (q6 R C12) fun z w => b21 R C12 (z 1) (z 2) (z 3) (z 4) (z 17) (z 18) (z 19) (z 21) w := appT 0 (k22_ok R C12)
theorem k18_ok (R : EP) (C12 : VP) : TI prog R p9 (q3 R C12) fun z w => b21 R C12 (z 1) (z 2) (z 3) (z 4) (z 17) (z 18) (z 19) (z 21) w := seqT (b21_ok R C12) (b19_ok R C12)
def b17_1 (R : EP) (C12 : VP) (x1 x2 x3 x4 x17 v1 v16 : Value) (w17 : World) (_r : Tok R := tok R) (_C12 : Tok C12 := tok C12) : Prop :=
 RUN prog R (extract v16 0) w17 fun v18 w19 =>
 RUN prog R (extract v16 1) w19 fun v20 w21 =>
 b21 R C12 x1 x2 x3 x4 x17 v1 v18 (Value.bool false) w21
def b17_2 (R : EP) (C12 : VP) (x1 x2 x3 x4 x17 v1 : Value) (w2 : World) (_r : Tok R := tok R) (_C12 : Tok C12 := tok C12) : Prop :=
 RUN prog R (indexAt 49 v1 x17) w2 fun v3 w4 =>
 RUN prog R (fieldAt 61 v3 2) w4 fun v5 w6 =>
 RUN prog R (loadAt 3 v5) w6 fun v7 w8 =>
 RUN prog R (bins .add 3 (.tmp 228) (.const (Value.int .i64 1)) v7 (Value.int .i64 1)) w8 fun v9 w10 =>
 RUN prog R (indexAt 49 v1 x17) w10 fun v11 w12 =>
 RUN prog R (fieldAt 61 v11 2) w12 fun v13 w14 =>
 RUNU prog R (storeAt 3 v13 v9) w14 fun w15 =>
 CALL prog R ref20_Walk.id #[x1, x2, (Value.bool false)] w15 fun v16 w17 =>
 b17_1 R C12 x1 x2 x3 x4 x17 v1 v16 w17

def b17 (R : EP) (C12 : VP) (x1 x2 x3 x4 x17 : Value) (w : World) (_r : Tok R := tok R) (_C12 : Tok C12 := tok C12) : Prop :=
 CALL prog R ref20_Copy.id #[x1] w fun v1 w2 =>
 b17_2 R C12 x1 x2 x3 x4 x17 v1 w2
theorem b17_ok (R : EP) (C12 : VP) : TI prog R (blkC p8) (q3 R C12) fun z w => b17 R C12 (z 1) (z 2) (z 3) (z 4) (z 17) w := appT 3 (k18_ok R C12)
abbrev q7 (R : EP) (C12 : VP) : XP := QX (fun z w => b15 R C12 (z 17) w) (r0 R) [(8, (fun z w => b9 R  w))]
theorem k16_ok (R : EP) (C12 : VP) : TI prog R p8 (q7 R C12) fun z w => b17 R C12 (z 1) (z 2) (z 3) (z 4) (z 17) w := blockT 5 (b17_ok R C12)
theorem k14_ok (R : EP) (C12 : VP) : TI prog R (sndC p6) (q2 R C12) fun z w => b17 R C12 (z 1) (z 2) (z 3) (z 4) (z 17) w := seqT (k16_ok R C12) (b15_ok R C12)
noncomputable abbrev p14 : Code := dropC 1 (fstC p6)

def b27 (R : EP) (C12 : VP) (x1 x2 x3 x4 x17 x217 : Value) (w : World) (_r : Tok R := tok R) (_C12 : Tok C12 := tok C12) : Prop :=
 SPL x217
 (b17 R C12 x1 x2 x3 x4 x17 w)
 (b9 R w)
abbrev q8 (R : EP) (C12 : VP) : XP := QX (fun z w => b17 R C12 (z 1) (z 2) (z 3) (z 4) (z 17) w) (r0 R) [(8, (fun z w => b9 R  w))]
theorem b27_ok (R : EP) (C12 : VP) : TI prog R p14 (q8 R C12) fun z w => b27 R C12 (z 1) (z 2) (z 3) (z 4) (z 17) (z 217) w := ofT

def b26 (R : EP) (C12 : VP) (x1 x2 x3 x4 x17 : Value) (w : World) (_r : Tok R := tok R) (_C12 : Tok C12 := tok C12) : Prop :=
 RUN prog R (Builtin.len_ #[49] 3 #[x1]) w fun v1 w2 =>
 RUN prog R (bins .lss 3 (.tmp 210) (.tmp 212) x17 v1) w2 fun v3 w4 =>
 SPL v3
 (RUN prog R (bins .lss 3 (.tmp 215) (.const (Value.int .i64 40)) x17 (Value.int .i64 40)) w4 fun v5 w6 =>
 b27 R C12 x1 x2 x3 x4 x17 v5 w6)
 (b27 R C12 x1 x2 x3 x4 x17 (Value.bool false) w4)
theorem b26_ok (R : EP) (C12 : VP) : TI prog R (fstC p6) (q8 R C12) fun z w => b26 R C12 (z 1) (z 2) (z 3) (z 4) (z 17) w := appT 0 (b27_ok R C12)
theorem k13_ok (R : EP) (C12 : VP) : TI prog R p6 (q2 R C12) fun z w => b26 R C12 (z 1) (z 2) (z 3) (z 4) (z 17) w := seqT (b26_ok R C12) (k14_ok R C12)

def l12 (R : EP) (x1 x2 x3 x4 x17 : Value) (w : World) (_r : Tok R := tok R) : Prop :=
 ∃ (J : VP) (μ : Value → World → Nat), J x17 w ∧ ∀ y17 w0, J y17 w0 → b26 R (fun z17 w1 => J z17 w1 ∧ μ z17 w1 < μ y17 w0) x1 x2 x3 x4 y17 w0
abbrev q9 (R : EP) : XP := QX (fun z w => b9 R  w) (r0 R) [(8, (fun z w => b9 R  w))]
theorem l12_ok (R : EP) : TI prog R (blkC p5) (q9 R) fun z w => l12 R (z 1) (z 2) (z 3) (z 4) (z 17) w := fun z w h => by
 unfold l12 at h
 obtain ⟨J, μ, h0, hr⟩ := h
 refine loopT (fun z' w' => J (z' 17) w') (fun z' w' => μ (z' 17) w') h0 fun z' w' hA hI => k13_ok R (fun z17 w1 => J z17 w1 ∧ μ z17 w1 < μ (z' 17) w') z' w' ?_
 have h1 := hr (z' 17) w' hI
 rwa [← hA.on 1, ← hA.on 2, ← hA.on 3, ← hA.on 4] at h1
theorem l12_intro (R : EP) (x1 x2 x3 x4 x17 : Value) (w : World) (J : VP) (μ : Value → World → Nat) (h0 : J x17 w)
   (hr : ∀ y17 w0, J y17 w0 → ∀ C12 : VP, (∀ z17 w1, J z17 w1 → μ z17 w1 < μ y17 w0 → C12 z17 w1) → b26 R C12 x1 x2 x3 x4 y17 w0) : l12 R x1 x2 x3 x4 x17 w := by
 unfold l12
 exact ⟨J, μ, h0, fun y17 w0 hJ => hr y17 w0 hJ _ (fun z17 w1 h1 h2 => ⟨h1, h2⟩)⟩
abbrev q10 (R : EP) : XP := QX (fun z w => b9 R  w) (r0 R) []
theorem k11_ok (R : EP) : TI prog R p5 (q10 R) fun z w => l12 R (z 1) (z 2) (z 3) (z 4) (z 17) w := blockT 4 (l12_ok R)

def b10 (R : EP) (x1 x2 x3 x4 : Value) (w : World) (_r : Tok R := tok R) : Prop :=
 l12 R x1 x2 x3 x4 (Value.int .i64 0) w
theorem b10_ok (R : EP) : TI prog R (fstC p4) (q10 R) fun z w => b10 R (z 1) (z 2) (z 3) (z 4) w := appT 0 (k11_ok R)
theorem k8_ok (R : EP) : TI prog R p4 (q1 R) fun z w => b10 R (z 1) (z 2) (z 3) (z 4) w := seqT (b10_ok R) (b9_ok R)
def b7_1 (R : EP) (x1 x2 x3 x4 v7 v11 : Value) (w12 : World) (_r : Tok R := tok R) : Prop :=
 CALL prog R ref20_Copy.id #[x1] w12 fun v13 w14 =>
 CALL prog R tree_Derives.id #[v11, v13, x2, v7] w14 fun v15 w16 =>
 SPL v15
 (R (.returned (Value.bool false)) w16)
 (b10 R x1 x2 x3 x4 w16)

def b7 (R : EP) (x1 x2 x3 x4 : Value) (w : World) (_r : Tok R := tok R) : Prop :=
 RUN prog R (buildSlice 24 0 #[]) w fun v1 w2 =>
 RUN prog R (Builtin.append_ #[24, 24] 24 #[v1, x3]) w2 fun v3 w4 =>
 RUN prog R (buildSlice 24 1 #[(0, (Value.int .i64 1))]) w4 fun v5 w6 =>
 RUN prog R (Builtin.append_ #[24, 24] 24 #[v3, v5]) w6 fun v7 w8 =>
 RUN prog R (loadAt 27 x4) w8 fun v9 w10 =>
 CALL prog R ref02_Copy.id #[v9] w10 fun v11 w12 =>
 b7_1 R x1 x2 x3 x4 v7 v11 w12
theorem b7_ok (R : EP) : TI prog R (sndC p3) (q1 R) fun z w => b7 R (z 1) (z 2) (z 3) (z 4) w := appT 1 (k8_ok R)
noncomputable abbrev p15 : Code := dropC 1 (fstC p3)

def b29 (R : EP) (x1 x2 x3 x4 x197 : Value) (w : World) (_r : Tok R := tok R) : Prop :=
 SPL x197
 (R (.returned (Value.bool false)) w)
 (b7 R x1 x2 x3 x4 w)
abbrev q11 (R : EP) : XP := QX (fun z w => b7 R (z 1) (z 2) (z 3) (z 4) w) (r0 R) []
theorem b29_ok (R : EP) : TI prog R p15 (q11 R) fun z w => b29 R (z 1) (z 2) (z 3) (z 4) (z 197) w := ofT
def b28_1 (R : EP) (x1 x2 x3 x4 : Value) (w4 : World) (_r : Tok R := tok R) : Prop :=
 RUN prog R (loadAt 27 x4) w4 fun v5 w6 =>
 CALL prog R ref06_Sentence.id #[v5, x3] w6 fun v7 w8 =>
 RUN prog R (Op.unary .not v7) w8 fun v9 w10 =>
 b29 R x1 x2 x3 x4 v9 w10

def b28 (R : EP) (x1 x2 x3 x4 : Value) (w : World) (_r : Tok R := tok R) : Prop :=
 RUN prog R (Builtin.len_ #[24] 3 #[x3]) w fun v1 w2 =>
 RUN prog R (bins .leq 3 (.tmp 190) (.const (Value.int .i64 12)) v1 (Value.int .i64 12)) w2 fun v3 w4 =>
 SPL v3
 (b28_1 R x1 x2 x3 x4 w4)
 (b29 R x1 x2 x3 x4 (Value.bool false) w4)
theorem b28_ok (R : EP) : TI prog R (fstC p3) (q11 R) fun z w => b28 R (z 1) (z 2) (z 3) (z 4) w := appT 0 (b29_ok R)
theorem k6_ok (R : EP) : TI prog R p3 (q1 R) fun z w => b28 R (z 1) (z 2) (z 3) (z 4) w := seqT (b28_ok R) (b7_ok R)
noncomputable abbrev p16 : Code := fstC (sndC p2)
noncomputable abbrev p17 : Code := dropC 1 p16

def b31 (R : EP) (x1 x2 x3 x4 x188 : Value) (w : World) (_r : Tok R := tok R) : Prop :=
 SPL x188
 (R (.returned (Value.bool false)) w)
 (b28 R x1 x2 x3 x4 w)
abbrev q12 (R : EP) : XP := QX (fun z w => b28 R (z 1) (z 2) (z 3) (z 4) w) (r0 R) []
theorem b31_ok (R : EP) : TI prog R p17 (q12 R) fun z w => b31 R (z 1) (z 2) (z 3) (z 4) (z 188) w := ofT
def b30_1 (R : EP) (x1 x2 x3 x4 x14 : Value) (w8 : World) (_r : Tok R := tok R) : Prop :=
 RUN prog R (Builtin.len_ #[24] 3 #[x14]) w8 fun v9 w10 =>
 RUN prog R (sliceAt 24 x3 none (some v9) none) w10 fun v11 w12 =>
 CALL prog R ref01_Ints.id #[x14, v11] w12 fun v13 w14 =>
 RUN prog R (Op.unary .not v13) w14 fun v15 w16 =>
 b31 R x1 x2 x3 x4 v15 w16

def b30 (R : EP) (x1 x2 x3 x4 x13 x14 : Value) (w : World) (_r : Tok R := tok R) : Prop :=
 RUN prog R (Builtin.len_ #[24] 3 #[x14]) w fun v1 w2 =>
 RUN prog R (bins .add 3 (.tmp 174) (.tmp 175) v1 x13) w2 fun v3 w4 =>
 RUN prog R (Builtin.len_ #[24] 3 #[x3]) w4 fun v5 w6 =>
 RUN prog R (bins .neq 3 (.tmp 176) (.tmp 178) v3 v5) w6 fun v7 w8 =>
 SPL v7
 (b31 R x1 x2 x3 x4 (Value.bool true) w8)
 (b30_1 R x1 x2 x3 x4 x14 w8)
theorem b30_ok (R : EP) : TI prog R p16 (q12 R) fun z w => b30 R (z 1) (z 2) (z 3) (z 4) (z 13) (z 14) w := appT 0 (b31_ok R)
theorem k5_ok (R : EP) : TI prog R (sndC p2) (q1 R) fun z w => b30 R (z 1) (z 2) (z 3) (z 4) (z 13) (z 14) w := seqT (b30_ok R) (k6_ok R)
noncomputable abbrev p18 : Code := dropC 1 (fstC p2)
noncomputable abbrev p19 : Code := loopC (blkC p18)
noncomputable abbrev p20 : Code := dropC 1 p19

def b37 (R : EP) (C34 : Value → Value → VP) (x13 x14 x15 : Value) (w : World) (_r : Tok R := tok R) (_C34 : Tok C34 := tok C34) : Prop :=
 RUN prog R (bins .add 3 (.tmp 72) (.const (Value.int .i64 1)) x15 (Value.int .i64 1)) w fun v1 w2 =>
 C34 x13 x14 v1 w2
abbrev q13 (R : EP) (C34 : Value → Value → VP) : XP := QX (fun z w => C34 (z 13) (z 14) (z 15) w) (r0 R) [(0, (fun z w => b30 R (z 1) (z 2) (z 3) (z 4) (z 13) (z 14) w))]
theorem b37_ok (R : EP) (C34 : Value → Value → VP) : TI prog R (sndC p20) (q13 R C34) fun z w => b37 R C34 (z 13) (z 14) (z 15) w := ofT
noncomputable abbrev p21 : Code := blkC (fstC p20)
noncomputable abbrev p22 : Code := sndC (sndC p21)

def b41 (R : EP) (C34 : Value → Value → VP) (x4 x11 x13 x14 x15 : Value) (w : World) (_r : Tok R := tok R) (_C34 : Tok C34 := tok C34) : Prop :=
 LD prog (Builtin.len_ #[24] 3 #[x14]) (World.drew w) fun v1 =>
 PUR prog (bins .sub 3 (.tmp 157) (.const (Value.int .i64 1)) v1 (Value.int .i64 1)) fun v2 =>
 LD prog (Builtin.len_ #[24] 3 #[x14]) (World.drew w) fun v3 =>
 PUR prog (bins .sub 3 (.tmp 160) (.const (Value.int .i64 1)) v3 (Value.int .i64 1)) fun v4 =>
 PUR prog (sliceAt 24 x14 none (some v2) (some v4)) fun v5 =>
 PUR prog (fieldAt 27 x4 4) fun v6 =>
 LD prog (loadAt 25 v6) (World.drew w) fun v7 =>
 PUR prog (indexAt 24 x11 x15) fun v8 =>
 LD prog (loadAt 3 v8) (World.drew w) fun v9 =>
 PUR prog (indexAt 25 v7 v9) fun v10 =>
 PUR prog (fieldAt 47 v10 1) fun v11 =>
 LD prog (loadAt 24 v11) (World.drew w) fun v12 =>
 RUN prog R (Builtin.append_ #[24, 24] 24 #[v5, v12]) (World.drew w) fun v13 w14 =>
 b37 R C34 x13 v13 x15 w14
abbrev q14 (R : EP) (C34 : Value → Value → VP) : XP := QX (fun z w => b37 R C34 (z 13) (z 14) (z 15) w) (r0 R) [(2, (fun z w => b37 R C34 (z 13) (z 14) (z 15) w)), (0, (fun z w => b30 R (z 1) (z 2) (z 3) (z 4) (z 13) (z 14) w))]
theorem b41_ok (R : EP) (C34 : Value → Value → VP) : TI prog R p22 (q14 R C34) fun z w => b41 R C34 (z 4) (z 11) (z 13) (z 14) (z 15) w := ofT
noncomputable abbrev p23 : Code := fstC (sndC p21)
noncomputable abbrev p24 : Code := dropC 1 p23

def b43 (R : EP) (C34 : Value → Value → VP) (x4 x11 x13 x14 x15 x154 : Value) (w : World) (_r : Tok R := tok R) (_C34 : Tok C34 := tok C34) : Prop :=
 SPL x154
 (R (.returned (Value.bool false)) w)
 (b41 R C34 x4 x11 x13 x14 x15 w)
abbrev q15 (R : EP) (C34 : Value → Value → VP) : XP := QX (fun z w => b41 R C34 (z 4) (z 11) (z 13) (z 14) (z 15) w) (r0 R) [(2, (fun z w => b37 R C34 (z 13) (z 14) (z 15) w)), (0, (fun z w => b30 R (z 1) (z 2) (z 3) (z 4) (z 13) (z 14) w))]
theorem b43_ok (R : EP) (C34 : Value → Value → VP) : TI prog R p24 (q15 R C34) fun z w => b43 R C34 (z 4) (z 11) (z 13) (z 14) (z 15) (z 154) w := ofT
def b42_1 (R : EP) (C34 : Value → Value → VP) (x4 x11 x13 x14 x15 : Value) (w : World) (_r : Tok R := tok R) (_C34 : Tok C34 := tok C34) : Prop :=
 PUR prog (fieldAt 27 x4 4) fun v12 =>
 LD prog (loadAt 25 v12) (World.drew w) fun v13 =>
 PUR prog (indexAt 24 x11 x15) fun v14 =>
 LD prog (loadAt 3 v14) (World.drew w) fun v15 =>
 PUR prog (indexAt 25 v13 v15) fun v16 =>
 PUR prog (fieldAt 47 v16 0) fun v17 =>
 LD prog (loadAt 3 v17) (World.drew w) fun v18 =>
 LD prog (Builtin.len_ #[24] 3 #[x14]) (World.drew w) fun v19 =>
 PUR prog (bins .sub 3 (.tmp 149) (.const (Value.int .i64 1)) v19 (Value.int .i64 1)) fun v20 =>
 PUR prog (indexAt 24 x14 v20) fun v21 =>
 LD prog (loadAt 3 v21) (World.drew w) fun v22 =>
 PUR prog (bins .neq 3 (.tmp 146) (.tmp 152) v18 v22) fun v23 =>
 b43 R C34 x4 x11 x13 x14 x15 v23 (World.drew w)
def b42_2 (R : EP) (C34 : Value → Value → VP) (x4 x11 x13 x14 x15 : Value) (w : World) (_r : Tok R := tok R) (_C34 : Tok C34 := tok C34) : Prop :=
 PUR prog (indexAt 24 x11 x15) fun v6 =>
 LD prog (loadAt 3 v6) (World.drew w) fun v7 =>
 PUR prog (fieldAt 27 x4 4) fun v8 =>
 LD prog (loadAt 25 v8) (World.drew w) fun v9 =>
 LD prog (Builtin.len_ #[25] 3 #[v9]) (World.drew w) fun v10 =>
 PUR prog (bins .geq 3 (.tmp 131) (.tmp 134) v7 v10) fun v11 =>
 SPL v11
 (b43 R C34 x4 x11 x13 x14 x15 (Value.bool true) (World.drew w))
 (b42_1 R C34 x4 x11 x13 x14 x15 w)
def b42_3 (R : EP) (C34 : Value → Value → VP) (x4 x11 x13 x14 x15 : Value) (w : World) (_r : Tok R := tok R) (_C34 : Tok C34 := tok C34) : Prop :=
 PUR prog (indexAt 24 x11 x15) fun v3 =>
 LD prog (loadAt 3 v3) (World.drew w) fun v4 =>
 PUR prog (bins .lss 3 (.tmp 124) (.const (Value.int .i64 0)) v4 (Value.int .i64 0)) fun v5 =>
 SPL v5
 (b43 R C34 x4 x11 x13 x14 x15 (Value.bool true) (World.drew w))
 (b42_2 R C34 x4 x11 x13 x14 x15 w)

def b42 (R : EP) (C34 : Value → Value → VP) (x4 x11 x13 x14 x15 : Value) (w : World) (_r : Tok R := tok R) (_C34 : Tok C34 := tok C34) : Prop :=
 LD prog (Builtin.len_ #[24] 3 #[x14]) (World.drew w) fun v1 =>
 PUR prog (bins .eql 3 (.tmp 118) (.const (Value.int .i64 0)) v1 (Value.int .i64 0)) fun v2 =>
 SPL v2
 (b43 R C34 x4 x11 x13 x14 x15 (Value.bool true) (World.drew w))
 (b42_3 R C34 x4 x11 x13 x14 x15 w)
theorem b42_ok (R : EP) (C34 : Value → Value → VP) : TI prog R p23 (q15 R C34) fun z w => b42 R C34 (z 4) (z 11) (z 13) (z 14) (z 15) w := appT 0 (b43_ok R C34)
theorem k40_ok (R : EP) (C34 : Value → Value → VP) : TI prog R (sndC p21) (q14 R C34) fun z w => b42 R C34 (z 4) (z 11) (z 13) (z 14) (z 15) w := seqT (b42_ok R C34) (b41_ok R C34)
noncomputable abbrev p25 : Code := blkC (fstC p21)
noncomputable abbrev p26 : Code := sndC (loopC p25)
noncomputable abbrev p27 : Code := sndC (blkC p26)

def b49 (R : EP) (C34 : Value → Value → VP) (C45 : Value → VP) (x13 x14 : Value) (w : World) (_r : Tok R := tok R) (_C34 : Tok C34 := tok C34) (_C45 : Tok C45 := tok C45) : Prop :=
 RUN prog R (bins .add 3 (.tmp 110) (.const (Value.int .i64 1)) x13 (Value.int .i64 1)) w fun v1 w2 =>
 RUN prog R (Builtin.len_ #[24] 3 #[x14]) w2 fun v3 w4 =>
 RUN prog R (bins .sub 3 (.tmp 114) (.const (Value.int .i64 1)) v3 (Value.int .i64 1)) w4 fun v5 w6 =>
 RUN prog R (sliceAt 24 x14 none (some v5) none) w6 fun v7 w8 =>
 C45 v1 v7 w8
abbrev q16 (R : EP) (C34 : Value → Value → VP) (C45 : Value → VP) : XP := QX (fun z w => C45 (z 13) (z 14) w) (r0 R) [(6, (fun z w => C45 (z 13) (z 14) w)), (4, (fun z w => b42 R C34 (z 4) (z 11) (z 13) (z 14) (z 15) w)), (2, (fun z w => b37 R C34 (z 13) (z 14) (z 15) w)), (0, (fun z w => b30 R (z 1) (z 2) (z 3) (z 4) (z 13) (z 14) w))]
theorem b49_ok (R : EP) (C34 : Value → Value → VP) (C45 : Value → VP) : TI prog R p27 (q16 R C34 C45) fun z w => b49 R C34 C45 (z 13) (z 14) w := ofT
noncomputable abbrev p28 : Code := fstC (blkC p26)
noncomputable abbrev p29 : Code := dropC 1 p28

def b51 (R : EP) (C34 : Value → Value → VP) (C45 : Value → VP) (x13 x14 x109 : Value) (w : World) (_r : Tok R := tok R) (_C34 : Tok C34 := tok C34) (_C45 : Tok C45 := tok C45) : Prop :=
 SPL x109
 (R (.returned (Value.bool false)) w)
 (b49 R C34 C45 x13 x14 w)
abbrev q17 (R : EP) (C34 : Value → Value → VP) (C45 : Value → VP) : XP := QX (fun z w => b49 R C34 C45 (z 13) (z 14) w) (r0 R) [(6, (fun z w => C45 (z 13) (z 14) w)), (4, (fun z w => b42 R C34 (z 4) (z 11) (z 13) (z 14) (z 15) w)), (2, (fun z w => b37 R C34 (z 13) (z 14) (z 15) w)), (0, (fun z w => b30 R (z 1) (z 2) (z 3) (z 4) (z 13) (z 14) w))]
theorem b51_ok (R : EP) (C34 : Value → Value → VP) (C45 : Value → VP) : TI prog R p29 (q17 R C34 C45) fun z w => b51 R C34 C45 (z 13) (z 14) (z 109) w := ofT
def b50_1 (R : EP) (C34 : Value → Value → VP) (C45 : Value → VP) (x3 x13 x14 : Value) (w : World) (_r : Tok R := tok R) (_C34 : Tok C34 := tok C34) (_C45 : Tok C45 := tok C45) : Prop :=
 LD prog (Builtin.len_ #[24] 3 #[x3]) (World.drew w) fun v3 =>
 PUR prog (bins .sub 3 (.tmp 96) (.const (Value.int .i64 1)) v3 (Value.int .i64 1)) fun v4 =>
 PUR prog (bins .sub 3 (.tmp 97) (.tmp 98) v4 x13) fun v5 =>
 PUR prog (indexAt 24 x3 v5) fun v6 =>
 LD prog (loadAt 3 v6) (World.drew w) fun v7 =>
 LD prog (Builtin.len_ #[24] 3 #[x14]) (World.drew w) fun v8 =>
 PUR prog (bins .sub 3 (.tmp 104) (.const (Value.int .i64 1)) v8 (Value.int .i64 1)) fun v9 =>
 PUR prog (indexAt 24 x14 v9) fun v10 =>
 LD prog (loadAt 3 v10) (World.drew w) fun v11 =>
 PUR prog (bins .neq 3 (.tmp 101) (.tmp 107) v7 v11) fun v12 =>
 b51 R C34 C45 x13 x14 v12 (World.drew w)

def b50 (R : EP) (C34 : Value → Value → VP) (C45 : Value → VP) (x3 x13 x14 : Value) (w : World) (_r : Tok R := tok R) (_C34 : Tok C34 := tok C34) (_C45 : Tok C45 := tok C45) : Prop :=
 LD prog (Builtin.len_ #[24] 3 #[x3]) (World.drew w) fun v1 =>
 PUR prog (bins .geq 3 (.tmp 89) (.tmp 91) x13 v1) fun v2 =>
 SPL v2
 (b51 R C34 C45 x13 x14 (Value.bool true) (World.drew w))
 (b50_1 R C34 C45 x3 x13 x14 w)
theorem b50_ok (R : EP) (C34 : Value → Value → VP) (C45 : Value → VP) : TI prog R p28 (q17 R C34 C45) fun z w => b50 R C34 C45 (z 3) (z 13) (z 14) w := appT 0 (b51_ok R C34 C45)
theorem k48_ok (R : EP) (C34 : Value → Value → VP) (C45 : Value → VP) : TI prog R (blkC p26) (q16 R C34 C45) fun z w => b50 R C34 C45 (z 3) (z 13) (z 14) w := seqT (b50_ok R C34 C45) (b49_ok R C34 C45)
abbrev q18 (R : EP) (C34 : Value → Value → VP) (C45 : Value → VP) : XP := QX (fun z w => C45 (z 13) (z 14) w) (r0 R) [(4, (fun z w => b42 R C34 (z 4) (z 11) (z 13) (z 14) (z 15) w)), (2, (fun z w => b37 R C34 (z 13) (z 14) (z 15) w)), (0, (fun z w => b30 R (z 1) (z 2) (z 3) (z 4) (z 13) (z 14) w))]
theorem k47_ok (R : EP) (C34 : Value → Value → VP) (C45 : Value → VP) : TI prog R p26 (q18 R C34 C45) fun z w => b50 R C34 C45 (z 3) (z 13) (z 14) w := blockT 3 (k48_ok R C34 C45)
noncomputable abbrev p30 : Code := fstC (loopC p25)
noncomputable abbrev p31 : Code := dropC 1 p30

def b53 (R : EP) (C34 : Value → Value → VP) (C45 : Value → VP) (x3 x4 x11 x13 x14 x15 x88 : Value) (w : World) (_r : Tok R := tok R) (_C34 : Tok C34 := tok C34) (_C45 : Tok C45 := tok C45) : Prop :=
 SPL x88
 (b50 R C34 C45 x3 x13 x14 w)
 (b42 R C34 x4 x11 x13 x14 x15 w)
abbrev q19 (R : EP) (C34 : Value → Value → VP) (C45 : Value → VP) : XP := QX (fun z w => b50 R C34 C45 (z 3) (z 13) (z 14) w) (r0 R) [(4, (fun z w => b42 R C34 (z 4) (z 11) (z 13) (z 14) (z 15) w)), (2, (fun z w => b37 R C34 (z 13) (z 14) (z 15) w)), (0, (fun z w => b30 R (z 1) (z 2) (z 3) (z 4) (z 13) (z 14) w))]
theorem b53_ok (R : EP) (C34 : Value → Value → VP) (C45 : Value → VP) : TI prog R p31 (q19 R C34 C45) fun z w => b53 R C34 C45 (z 3) (z 4) (z 11) (z 13) (z 14) (z 15) (z 88) w := ofT
def b52_1 (R : EP) (C34 : Value → Value → VP) (C45 : Value → VP) (x3 x4 x11 x13 x14 x15 : Value) (w : World) (_r : Tok R := tok R) (_C34 : Tok C34 := tok C34) (_C45 : Tok C45 := tok C45) : Prop :=
 LD prog (Builtin.len_ #[24] 3 #[x14]) (World.drew w) fun v3 =>
 PUR prog (bins .sub 3 (.tmp 80) (.const (Value.int .i64 1)) v3 (Value.int .i64 1)) fun v4 =>
 PUR prog (indexAt 24 x14 v4) fun v5 =>
 LD prog (loadAt 3 v5) (World.drew w) fun v6 =>
 PUR prog (fieldAt 27 x4 0) fun v7 =>
 LD prog (loadAt 22 v7) (World.drew w) fun v8 =>
 LD prog (Builtin.len_ #[22] 3 #[v8]) (World.drew w) fun v9 =>
 PUR prog (bins .lss 3 (.tmp 83) (.tmp 86) v6 v9) fun v10 =>
 b53 R C34 C45 x3 x4 x11 x13 x14 x15 v10 (World.drew w)

def b52 (R : EP) (C34 : Value → Value → VP) (C45 : Value → VP) (x3 x4 x11 x13 x14 x15 : Value) (w : World) (_r : Tok R := tok R) (_C34 : Tok C34 := tok C34) (_C45 : Tok C45 := tok C45) : Prop :=
 LD prog (Builtin.len_ #[24] 3 #[x14]) (World.drew w) fun v1 =>
 PUR prog (bins .gtr 3 (.tmp 75) (.const (Value.int .i64 0)) v1 (Value.int .i64 0)) fun v2 =>
 SPL v2
 (b52_1 R C34 C45 x3 x4 x11 x13 x14 x15 w)
 (b53 R C34 C45 x3 x4 x11 x13 x14 x15 (Value.bool false) (World.drew w))
theorem b52_ok (R : EP) (C34 : Value → Value → VP) (C45 : Value → VP) : TI prog R p30 (q19 R C34 C45) fun z w => b52 R C34 C45 (z 3) (z 4) (z 11) (z 13) (z 14) (z 15) w := appT 0 (b53_ok R C34 C45)
theorem k46_ok (R : EP) (C34 : Value → Value → VP) (C45 : Value → VP) : TI prog R (loopC p25) (q18 R C34 C45) fun z w => b52 R C34 C45 (z 3) (z 4) (z 11) (z 13) (z 14) (z 15) w := seqT (b52_ok R C34 C45) (k47_ok R C34 C45)

def l45 (R : EP) (C34 : Value → Value → VP) (x3 x4 x11 x13 x14 x15 : Value) (w : World) (_r : Tok R := tok R) (_C34 : Tok C34 := tok C34) : Prop :=
 ∃ (J : Value → VP) (μ : Value → Value → World → Nat), J x13 x14 w ∧ ∀ y13 y14 w0, J y13 y14 w0 → b52 R C34 (fun z13 z14 w1 => J z13 z14 w1 ∧ μ z13 z14 w1 < μ y13 y14 w0) x3 x4 x11 y13 y14 x15 w0
abbrev q20 (R : EP) (C34 : Value → Value → VP) : XP := QX (fun z w => b42 R C34 (z 4) (z 11) (z 13) (z 14) (z 15) w) (r0 R) [(4, (fun z w => b42 R C34 (z 4) (z 11) (z 13) (z 14) (z 15) w)), (2, (fun z w => b37 R C34 (z 13) (z 14) (z 15) w)), (0, (fun z w => b30 R (z 1) (z 2) (z 3) (z 4) (z 13) (z 14) w))]
theorem l45_ok (R : EP) (C34 : Value → Value → VP) : TI prog R p25 (q20 R C34) fun z w => l45 R C34 (z 3) (z 4) (z 11) (z 13) (z 14) (z 15) w := fun z w h => by
 unfold l45 at h
 obtain ⟨J, μ, h0, hr⟩ := h
 refine loopT (fun z' w' => J (z' 13) (z' 14) w') (fun z' w' => μ (z' 13) (z' 14) w') h0 fun z' w' hA hI => k46_ok R C34 (fun z13 z14 w1 => J z13 z14 w1 ∧ μ z13 z14 w1 < μ (z' 13) (z' 14) w') z' w' ?_
 have h1 := hr (z' 13) (z' 14) w' hI
 rwa [← hA.on 3, ← hA.on 4, ← hA.on 11, ← hA.on 15] at h1
theorem l45_intro (R : EP) (C34 : Value → Value → VP) (x3 x4 x11 x13 x14 x15 : Value) (w : World) (J : Value → VP) (μ : Value → Value → World → Nat) (h0 : J x13 x14 w)
   (hr : ∀ y13 y14 w0, J y13 y14 w0 → ∀ C45 : Value → VP, (∀ z13 z14 w1, J z13 z14 w1 → μ z13 z14 w1 < μ y13 y14 w0 → C45 z13 z14 w1) → b52 R C34 C45 x3 x4 x11 y13 y14 x15 w0) : l45 R C34 x3 x4 x11 x13 x14 x15 w := by
 unfold l45
 exact ⟨J, μ, h0, fun y13 y14 w0 hJ => hr y13 y14 w0 hJ _ (fun z13 z14 w1 h1 h2 => ⟨h1, h2⟩)⟩
abbrev q21 (R : EP) (C34 : Value → Value → VP) : XP := QX (fun z w => b42 R C34 (z 4) (z 11) (z 13) (z 14) (z 15) w) (r0 R) [(2, (fun z w => b37 R C34 (z 13) (z 14) (z 15) w)), (0, (fun z w => b30 R (z 1) (z 2) (z 3) (z 4) (z 13) (z 14) w))]
theorem k44_ok (R : EP) (C34 : Value → Value → VP) : TI prog R (fstC p21) (q21 R C34) fun z w => l45 R C34 (z 3) (z 4) (z 11) (z 13) (z 14) (z 15) w := blockT 2 (l45_ok R C34)
theorem k39_ok (R : EP) (C34 : Value → Value → VP) : TI prog R p21 (q14 R C34) fun z w => l45 R C34 (z 3) (z 4) (z 11) (z 13) (z 14) (z 15) w := seqT (k44_ok R C34) (k40_ok R C34)
abbrev q22 (R : EP) (C34 : Value → Value → VP) : XP := QX (fun z w => b37 R C34 (z 13) (z 14) (z 15) w) (r0 R) [(0, (fun z w => b30 R (z 1) (z 2) (z 3) (z 4) (z 13) (z 14) w))]
theorem k38_ok (R : EP) (C34 : Value → Value → VP) : TI prog R (fstC p20) (q22 R C34) fun z w => l45 R C34 (z 3) (z 4) (z 11) (z 13) (z 14) (z 15) w := blockT 1 (k39_ok R C34)
theorem k36_ok (R : EP) (C34 : Value → Value → VP) : TI prog R p20 (q13 R C34) fun z w => l45 R C34 (z 3) (z 4) (z 11) (z 13) (z 14) (z 15) w := seqT (k38_ok R C34) (b37_ok R C34)

def b35 (R : EP) (C34 : Value → Value → VP) (x1 x2 x3 x4 x11 x13 x14 x15 : Value) (w : World) (_r : Tok R := tok R) (_C34 : Tok C34 := tok C34) : Prop :=
 RUN prog R (Builtin.len_ #[24] 3 #[x11]) w fun v1 w2 =>
 RUN prog R (bins .lss 3 (.tmp 68) (.tmp 70) x15 v1) w2 fun v3 w4 =>
 SPL v3
 (l45 R C34 x3 x4 x11 x13 x14 x15 w4)
 (b30 R x1 x2 x3 x4 x13 x14 w4)
theorem b35_ok (R : EP) (C34 : Value → Value → VP) : TI prog R p19 (q13 R C34) fun z w => b35 R C34 (z 1) (z 2) (z 3) (z 4) (z 11) (z 13) (z 14) (z 15) w := appT 0 (k36_ok R C34)

def l34 (R : EP) (x1 x2 x3 x4 x11 x13 x14 x15 : Value) (w : World) (_r : Tok R := tok R) : Prop :=
 ∃ (J : Value → Value → VP) (μ : Value → Value → Value → World → Nat), J x13 x14 x15 w ∧ ∀ y13 y14 y15 w0, J y13 y14 y15 w0 → b35 R (fun z13 z14 z15 w1 => J z13 z14 z15 w1 ∧ μ z13 z14 z15 w1 < μ y13 y14 y15 w0) x1 x2 x3 x4 x11 y13 y14 y15 w0
abbrev q23 (R : EP) : XP := QX (fun z w => b30 R (z 1) (z 2) (z 3) (z 4) (z 13) (z 14) w) (r0 R) [(0, (fun z w => b30 R (z 1) (z 2) (z 3) (z 4) (z 13) (z 14) w))]
theorem l34_ok (R : EP) : TI prog R (blkC p18) (q23 R) fun z w => l34 R (z 1) (z 2) (z 3) (z 4) (z 11) (z 13) (z 14) (z 15) w := fun z w h => by
 unfold l34 at h
 obtain ⟨J, μ, h0, hr⟩ := h
 refine loopT (fun z' w' => J (z' 13) (z' 14) (z' 15) w') (fun z' w' => μ (z' 13) (z' 14) (z' 15) w') h0 fun z' w' hA hI => b35_ok R (fun z13 z14 z15 w1 => J z13 z14 z15 w1 ∧ μ z13 z14 z15 w1 < μ (z' 13) (z' 14) (z' 15) w') z' w' ?_
 have h1 := hr (z' 13) (z' 14) (z' 15) w' hI
 rwa [← hA.on 1, ← hA.on 2, ← hA.on 3, ← hA.on 4, ← hA.on 11] at h1
theorem l34_intro (R : EP) (x1 x2 x3 x4 x11 x13 x14 x15 : Value) (w : World) (J : Value → Value → VP) (μ : Value → Value → Value → World → Nat) (h0 : J x13 x14 x15 w)
   (hr : ∀ y13 y14 y15 w0, J y13 y14 y15 w0 → ∀ C34 : Value → Value → VP, (∀ z13 z14 z15 w1, J z13 z14 z15 w1 → μ z13 z14 z15 w1 < μ y13 y14 y15 w0 → C34 z13 z14 z15 w1) → b35 R C34 x1 x2 x3 x4 x11 y13 y14 y15 w0) : l34 R x1 x2 x3 x4 x11 x13 x14 x15 w := by
 unfold l34
 exact ⟨J, μ, h0, fun y13 y14 y15 w0 hJ => hr y13 y14 y15 w0 hJ _ (fun z13 z14 z15 w1 h1 h2 => ⟨h1, h2⟩)⟩
abbrev q24 (R : EP) : XP := QX (fun z w => b30 R (z 1) (z 2) (z 3) (z 4) (z 13) (z 14) w) (r0 R) []
theorem k33_ok (R : EP) : TI prog R p18 (q24 R) fun z w => l34 R (z 1) (z 2) (z 3) (z 4) (z 11) (z 13) (z 14) (z 15) w := blockT 0 (l34_ok R)

def b32 (R : EP) (x1 x2 x3 x4 x11 x13 x14 : Value) (w : World) (_r : Tok R := tok R) : Prop :=
 l34 R x1 x2 x3 x4 x11 x13 x14 (Value.int .i64 0) w
theorem b32_ok (R : EP) : TI prog R (fstC p2) (q24 R) fun z w => b32 R (z 1) (z 2) (z 3) (z 4) (z 11) (z 13) (z 14) w := appT 0 (k33_ok R)
theorem k4_ok (R : EP) : TI prog R p2 (q1 R) fun z w => b32 R (z 1) (z 2) (z 3) (z 4) (z 11) (z 13) (z 14) w := seqT (b32_ok R) (k5_ok R)

def b3 (R : EP) (x1 x2 x3 x4 x11 : Value) (w : World) (_r : Tok R := tok R) : Prop :=
 RUN prog R (fieldAt 27 x4 3) w fun v1 w2 =>
 RUN prog R (loadAt 3 v1) w2 fun v3 w4 =>
 RUN prog R (buildSlice 24 1 #[(0, v3)]) w4 fun v5 w6 =>
 b32 R x1 x2 x3 x4 x11 (Value.int .i64 0) v5 w6
theorem b3_ok (R : EP) : TI prog R (sndC p1) (q1 R) fun z w => b3 R (z 1) (z 2) (z 3) (z 4) (z 11) w := appT 1 (k4_ok R)
noncomputable abbrev p32 : Code := dropC 1 (fstC p1)

def b55 (R : EP) (x1 x2 x3 x4 x11 x64 : Value) (w : World) (_r : Tok R := tok R) : Prop :=
 SPL x64
 (R (.returned (Value.bool false)) w)
 (b3 R x1 x2 x3 x4 x11 w)
abbrev q25 (R : EP) : XP := QX (fun z w => b3 R (z 1) (z 2) (z 3) (z 4) (z 11) w) (r0 R) []
theorem b55_ok (R : EP) : TI prog R p32 (q25 R) fun z w => b55 R (z 1) (z 2) (z 3) (z 4) (z 11) (z 64) w := ofT
def b54_1 (R : EP) (x1 x2 x3 x4 x11 : Value) (w8 : World) (_r : Tok R := tok R) : Prop :=
 RUN prog R (loadAt 27 x4) w8 fun v9 w10 =>
 CALL prog R ref02_Closed.id #[v9] w10 fun v11 w12 =>
 RUN prog R (Op.unary .not v11) w12 fun v13 w14 =>
 b55 R x1 x2 x3 x4 x11 v13 w14
def b54_2 (R : EP) (x1 x2 x3 x4 x9 x11 : Value) (w4 : World) (_r : Tok R := tok R) : Prop :=
 CALL prog R ref01_Ints.id #[x9, x3] w4 fun v5 w6 =>
 RUN prog R (Op.unary .not v5) w6 fun v7 w8 =>
 SPL v7
 (b55 R x1 x2 x3 x4 x11 (Value.bool true) w8)
 (b54_1 R x1 x2 x3 x4 x11 w8)

def b54 (R : EP) (x1 x2 x3 x4 x9 x10 x11 x12 : Value) (w : World) (_r : Tok R := tok R) : Prop :=
 RUN prog R (bins .neq 29 (.tmp 48) (.const (Value.int .i64 0)) x10 (Value.int .i64 0)) w fun v1 w2 =>
 SPL v1
 (b55 R x1 x2 x3 x4 x11 (Value.bool true) w2)
 (RUN prog R (bins .neq 29 (.tmp 51) (.const (Value.int .i64 0)) x12 (Value.int .i64 0)) w2 fun v3 w4 =>
 SPL v3
 (b55 R x1 x2 x3 x4 x11 (Value.bool true) w4)
 (b54_2 R x1 x2 x3 x4 x9 x11 w4))
theorem b54_ok (R : EP) : TI prog R (fstC p1) (q25 R) fun z w => b54 R (z 1) (z 2) (z 3) (z 4) (z 9) (z 10) (z 11) (z 12) w := appT 0 (b55_ok R)
theorem k2_ok (R : EP) : TI prog R p1 (q1 R) fun z w => b54 R (z 1) (z 2) (z 3) (z 4) (z 9) (z 10) (z 11) (z 12) w := seqT (b54_ok R) (b3_ok R)
def b1_1 (R : EP) (x1 x2 x3 v1 v23 v25 v29 : Value) (w30 : World) (_r : Tok R := tok R) : Prop :=
 RUN prog R (extract v29 0) w30 fun v31 w32 =>
 RUN prog R (extract v29 1) w32 fun v33 w34 =>
 b54 R x1 x2 x3 v1 v23 v25 v31 v33 w34
def b1_2 (R : EP) (x1 x2 x3 v1 v21 : Value) (w22 : World) (_r : Tok R := tok R) : Prop :=
 RUN prog R (extract v21 0) w22 fun v23 w24 =>
 RUN prog R (extract v21 1) w24 fun v25 w26 =>
 CALL prog R ref20_Copy.id #[x1] w26 fun v27 w28 =>
 CALL prog R tree_Rightmost.id #[v27, x2] w28 fun v29 w30 =>
 b1_1 R x1 x2 x3 v1 v23 v25 v29 w30
def b1_3 (R : EP) (x1 x2 x3 v1 : Value) (w16 : World) (_r : Tok R := tok R) : Prop :=
 CALL prog R ref20_Copy.id #[x1] w16 fun v19 w20 =>
 CALL prog R tree_Frontier.id #[v19, x2] w20 fun v21 w22 =>
 b1_2 R x1 x2 x3 v1 v21 w22
def b1_4 (R : EP) (x1 x2 x3 v1 v13 : Value) (w14 : World) (_r : Tok R := tok R) : Prop :=
 RUN prog R (Op.unary .not v13) w14 fun v15 w16 =>
 SPL v15
 (CALL prog R law20_awake.id #[] w16 fun v17 w18 =>
 R (.returned v17) w18)
 (b1_3 R x1 x2 x3 v1 w16)
def b1_5 (R : EP) (x1 x2 x3 v1 v5 v7 : Value) (w8 : World) (_r : Tok R := tok R) : Prop :=
 RUN prog R (buildSlice 24 0 #[]) w8 fun v9 w10 =>
 RUN prog R (Builtin.append_ #[24, 24] 24 #[v9, x3]) w10 fun v11 w12 =>
 CALL prog R tree_Derives.id #[v5, v7, x2, v11] w12 fun v13 w14 =>
 b1_4 R x1 x2 x3 v1 v13 w14

def b1 (R : EP) (x0 x1 x2 x3 : Value) (w : World) (_r : Tok R := tok R) : Prop :=
 RUN prog R (box 27 x0) w fun v1 w2 =>
 RUN prog R (loadAt 27 v1) w2 fun v3 w4 =>
 CALL prog R ref02_Copy.id #[v3] w4 fun v5 w6 =>
 CALL prog R ref20_Copy.id #[x1] w6 fun v7 w8 =>
 b1_5 R x1 x2 x3 v1 v5 v7 w8
theorem b1_ok (R : EP) : TI prog R code (q1 R) fun z w => b1 R (z 0) (z 1) (z 2) (z 3) w := appT 3 (k2_ok R)
def run (R : EP) (a0 a1 a2 a3 : Value) (w : World) : Prop := b1 R a0 a1 a2 a3 w
theorem calls (R : EP) (a0 a1 a2 a3 : Value) (w : World) (h : run R a0 a1 a2 a3 w) : Calls prog id #[a0, a1, a2, a3] w R := cls_t func10 [a0, a1, a2, a3] (b1_ok R _ w h)
theorem enters : Enters prog id := fun args w => call10 args w
theorem ct {a0 a1 a2 a3 : Value} {w : World} {S : VP} (h : ∀ R : EP, (∀ v w, S v w → R (.returned v) w) → run R a0 a1 a2 a3 w) : Ct prog id #[a0, a1, a2, a3] w S :=
 Ct.intro enters fun R hR => calls R a0 a1 a2 a3 w (h R hR)
attribute [irreducible] l23 l12 l45 l34
attribute [irreducible, go_sem] b9 b15 b20 b19_1 b19_2 b19 b25 b24_1 b24 b21 b17_1 b17_2 b17 b27 b26 b10 b7_1 b7 b29 b28_1 b28 b31 b30_1 b30 b37 b41 b43 b42_1 b42_2 b42_3 b42 b49 b51 b50_1 b50 b53 b52_1 b52 b35 b32 b3 b55 b54_1 b54_2 b54 b1_1 b1_2 b1_3 b1_4 b1_5 b1 run
end law20_TreeReplays

/-! ### presage/presagelaw20.awake -/
namespace law20_awake
noncomputable def code : Code := bodyOf f40
def b1_1 (R : EP) (w59 : World) (_r : Tok R := tok R) : Prop :=
 CALL prog R tree_New.id #[] w59 fun v60 w61 =>
 RUN prog R (bins .neq 65 (.tmp 67) (.const (Value.pointer Option.none)) v60 (Value.pointer Option.none)) w61 fun v62 w63 =>
 R (.returned v62) w63
def b1_2 (R : EP) (v5 v7 : Value) (w51 : World) (_r : Tok R := tok R) : Prop :=
 RUN prog R (loadAt 27 v7) w51 fun v52 w53 =>
 RUN prog R (buildSlice 24 2 #[(0, (Value.int .i64 2)), (1, (Value.int .i64 1))]) w53 fun v54 w55 =>
 CALL prog R tree_Derives.id #[v52, v5, (Value.int .i64 4), v54] w55 fun v56 w57 =>
 RUN prog R (Op.unary .not v56) w57 fun v58 w59 =>
 SPL v58
 (b1_1 R w59)
 (R (.returned (Value.bool false)) w59)
def b1_3 (R : EP) (v5 v7 : Value) (w45 : World) (_r : Tok R := tok R) : Prop :=
 RUN prog R (loadAt 27 v7) w45 fun v46 w47 =>
 RUN prog R (buildSlice 24 3 #[(0, (Value.int .i64 2)), (1, (Value.int .i64 1)), (2, (Value.int .i64 2))]) w47 fun v48 w49 =>
 CALL prog R tree_Derives.id #[v46, v5, (Value.int .i64 4), v48] w49 fun v50 w51 =>
 SPL v50
 (b1_2 R v5 v7 w51)
 (R (.returned (Value.bool false)) w51)
def b1_4 (R : EP) (v5 v7 v18 v26 : Value) (w39 : World) (_r : Tok R := tok R) : Prop :=
 RUN prog R (buildSlice 24 2 #[(0, (Value.int .i64 1)), (1, (Value.int .i64 2))]) w39 fun v40 w41 =>
 CALL prog R ref01_Ints.id #[v18, v40] w41 fun v42 w43 =>
 SPL v42
 (RUN prog R (bins .eql 9 (.tmp 50) (.const (Value.string ⟨#[101, 40, 101, 40, 39, 110, 39, 41, 32, 39, 43, 39, 32, 39, 110, 39, 41]⟩)) v26 (Value.string ⟨#[101, 40, 101, 40, 39, 110, 39, 41, 32, 39, 43, 39, 32, 39, 110, 39, 41]⟩)) w43 fun v44 w45 =>
 SPL v44
 (b1_3 R v5 v7 w45)
 (R (.returned (Value.bool false)) w45))
 (R (.returned (Value.bool false)) w43)
def b1_5 (R : EP) (v5 v7 v12 v18 v26 : Value) (w35 : World) (_r : Tok R := tok R) : Prop :=
 RUN prog R (buildSlice 24 3 #[(0, (Value.int .i64 2)), (1, (Value.int .i64 1)), (2, (Value.int .i64 2))]) w35 fun v36 w37 =>
 CALL prog R ref01_Ints.id #[v12, v36] w37 fun v38 w39 =>
 SPL v38
 (b1_4 R v5 v7 v18 v26 w39)
 (R (.returned (Value.bool false)) w39)
def b1_6 (R : EP) (v5 v7 v12 v18 v20 v26 v28 : Value) (w31 : World) (_r : Tok R := tok R) : Prop :=
 RUN prog R (bins .eql 29 (.tmp 32) (.const (Value.int .i64 0)) v20 (Value.int .i64 0)) w31 fun v32 w33 =>
 SPL v32
 (RUN prog R (bins .eql 29 (.tmp 36) (.const (Value.int .i64 0)) v28 (Value.int .i64 0)) w33 fun v34 w35 =>
 SPL v34
 (b1_5 R v5 v7 v12 v18 v26 w35)
 (R (.returned (Value.bool false)) w35))
 (R (.returned (Value.bool false)) w33)
def b1_7 (R : EP) (v5 v7 v12 v14 v18 v20 v24 : Value) (w25 : World) (_r : Tok R := tok R) : Prop :=
 RUN prog R (extract v24 0) w25 fun v26 w27 =>
 RUN prog R (extract v24 1) w27 fun v28 w29 =>
 RUN prog R (bins .eql 29 (.tmp 29) (.const (Value.int .i64 0)) v14 (Value.int .i64 0)) w29 fun v30 w31 =>
 SPL v30
 (b1_6 R v5 v7 v12 v18 v20 v26 v28 w31)
 (R (.returned (Value.bool false)) w31)
def b1_8 (R : EP) (v5 v7 v12 v14 v16 : Value) (w17 : World) (_r : Tok R := tok R) : Prop :=
 RUN prog R (extract v16 0) w17 fun v18 w19 =>
 RUN prog R (extract v16 1) w19 fun v20 w21 =>
 RUN prog R (loadAt 27 v7) w21 fun v22 w23 =>
 CALL prog R tree_Text.id #[v22, v5, (Value.int .i64 4)] w23 fun v24 w25 =>
 b1_7 R v5 v7 v12 v14 v18 v20 v24 w25
def b1_9 (R : EP) (v5 v7 v10 : Value) (w11 : World) (_r : Tok R := tok R) : Prop :=
 RUN prog R (extract v10 0) w11 fun v12 w13 =>
 RUN prog R (extract v10 1) w13 fun v14 w15 =>
 CALL prog R tree_Rightmost.id #[v5, (Value.int .i64 4)] w15 fun v16 w17 =>
 b1_8 R v5 v7 v12 v14 v16 w17
def b1_10 (R : EP) (v1 : Value) (w2 : World) (_r : Tok R := tok R) : Prop :=
 RUN prog R (extract v1 0) w2 fun v3 w4 =>
 RUN prog R (extract v1 1) w4 fun v5 w6 =>
 RUN prog R (alloc 27 true (.tuple #[])) w6 fun v7 w8 =>
 RUNU prog R (storeAt 27 v7 v3) w8 fun w9 =>
 CALL prog R tree_Frontier.id #[v5, (Value.int .i64 4)] w9 fun v10 w11 =>
 b1_9 R v5 v7 v10 w11

def b1 (R : EP) (w : World) (_r : Tok R := tok R) : Prop :=
 CALL prog R law20_chapter.id #[] w fun v1 w2 =>
 b1_10 R v1 w2
abbrev r0 (R : EP) (z : Env) (w : World) : Prop := R (.returned (z 0)) w
abbrev q1 (R : EP) : XP := QX (r0 R) (r0 R) []
theorem b1_ok (R : EP) : TI prog R code (q1 R) fun z w => b1 R w := ofT
def run (R : EP) (w : World) : Prop := b1 R w
theorem calls (R : EP) (w : World) (h : run R w) : Calls prog id #[] w R := cls_t func40 [] (b1_ok R _ w h)
theorem enters : Enters prog id := fun args w => call40 args w
theorem ct {w : World} {S : VP} (h : ∀ R : EP, (∀ v w, S v w → R (.returned v) w) → run R w) : Ct prog id #[] w S :=
 Ct.intro enters fun R hR => calls R w (h R hR)
attribute [irreducible, go_sem] b1_1 b1_2 b1_3 b1_4 b1_5 b1_6 b1_7 b1_8 b1_9 b1_10 b1 run
end law20_awake

/-! ### presage/presagelaw20.chapter -/
namespace law20_chapter
noncomputable def code : Code := bodyOf f90

def b1 (R : EP) (w : World) (_r : Tok R := tok R) : Prop :=
 RUN prog R (alloc 27 true (.tuple #[])) w fun v1 w2 =>
 RUN prog R (build 106 #[]) w2 fun v3 w4 =>
 RUN prog R (build 106 #[(0, (Value.string ⟨#[43]⟩))]) w4 fun v5 w6 =>
 RUN prog R (build 106 #[(0, (Value.string ⟨#[110]⟩))]) w6 fun v7 w8 =>
 RUN prog R (buildSlice 22 3 #[(0, v3), (1, v5), (2, v7)]) w8 fun v9 w10 =>
 RUN prog R (buildSlice 23 2 #[(0, (Value.string ⟨#[]⟩)), (1, (Value.string ⟨#[101]⟩))]) w10 fun v11 w12 =>
 RUN prog R (buildSlice 24 1 #[(0, (Value.int .i64 4))]) w12 fun v13 w14 =>
 RUN prog R (build 47 #[(0, (Value.int .i64 3)), (1, v13)]) w14 fun v15 w16 =>
 RUN prog R (buildSlice 24 3 #[(0, (Value.int .i64 4)), (1, (Value.int .i64 1)), (2, (Value.int .i64 2))]) w16 fun v17 w18 =>
 RUN prog R (build 47 #[(0, (Value.int .i64 4)), (1, v17)]) w18 fun v19 w20 =>
 RUN prog R (buildSlice 24 1 #[(0, (Value.int .i64 2))]) w20 fun v21 w22 =>
 RUN prog R (build 47 #[(0, (Value.int .i64 4)), (1, v21)]) w22 fun v23 w24 =>
 RUN prog R (buildSlice 25 3 #[(0, v15), (1, v19), (2, v23)]) w24 fun v25 w26 =>
 RUN prog R (build 27 #[(0, v9), (1, v11), (3, (Value.int .i64 4)), (4, v25)]) w26 fun v27 w28 =>
 RUN prog R (alloc 27 true (.tuple #[])) w28 fun v29 w30 =>
 RUNU prog R (storeAt 27 v29 v27) w30 fun w31 =>
 RUN prog R (build 61 #[(0, (Value.int .i64 2)), (1, (Value.int .i64 (-1)))]) w31 fun v32 w33 =>
 RUN prog R (buildSlice 24 1 #[(0, (Value.int .i64 0))]) w33 fun v34 w35 =>
 RUN prog R (build 61 #[(0, (Value.int .i64 4)), (1, (Value.int .i64 2)), (3, v34)]) w35 fun v36 w37 =>
 RUN prog R (build 61 #[(0, (Value.int .i64 1)), (1, (Value.int .i64 (-1))), (2, (Value.int .i64 1))]) w37 fun v38 w39 =>
 RUN prog R (build 61 #[(0, (Value.int .i64 2)), (1, (Value.int .i64 (-1))), (2, (Value.int .i64 2))]) w39 fun v40 w41 =>
 RUN prog R (buildSlice 24 3 #[(0, (Value.int .i64 1)), (1, (Value.int .i64 2)), (2, (Value.int .i64 3))]) w41 fun v42 w43 =>
 RUN prog R (build 61 #[(0, (Value.int .i64 4)), (1, (Value.int .i64 1)), (3, v42)]) w43 fun v44 w45 =>
 RUN prog R (buildSlice 49 5 #[(0, v32), (1, v36), (2, v38), (3, v40), (4, v44)]) w45 fun v46 w47 =>
 RUN prog R (loadAt 27 v29) w47 fun v48 w49 =>
 RUNU prog R (storeAt 27 v1 v48) w49 fun w50 =>
 LD prog (loadAt 27 v1) w50 fun r0 => R (.returned (.tuple #[r0, v46])) w50
abbrev r0 (R : EP) (z : Env) (w : World) : Prop := LD prog (loadAt 27 (z 0)) w fun r0 => R (.returned (.tuple #[r0, (z 1)])) w
abbrev q1 (R : EP) : XP := QX (r0 R) (r0 R) []
theorem b1_ok (R : EP) : TI prog R code (q1 R) fun z w => b1 R w := ofT
def run (R : EP) (w : World) : Prop := b1 R w
theorem calls (R : EP) (w : World) (h : run R w) : Calls prog id #[] w R :=
 calls_of_ct (f := id) (fn := f90) (c := code) (by kernel_rfl) func90 (by kernel_rfl) (by kernel_rfl) (args := []) (Nat.le_of_ble_eq_true rfl) rfl (b1_ok R (envOf []) w h)
theorem enters : Enters prog id := fun args w => call90 args w
theorem ct {w : World} {S : VP} (h : ∀ R : EP, (∀ v w, S v w → R (.returned v) w) → run R w) : Ct prog id #[] w S :=
 Ct.intro enters fun R hR => calls R w (h R hR)
attribute [irreducible, go_sem] b1 run
end law20_chapter
end Go.Proofs.Ytkacbjhiobnbfaa
