/-
  Texts of this claim: T02H, T02Lib2, TCR6.
-/
import Derived.Test.YtmoepnfobnpdiaaY04
set_option linter.unusedVariables false
set_option maxRecDepth 100000
/- Shallow programs, written by a program of ours (gen.py) off the translation; each is tied to the code by the kernel. -/
namespace Go.Proofs.Ytmoepnfobnpdiaa
open Go.Px Try Instr

/-! ### presage/gram.unlike -/
namespace gram_unlike
noncomputable def code:Code:=bodyOf f55
noncomputable abbrev p1:Code:=dropC 2 code
def b3 (R:EP) (x0 x3:Value) (w:World) (_r:Tok R:=tok R):Prop :=
 RUN prog R (Builtin.len_ #[52] 3 #[x3]) w fun v1 w2 =>
 RUN prog R (Builtin.len_ #[23] 3 #[x0]) w2 fun v3 w4 =>
 RUN prog R (bins .eql 3 (.tmp 19) (.tmp 21) v1 v3) w4 fun v5 w6 =>
 R (.returned v5) w6
abbrev r0 (R:EP) (z:Env) (w:World):Prop:=R (.returned (z 2)) w
abbrev q1 (R:EP):XP:=QX (r0 R) (r0 R) []
theorem b3_ok (R:EP):TI prog R (sndC p1) (q1 R) fun z w=>b3 R (z 0) (z 3) w:=ofT
noncomputable abbrev p2:Code:=dropC 1 (fstC p1)
noncomputable abbrev p3:Code:=loopC (blkC p2)
def b7_1 (R:EP) (C6:VP) (x3 x7 x9:Value) (w2:World) (_r:Tok R:=tok R) (_C6:Tok C6:=tok C6):Prop :=
 RUN prog R (indexAt 23 x7 x9) w2 fun v3 w4 =>
 RUN prog R (loadAt 9 v3) w4 fun v5 w6 =>
 RUN prog R (lookup 52 x3 v5 false) w6 fun v7 w8 =>
 RUN prog R (bins .add 3 (.tmp 15) (.const (Value.int .i64 1)) v7 (Value.int .i64 1)) w8 fun v9 w10 =>
 RUNU prog R (mapUpdate 52 x3 v5 v9) w10 fun w11 =>
 RUN prog R (bins .add 3 (.tmp 9) (.const (Value.int .i64 1)) x9 (Value.int .i64 1)) w11 fun v12 w13 =>
 C6 v12 w13
def b7 (R:EP) (C6:VP) (x0 x3 x7 x8 x9:Value) (w:World) (_r:Tok R:=tok R) (_C6:Tok C6:=tok C6):Prop :=
 RUN prog R (bins .lss 3 (.tmp 9) (.tmp 8) x9 x8) w fun v1 w2 =>
 SPL v1
 (b7_1 R C6 x3 x7 x9 w2)
 (b3 R x0 x3 w2)
abbrev q2 (R:EP) (C6:VP):XP:=QX (fun z w=>C6 (z 9) w) (r0 R) [(0,(fun z w=>b3 R (z 0) (z 3) w))]
theorem b7_ok (R:EP) (C6:VP):TI prog R p3 (q2 R C6) fun z w=>b7 R C6 (z 0) (z 3) (z 7) (z 8) (z 9) w:=ofT
def l6 (R:EP) (x0 x3 x7 x8 x9:Value) (w:World) (_r:Tok R:=tok R):Prop :=
 ∃(J:VP) (μ:Value→World→Nat),J x9 w∧∀y9 w0,J y9 w0→b7 R (fun z9 w1=>J z9 w1∧μ z9 w1<μ y9 w0) x0 x3 x7 x8 y9 w0
abbrev q3 (R:EP):XP:=QX (fun z w=>b3 R (z 0) (z 3) w) (r0 R) [(0,(fun z w=>b3 R (z 0) (z 3) w))]
theorem l6_ok (R:EP):TI prog R (blkC p2) (q3 R) fun z w=>l6 R (z 0) (z 3) (z 7) (z 8) (z 9) w:=fun z w h=>by
 unfold l6 at h
 obtain ⟨J,μ,h0,hr⟩:=h
 refine loopT (fun z' w'=>J (z' 9) w') (fun z' w'=>μ (z' 9) w') h0 fun z' w' hA hI=>b7_ok R (fun z9 w1=>J z9 w1∧μ z9 w1<μ (z' 9) w') z' w' ?_
 have h1:=hr (z' 9) w' hI
 rwa [←hA.on 0,←hA.on 3,←hA.on 7,←hA.on 8] at h1
theorem l6_intro (R:EP) (x0 x3 x7 x8 x9:Value) (w:World) (J:VP) (μ:Value→World→Nat) (h0:J x9 w)
   (hr:∀y9 w0,J y9 w0→∀C6:VP,(∀z9 w1,J z9 w1→μ z9 w1<μ y9 w0→C6 z9 w1)→b7 R C6 x0 x3 x7 x8 y9 w0):l6 R x0 x3 x7 x8 x9 w:=by
 unfold l6
 exact ⟨J,μ,h0,fun y9 w0 hJ=>hr y9 w0 hJ _ (fun z9 w1 h1 h2=>⟨h1,h2⟩)⟩
abbrev q4 (R:EP):XP:=QX (fun z w=>b3 R (z 0) (z 3) w) (r0 R) []
theorem k5_ok (R:EP):TI prog R p2 (q4 R) fun z w=>l6 R (z 0) (z 3) (z 7) (z 8) (z 9) w:=blockT 0 (l6_ok R)
def b4 (R:EP) (x0 x3:Value) (w:World) (_r:Tok R:=tok R):Prop :=
 RUN prog R (Builtin.len_ #[23] 3 #[x0]) w fun v1 w2 =>
 l6 R x0 x3 x0 v1 (Value.int .i64 0) w2
theorem b4_ok (R:EP):TI prog R (fstC p1) (q4 R) fun z w=>b4 R (z 0) (z 3) w:=appT 0 (k5_ok R)
theorem k2_ok (R:EP):TI prog R p1 (q1 R) fun z w=>b4 R (z 0) (z 3) w:=seqT (b4_ok R) (b3_ok R)
def b1 (R:EP) (x0:Value) (w:World) (_r:Tok R:=tok R):Prop :=
 RUN prog R (makeMap 52 none) w fun v1 w2 =>
 b4 R x0 v1 w2
theorem b1_ok (R:EP):TI prog R code (q1 R) fun z w=>b1 R (z 0) w:=appT 1 (k2_ok R)
def run (R:EP) (a0:Value) (w:World):Prop:=b1 R a0 w
theorem calls (R:EP) (a0:Value) (w:World) (h:run R a0 w):Calls prog id #[a0] w R:=cls_t func55 [a0] (b1_ok R _ w h)
theorem enters:Enters prog id:=fun args w=>call55 args w
theorem ct {a0:Value} {w:World} {S:VP} (h:∀R:EP,(∀v w,S v w→R (.returned v) w)→run R a0 w):Ct prog id #[a0] w S :=
 Ct.intro enters fun R hR=>calls R a0 w (h R hR)
attribute [irreducible] l6
attribute [irreducible,go_sem] b3 b7_1 b7 b4 b1 run
end gram_unlike

/-! ### presage/gram.symbols -/
namespace gram_symbols
noncomputable def code:Code:=bodyOf f28
noncomputable abbrev p1:Code:=dropC 1 code
noncomputable abbrev p2:Code:=dropC 2 (sndC p1)
noncomputable abbrev p3:Code:=sndC (sndC p2)
def b6_1 (R:EP) (v5:Value) (w10:World) (_r:Tok R:=tok R):Prop :=
 CALL prog R slices_ContainsFunc_string_string.id #[v5,(Value.func (.func gram_symbols_1.id) #[] #[])] w10 fun v11 w12 =>
 RUN prog R (Op.unary .not v11) w12 fun v13 w14 =>
 R (.returned v13) w14

def b6 (R:EP) (x1 x2 x5:Value) (w:World) (_r:Tok R:=tok R):Prop :=
 RUN prog R (fieldAt 27 x2 1) w fun v1 w2 =>
 RUN prog R (loadAt 23 v1) w2 fun v3 w4 =>
 RUN prog R (sliceAt 23 v3 (some x1) none none) w4 fun v5 w6 =>
 CALL prog R gram_unlike.id #[x5] w6 fun v7 w8 =>
 SPL v7
 (CALL prog R gram_unlike.id #[v5] w8 fun v9 w10 =>
 SPL v9
 (b6_1 R v5 w10)
 (R (.returned (Value.bool false)) w10))
 (R (.returned (Value.bool false)) w8)
abbrev r0 (R:EP) (z:Env) (w:World):Prop:=R (.returned (z 4)) w
abbrev q1 (R:EP):XP:=QX (r0 R) (r0 R) []
theorem b6_ok (R:EP):TI prog R p3 (q1 R) fun z w=>b6 R (z 1) (z 2) (z 5) w:=ofT
noncomputable abbrev p4:Code:=fstC (sndC p2)
noncomputable abbrev p5:Code:=dropC 1 p4
noncomputable abbrev p6:Code:=loopC (blkC p5)
noncomputable abbrev p7:Code:=dropC 2 p6

def b12 (R:EP) (C9:VP) (x96:Value) (w:World) (_r:Tok R:=tok R) (_C9:Tok C9:=tok C9):Prop :=
 RUN prog R (bins .add 3 (.tmp 96) (.const (Value.int .i64 1)) x96 (Value.int .i64 1)) w fun v1 w2 =>
 C9 v1 w2
abbrev q2 (R:EP) (C9:VP):XP:=QX (fun z w=>C9 (z 96) w) (r0 R) [(4,(fun z w=>b6 R (z 1) (z 2) (z 5) w))]
theorem b12_ok (R:EP) (C9:VP):TI prog R (sndC p7) (q2 R C9) fun z w=>b12 R C9 (z 96) w:=ofT
noncomputable abbrev p8:Code:=blkC (fstC p7)
noncomputable abbrev p9:Code:=dropC 2 p8

def b15 (R:EP) (C9:VP) (x96 x113:Value) (w:World) (_r:Tok R:=tok R) (_C9:Tok C9:=tok C9):Prop :=
 SPL x113
 (R (.returned (Value.bool false)) w)
 (b12 R C9 x96 w)
abbrev q3 (R:EP) (C9:VP):XP:=QX (fun z w=>b12 R C9 (z 96) w) (r0 R) [(6,(fun z w=>b12 R C9 (z 96) w)),(4,(fun z w=>b6 R (z 1) (z 2) (z 5) w))]
theorem b15_ok (R:EP) (C9:VP):TI prog R p9 (q3 R C9) fun z w=>b15 R C9 (z 96) (z 113) w:=ofT
def b14_1 (R:EP) (C9:VP) (x6 x96:Value) (w8:World) (_r:Tok R:=tok R) (_C9:Tok C9:=tok C9):Prop :=
 RUN prog R (bins .add 3 (.tmp 109) (.const (Value.int .i64 1)) x96 (Value.int .i64 1)) w8 fun v9 w10 =>
 RUN prog R (lookup 110 x6 v9 false) w10 fun v11 w12 =>
 RUN prog R (bins .eql 3 (.tmp 111) (.const (Value.int .i64 0)) v11 (Value.int .i64 0)) w12 fun v13 w14 =>
 b15 R C9 x96 v13 w14

def b14 (R:EP) (C9:VP) (x6 x94 x96:Value) (w:World) (_r:Tok R:=tok R) (_C9:Tok C9:=tok C9):Prop :=
 RUN prog R (indexAt 24 x94 x96) w fun v1 w2 =>
 RUN prog R (loadAt 3 v1) w2 fun v3 w4 =>
 RUN prog R (bins .lss 3 (.tmp 101) (.const (Value.int .i64 1)) v3 (Value.int .i64 1)) w4 fun v5 w6 =>
 SPL v5
 (b15 R C9 x96 (Value.bool true) w6)
 (RUN prog R (bins .gtr 3 (.tmp 104) (.const (Value.int .i64 3)) v3 (Value.int .i64 3)) w6 fun v7 w8 =>
 SPL v7
 (b15 R C9 x96 (Value.bool true) w8)
 (b14_1 R C9 x6 x96 w8))
theorem b14_ok (R:EP) (C9:VP):TI prog R p8 (q3 R C9) fun z w=>b14 R C9 (z 6) (z 94) (z 96) w:=appT 1 (b15_ok R C9)
abbrev q4 (R:EP) (C9:VP):XP:=QX (fun z w=>b12 R C9 (z 96) w) (r0 R) [(4,(fun z w=>b6 R (z 1) (z 2) (z 5) w))]
theorem k13_ok (R:EP) (C9:VP):TI prog R (fstC p7) (q4 R C9) fun z w=>b14 R C9 (z 6) (z 94) (z 96) w:=blockT 3 (b14_ok R C9)
theorem k11_ok (R:EP) (C9:VP):TI prog R p7 (q2 R C9) fun z w=>b14 R C9 (z 6) (z 94) (z 96) w:=seqT (k13_ok R C9) (b12_ok R C9)

def b10 (R:EP) (C9:VP) (x1 x2 x5 x6 x94 x95 x96:Value) (w:World) (_r:Tok R:=tok R) (_C9:Tok C9:=tok C9):Prop :=
 RUN prog R (bins .lss 3 (.tmp 96) (.tmp 95) x96 x95) w fun v1 w2 =>
 SPL v1
 (b14 R C9 x6 x94 x96 w2)
 (b6 R x1 x2 x5 w2)
theorem b10_ok (R:EP) (C9:VP):TI prog R p6 (q2 R C9) fun z w=>b10 R C9 (z 1) (z 2) (z 5) (z 6) (z 94) (z 95) (z 96) w:=appT 1 (k11_ok R C9)

def l9 (R:EP) (x1 x2 x5 x6 x94 x95 x96:Value) (w:World) (_r:Tok R:=tok R):Prop :=
 ∃(J:VP) (μ:Value→World→Nat),J x96 w∧∀y96 w0,J y96 w0→b10 R (fun z96 w1=>J z96 w1∧μ z96 w1<μ y96 w0) x1 x2 x5 x6 x94 x95 y96 w0
abbrev q5 (R:EP):XP:=QX (fun z w=>b6 R (z 1) (z 2) (z 5) w) (r0 R) [(4,(fun z w=>b6 R (z 1) (z 2) (z 5) w))]
theorem l9_ok (R:EP):TI prog R (blkC p5) (q5 R) fun z w=>l9 R (z 1) (z 2) (z 5) (z 6) (z 94) (z 95) (z 96) w:=fun z w h=>by
 unfold l9 at h
 obtain ⟨J,μ,h0,hr⟩:=h
 refine loopT (fun z' w'=>J (z' 96) w') (fun z' w'=>μ (z' 96) w') h0 fun z' w' hA hI=>b10_ok R (fun z96 w1=>J z96 w1∧μ z96 w1<μ (z' 96) w') z' w' ?_
 have h1:=hr (z' 96) w' hI
 rwa [←hA.on 1,←hA.on 2,←hA.on 5,←hA.on 6,←hA.on 94,←hA.on 95] at h1
theorem l9_intro (R:EP) (x1 x2 x5 x6 x94 x95 x96:Value) (w:World) (J:VP) (μ:Value→World→Nat) (h0:J x96 w)
   (hr:∀y96 w0,J y96 w0→∀C9:VP,(∀z96 w1,J z96 w1→μ z96 w1<μ y96 w0→C9 z96 w1)→b10 R C9 x1 x2 x5 x6 x94 x95 y96 w0):l9 R x1 x2 x5 x6 x94 x95 x96 w:=by
 unfold l9
 exact ⟨J,μ,h0,fun y96 w0 hJ=>hr y96 w0 hJ _ (fun z96 w1 h1 h2=>⟨h1,h2⟩)⟩
abbrev q6 (R:EP):XP:=QX (fun z w=>b6 R (z 1) (z 2) (z 5) w) (r0 R) []
theorem k8_ok (R:EP):TI prog R p5 (q6 R) fun z w=>l9 R (z 1) (z 2) (z 5) (z 6) (z 94) (z 95) (z 96) w:=blockT 2 (l9_ok R)

def b7 (R:EP) (x1 x2 x5 x6:Value) (w:World) (_r:Tok R:=tok R):Prop :=
 RUN prog R (fieldAt 27 x2 2) w fun v1 w2 =>
 RUN prog R (loadAt 24 v1) w2 fun v3 w4 =>
 RUN prog R (Builtin.len_ #[24] 3 #[v3]) w4 fun v5 w6 =>
 l9 R x1 x2 x5 x6 v3 v5 (Value.int .i64 0) w6
theorem b7_ok (R:EP):TI prog R p4 (q6 R) fun z w=>b7 R (z 1) (z 2) (z 5) (z 6) w:=appT 0 (k8_ok R)
theorem k5_ok (R:EP):TI prog R (sndC p2) (q1 R) fun z w=>b7 R (z 1) (z 2) (z 5) (z 6) w:=seqT (b7_ok R) (b6_ok R)
noncomputable abbrev p10:Code:=dropC 1 (fstC p2)
noncomputable abbrev p11:Code:=loopC (blkC p10)
noncomputable abbrev p12:Code:=dropC 2 p11

def b21 (R:EP) (C18:Value→VP) (x5 x63:Value) (w:World) (_r:Tok R:=tok R) (_C18:Tok C18:=tok C18):Prop :=
 RUN prog R (bins .add 3 (.tmp 63) (.const (Value.int .i64 1)) x63 (Value.int .i64 1)) w fun v1 w2 =>
 C18 x5 v1 w2
abbrev q7 (R:EP) (C18:Value→VP):XP:=QX (fun z w=>C18 (z 5) (z 63) w) (r0 R) [(0,(fun z w=>b7 R (z 1) (z 2) (z 5) (z 6) w))]
theorem b21_ok (R:EP) (C18:Value→VP):TI prog R (sndC p12) (q7 R C18) fun z w=>b21 R C18 (z 5) (z 63) w:=ofT
noncomputable abbrev p13:Code:=blkC (fstC p12)
noncomputable abbrev p14:Code:=dropC 1 p13

def b25 (R:EP) (C18:Value→VP) (x5 x6 x8 x63:Value) (w:World) (_r:Tok R:=tok R) (_C18:Tok C18:=tok C18):Prop :=
 RUN prog R (fieldAt 112 x8 0) w fun v1 w2 =>
 RUN prog R (loadAt 9 v1) w2 fun v3 w4 =>
 RUN prog R (buildSlice 23 1 #[(0,v3)]) w4 fun v5 w6 =>
 RUN prog R (Builtin.append_ #[23,23] 23 #[x5,v5]) w6 fun v7 w8 =>
 RUN prog R (fieldAt 112 x8 1) w8 fun v9 w10 =>
 RUN prog R (loadAt 3 v9) w10 fun v11 w12 =>
 RUNU prog R (mapUpdate 110 x6 v11 (Value.int .i64 1)) w12 fun w13 =>
 b21 R C18 v7 x63 w13
abbrev q8 (R:EP) (C18:Value→VP):XP:=QX (fun z w=>b21 R C18 (z 5) (z 63) w) (r0 R) [(2,(fun z w=>b21 R C18 (z 5) (z 63) w)),(0,(fun z w=>b7 R (z 1) (z 2) (z 5) (z 6) w))]
theorem b25_ok (R:EP) (C18:Value→VP):TI prog R (sndC p14) (q8 R C18) fun z w=>b25 R C18 (z 5) (z 6) (z 8) (z 63) w:=ofT
noncomputable abbrev p15:Code:=dropC 1 (fstC p14)

def b27 (R:EP) (C18:Value→VP) (x5 x6 x8 x63 x83:Value) (w:World) (_r:Tok R:=tok R) (_C18:Tok C18:=tok C18):Prop :=
 SPL x83
 (R (.returned (Value.bool false)) w)
 (b25 R C18 x5 x6 x8 x63 w)
abbrev q9 (R:EP) (C18:Value→VP):XP:=QX (fun z w=>b25 R C18 (z 5) (z 6) (z 8) (z 63) w) (r0 R) [(2,(fun z w=>b21 R C18 (z 5) (z 63) w)),(0,(fun z w=>b7 R (z 1) (z 2) (z 5) (z 6) w))]
theorem b27_ok (R:EP) (C18:Value→VP):TI prog R p15 (q9 R C18) fun z w=>b27 R C18 (z 5) (z 6) (z 8) (z 63) (z 83) w:=ofT
def b26_1 (R:EP) (C18:Value→VP) (x2 x5 x6 x8 x63:Value) (w14:World) (_r:Tok R:=tok R) (_C18:Tok C18:=tok C18):Prop :=
 RUN prog R (fieldAt 112 x8 1) w14 fun v15 w16 =>
 RUN prog R (loadAt 3 v15) w16 fun v17 w18 =>
 RUN prog R (fieldAt 27 x2 2) w18 fun v19 w20 =>
 RUN prog R (loadAt 24 v19) w20 fun v21 w22 =>
 RUN prog R (Builtin.len_ #[24] 3 #[v21]) w22 fun v23 w24 =>
 RUN prog R (bins .gtr 3 (.tmp 78) (.tmp 81) v17 v23) w24 fun v25 w26 =>
 b27 R C18 x5 x6 x8 x63 v25 w26
def b26_2 (R:EP) (C18:Value→VP) (x2 x5 x6 x8 x63:Value) (w8:World) (_r:Tok R:=tok R) (_C18:Tok C18:=tok C18):Prop :=
 RUN prog R (fieldAt 112 x8 1) w8 fun v9 w10 =>
 RUN prog R (loadAt 3 v9) w10 fun v11 w12 =>
 RUN prog R (bins .lss 3 (.tmp 73) (.const (Value.int .i64 0)) v11 (Value.int .i64 0)) w12 fun v13 w14 =>
 SPL v13
 (b27 R C18 x5 x6 x8 x63 (Value.bool true) w14)
 (b26_1 R C18 x2 x5 x6 x8 x63 w14)

def b26 (R:EP) (C18:Value→VP) (x2 x5 x6 x8 x63:Value) (w:World) (_r:Tok R:=tok R) (_C18:Tok C18:=tok C18):Prop :=
 RUN prog R (fieldAt 112 x8 0) w fun v1 w2 =>
 RUN prog R (loadAt 9 v1) w2 fun v3 w4 =>
 CALL prog R gram_isTerm.id #[v3] w4 fun v5 w6 =>
 RUN prog R (Op.unary .not v5) w6 fun v7 w8 =>
 SPL v7
 (b27 R C18 x5 x6 x8 x63 (Value.bool true) w8)
 (b26_2 R C18 x2 x5 x6 x8 x63 w8)
theorem b26_ok (R:EP) (C18:Value→VP):TI prog R (fstC p14) (q9 R C18) fun z w=>b26 R C18 (z 2) (z 5) (z 6) (z 8) (z 63) w:=appT 0 (b27_ok R C18)
theorem k24_ok (R:EP) (C18:Value→VP):TI prog R p14 (q8 R C18) fun z w=>b26 R C18 (z 2) (z 5) (z 6) (z 8) (z 63) w:=seqT (b26_ok R C18) (b25_ok R C18)

def b23 (R:EP) (C18:Value→VP) (x2 x5 x6 x61 x63:Value) (w:World) (_r:Tok R:=tok R) (_C18:Tok C18:=tok C18):Prop :=
 RUN prog R (indexAt 22 x61 x63) w fun v1 w2 =>
 RUN prog R (loadAt 112 v1) w2 fun v3 w4 =>
 RUN prog R (alloc 112 true (.tuple #[])) w4 fun v5 w6 =>
 RUNU prog R (storeAt 112 v5 v3) w6 fun w7 =>
 b26 R C18 x2 x5 x6 v5 x63 w7
theorem b23_ok (R:EP) (C18:Value→VP):TI prog R p13 (q8 R C18) fun z w=>b23 R C18 (z 2) (z 5) (z 6) (z 61) (z 63) w:=appT 0 (k24_ok R C18)
abbrev q10 (R:EP) (C18:Value→VP):XP:=QX (fun z w=>b21 R C18 (z 5) (z 63) w) (r0 R) [(0,(fun z w=>b7 R (z 1) (z 2) (z 5) (z 6) w))]
theorem k22_ok (R:EP) (C18:Value→VP):TI prog R (fstC p12) (q10 R C18) fun z w=>b23 R C18 (z 2) (z 5) (z 6) (z 61) (z 63) w:=blockT 1 (b23_ok R C18)
theorem k20_ok (R:EP) (C18:Value→VP):TI prog R p12 (q7 R C18) fun z w=>b23 R C18 (z 2) (z 5) (z 6) (z 61) (z 63) w:=seqT (k22_ok R C18) (b21_ok R C18)

def b19 (R:EP) (C18:Value→VP) (x1 x2 x5 x6 x61 x62 x63:Value) (w:World) (_r:Tok R:=tok R) (_C18:Tok C18:=tok C18):Prop :=
 RUN prog R (bins .lss 3 (.tmp 63) (.tmp 62) x63 x62) w fun v1 w2 =>
 SPL v1
 (b23 R C18 x2 x5 x6 x61 x63 w2)
 (b7 R x1 x2 x5 x6 w2)
theorem b19_ok (R:EP) (C18:Value→VP):TI prog R p11 (q7 R C18) fun z w=>b19 R C18 (z 1) (z 2) (z 5) (z 6) (z 61) (z 62) (z 63) w:=appT 1 (k20_ok R C18)

def l18 (R:EP) (x1 x2 x5 x6 x61 x62 x63:Value) (w:World) (_r:Tok R:=tok R):Prop :=
 ∃(J:Value→VP) (μ:Value→Value→World→Nat),J x5 x63 w∧∀y5 y63 w0,J y5 y63 w0→b19 R (fun z5 z63 w1=>J z5 z63 w1∧μ z5 z63 w1<μ y5 y63 w0) x1 x2 y5 x6 x61 x62 y63 w0
abbrev q11 (R:EP):XP:=QX (fun z w=>b7 R (z 1) (z 2) (z 5) (z 6) w) (r0 R) [(0,(fun z w=>b7 R (z 1) (z 2) (z 5) (z 6) w))]
theorem l18_ok (R:EP):TI prog R (blkC p10) (q11 R) fun z w=>l18 R (z 1) (z 2) (z 5) (z 6) (z 61) (z 62) (z 63) w:=fun z w h=>by
 unfold l18 at h
 obtain ⟨J,μ,h0,hr⟩:=h
 refine loopT (fun z' w'=>J (z' 5) (z' 63) w') (fun z' w'=>μ (z' 5) (z' 63) w') h0 fun z' w' hA hI=>b19_ok R (fun z5 z63 w1=>J z5 z63 w1∧μ z5 z63 w1<μ (z' 5) (z' 63) w') z' w' ?_
 have h1:=hr (z' 5) (z' 63) w' hI
 rwa [←hA.on 1,←hA.on 2,←hA.on 6,←hA.on 61,←hA.on 62] at h1
theorem l18_intro (R:EP) (x1 x2 x5 x6 x61 x62 x63:Value) (w:World) (J:Value→VP) (μ:Value→Value→World→Nat) (h0:J x5 x63 w)
   (hr:∀y5 y63 w0,J y5 y63 w0→∀C18:Value→VP,(∀z5 z63 w1,J z5 z63 w1→μ z5 z63 w1<μ y5 y63 w0→C18 z5 z63 w1)→b19 R C18 x1 x2 y5 x6 x61 x62 y63 w0):l18 R x1 x2 x5 x6 x61 x62 x63 w:=by
 unfold l18
 exact ⟨J,μ,h0,fun y5 y63 w0 hJ=>hr y5 y63 w0 hJ _ (fun z5 z63 w1 h1 h2=>⟨h1,h2⟩)⟩
abbrev q12 (R:EP):XP:=QX (fun z w=>b7 R (z 1) (z 2) (z 5) (z 6) w) (r0 R) []
theorem k17_ok (R:EP):TI prog R p10 (q12 R) fun z w=>l18 R (z 1) (z 2) (z 5) (z 6) (z 61) (z 62) (z 63) w:=blockT 0 (l18_ok R)

def b16 (R:EP) (x1 x2 x5 x6:Value) (w:World) (_r:Tok R:=tok R):Prop :=
 RUN prog R (fieldAt 27 x2 0) w fun v1 w2 =>
 RUN prog R (loadAt 22 v1) w2 fun v3 w4 =>
 RUN prog R (sliceAt 22 v3 (some (Value.int .i64 1)) none none) w4 fun v5 w6 =>
 RUN prog R (Builtin.len_ #[22] 3 #[v5]) w6 fun v7 w8 =>
 l18 R x1 x2 x5 x6 v5 v7 (Value.int .i64 0) w8
theorem b16_ok (R:EP):TI prog R (fstC p2) (q12 R) fun z w=>b16 R (z 1) (z 2) (z 5) (z 6) w:=appT 0 (k17_ok R)
theorem k4_ok (R:EP):TI prog R p2 (q1 R) fun z w=>b16 R (z 1) (z 2) (z 5) (z 6) w:=seqT (b16_ok R) (k5_ok R)

def b3 (R:EP) (x1 x2:Value) (w:World) (_r:Tok R:=tok R):Prop :=
 RUN prog R (makeMap 110 none) w fun v1 w2 =>
 b16 R x1 x2 (Value.slice Option.none 0 0) v1 w2
theorem b3_ok (R:EP):TI prog R (sndC p1) (q1 R) fun z w=>b3 R (z 1) (z 2) w:=appT 1 (k4_ok R)
noncomputable abbrev p16:Code:=dropC 1 (fstC p1)

def b29 (R:EP) (x1 x2 x57:Value) (w:World) (_r:Tok R:=tok R):Prop :=
 SPL x57
 (R (.returned (Value.bool false)) w)
 (b3 R x1 x2 w)
abbrev q13 (R:EP):XP:=QX (fun z w=>b3 R (z 1) (z 2) w) (r0 R) []
theorem b29_ok (R:EP):TI prog R p16 (q13 R) fun z w=>b29 R (z 1) (z 2) (z 57) w:=ofT
def b28_1 (R:EP) (x1 x2:Value) (w46:World) (_r:Tok R:=tok R):Prop :=
 RUN prog R (fieldAt 27 x2 0) w46 fun v47 w48 =>
 RUN prog R (loadAt 22 v47) w48 fun v49 w50 =>
 RUN prog R (Builtin.len_ #[22] 3 #[v49]) w50 fun v51 w52 =>
 RUN prog R (bins .sub 3 (.tmp 48) (.const (Value.int .i64 1)) v51 (Value.int .i64 1)) w52 fun v53 w54 =>
 RUN prog R (fieldAt 27 x2 1) w54 fun v55 w56 =>
 RUN prog R (loadAt 23 v55) w56 fun v57 w58 =>
 RUN prog R (Builtin.len_ #[23] 3 #[v57]) w58 fun v59 w60 =>
 RUN prog R (bins .add 3 (.tmp 49) (.tmp 52) v53 v59) w60 fun v61 w62 =>
 RUN prog R (bins .sub 3 (.tmp 53) (.tmp 54) v61 x1) w62 fun v63 w64 =>
 RUN prog R (bins .gtr 3 (.tmp 55) (.const (Value.int .i64 64)) v63 (Value.int .i64 64)) w64 fun v65 w66 =>
 b29 R x1 x2 v65 w66
def b28_2 (R:EP) (x1 x2:Value) (w36:World) (_r:Tok R:=tok R):Prop :=
 RUN prog R (fieldAt 27 x2 1) w36 fun v37 w38 =>
 RUN prog R (loadAt 23 v37) w38 fun v39 w40 =>
 RUN prog R (Builtin.len_ #[23] 3 #[v39]) w40 fun v41 w42 =>
 RUN prog R (bins .add 3 (.const (Value.int .i64 64)) (.tmp 41) (Value.int .i64 64) x1) w42 fun v43 w44 =>
 RUN prog R (bins .gtr 3 (.tmp 40) (.tmp 42) v41 v43) w44 fun v45 w46 =>
 SPL v45
 (b29 R x1 x2 (Value.bool true) w46)
 (b28_1 R x1 x2 w46)
def b28_3 (R:EP) (x1 x2:Value) (w28:World) (_r:Tok R:=tok R):Prop :=
 RUN prog R (fieldAt 27 x2 0) w28 fun v29 w30 =>
 RUN prog R (loadAt 22 v29) w30 fun v31 w32 =>
 RUN prog R (Builtin.len_ #[22] 3 #[v31]) w32 fun v33 w34 =>
 RUN prog R (bins .gtr 3 (.tmp 34) (.const (Value.int .i64 65)) v33 (Value.int .i64 65)) w34 fun v35 w36 =>
 SPL v35
 (b29 R x1 x2 (Value.bool true) w36)
 (b28_2 R x1 x2 w36)
def b28_4 (R:EP) (x1 x2:Value) (w20:World) (_r:Tok R:=tok R):Prop :=
 RUN prog R (fieldAt 27 x2 1) w20 fun v21 w22 =>
 RUN prog R (loadAt 23 v21) w22 fun v23 w24 =>
 RUN prog R (Builtin.len_ #[23] 3 #[v23]) w24 fun v25 w26 =>
 RUN prog R (bins .leq 3 (.tmp 27) (.tmp 28) v25 x1) w26 fun v27 w28 =>
 SPL v27
 (b29 R x1 x2 (Value.bool true) w28)
 (b28_3 R x1 x2 w28)
def b28_5 (R:EP) (x1 x2:Value) (w8:World) (_r:Tok R:=tok R):Prop :=
 RUN prog R (fieldAt 27 x2 0) w8 fun v9 w10 =>
 RUN prog R (loadAt 22 v9) w10 fun v11 w12 =>
 RUN prog R (indexAt 22 v11 (Value.int .i64 0)) w12 fun v13 w14 =>
 RUN prog R (loadAt 112 v13) w14 fun v15 w16 =>
 RUN prog R (build 112 #[]) w16 fun v17 w18 =>
 RUN prog R (bins .neq 112 (.tmp 20) (.tmp 21) v15 v17) w18 fun v19 w20 =>
 SPL v19
 (b29 R x1 x2 (Value.bool true) w20)
 (b28_4 R x1 x2 w20)

def b28 (R:EP) (x1 x2:Value) (w:World) (_r:Tok R:=tok R):Prop :=
 RUN prog R (fieldAt 27 x2 0) w fun v1 w2 =>
 RUN prog R (loadAt 22 v1) w2 fun v3 w4 =>
 RUN prog R (Builtin.len_ #[22] 3 #[v3]) w4 fun v5 w6 =>
 RUN prog R (bins .eql 3 (.tmp 14) (.const (Value.int .i64 0)) v5 (Value.int .i64 0)) w6 fun v7 w8 =>
 SPL v7
 (b29 R x1 x2 (Value.bool true) w8)
 (b28_5 R x1 x2 w8)
theorem b28_ok (R:EP):TI prog R (fstC p1) (q13 R) fun z w=>b28 R (z 1) (z 2) w:=appT 0 (b29_ok R)
theorem k2_ok (R:EP):TI prog R p1 (q1 R) fun z w=>b28 R (z 1) (z 2) w:=seqT (b28_ok R) (b3_ok R)

def b1 (R:EP) (x0 x1:Value) (w:World) (_r:Tok R:=tok R):Prop :=
 RUN prog R (box 27 x0) w fun v1 w2 =>
 b28 R x1 v1 w2
theorem b1_ok (R:EP):TI prog R code (q1 R) fun z w=>b1 R (z 0) (z 1) w:=appT 0 (k2_ok R)
def run (R:EP) (a0 a1:Value) (w:World):Prop:=b1 R a0 a1 w
theorem calls (R:EP) (a0 a1:Value) (w:World) (h:run R a0 a1 w):Calls prog id #[a0,a1] w R:=cls_t func28 [a0,a1] (b1_ok R _ w h)
theorem enters:Enters prog id:=fun args w=>call28 args w
theorem ct {a0 a1:Value} {w:World} {S:VP} (h:∀R:EP,(∀v w,S v w→R (.returned v) w)→run R a0 a1 w):Ct prog id #[a0,a1] w S :=
 Ct.intro enters fun R hR=>calls R a0 a1 w (h R hR)
attribute [irreducible] l9 l18
attribute [irreducible,go_sem] b6_1 b6 b12 b15 b14_1 b14 b10 b7 b21 b25 b27 b26_1 b26_2 b26 b23 b19 b16 b3 b29 b28_1 b28_2 b28_3 b28_4 b28_5 b28 b1 run
end gram_symbols

/-! ### presage/gram.symbols$1 -/
namespace gram_symbols_1
noncomputable def code:Code:=bodyOf f57
def b1 (R:EP) (x0:Value) (w:World) (_r:Tok R:=tok R):Prop :=
 CALL prog R gram_isName.id #[x0] w fun v1 w2 =>
 RUN prog R (Op.unary .not v1) w2 fun v3 w4 =>
 R (.returned v3) w4
abbrev r0 (R:EP) (z:Env) (w:World):Prop:=R (.returned (z 2)) w
abbrev q1 (R:EP):XP:=QX (r0 R) (r0 R) []
theorem b1_ok (R:EP):TI prog R code (q1 R) fun z w=>b1 R (z 0) w:=ofT
def run (R:EP) (a0:Value) (w:World):Prop:=b1 R a0 w
theorem calls (R:EP) (a0:Value) (w:World) (h:run R a0 w):Calls prog id #[a0] w R:=cls_t func57 [a0] (b1_ok R _ w h)
theorem enters:Enters prog id:=fun args w=>call57 args w
theorem ct {a0:Value} {w:World} {S:VP} (h:∀R:EP,(∀v w,S v w→R (.returned v) w)→run R a0 w):Ct prog id #[a0] w S :=
 Ct.intro enters fun R hR=>calls R a0 w (h R hR)
attribute [irreducible,go_sem] b1 run
end gram_symbols_1

/-! ### presage/gram.productions -/
namespace gram_productions
noncomputable def code:Code:=bodyOf f29
noncomputable abbrev p1:Code:=dropC 1 code
noncomputable abbrev p2:Code:=dropC 3 (sndC p1)
def b5_1 (R:EP) (x2 x6 x8:Value) (w:World) (_r:Tok R:=tok R):Prop :=
 PUR prog (fieldAt 27 x2 3) fun v10 =>
 LD prog (loadAt 3 v10) (World.drew w) fun v11 =>
 PUR prog (bins .lss 3 (.tmp 125) (.tmp 126) v11 x6) fun v12 =>
 R (.returned (.tuple #[x8,v12])) (World.drew w)
def b5_2 (R:EP) (x2 x6 x7 x8:Value) (w:World) (_r:Tok R:=tok R):Prop :=
 PUR prog (fieldAt 27 x2 3) fun v7 =>
 LD prog (loadAt 3 v7) (World.drew w) fun v8 =>
 PUR prog (bins .geq 3 (.tmp 119) (.tmp 120) v8 x7) fun v9 =>
 SPL v9
 (b5_1 R x2 x6 x8 w)
 (R (.returned (.tuple #[x8,(Value.bool false)])) (World.drew w))

def b5 (R:EP) (x1 x2 x6 x7 x8:Value) (w:World) (_r:Tok R:=tok R):Prop :=
 LD prog (Builtin.len_ #[24] 3 #[x8]) (World.drew w) fun v1 =>
 PUR prog (fieldAt 27 x2 1) fun v2 =>
 LD prog (loadAt 23 v2) (World.drew w) fun v3 =>
 LD prog (Builtin.len_ #[23] 3 #[v3]) (World.drew w) fun v4 =>
 PUR prog (bins .sub 3 (.tmp 113) (.tmp 114) v4 x1) fun v5 =>
 PUR prog (bins .eql 3 (.tmp 110) (.tmp 115) v1 v5) fun v6 =>
 SPL v6
 (b5_2 R x2 x6 x7 x8 w)
 (R (.returned (.tuple #[x8,(Value.bool false)])) (World.drew w))
abbrev r0 (R:EP) (z:Env) (w:World):Prop:=R (.returned (.tuple #[(z 4),(z 5)])) w
abbrev q1 (R:EP):XP:=QX (r0 R) (r0 R) []
theorem b5_ok (R:EP):TI prog R (sndC p2) (q1 R) fun z w=>b5 R (z 1) (z 2) (z 6) (z 7) (z 8) w:=ofT
noncomputable abbrev p3:Code:=dropC 1 (fstC p2)
noncomputable abbrev p4:Code:=loopC (blkC p3)
noncomputable abbrev p5:Code:=dropC 2 p4

def b11 (R:EP) (C8:Value→VP) (x8 x43:Value) (w:World) (_r:Tok R:=tok R) (_C8:Tok C8:=tok C8):Prop :=
 RUN prog R (bins .add 3 (.tmp 43) (.const (Value.int .i64 1)) x43 (Value.int .i64 1)) w fun v1 w2 =>
 C8 x8 v1 w2
abbrev q2 (R:EP) (C8:Value→VP):XP:=QX (fun z w=>C8 (z 8) (z 43) w) (r0 R) [(0,(fun z w=>b5 R (z 1) (z 2) (z 6) (z 7) (z 8) w))]
theorem b11_ok (R:EP) (C8:Value→VP):TI prog R (sndC p5) (q2 R C8) fun z w=>b11 R C8 (z 8) (z 43) w:=ofT
noncomputable abbrev p6:Code:=blkC (fstC p5)
noncomputable abbrev p7:Code:=dropC 1 p6
noncomputable abbrev p8:Code:=sndC (sndC p7)
def b16_1 (R:EP) (C8:Value→VP) (x8 x10 x43:Value) (w8:World) (_r:Tok R:=tok R) (_C8:Tok C8:=tok C8):Prop :=
 RUN prog R (fieldAt 67 x10 0) w8 fun v9 w10 =>
 RUN prog R (loadAt 3 v9) w10 fun v11 w12 =>
 RUN prog R (buildSlice 24 1 #[(0,v11)]) w12 fun v13 w14 =>
 RUN prog R (Builtin.append_ #[24,24] 24 #[x8,v13]) w14 fun v15 w16 =>
 b11 R C8 v15 x43 w16

def b16 (R:EP) (C8:Value→VP) (x8 x10 x43:Value) (w:World) (_r:Tok R:=tok R) (_C8:Tok C8:=tok C8):Prop :=
 RUN prog R (fieldAt 67 x10 0) w fun v1 w2 =>
 RUN prog R (loadAt 3 v1) w2 fun v3 w4 =>
 CALL prog R slices_Contains_int_int.id #[x8,v3] w4 fun v5 w6 =>
 RUN prog R (Op.unary .not v5) w6 fun v7 w8 =>
 SPL v7
 (b16_1 R C8 x8 x10 x43 w8)
 (b11 R C8 x8 x43 w8)
abbrev q3 (R:EP) (C8:Value→VP):XP:=QX (fun z w=>b11 R C8 (z 8) (z 43) w) (r0 R) [(2,(fun z w=>b11 R C8 (z 8) (z 43) w)),(0,(fun z w=>b5 R (z 1) (z 2) (z 6) (z 7) (z 8) w))]
theorem b16_ok (R:EP) (C8:Value→VP):TI prog R p8 (q3 R C8) fun z w=>b16 R C8 (z 8) (z 10) (z 43) w:=ofT
noncomputable abbrev p9:Code:=fstC (sndC p7)
noncomputable abbrev p10:Code:=dropC 1 p9
noncomputable abbrev p11:Code:=loopC (blkC p10)
noncomputable abbrev p12:Code:=dropC 2 p11

def b22 (R:EP) (C8:Value→VP) (C19:VP) (x73:Value) (w:World) (_r:Tok R:=tok R) (_C8:Tok C8:=tok C8) (_C19:Tok C19:=tok C19):Prop :=
 RUN prog R (bins .add 3 (.tmp 73) (.const (Value.int .i64 1)) x73 (Value.int .i64 1)) w fun v1 w2 =>
 C19 v1 w2
abbrev q4 (R:EP) (C8:Value→VP) (C19:VP):XP:=QX (fun z w=>C19 (z 73) w) (r0 R) [(4,(fun z w=>b16 R C8 (z 8) (z 10) (z 43) w)),(2,(fun z w=>b11 R C8 (z 8) (z 43) w)),(0,(fun z w=>b5 R (z 1) (z 2) (z 6) (z 7) (z 8) w))]
theorem b22_ok (R:EP) (C8:Value→VP) (C19:VP):TI prog R (sndC p12) (q4 R C8 C19) fun z w=>b22 R C8 C19 (z 73) w:=ofT
noncomputable abbrev p13:Code:=blkC (fstC p12)
noncomputable abbrev p14:Code:=dropC 2 p13

def b25 (R:EP) (C8:Value→VP) (C19:VP) (x73 x95:Value) (w:World) (_r:Tok R:=tok R) (_C8:Tok C8:=tok C8) (_C19:Tok C19:=tok C19):Prop :=
 SPL x95
 (R (.returned (.tuple #[(Value.slice Option.none 0 0),(Value.bool false)])) w)
 (b22 R C8 C19 x73 w)
abbrev q5 (R:EP) (C8:Value→VP) (C19:VP):XP:=QX (fun z w=>b22 R C8 C19 (z 73) w) (r0 R) [(6,(fun z w=>b22 R C8 C19 (z 73) w)),(4,(fun z w=>b16 R C8 (z 8) (z 10) (z 43) w)),(2,(fun z w=>b11 R C8 (z 8) (z 43) w)),(0,(fun z w=>b5 R (z 1) (z 2) (z 6) (z 7) (z 8) w))]
theorem b25_ok (R:EP) (C8:Value→VP) (C19:VP):TI prog R p14 (q5 R C8 C19) fun z w=>b25 R C8 C19 (z 73) (z 95) w:=ofT
def b24_1 (R:EP) (C8:Value→VP) (C19:VP) (x2 x7 x73 v3:Value) (w8:World) (_r:Tok R:=tok R) (_C8:Tok C8:=tok C8) (_C19:Tok C19:=tok C19):Prop :=
 RUN prog R (fieldAt 27 x2 0) w8 fun v9 w10 =>
 RUN prog R (loadAt 22 v9) w10 fun v11 w12 =>
 RUN prog R (Builtin.len_ #[22] 3 #[v11]) w12 fun v13 w14 =>
 RUN prog R (bins .geq 3 (.tmp 85) (.tmp 88) v3 v13) w14 fun v15 w16 =>
 SPL v15
 (RUN prog R (bins .lss 3 (.tmp 91) (.tmp 92) v3 x7) w16 fun v17 w18 =>
 b25 R C8 C19 x73 v17 w18)
 (b25 R C8 C19 x73 (Value.bool false) w16)

def b24 (R:EP) (C8:Value→VP) (C19:VP) (x2 x6 x7 x71 x73:Value) (w:World) (_r:Tok R:=tok R) (_C8:Tok C8:=tok C8) (_C19:Tok C19:=tok C19):Prop :=
 RUN prog R (indexAt 24 x71 x73) w fun v1 w2 =>
 RUN prog R (loadAt 3 v1) w2 fun v3 w4 =>
 RUN prog R (bins .lss 3 (.tmp 77) (.const (Value.int .i64 1)) v3 (Value.int .i64 1)) w4 fun v5 w6 =>
 SPL v5
 (b25 R C8 C19 x73 (Value.bool true) w6)
 (RUN prog R (bins .geq 3 (.tmp 80) (.tmp 81) v3 x6) w6 fun v7 w8 =>
 SPL v7
 (b25 R C8 C19 x73 (Value.bool true) w8)
 (b24_1 R C8 C19 x2 x7 x73 v3 w8))
theorem b24_ok (R:EP) (C8:Value→VP) (C19:VP):TI prog R p13 (q5 R C8 C19) fun z w=>b24 R C8 C19 (z 2) (z 6) (z 7) (z 71) (z 73) w:=appT 1 (b25_ok R C8 C19)
abbrev q6 (R:EP) (C8:Value→VP) (C19:VP):XP:=QX (fun z w=>b22 R C8 C19 (z 73) w) (r0 R) [(4,(fun z w=>b16 R C8 (z 8) (z 10) (z 43) w)),(2,(fun z w=>b11 R C8 (z 8) (z 43) w)),(0,(fun z w=>b5 R (z 1) (z 2) (z 6) (z 7) (z 8) w))]
theorem k23_ok (R:EP) (C8:Value→VP) (C19:VP):TI prog R (fstC p12) (q6 R C8 C19) fun z w=>b24 R C8 C19 (z 2) (z 6) (z 7) (z 71) (z 73) w:=blockT 3 (b24_ok R C8 C19)
theorem k21_ok (R:EP) (C8:Value→VP) (C19:VP):TI prog R p12 (q4 R C8 C19) fun z w=>b24 R C8 C19 (z 2) (z 6) (z 7) (z 71) (z 73) w:=seqT (k23_ok R C8 C19) (b22_ok R C8 C19)

def b20 (R:EP) (C8:Value→VP) (C19:VP) (x2 x6 x7 x8 x10 x43 x71 x72 x73:Value) (w:World) (_r:Tok R:=tok R) (_C8:Tok C8:=tok C8) (_C19:Tok C19:=tok C19):Prop :=
 RUN prog R (bins .lss 3 (.tmp 73) (.tmp 72) x73 x72) w fun v1 w2 =>
 SPL v1
 (b24 R C8 C19 x2 x6 x7 x71 x73 w2)
 (b16 R C8 x8 x10 x43 w2)
theorem b20_ok (R:EP) (C8:Value→VP) (C19:VP):TI prog R p11 (q4 R C8 C19) fun z w=>b20 R C8 C19 (z 2) (z 6) (z 7) (z 8) (z 10) (z 43) (z 71) (z 72) (z 73) w:=appT 1 (k21_ok R C8 C19)

def l19 (R:EP) (C8:Value→VP) (x2 x6 x7 x8 x10 x43 x71 x72 x73:Value) (w:World) (_r:Tok R:=tok R) (_C8:Tok C8:=tok C8):Prop :=
 ∃(J:VP) (μ:Value→World→Nat),J x73 w∧∀y73 w0,J y73 w0→b20 R C8 (fun z73 w1=>J z73 w1∧μ z73 w1<μ y73 w0) x2 x6 x7 x8 x10 x43 x71 x72 y73 w0
abbrev q7 (R:EP) (C8:Value→VP):XP:=QX (fun z w=>b16 R C8 (z 8) (z 10) (z 43) w) (r0 R) [(4,(fun z w=>b16 R C8 (z 8) (z 10) (z 43) w)),(2,(fun z w=>b11 R C8 (z 8) (z 43) w)),(0,(fun z w=>b5 R (z 1) (z 2) (z 6) (z 7) (z 8) w))]
theorem l19_ok (R:EP) (C8:Value→VP):TI prog R (blkC p10) (q7 R C8) fun z w=>l19 R C8 (z 2) (z 6) (z 7) (z 8) (z 10) (z 43) (z 71) (z 72) (z 73) w:=fun z w h=>by
 unfold l19 at h
 obtain ⟨J,μ,h0,hr⟩:=h
 refine loopT (fun z' w'=>J (z' 73) w') (fun z' w'=>μ (z' 73) w') h0 fun z' w' hA hI=>b20_ok R C8 (fun z73 w1=>J z73 w1∧μ z73 w1<μ (z' 73) w') z' w' ?_
 have h1:=hr (z' 73) w' hI
 rwa [←hA.on 2,←hA.on 6,←hA.on 7,←hA.on 8,←hA.on 10,←hA.on 43,←hA.on 71,←hA.on 72] at h1
theorem l19_intro (R:EP) (C8:Value→VP) (x2 x6 x7 x8 x10 x43 x71 x72 x73:Value) (w:World) (J:VP) (μ:Value→World→Nat) (h0:J x73 w)
   (hr:∀y73 w0,J y73 w0→∀C19:VP,(∀z73 w1,J z73 w1→μ z73 w1<μ y73 w0→C19 z73 w1)→b20 R C8 C19 x2 x6 x7 x8 x10 x43 x71 x72 y73 w0):l19 R C8 x2 x6 x7 x8 x10 x43 x71 x72 x73 w:=by
 unfold l19
 exact ⟨J,μ,h0,fun y73 w0 hJ=>hr y73 w0 hJ _ (fun z73 w1 h1 h2=>⟨h1,h2⟩)⟩
abbrev q8 (R:EP) (C8:Value→VP):XP:=QX (fun z w=>b16 R C8 (z 8) (z 10) (z 43) w) (r0 R) [(2,(fun z w=>b11 R C8 (z 8) (z 43) w)),(0,(fun z w=>b5 R (z 1) (z 2) (z 6) (z 7) (z 8) w))]
theorem k18_ok (R:EP) (C8:Value→VP):TI prog R p10 (q8 R C8) fun z w=>l19 R C8 (z 2) (z 6) (z 7) (z 8) (z 10) (z 43) (z 71) (z 72) (z 73) w:=blockT 2 (l19_ok R C8)

def b17 (R:EP) (C8:Value→VP) (x2 x6 x7 x8 x10 x43:Value) (w:World) (_r:Tok R:=tok R) (_C8:Tok C8:=tok C8):Prop :=
 RUN prog R (fieldAt 67 x10 1) w fun v1 w2 =>
 RUN prog R (loadAt 24 v1) w2 fun v3 w4 =>
 RUN prog R (Builtin.len_ #[24] 3 #[v3]) w4 fun v5 w6 =>
 l19 R C8 x2 x6 x7 x8 x10 x43 v3 v5 (Value.int .i64 0) w6
theorem b17_ok (R:EP) (C8:Value→VP):TI prog R p9 (q8 R C8) fun z w=>b17 R C8 (z 2) (z 6) (z 7) (z 8) (z 10) (z 43) w:=appT 0 (k18_ok R C8)
theorem k15_ok (R:EP) (C8:Value→VP):TI prog R (sndC p7) (q3 R C8) fun z w=>b17 R C8 (z 2) (z 6) (z 7) (z 8) (z 10) (z 43) w:=seqT (b17_ok R C8) (b16_ok R C8)
noncomputable abbrev p15:Code:=dropC 1 (fstC p7)

def b27 (R:EP) (C8:Value→VP) (x2 x6 x7 x8 x10 x43 x69:Value) (w:World) (_r:Tok R:=tok R) (_C8:Tok C8:=tok C8):Prop :=
 SPL x69
 (R (.returned (.tuple #[(Value.slice Option.none 0 0),(Value.bool false)])) w)
 (b17 R C8 x2 x6 x7 x8 x10 x43 w)
abbrev q9 (R:EP) (C8:Value→VP):XP:=QX (fun z w=>b17 R C8 (z 2) (z 6) (z 7) (z 8) (z 10) (z 43) w) (r0 R) [(2,(fun z w=>b11 R C8 (z 8) (z 43) w)),(0,(fun z w=>b5 R (z 1) (z 2) (z 6) (z 7) (z 8) w))]
theorem b27_ok (R:EP) (C8:Value→VP):TI prog R p15 (q9 R C8) fun z w=>b27 R C8 (z 2) (z 6) (z 7) (z 8) (z 10) (z 43) (z 69) w:=ofT
def b26_1 (R:EP) (C8:Value→VP) (x2 x6 x7 x8 x10 x43:Value) (w18:World) (_r:Tok R:=tok R) (_C8:Tok C8:=tok C8):Prop :=
 RUN prog R (fieldAt 67 x10 2) w18 fun v19 w20 =>
 RUN prog R (loadAt 3 v19) w20 fun v21 w22 =>
 RUN prog R (fieldAt 27 x2 2) w22 fun v23 w24 =>
 RUN prog R (loadAt 24 v23) w24 fun v25 w26 =>
 RUN prog R (Builtin.len_ #[24] 3 #[v25]) w26 fun v27 w28 =>
 RUN prog R (bins .gtr 3 (.tmp 64) (.tmp 67) v21 v27) w28 fun v29 w30 =>
 b27 R C8 x2 x6 x7 x8 x10 x43 v29 w30
def b26_2 (R:EP) (C8:Value→VP) (x2 x6 x7 x8 x10 x43:Value) (w12:World) (_r:Tok R:=tok R) (_C8:Tok C8:=tok C8):Prop :=
 RUN prog R (fieldAt 67 x10 2) w12 fun v13 w14 =>
 RUN prog R (loadAt 3 v13) w14 fun v15 w16 =>
 RUN prog R (bins .lss 3 (.tmp 59) (.const (Value.int .i64 0)) v15 (Value.int .i64 0)) w16 fun v17 w18 =>
 SPL v17
 (b27 R C8 x2 x6 x7 x8 x10 x43 (Value.bool true) w18)
 (b26_1 R C8 x2 x6 x7 x8 x10 x43 w18)
def b26_3 (R:EP) (C8:Value→VP) (x2 x6 x7 x8 x10 x43:Value) (w6:World) (_r:Tok R:=tok R) (_C8:Tok C8:=tok C8):Prop :=
 RUN prog R (fieldAt 67 x10 0) w6 fun v7 w8 =>
 RUN prog R (loadAt 3 v7) w8 fun v9 w10 =>
 RUN prog R (bins .geq 3 (.tmp 53) (.tmp 54) v9 x6) w10 fun v11 w12 =>
 SPL v11
 (b27 R C8 x2 x6 x7 x8 x10 x43 (Value.bool true) w12)
 (b26_2 R C8 x2 x6 x7 x8 x10 x43 w12)

def b26 (R:EP) (C8:Value→VP) (x2 x6 x7 x8 x10 x43:Value) (w:World) (_r:Tok R:=tok R) (_C8:Tok C8:=tok C8):Prop :=
 RUN prog R (fieldAt 67 x10 0) w fun v1 w2 =>
 RUN prog R (loadAt 3 v1) w2 fun v3 w4 =>
 RUN prog R (bins .lss 3 (.tmp 48) (.tmp 49) v3 x7) w4 fun v5 w6 =>
 SPL v5
 (b27 R C8 x2 x6 x7 x8 x10 x43 (Value.bool true) w6)
 (b26_3 R C8 x2 x6 x7 x8 x10 x43 w6)
theorem b26_ok (R:EP) (C8:Value→VP):TI prog R (fstC p7) (q9 R C8) fun z w=>b26 R C8 (z 2) (z 6) (z 7) (z 8) (z 10) (z 43) w:=appT 0 (b27_ok R C8)
theorem k14_ok (R:EP) (C8:Value→VP):TI prog R p7 (q3 R C8) fun z w=>b26 R C8 (z 2) (z 6) (z 7) (z 8) (z 10) (z 43) w:=seqT (b26_ok R C8) (k15_ok R C8)

def b13 (R:EP) (C8:Value→VP) (x2 x6 x7 x8 x41 x43:Value) (w:World) (_r:Tok R:=tok R) (_C8:Tok C8:=tok C8):Prop :=
 RUN prog R (indexAt 25 x41 x43) w fun v1 w2 =>
 RUN prog R (loadAt 67 v1) w2 fun v3 w4 =>
 RUN prog R (alloc 67 true (.tuple #[])) w4 fun v5 w6 =>
 RUNU prog R (storeAt 67 v5 v3) w6 fun w7 =>
 b26 R C8 x2 x6 x7 x8 v5 x43 w7
theorem b13_ok (R:EP) (C8:Value→VP):TI prog R p6 (q3 R C8) fun z w=>b13 R C8 (z 2) (z 6) (z 7) (z 8) (z 41) (z 43) w:=appT 0 (k14_ok R C8)
abbrev q10 (R:EP) (C8:Value→VP):XP:=QX (fun z w=>b11 R C8 (z 8) (z 43) w) (r0 R) [(0,(fun z w=>b5 R (z 1) (z 2) (z 6) (z 7) (z 8) w))]
theorem k12_ok (R:EP) (C8:Value→VP):TI prog R (fstC p5) (q10 R C8) fun z w=>b13 R C8 (z 2) (z 6) (z 7) (z 8) (z 41) (z 43) w:=blockT 1 (b13_ok R C8)
theorem k10_ok (R:EP) (C8:Value→VP):TI prog R p5 (q2 R C8) fun z w=>b13 R C8 (z 2) (z 6) (z 7) (z 8) (z 41) (z 43) w:=seqT (k12_ok R C8) (b11_ok R C8)

def b9 (R:EP) (C8:Value→VP) (x1 x2 x6 x7 x8 x41 x42 x43:Value) (w:World) (_r:Tok R:=tok R) (_C8:Tok C8:=tok C8):Prop :=
 RUN prog R (bins .lss 3 (.tmp 43) (.tmp 42) x43 x42) w fun v1 w2 =>
 SPL v1
 (b13 R C8 x2 x6 x7 x8 x41 x43 w2)
 (b5 R x1 x2 x6 x7 x8 w2)
theorem b9_ok (R:EP) (C8:Value→VP):TI prog R p4 (q2 R C8) fun z w=>b9 R C8 (z 1) (z 2) (z 6) (z 7) (z 8) (z 41) (z 42) (z 43) w:=appT 1 (k10_ok R C8)

def l8 (R:EP) (x1 x2 x6 x7 x8 x41 x42 x43:Value) (w:World) (_r:Tok R:=tok R):Prop :=
 ∃(J:Value→VP) (μ:Value→Value→World→Nat),J x8 x43 w∧∀y8 y43 w0,J y8 y43 w0→b9 R (fun z8 z43 w1=>J z8 z43 w1∧μ z8 z43 w1<μ y8 y43 w0) x1 x2 x6 x7 y8 x41 x42 y43 w0
abbrev q11 (R:EP):XP:=QX (fun z w=>b5 R (z 1) (z 2) (z 6) (z 7) (z 8) w) (r0 R) [(0,(fun z w=>b5 R (z 1) (z 2) (z 6) (z 7) (z 8) w))]
theorem l8_ok (R:EP):TI prog R (blkC p3) (q11 R) fun z w=>l8 R (z 1) (z 2) (z 6) (z 7) (z 8) (z 41) (z 42) (z 43) w:=fun z w h=>by
 unfold l8 at h
 obtain ⟨J,μ,h0,hr⟩:=h
 refine loopT (fun z' w'=>J (z' 8) (z' 43) w') (fun z' w'=>μ (z' 8) (z' 43) w') h0 fun z' w' hA hI=>b9_ok R (fun z8 z43 w1=>J z8 z43 w1∧μ z8 z43 w1<μ (z' 8) (z' 43) w') z' w' ?_
 have h1:=hr (z' 8) (z' 43) w' hI
 rwa [←hA.on 1,←hA.on 2,←hA.on 6,←hA.on 7,←hA.on 41,←hA.on 42] at h1
theorem l8_intro (R:EP) (x1 x2 x6 x7 x8 x41 x42 x43:Value) (w:World) (J:Value→VP) (μ:Value→Value→World→Nat) (h0:J x8 x43 w)
   (hr:∀y8 y43 w0,J y8 y43 w0→∀C8:Value→VP,(∀z8 z43 w1,J z8 z43 w1→μ z8 z43 w1<μ y8 y43 w0→C8 z8 z43 w1)→b9 R C8 x1 x2 x6 x7 y8 x41 x42 y43 w0):l8 R x1 x2 x6 x7 x8 x41 x42 x43 w:=by
 unfold l8
 exact ⟨J,μ,h0,fun y8 y43 w0 hJ=>hr y8 y43 w0 hJ _ (fun z8 z43 w1 h1 h2=>⟨h1,h2⟩)⟩
abbrev q12 (R:EP):XP:=QX (fun z w=>b5 R (z 1) (z 2) (z 6) (z 7) (z 8) w) (r0 R) []
theorem k7_ok (R:EP):TI prog R p3 (q12 R) fun z w=>l8 R (z 1) (z 2) (z 6) (z 7) (z 8) (z 41) (z 42) (z 43) w:=blockT 0 (l8_ok R)

def b6 (R:EP) (x1 x2 x6 x7 x8:Value) (w:World) (_r:Tok R:=tok R):Prop :=
 RUN prog R (fieldAt 27 x2 4) w fun v1 w2 =>
 RUN prog R (loadAt 25 v1) w2 fun v3 w4 =>
 RUN prog R (sliceAt 25 v3 (some x1) none none) w4 fun v5 w6 =>
 RUN prog R (Builtin.len_ #[25] 3 #[v5]) w6 fun v7 w8 =>
 l8 R x1 x2 x6 x7 x8 v5 v7 (Value.int .i64 0) w8
theorem b6_ok (R:EP):TI prog R (fstC p2) (q12 R) fun z w=>b6 R (z 1) (z 2) (z 6) (z 7) (z 8) w:=appT 0 (k7_ok R)
theorem k4_ok (R:EP):TI prog R p2 (q1 R) fun z w=>b6 R (z 1) (z 2) (z 6) (z 7) (z 8) w:=seqT (b6_ok R) (b5_ok R)

def b3 (R:EP) (x1 x2:Value) (w:World) (_r:Tok R:=tok R):Prop :=
 RUN prog R (fieldAt 27 x2 0) w fun v1 w2 =>
 RUN prog R (loadAt 22 v1) w2 fun v3 w4 =>
 RUN prog R (Builtin.len_ #[22] 3 #[v3]) w4 fun v5 w6 =>
 RUN prog R (fieldAt 27 x2 1) w6 fun v7 w8 =>
 RUN prog R (loadAt 23 v7) w8 fun v9 w10 =>
 RUN prog R (Builtin.len_ #[23] 3 #[v9]) w10 fun v11 w12 =>
 RUN prog R (bins .add 3 (.tmp 28) (.tmp 31) v5 v11) w12 fun v13 w14 =>
 RUN prog R (fieldAt 27 x2 0) w14 fun v15 w16 =>
 RUN prog R (loadAt 22 v15) w16 fun v17 w18 =>
 RUN prog R (Builtin.len_ #[22] 3 #[v17]) w18 fun v19 w20 =>
 RUN prog R (bins .add 3 (.tmp 35) (.tmp 36) v19 x1) w20 fun v21 w22 =>
 b6 R x1 x2 v13 v21 (Value.slice Option.none 0 0) w22
theorem b3_ok (R:EP):TI prog R (sndC p1) (q1 R) fun z w=>b3 R (z 1) (z 2) w:=appT 2 (k4_ok R)
noncomputable abbrev p16:Code:=dropC 1 (fstC p1)

def b29 (R:EP) (x1 x2 x25:Value) (w:World) (_r:Tok R:=tok R):Prop :=
 SPL x25
 (R (.returned (.tuple #[(Value.slice Option.none 0 0),(Value.bool false)])) w)
 (b3 R x1 x2 w)
abbrev q13 (R:EP):XP:=QX (fun z w=>b3 R (z 1) (z 2) w) (r0 R) []
theorem b29_ok (R:EP):TI prog R p16 (q13 R) fun z w=>b29 R (z 1) (z 2) (z 25) w:=ofT
def b28_1 (R:EP) (x1 x2:Value) (w8:World) (_r:Tok R:=tok R):Prop :=
 RUN prog R (fieldAt 27 x2 4) w8 fun v9 w10 =>
 RUN prog R (loadAt 25 v9) w10 fun v11 w12 =>
 RUN prog R (Builtin.len_ #[25] 3 #[v11]) w12 fun v13 w14 =>
 RUN prog R (bins .add 3 (.const (Value.int .i64 96)) (.tmp 22) (Value.int .i64 96) x1) w14 fun v15 w16 =>
 RUN prog R (bins .gtr 3 (.tmp 21) (.tmp 23) v13 v15) w16 fun v17 w18 =>
 b29 R x1 x2 v17 w18

def b28 (R:EP) (x1 x2:Value) (w:World) (_r:Tok R:=tok R):Prop :=
 RUN prog R (fieldAt 27 x2 4) w fun v1 w2 =>
 RUN prog R (loadAt 25 v1) w2 fun v3 w4 =>
 RUN prog R (Builtin.len_ #[25] 3 #[v3]) w4 fun v5 w6 =>
 RUN prog R (bins .leq 3 (.tmp 15) (.tmp 16) v5 x1) w6 fun v7 w8 =>
 SPL v7
 (b29 R x1 x2 (Value.bool true) w8)
 (b28_1 R x1 x2 w8)
theorem b28_ok (R:EP):TI prog R (fstC p1) (q13 R) fun z w=>b28 R (z 1) (z 2) w:=appT 0 (b29_ok R)
theorem k2_ok (R:EP):TI prog R p1 (q1 R) fun z w=>b28 R (z 1) (z 2) w:=seqT (b28_ok R) (b3_ok R)

def b1 (R:EP) (x0 x1:Value) (w:World) (_r:Tok R:=tok R):Prop :=
 RUN prog R (box 27 x0) w fun v1 w2 =>
 b28 R x1 v1 w2
theorem b1_ok (R:EP):TI prog R code (q1 R) fun z w=>b1 R (z 0) (z 1) w:=appT 0 (k2_ok R)
def run (R:EP) (a0 a1:Value) (w:World):Prop:=b1 R a0 a1 w
theorem calls (R:EP) (a0 a1:Value) (w:World) (h:run R a0 a1 w):Calls prog id #[a0,a1] w R :=
 calls_of_tt (f:=id) (fn:=f29) (c:=code) (by kernel_rfl) func29 (by kernel_rfl) (by kernel_rfl) (args:=[a0,a1]) (Nat.le_of_ble_eq_true rfl) rfl (b1_ok R (envOf [a0,a1]) w h)
theorem enters:Enters prog id:=fun args w=>call29 args w
theorem ct {a0 a1:Value} {w:World} {S:VP} (h:∀R:EP,(∀v w,S v w→R (.returned v) w)→run R a0 a1 w):Ct prog id #[a0,a1] w S :=
 Ct.intro enters fun R hR=>calls R a0 a1 w (h R hR)
attribute [irreducible] l19 l8
attribute [irreducible,go_sem] b5_1 b5_2 b5 b11 b16_1 b16 b22 b25 b24_1 b24 b20 b17 b27 b26_1 b26_2 b26_3 b26 b13 b9 b6 b3 b29 b28_1 b28 b1 run
end gram_productions

/-! ### presage/gram.Closed -/
namespace gram_Closed
noncomputable def code:Code:=bodyOf f11
noncomputable abbrev p1:Code:=dropC 1 code
def b3_1 (R:EP) (v11:Value) (w12:World) (_r:Tok R:=tok R):Prop :=
 PUR prog (indexAt 25 v11 (Value.int .i64 0)) fun v33 =>
 PUR prog (fieldAt 67 v33 2) fun v34 =>
 LD prog (loadAt 3 v34) (World.drew w12) fun v35 =>
 PUR prog (bins .eql 3 (.tmp 63) (.const (Value.int .i64 0)) v35 (Value.int .i64 0)) fun v36 =>
 R (.returned v36) (World.drew w12)
def b3_2 (R:EP) (x1 v11:Value) (w12:World) (_r:Tok R:=tok R):Prop :=
 PUR prog (indexAt 25 v11 (Value.int .i64 0)) fun v25 =>
 PUR prog (fieldAt 67 v25 1) fun v26 =>
 LD prog (loadAt 24 v26) (World.drew w12) fun v27 =>
 PUR prog (indexAt 24 v27 (Value.int .i64 0)) fun v28 =>
 LD prog (loadAt 3 v28) (World.drew w12) fun v29 =>
 PUR prog (fieldAt 27 x1 3) fun v30 =>
 LD prog (loadAt 3 v30) (World.drew w12) fun v31 =>
 PUR prog (bins .eql 3 (.tmp 54) (.tmp 56) v29 v31) fun v32 =>
 SPL v32
 (b3_1 R v11 w12)
 (R (.returned (Value.bool false)) (World.drew w12))
def b3_3 (R:EP) (x1 v11:Value) (w12:World) (_r:Tok R:=tok R):Prop :=
 PUR prog (indexAt 25 v11 (Value.int .i64 0)) fun v20 =>
 PUR prog (fieldAt 67 v20 1) fun v21 =>
 LD prog (loadAt 24 v21) (World.drew w12) fun v22 =>
 LD prog (Builtin.len_ #[24] 3 #[v22]) (World.drew w12) fun v23 =>
 PUR prog (bins .eql 3 (.tmp 45) (.const (Value.int .i64 1)) v23 (Value.int .i64 1)) fun v24 =>
 SPL v24
 (b3_2 R x1 v11 w12)
 (R (.returned (Value.bool false)) (World.drew w12))
def b3_4 (R:EP) (x1 v11:Value) (w12:World) (_r:Tok R:=tok R):Prop :=
 PUR prog (indexAt 25 v11 (Value.int .i64 0)) fun v13 =>
 PUR prog (fieldAt 67 v13 0) fun v14 =>
 LD prog (loadAt 3 v14) (World.drew w12) fun v15 =>
 PUR prog (fieldAt 27 x1 0) fun v16 =>
 LD prog (loadAt 22 v16) (World.drew w12) fun v17 =>
 LD prog (Builtin.len_ #[22] 3 #[v17]) (World.drew w12) fun v18 =>
 PUR prog (bins .eql 3 (.tmp 34) (.tmp 37) v15 v18) fun v19 =>
 SPL v19
 (b3_3 R x1 v11 w12)
 (R (.returned (Value.bool false)) (World.drew w12))
def b3_5 (R:EP) (x1 v3:Value) (w4:World) (_r:Tok R:=tok R):Prop :=
 RUN prog R (extract v3 0) w4 fun v5 w6 =>
 RUN prog R (extract v3 1) w6 fun v7 w8 =>
 RUN prog R (fieldAt 27 x1 4) w8 fun v9 w10 =>
 RUN prog R (loadAt 25 v9) w10 fun v11 w12 =>
 SPL v7
 (b3_4 R x1 v11 w12)
 (R (.returned (Value.bool false)) (World.drew w12))

def b3 (R:EP) (x1:Value) (w:World) (_r:Tok R:=tok R):Prop :=
 RUN prog R (loadAt 27 x1) w fun v1 w2 =>
 CALL prog R gram_productions.id #[v1,(Value.int .i64 1)] w2 fun v3 w4 =>
 b3_5 R x1 v3 w4
abbrev r0 (R:EP) (z:Env) (w:World):Prop:=R (.returned (z 2)) w
abbrev q1 (R:EP):XP:=QX (r0 R) (r0 R) []
theorem b3_ok (R:EP):TI prog R (sndC p1) (q1 R) fun z w=>b3 R (z 1) w:=ofT
noncomputable abbrev p2:Code:=dropC 1 (fstC p1)

def b5 (R:EP) (x1 x21:Value) (w:World) (_r:Tok R:=tok R):Prop :=
 SPL x21
 (R (.returned (Value.bool false)) w)
 (b3 R x1 w)
abbrev q2 (R:EP):XP:=QX (fun z w=>b3 R (z 1) w) (r0 R) []
theorem b5_ok (R:EP):TI prog R p2 (q2 R) fun z w=>b5 R (z 1) (z 21) w:=ofT
def b4_1 (R:EP) (x1:Value) (w18:World) (_r:Tok R:=tok R):Prop :=
 RUN prog R (loadAt 27 x1) w18 fun v19 w20 =>
 CALL prog R gram_symbols.id #[v19,(Value.int .i64 1)] w20 fun v21 w22 =>
 RUN prog R (Op.unary .not v21) w22 fun v23 w24 =>
 b5 R x1 v23 w24
def b4_2 (R:EP) (x1:Value) (w8:World) (_r:Tok R:=tok R):Prop :=
 RUN prog R (fieldAt 27 x1 1) w8 fun v9 w10 =>
 RUN prog R (loadAt 23 v9) w10 fun v11 w12 =>
 RUN prog R (indexAt 23 v11 (Value.int .i64 0)) w12 fun v13 w14 =>
 RUN prog R (loadAt 9 v13) w14 fun v15 w16 =>
 RUN prog R (bins .neq 9 (.tmp 14) (.const (Value.string ⟨#[]⟩)) v15 (Value.string ⟨#[]⟩)) w16 fun v17 w18 =>
 SPL v17
 (b5 R x1 (Value.bool true) w18)
 (b4_1 R x1 w18)

def b4 (R:EP) (x1:Value) (w:World) (_r:Tok R:=tok R):Prop :=
 RUN prog R (fieldAt 27 x1 1) w fun v1 w2 =>
 RUN prog R (loadAt 23 v1) w2 fun v3 w4 =>
 RUN prog R (Builtin.len_ #[23] 3 #[v3]) w4 fun v5 w6 =>
 RUN prog R (bins .eql 3 (.tmp 8) (.const (Value.int .i64 0)) v5 (Value.int .i64 0)) w6 fun v7 w8 =>
 SPL v7
 (b5 R x1 (Value.bool true) w8)
 (b4_2 R x1 w8)
theorem b4_ok (R:EP):TI prog R (fstC p1) (q2 R) fun z w=>b4 R (z 1) w:=appT 0 (b5_ok R)
theorem k2_ok (R:EP):TI prog R p1 (q1 R) fun z w=>b4 R (z 1) w:=seqT (b4_ok R) (b3_ok R)

def b1 (R:EP) (x0:Value) (w:World) (_r:Tok R:=tok R):Prop :=
 RUN prog R (box 27 x0) w fun v1 w2 =>
 b4 R v1 w2
theorem b1_ok (R:EP):TI prog R code (q1 R) fun z w=>b1 R (z 0) w:=appT 0 (k2_ok R)
def run (R:EP) (a0:Value) (w:World):Prop:=b1 R a0 w
theorem calls (R:EP) (a0:Value) (w:World) (h:run R a0 w):Calls prog id #[a0] w R:=cls_t func11 [a0] (b1_ok R _ w h)
theorem enters:Enters prog id:=fun args w=>call11 args w
theorem ct {a0:Value} {w:World} {S:VP} (h:∀R:EP,(∀v w,S v w→R (.returned v) w)→run R a0 w):Ct prog id #[a0] w S :=
 Ct.intro enters fun R hR=>calls R a0 w (h R hR)
attribute [irreducible,go_sem] b3_1 b3_2 b3_3 b3_4 b3_5 b3 b5 b4_1 b4_2 b4 b1 run
end gram_Closed
end Go.Proofs.Ytmoepnfobnpdiaa

/- Shallow programs, written by a program of ours (gen.py) off the translation; each is tied to the code by the kernel. -/
namespace Go.Proofs.Ytmoepnfobnpdiaa
open Go.Px Try Instr

/-! ### slices.Contains[[]int,int] -/
namespace slices_Contains_int_int
noncomputable def code:Code:=bodyOf f59
def b1 (R:EP) (x0 x1:Value) (w:World) (_r:Tok R:=tok R):Prop :=
 CALL prog R slices_Index_int_int.id #[x0,x1] w fun v1 w2 =>
 RUN prog R (bins .geq 3 (.tmp 7) (.const (Value.int .i64 0)) v1 (Value.int .i64 0)) w2 fun v3 w4 =>
 R (.returned v3) w4
abbrev r0 (R:EP) (z:Env) (w:World):Prop:=R (.returned (z 4)) w
abbrev q1 (R:EP):XP:=QX (r0 R) (r0 R) []
theorem b1_ok (R:EP):TI prog R code (q1 R) fun z w=>b1 R (z 0) (z 1) w:=ofT
def run (R:EP) (a0 a1:Value) (w:World):Prop:=b1 R a0 a1 w
theorem calls (R:EP) (a0 a1:Value) (w:World) (h:run R a0 a1 w):Calls prog id #[a0,a1] w R:=cls_t func59 [a0,a1] (b1_ok R _ w h)
theorem enters:Enters prog id:=fun args w=>call59 args w
theorem ct {a0 a1:Value} {w:World} {S:VP} (h:∀R:EP,(∀v w,S v w→R (.returned v) w)→run R a0 a1 w):Ct prog id #[a0,a1] w S :=
 Ct.intro enters fun R hR=>calls R a0 a1 w (h R hR)
attribute [irreducible,go_sem] b1 run
end slices_Contains_int_int

/-! ### slices.Index[[]int,int] -/
namespace slices_Index_int_int
noncomputable def code:Code:=bodyOf f82
noncomputable abbrev p1:Code:=dropC 1 code

def b3 (R:EP) (w:World) (_r:Tok R:=tok R):Prop :=
 R (.returned (Value.int .i64 (-1))) w
abbrev r0 (R:EP) (z:Env) (w:World):Prop:=R (.returned (z 4)) w
abbrev q1 (R:EP):XP:=QX (r0 R) (r0 R) []
theorem b3_ok (R:EP):TI prog R (sndC p1) (q1 R) fun z w=>b3 R w:=ofT
noncomputable abbrev p2:Code:=dropC 1 (fstC p1)
noncomputable abbrev p3:Code:=loopC (blkC p2)
def b7_1 (R:EP) (C6:VP) (x0 x1 x8:Value) (w2:World) (_r:Tok R:=tok R) (_C6:Tok C6:=tok C6):Prop :=
 RUN prog R (indexAt 24 x0 x8) w2 fun v3 w4 =>
 RUN prog R (loadAt 3 v3) w4 fun v5 w6 =>
 RUN prog R (bins .eql 3 (.tmp 11) (.tmp 15) x1 v5) w6 fun v7 w8 =>
 SPL v7
 (R (.returned x8) w8)
 (RUN prog R (bins .add 3 (.tmp 8) (.const (Value.int .i64 1)) x8 (Value.int .i64 1)) w8 fun v9 w10 =>
 C6 v9 w10)
def b7 (R:EP) (C6:VP) (x0 x1 x7 x8:Value) (w:World) (_r:Tok R:=tok R) (_C6:Tok C6:=tok C6):Prop :=
 RUN prog R (bins .lss 3 (.tmp 8) (.tmp 7) x8 x7) w fun v1 w2 =>
 SPL v1
 (b7_1 R C6 x0 x1 x8 w2)
 (b3 R w2)
abbrev q2 (R:EP) (C6:VP):XP:=QX (fun z w=>C6 (z 8) w) (r0 R) [(0,(fun z w=>b3 R  w))]
theorem b7_ok (R:EP) (C6:VP):TI prog R p3 (q2 R C6) fun z w=>b7 R C6 (z 0) (z 1) (z 7) (z 8) w:=ofT
def l6 (R:EP) (x0 x1 x7 x8:Value) (w:World) (_r:Tok R:=tok R):Prop :=
 ∃(J:VP) (μ:Value→World→Nat),J x8 w∧∀y8 w0,J y8 w0→b7 R (fun z8 w1=>J z8 w1∧μ z8 w1<μ y8 w0) x0 x1 x7 y8 w0
abbrev q3 (R:EP):XP:=QX (fun z w=>b3 R  w) (r0 R) [(0,(fun z w=>b3 R  w))]
theorem l6_ok (R:EP):TI prog R (blkC p2) (q3 R) fun z w=>l6 R (z 0) (z 1) (z 7) (z 8) w:=fun z w h=>by
 unfold l6 at h
 obtain ⟨J,μ,h0,hr⟩:=h
 refine loopT (fun z' w'=>J (z' 8) w') (fun z' w'=>μ (z' 8) w') h0 fun z' w' hA hI=>b7_ok R (fun z8 w1=>J z8 w1∧μ z8 w1<μ (z' 8) w') z' w' ?_
 have h1:=hr (z' 8) w' hI
 rwa [←hA.on 0,←hA.on 1,←hA.on 7] at h1
theorem l6_intro (R:EP) (x0 x1 x7 x8:Value) (w:World) (J:VP) (μ:Value→World→Nat) (h0:J x8 w)
   (hr:∀y8 w0,J y8 w0→∀C6:VP,(∀z8 w1,J z8 w1→μ z8 w1<μ y8 w0→C6 z8 w1)→b7 R C6 x0 x1 x7 y8 w0):l6 R x0 x1 x7 x8 w:=by
 unfold l6
 exact ⟨J,μ,h0,fun y8 w0 hJ=>hr y8 w0 hJ _ (fun z8 w1 h1 h2=>⟨h1,h2⟩)⟩
abbrev q4 (R:EP):XP:=QX (fun z w=>b3 R  w) (r0 R) []
theorem k5_ok (R:EP):TI prog R p2 (q4 R) fun z w=>l6 R (z 0) (z 1) (z 7) (z 8) w:=blockT 0 (l6_ok R)
def b4 (R:EP) (x0 x1:Value) (w:World) (_r:Tok R:=tok R):Prop :=
 RUN prog R (Builtin.len_ #[24] 3 #[x0]) w fun v1 w2 =>
 l6 R x0 x1 v1 (Value.int .i64 0) w2
theorem b4_ok (R:EP):TI prog R (fstC p1) (q4 R) fun z w=>b4 R (z 0) (z 1) w:=appT 0 (k5_ok R)
theorem k2_ok (R:EP):TI prog R p1 (q1 R) fun z w=>b4 R (z 0) (z 1) w:=seqT (b4_ok R) (b3_ok R)
def b1 (R:EP) (x0 x1:Value) (w:World) (_r:Tok R:=tok R):Prop :=
 b4 R x0 x1 w
theorem b1_ok (R:EP):TI prog R code (q1 R) fun z w=>b1 R (z 0) (z 1) w:=appT 0 (k2_ok R)
def run (R:EP) (a0 a1:Value) (w:World):Prop:=b1 R a0 a1 w
theorem calls (R:EP) (a0 a1:Value) (w:World) (h:run R a0 a1 w):Calls prog id #[a0,a1] w R:=cls_t func82 [a0,a1] (b1_ok R _ w h)
theorem enters:Enters prog id:=fun args w=>call82 args w
theorem ct {a0 a1:Value} {w:World} {S:VP} (h:∀R:EP,(∀v w,S v w→R (.returned v) w)→run R a0 a1 w):Ct prog id #[a0,a1] w S :=
 Ct.intro enters fun R hR=>calls R a0 a1 w (h R hR)
attribute [irreducible] l6
attribute [irreducible,go_sem] b3 b7_1 b7 b4 b1 run
end slices_Index_int_int

/-! ### slices.ContainsFunc[[]string,string] -/
namespace slices_ContainsFunc_string_string
noncomputable def code:Code:=bodyOf f56
def b1 (R:EP) (x0 x1:Value) (w:World) (_r:Tok R:=tok R):Prop :=
 CALL prog R slices_IndexFunc_string_string.id #[x0,x1] w fun v1 w2 =>
 RUN prog R (bins .geq 3 (.tmp 7) (.const (Value.int .i64 0)) v1 (Value.int .i64 0)) w2 fun v3 w4 =>
 R (.returned v3) w4
abbrev r0 (R:EP) (z:Env) (w:World):Prop:=R (.returned (z 4)) w
abbrev q1 (R:EP):XP:=QX (r0 R) (r0 R) []
theorem b1_ok (R:EP):TI prog R code (q1 R) fun z w=>b1 R (z 0) (z 1) w:=ofT
def run (R:EP) (a0 a1:Value) (w:World):Prop:=b1 R a0 a1 w
theorem calls (R:EP) (a0 a1:Value) (w:World) (h:run R a0 a1 w):Calls prog id #[a0,a1] w R:=cls_t func56 [a0,a1] (b1_ok R _ w h)
theorem enters:Enters prog id:=fun args w=>call56 args w
theorem ct {a0 a1:Value} {w:World} {S:VP} (h:∀R:EP,(∀v w,S v w→R (.returned v) w)→run R a0 a1 w):Ct prog id #[a0,a1] w S :=
 Ct.intro enters fun R hR=>calls R a0 a1 w (h R hR)
attribute [irreducible,go_sem] b1 run
end slices_ContainsFunc_string_string

/-! ### slices.IndexFunc[[]string,string] -/
namespace slices_IndexFunc_string_string
noncomputable def code:Code:=bodyOf f81
noncomputable abbrev p1:Code:=dropC 1 code

def b3 (R:EP) (w:World) (_r:Tok R:=tok R):Prop :=
 R (.returned (Value.int .i64 (-1))) w
abbrev r0 (R:EP) (z:Env) (w:World):Prop:=R (.returned (z 4)) w
abbrev q1 (R:EP):XP:=QX (r0 R) (r0 R) []
theorem b3_ok (R:EP):TI prog R (sndC p1) (q1 R) fun z w=>b3 R w:=ofT
noncomputable abbrev p2:Code:=dropC 1 (fstC p1)
noncomputable abbrev p3:Code:=loopC (blkC p2)
def b7_1 (R:EP) (C6:VP) (x0 x1 x8:Value) (w2:World) (_r:Tok R:=tok R) (_C6:Tok C6:=tok C6):Prop :=
 RUN prog R (indexAt 23 x0 x8) w2 fun v3 w4 =>
 RUN prog R (loadAt 9 v3) w4 fun v5 w6 =>
 CALLY prog R x1 [v5] w6 fun v7 w8 =>
 SPL v7
 (R (.returned x8) w8)
 (RUN prog R (bins .add 3 (.tmp 8) (.const (Value.int .i64 1)) x8 (Value.int .i64 1)) w8 fun v9 w10 =>
 C6 v9 w10)
def b7 (R:EP) (C6:VP) (x0 x1 x7 x8:Value) (w:World) (_r:Tok R:=tok R) (_C6:Tok C6:=tok C6):Prop :=
 RUN prog R (bins .lss 3 (.tmp 8) (.tmp 7) x8 x7) w fun v1 w2 =>
 SPL v1
 (b7_1 R C6 x0 x1 x8 w2)
 (b3 R w2)
abbrev q2 (R:EP) (C6:VP):XP:=QX (fun z w=>C6 (z 8) w) (r0 R) [(0,(fun z w=>b3 R  w))]
theorem b7_ok (R:EP) (C6:VP):TI prog R p3 (q2 R C6) fun z w=>b7 R C6 (z 0) (z 1) (z 7) (z 8) w:=ofT
def l6 (R:EP) (x0 x1 x7 x8:Value) (w:World) (_r:Tok R:=tok R):Prop :=
 ∃(J:VP) (μ:Value→World→Nat),J x8 w∧∀y8 w0,J y8 w0→b7 R (fun z8 w1=>J z8 w1∧μ z8 w1<μ y8 w0) x0 x1 x7 y8 w0
abbrev q3 (R:EP):XP:=QX (fun z w=>b3 R  w) (r0 R) [(0,(fun z w=>b3 R  w))]
theorem l6_ok (R:EP):TI prog R (blkC p2) (q3 R) fun z w=>l6 R (z 0) (z 1) (z 7) (z 8) w:=fun z w h=>by
 unfold l6 at h
 obtain ⟨J,μ,h0,hr⟩:=h
 refine loopT (fun z' w'=>J (z' 8) w') (fun z' w'=>μ (z' 8) w') h0 fun z' w' hA hI=>b7_ok R (fun z8 w1=>J z8 w1∧μ z8 w1<μ (z' 8) w') z' w' ?_
 have h1:=hr (z' 8) w' hI
 rwa [←hA.on 0,←hA.on 1,←hA.on 7] at h1
theorem l6_intro (R:EP) (x0 x1 x7 x8:Value) (w:World) (J:VP) (μ:Value→World→Nat) (h0:J x8 w)
   (hr:∀y8 w0,J y8 w0→∀C6:VP,(∀z8 w1,J z8 w1→μ z8 w1<μ y8 w0→C6 z8 w1)→b7 R C6 x0 x1 x7 y8 w0):l6 R x0 x1 x7 x8 w:=by
 unfold l6
 exact ⟨J,μ,h0,fun y8 w0 hJ=>hr y8 w0 hJ _ (fun z8 w1 h1 h2=>⟨h1,h2⟩)⟩
abbrev q4 (R:EP):XP:=QX (fun z w=>b3 R  w) (r0 R) []
theorem k5_ok (R:EP):TI prog R p2 (q4 R) fun z w=>l6 R (z 0) (z 1) (z 7) (z 8) w:=blockT 0 (l6_ok R)
def b4 (R:EP) (x0 x1:Value) (w:World) (_r:Tok R:=tok R):Prop :=
 RUN prog R (Builtin.len_ #[23] 3 #[x0]) w fun v1 w2 =>
 l6 R x0 x1 v1 (Value.int .i64 0) w2
theorem b4_ok (R:EP):TI prog R (fstC p1) (q4 R) fun z w=>b4 R (z 0) (z 1) w:=appT 0 (k5_ok R)
theorem k2_ok (R:EP):TI prog R p1 (q1 R) fun z w=>b4 R (z 0) (z 1) w:=seqT (b4_ok R) (b3_ok R)
def b1 (R:EP) (x0 x1:Value) (w:World) (_r:Tok R:=tok R):Prop :=
 b4 R x0 x1 w
theorem b1_ok (R:EP):TI prog R code (q1 R) fun z w=>b1 R (z 0) (z 1) w:=appT 0 (k2_ok R)
def run (R:EP) (a0 a1:Value) (w:World):Prop:=b1 R a0 a1 w
theorem calls (R:EP) (a0 a1:Value) (w:World) (h:run R a0 a1 w):Calls prog id #[a0,a1] w R:=cls_t func81 [a0,a1] (b1_ok R _ w h)
theorem enters:Enters prog id:=fun args w=>call81 args w
theorem ct {a0 a1:Value} {w:World} {S:VP} (h:∀R:EP,(∀v w,S v w→R (.returned v) w)→run R a0 a1 w):Ct prog id #[a0,a1] w S :=
 Ct.intro enters fun R hR=>calls R a0 a1 w (h R hR)
attribute [irreducible] l6
attribute [irreducible,go_sem] b3 b7_1 b7 b4 b1 run
end slices_IndexFunc_string_string
end Go.Proofs.Ytmoepnfobnpdiaa

/- Shallow programs, written by a program of ours (gen.py) off the translation; each is tied to the code by the kernel. -/
namespace Go.Proofs.Ytmoepnfobnpdiaa
open Go.Px Try Instr

/-! ### presage/presageref06.Useful -/
namespace ref06_Useful
noncomputable def code:Code:=bodyOf f20
noncomputable abbrev p1:Code:=dropC 1 code
def b3 (R:EP) (x1:Value) (w:World) (_r:Tok R:=tok R):Prop :=
 RUN prog R (loadAt 27 x1) w fun v1 w2 =>
 CALL prog R ref06_Used.id #[v1] w2 fun v3 w4 =>
 R (.returned (.tuple #[v3,(Value.int .i64 0)])) w4
abbrev r0 (R:EP) (z:Env) (w:World):Prop:=R (.returned (.tuple #[(z 2),(z 3)])) w
abbrev q1 (R:EP):XP:=QX (r0 R) (r0 R) []
theorem b3_ok (R:EP):TI prog R (sndC p1) (q1 R) fun z w=>b3 R (z 1) w:=ofT
noncomputable abbrev p2:Code:=dropC 1 (fstC p1)
def b5 (R:EP) (x1 x11:Value) (w:World) (_r:Tok R:=tok R):Prop :=
 SPL x11
 (R (.returned (.tuple #[(Value.slice Option.none 0 0),(Value.int .i64 1)])) w)
 (b3 R x1 w)
abbrev q2 (R:EP):XP:=QX (fun z w=>b3 R (z 1) w) (r0 R) []
theorem b5_ok (R:EP):TI prog R p2 (q2 R) fun z w=>b5 R (z 1) (z 11) w:=ofT
def b4_1 (R:EP) (x1:Value) (w6:World) (_r:Tok R:=tok R):Prop :=
 RUN prog R (loadAt 27 x1) w6 fun v7 w8 =>
 CALL prog R ref02_Closed.id #[v7] w8 fun v9 w10 =>
 RUN prog R (Op.unary .not v9) w10 fun v11 w12 =>
 b5 R x1 v11 w12
def b4 (R:EP) (x1:Value) (w:World) (_r:Tok R:=tok R):Prop :=
 RUN prog R (loadAt 27 x1) w fun v1 w2 =>
 CALL prog R ref02_Valid.id #[v1] w2 fun v3 w4 =>
 RUN prog R (Op.unary .not v3) w4 fun v5 w6 =>
 SPL v5
 (b4_1 R x1 w6)
 (b5 R x1 (Value.bool false) w6)
theorem b4_ok (R:EP):TI prog R (fstC p1) (q2 R) fun z w=>b4 R (z 1) w:=appT 0 (b5_ok R)
theorem k2_ok (R:EP):TI prog R p1 (q1 R) fun z w=>b4 R (z 1) w:=seqT (b4_ok R) (b3_ok R)
def b1 (R:EP) (x0:Value) (w:World) (_r:Tok R:=tok R):Prop :=
 RUN prog R (box 27 x0) w fun v1 w2 =>
 b4 R v1 w2
theorem b1_ok (R:EP):TI prog R code (q1 R) fun z w=>b1 R (z 0) w:=appT 0 (k2_ok R)
def run (R:EP) (a0:Value) (w:World):Prop:=b1 R a0 w
theorem calls (R:EP) (a0:Value) (w:World) (h:run R a0 w):Calls prog id #[a0] w R :=
 calls_of_tt (f:=id) (fn:=f20) (c:=code) (by kernel_rfl) func20 (by kernel_rfl) (by kernel_rfl) (args:=[a0]) (Nat.le_of_ble_eq_true rfl) rfl (b1_ok R (envOf [a0]) w h)
theorem enters:Enters prog id:=fun args w=>call20 args w
theorem ct {a0:Value} {w:World} {S:VP} (h:∀R:EP,(∀v w,S v w→R (.returned v) w)→run R a0 w):Ct prog id #[a0] w S :=
 Ct.intro enters fun R hR=>calls R a0 w (h R hR)
attribute [irreducible,go_sem] b3 b5 b4_1 b4 b1 run
end ref06_Useful

/-! ### presage/presageref06.Used -/
namespace ref06_Used
noncomputable def code:Code:=bodyOf f46
noncomputable abbrev p1:Code:=dropC 5 code

def b3 (R:EP) (x4:Value) (w:World) (_r:Tok R:=tok R):Prop :=
 R (.returned x4) w
abbrev r0 (R:EP) (z:Env) (w:World):Prop:=R (.returned (z 2)) w
abbrev q1 (R:EP):XP:=QX (r0 R) (r0 R) []
theorem b3_ok (R:EP):TI prog R (sndC p1) (q1 R) fun z w=>b3 R (z 4) w:=ofT
noncomputable abbrev p2:Code:=dropC 1 (fstC p1)
noncomputable abbrev p3:Code:=loopC (blkC p2)
noncomputable abbrev p4:Code:=dropC 1 p3
noncomputable abbrev p5:Code:=dropC 2 (blkC p4)
noncomputable abbrev p6:Code:=loopC (blkC p5)
noncomputable abbrev p7:Code:=dropC 1 p6

def b14 (R:EP) (C6:VP) (C11:Value→VP) (x5 x6:Value) (w:World) (_r:Tok R:=tok R) (_C6:Tok C6:=tok C6) (_C11:Tok C11:=tok C11):Prop :=
 RUN prog R (bins .add 3 (.tmp 55) (.const (Value.int .i64 1)) x6 (Value.int .i64 1)) w fun v1 w2 =>
 C11 x5 v1 w2
abbrev q2 (R:EP) (C6:VP) (C11:Value→VP):XP:=QX (fun z w=>C11 (z 5) (z 6) w) (r0 R) [(4,(fun z w=>C6 (z 5) w)),(2,(fun z w=>C6 (z 5) w)),(0,(fun z w=>b3 R (z 4) w))]
theorem b14_ok (R:EP) (C6:VP) (C11:Value→VP):TI prog R (sndC p7) (q2 R C6 C11) fun z w=>b14 R C6 C11 (z 5) (z 6) w:=ofT
noncomputable abbrev p8:Code:=blkC (fstC p7)
noncomputable abbrev p9:Code:=dropC 1 p8
noncomputable abbrev p10:Code:=dropC 1 (sndC p9)
noncomputable abbrev p11:Code:=loopC (blkC p10)
noncomputable abbrev p12:Code:=dropC 1 p11

def b23 (R:EP) (C6:VP) (C11:Value→VP) (C20:Value→VP) (x5 x8:Value) (w:World) (_r:Tok R:=tok R) (_C6:Tok C6:=tok C6) (_C11:Tok C11:=tok C11) (_C20:Tok C20:=tok C20):Prop :=
 RUN prog R (bins .add 3 (.tmp 85) (.const (Value.int .i64 1)) x8 (Value.int .i64 1)) w fun v1 w2 =>
 C20 x5 v1 w2
abbrev q3 (R:EP) (C6:VP) (C11:Value→VP) (C20:Value→VP):XP:=QX (fun z w=>C20 (z 5) (z 8) w) (r0 R) [(8,(fun z w=>b14 R C6 C11 (z 5) (z 6) w)),(6,(fun z w=>b14 R C6 C11 (z 5) (z 6) w)),(4,(fun z w=>C6 (z 5) w)),(2,(fun z w=>C6 (z 5) w)),(0,(fun z w=>b3 R (z 4) w))]
theorem b23_ok (R:EP) (C6:VP) (C11:Value→VP) (C20:Value→VP):TI prog R (sndC p12) (q3 R C6 C11 C20) fun z w=>b23 R C6 C11 C20 (z 5) (z 8) w:=ofT
noncomputable abbrev p13:Code:=blkC (fstC p12)
noncomputable abbrev p14:Code:=dropC 2 p13
def b26_1 (R:EP) (C6:VP) (C11:Value→VP) (C20:Value→VP) (x4 x8 x9:Value) (w:World) (_r:Tok R:=tok R) (_C6:Tok C6:=tok C6) (_C11:Tok C11:=tok C11) (_C20:Tok C20:=tok C20):Prop :=
 RUN prog R (indexAt 69 x4 x9) w fun v1 w2 =>
 RUNU prog R (storeAt 4 v1 (Value.bool true)) w2 fun w3 =>
 b23 R C6 C11 C20 (Value.bool true) x8 w3

def b26 (R:EP) (C6:VP) (C11:Value→VP) (C20:Value→VP) (x4 x5 x8 x9 x104:Value) (w:World) (_r:Tok R:=tok R) (_C6:Tok C6:=tok C6) (_C11:Tok C11:=tok C11) (_C20:Tok C20:=tok C20):Prop :=
 SPL x104
 (b26_1 R C6 C11 C20 x4 x8 x9 w)
 (b23 R C6 C11 C20 x5 x8 w)
abbrev q4 (R:EP) (C6:VP) (C11:Value→VP) (C20:Value→VP):XP:=QX (fun z w=>b23 R C6 C11 C20 (z 5) (z 8) w) (r0 R) [(10,(fun z w=>b23 R C6 C11 C20 (z 5) (z 8) w)),(8,(fun z w=>b14 R C6 C11 (z 5) (z 6) w)),(6,(fun z w=>b14 R C6 C11 (z 5) (z 6) w)),(4,(fun z w=>C6 (z 5) w)),(2,(fun z w=>C6 (z 5) w)),(0,(fun z w=>b3 R (z 4) w))]
theorem b26_ok (R:EP) (C6:VP) (C11:Value→VP) (C20:Value→VP):TI prog R p14 (q4 R C6 C11 C20) fun z w=>b26 R C6 C11 C20 (z 4) (z 5) (z 8) (z 9) (z 104) w:=ofT
def b25_1 (R:EP) (C6:VP) (C11:Value→VP) (C20:Value→VP) (x4 x5 x8 v8:Value) (w10:World) (_r:Tok R:=tok R) (_C6:Tok C6:=tok C6) (_C11:Tok C11:=tok C11) (_C20:Tok C20:=tok C20):Prop :=
 RUN prog R (indexAt 69 x4 v8) w10 fun v11 w12 =>
 RUN prog R (loadAt 4 v11) w12 fun v13 w14 =>
 RUN prog R (Op.unary .not v13) w14 fun v15 w16 =>
 b26 R C6 C11 C20 x4 x5 x8 v8 v15 w16

def b25 (R:EP) (C6:VP) (C11:Value→VP) (C20:Value→VP) (x1 x4 x5 x7 x8:Value) (w:World) (_r:Tok R:=tok R) (_C6:Tok C6:=tok C6) (_C11:Tok C11:=tok C11) (_C20:Tok C20:=tok C20):Prop :=
 PUR prog (fieldAt 67 x7 1) fun v1 =>
 LD prog (loadAt 24 v1) (World.drew w) fun v2 =>
 PUR prog (indexAt 24 v2 x8) fun v3 =>
 LD prog (loadAt 3 v3) (World.drew w) fun v4 =>
 PUR prog (fieldAt 27 x1 0) fun v5 =>
 LD prog (loadAt 22 v5) (World.drew w) fun v6 =>
 LD prog (Builtin.len_ #[22] 3 #[v6]) (World.drew w) fun v7 =>
 PUR prog (bins .sub 3 (.tmp 91) (.tmp 94) v4 v7) fun v8 =>
 RUN prog R (bins .geq 3 (.tmp 96) (.const (Value.int .i64 0)) v8 (Value.int .i64 0)) (World.drew w) fun v9 w10 =>
 SPL v9
 (b25_1 R C6 C11 C20 x4 x5 x8 v8 w10)
 (b26 R C6 C11 C20 x4 x5 x8 v8 (Value.bool false) w10)
theorem b25_ok (R:EP) (C6:VP) (C11:Value→VP) (C20:Value→VP):TI prog R p13 (q4 R C6 C11 C20) fun z w=>b25 R C6 C11 C20 (z 1) (z 4) (z 5) (z 7) (z 8) w:=appT 1 (b26_ok R C6 C11 C20)
abbrev q5 (R:EP) (C6:VP) (C11:Value→VP) (C20:Value→VP):XP:=QX (fun z w=>b23 R C6 C11 C20 (z 5) (z 8) w) (r0 R) [(8,(fun z w=>b14 R C6 C11 (z 5) (z 6) w)),(6,(fun z w=>b14 R C6 C11 (z 5) (z 6) w)),(4,(fun z w=>C6 (z 5) w)),(2,(fun z w=>C6 (z 5) w)),(0,(fun z w=>b3 R (z 4) w))]
theorem k24_ok (R:EP) (C6:VP) (C11:Value→VP) (C20:Value→VP):TI prog R (fstC p12) (q5 R C6 C11 C20) fun z w=>b25 R C6 C11 C20 (z 1) (z 4) (z 5) (z 7) (z 8) w:=blockT 5 (b25_ok R C6 C11 C20)
theorem k22_ok (R:EP) (C6:VP) (C11:Value→VP) (C20:Value→VP):TI prog R p12 (q3 R C6 C11 C20) fun z w=>b25 R C6 C11 C20 (z 1) (z 4) (z 5) (z 7) (z 8) w:=seqT (k24_ok R C6 C11 C20) (b23_ok R C6 C11 C20)

def b21 (R:EP) (C6:VP) (C11:Value→VP) (C20:Value→VP) (x1 x4 x5 x6 x7 x8:Value) (w:World) (_r:Tok R:=tok R) (_C6:Tok C6:=tok C6) (_C11:Tok C11:=tok C11) (_C20:Tok C20:=tok C20):Prop :=
 RUN prog R (fieldAt 67 x7 1) w fun v1 w2 =>
 RUN prog R (loadAt 24 v1) w2 fun v3 w4 =>
 RUN prog R (Builtin.len_ #[24] 3 #[v3]) w4 fun v5 w6 =>
 RUN prog R (bins .lss 3 (.tmp 80) (.tmp 83) x8 v5) w6 fun v7 w8 =>
 SPL v7
 (b25 R C6 C11 C20 x1 x4 x5 x7 x8 w8)
 (b14 R C6 C11 x5 x6 w8)
theorem b21_ok (R:EP) (C6:VP) (C11:Value→VP) (C20:Value→VP):TI prog R p11 (q3 R C6 C11 C20) fun z w=>b21 R C6 C11 C20 (z 1) (z 4) (z 5) (z 6) (z 7) (z 8) w:=appT 0 (k22_ok R C6 C11 C20)

def l20 (R:EP) (C6:VP) (C11:Value→VP) (x1 x4 x5 x6 x7 x8:Value) (w:World) (_r:Tok R:=tok R) (_C6:Tok C6:=tok C6) (_C11:Tok C11:=tok C11):Prop :=
 ∃(J:Value→VP) (μ:Value→Value→World→Nat),J x5 x8 w∧∀y5 y8 w0,J y5 y8 w0→b21 R C6 C11 (fun z5 z8 w1=>J z5 z8 w1∧μ z5 z8 w1<μ y5 y8 w0) x1 x4 y5 x6 x7 y8 w0
abbrev q6 (R:EP) (C6:VP) (C11:Value→VP):XP:=QX (fun z w=>b14 R C6 C11 (z 5) (z 6) w) (r0 R) [(8,(fun z w=>b14 R C6 C11 (z 5) (z 6) w)),(6,(fun z w=>b14 R C6 C11 (z 5) (z 6) w)),(4,(fun z w=>C6 (z 5) w)),(2,(fun z w=>C6 (z 5) w)),(0,(fun z w=>b3 R (z 4) w))]
theorem l20_ok (R:EP) (C6:VP) (C11:Value→VP):TI prog R (blkC p10) (q6 R C6 C11) fun z w=>l20 R C6 C11 (z 1) (z 4) (z 5) (z 6) (z 7) (z 8) w:=fun z w h=>by
 unfold l20 at h
 obtain ⟨J,μ,h0,hr⟩:=h
 refine loopT (fun z' w'=>J (z' 5) (z' 8) w') (fun z' w'=>μ (z' 5) (z' 8) w') h0 fun z' w' hA hI=>b21_ok R C6 C11 (fun z5 z8 w1=>J z5 z8 w1∧μ z5 z8 w1<μ (z' 5) (z' 8) w') z' w' ?_
 have h1:=hr (z' 5) (z' 8) w' hI
 rwa [←hA.on 1,←hA.on 4,←hA.on 6,←hA.on 7] at h1
theorem l20_intro (R:EP) (C6:VP) (C11:Value→VP) (x1 x4 x5 x6 x7 x8:Value) (w:World) (J:Value→VP) (μ:Value→Value→World→Nat) (h0:J x5 x8 w)
   (hr:∀y5 y8 w0,J y5 y8 w0→∀C20:Value→VP,(∀z5 z8 w1,J z5 z8 w1→μ z5 z8 w1<μ y5 y8 w0→C20 z5 z8 w1)→b21 R C6 C11 C20 x1 x4 y5 x6 x7 y8 w0):l20 R C6 C11 x1 x4 x5 x6 x7 x8 w:=by
 unfold l20
 exact ⟨J,μ,h0,fun y5 y8 w0 hJ=>hr y5 y8 w0 hJ _ (fun z5 z8 w1 h1 h2=>⟨h1,h2⟩)⟩
abbrev q7 (R:EP) (C6:VP) (C11:Value→VP):XP:=QX (fun z w=>b14 R C6 C11 (z 5) (z 6) w) (r0 R) [(6,(fun z w=>b14 R C6 C11 (z 5) (z 6) w)),(4,(fun z w=>C6 (z 5) w)),(2,(fun z w=>C6 (z 5) w)),(0,(fun z w=>b3 R (z 4) w))]
theorem k19_ok (R:EP) (C6:VP) (C11:Value→VP):TI prog R p10 (q7 R C6 C11) fun z w=>l20 R C6 C11 (z 1) (z 4) (z 5) (z 6) (z 7) (z 8) w:=blockT 4 (l20_ok R C6 C11)

def b18 (R:EP) (C6:VP) (C11:Value→VP) (x1 x4 x5 x6 x7:Value) (w:World) (_r:Tok R:=tok R) (_C6:Tok C6:=tok C6) (_C11:Tok C11:=tok C11):Prop :=
 l20 R C6 C11 x1 x4 x5 x6 x7 (Value.int .i64 0) w
theorem b18_ok (R:EP) (C6:VP) (C11:Value→VP):TI prog R (sndC p9) (q7 R C6 C11) fun z w=>b18 R C6 C11 (z 1) (z 4) (z 5) (z 6) (z 7) w:=appT 0 (k19_ok R C6 C11)
noncomputable abbrev p15:Code:=dropC 1 (fstC p9)

def b28 (R:EP) (C6:VP) (C11:Value→VP) (x1 x4 x5 x6 x7 x79:Value) (w:World) (_r:Tok R:=tok R) (_C6:Tok C6:=tok C6) (_C11:Tok C11:=tok C11):Prop :=
 SPL x79
 (b14 R C6 C11 x5 x6 w)
 (b18 R C6 C11 x1 x4 x5 x6 x7 w)
abbrev q8 (R:EP) (C6:VP) (C11:Value→VP):XP:=QX (fun z w=>b18 R C6 C11 (z 1) (z 4) (z 5) (z 6) (z 7) w) (r0 R) [(6,(fun z w=>b14 R C6 C11 (z 5) (z 6) w)),(4,(fun z w=>C6 (z 5) w)),(2,(fun z w=>C6 (z 5) w)),(0,(fun z w=>b3 R (z 4) w))]
theorem b28_ok (R:EP) (C6:VP) (C11:Value→VP):TI prog R p15 (q8 R C6 C11) fun z w=>b28 R C6 C11 (z 1) (z 4) (z 5) (z 6) (z 7) (z 79) w:=ofT
def b27_1 (R:EP) (C6:VP) (C11:Value→VP) (x1 x3 x4 x5 x6 x7:Value) (w18:World) (_r:Tok R:=tok R) (_C6:Tok C6:=tok C6) (_C11:Tok C11:=tok C11):Prop :=
 RUN prog R (loadAt 27 x1) w18 fun v19 w20 =>
 RUN prog R (fieldAt 67 x7 1) w20 fun v21 w22 =>
 RUN prog R (loadAt 24 v21) w22 fun v23 w24 =>
 CALL prog R ref06_Fits.id #[v19,x3,v23] w24 fun v25 w26 =>
 RUN prog R (Op.unary .not v25) w26 fun v27 w28 =>
 b28 R C6 C11 x1 x4 x5 x6 x7 v27 w28

def b27 (R:EP) (C6:VP) (C11:Value→VP) (x1 x3 x4 x5 x6 x7:Value) (w:World) (_r:Tok R:=tok R) (_C6:Tok C6:=tok C6) (_C11:Tok C11:=tok C11):Prop :=
 RUN prog R (fieldAt 67 x7 0) w fun v1 w2 =>
 RUN prog R (loadAt 3 v1) w2 fun v3 w4 =>
 RUN prog R (fieldAt 27 x1 0) w4 fun v5 w6 =>
 RUN prog R (loadAt 22 v5) w6 fun v7 w8 =>
 RUN prog R (Builtin.len_ #[22] 3 #[v7]) w8 fun v9 w10 =>
 RUN prog R (bins .sub 3 (.tmp 64) (.tmp 67) v3 v9) w10 fun v11 w12 =>
 RUN prog R (indexAt 69 x4 v11) w12 fun v13 w14 =>
 RUN prog R (loadAt 4 v13) w14 fun v15 w16 =>
 RUN prog R (Op.unary .not v15) w16 fun v17 w18 =>
 SPL v17
 (b28 R C6 C11 x1 x4 x5 x6 x7 (Value.bool true) w18)
 (b27_1 R C6 C11 x1 x3 x4 x5 x6 x7 w18)
theorem b27_ok (R:EP) (C6:VP) (C11:Value→VP):TI prog R (fstC p9) (q8 R C6 C11) fun z w=>b27 R C6 C11 (z 1) (z 3) (z 4) (z 5) (z 6) (z 7) w:=appT 0 (b28_ok R C6 C11)
theorem k17_ok (R:EP) (C6:VP) (C11:Value→VP):TI prog R p9 (q7 R C6 C11) fun z w=>b27 R C6 C11 (z 1) (z 3) (z 4) (z 5) (z 6) (z 7) w:=seqT (b27_ok R C6 C11) (b18_ok R C6 C11)

def b16 (R:EP) (C6:VP) (C11:Value→VP) (x1 x3 x4 x5 x6:Value) (w:World) (_r:Tok R:=tok R) (_C6:Tok C6:=tok C6) (_C11:Tok C11:=tok C11):Prop :=
 RUN prog R (fieldAt 27 x1 4) w fun v1 w2 =>
 RUN prog R (loadAt 25 v1) w2 fun v3 w4 =>
 RUN prog R (indexAt 25 v3 x6) w4 fun v5 w6 =>
 RUN prog R (loadAt 67 v5) w6 fun v7 w8 =>
 RUN prog R (alloc 67 true (.tuple #[])) w8 fun v9 w10 =>
 RUNU prog R (storeAt 67 v9 v7) w10 fun w11 =>
 b27 R C6 C11 x1 x3 x4 x5 x6 v9 w11
theorem b16_ok (R:EP) (C6:VP) (C11:Value→VP):TI prog R p8 (q7 R C6 C11) fun z w=>b16 R C6 C11 (z 1) (z 3) (z 4) (z 5) (z 6) w:=appT 0 (k17_ok R C6 C11)
abbrev q9 (R:EP) (C6:VP) (C11:Value→VP):XP:=QX (fun z w=>b14 R C6 C11 (z 5) (z 6) w) (r0 R) [(4,(fun z w=>C6 (z 5) w)),(2,(fun z w=>C6 (z 5) w)),(0,(fun z w=>b3 R (z 4) w))]
theorem k15_ok (R:EP) (C6:VP) (C11:Value→VP):TI prog R (fstC p7) (q9 R C6 C11) fun z w=>b16 R C6 C11 (z 1) (z 3) (z 4) (z 5) (z 6) w:=blockT 3 (b16_ok R C6 C11)
theorem k13_ok (R:EP) (C6:VP) (C11:Value→VP):TI prog R p7 (q2 R C6 C11) fun z w=>b16 R C6 C11 (z 1) (z 3) (z 4) (z 5) (z 6) w:=seqT (k15_ok R C6 C11) (b14_ok R C6 C11)

def b12 (R:EP) (C6:VP) (C11:Value→VP) (x1 x3 x4 x5 x6:Value) (w:World) (_r:Tok R:=tok R) (_C6:Tok C6:=tok C6) (_C11:Tok C11:=tok C11):Prop :=
 RUN prog R (fieldAt 27 x1 4) w fun v1 w2 =>
 RUN prog R (loadAt 25 v1) w2 fun v3 w4 =>
 RUN prog R (Builtin.len_ #[25] 3 #[v3]) w4 fun v5 w6 =>
 RUN prog R (bins .lss 3 (.tmp 50) (.tmp 53) x6 v5) w6 fun v7 w8 =>
 SPL v7
 (b16 R C6 C11 x1 x3 x4 x5 x6 w8)
 (C6 x5 w8)
theorem b12_ok (R:EP) (C6:VP) (C11:Value→VP):TI prog R p6 (q2 R C6 C11) fun z w=>b12 R C6 C11 (z 1) (z 3) (z 4) (z 5) (z 6) w:=appT 0 (k13_ok R C6 C11)

def l11 (R:EP) (C6:VP) (x1 x3 x4 x5 x6:Value) (w:World) (_r:Tok R:=tok R) (_C6:Tok C6:=tok C6):Prop :=
 ∃(J:Value→VP) (μ:Value→Value→World→Nat),J x5 x6 w∧∀y5 y6 w0,J y5 y6 w0→b12 R C6 (fun z5 z6 w1=>J z5 z6 w1∧μ z5 z6 w1<μ y5 y6 w0) x1 x3 x4 y5 y6 w0
abbrev q10 (R:EP) (C6:VP):XP:=QX (fun z w=>C6 (z 5) w) (r0 R) [(4,(fun z w=>C6 (z 5) w)),(2,(fun z w=>C6 (z 5) w)),(0,(fun z w=>b3 R (z 4) w))]
theorem l11_ok (R:EP) (C6:VP):TI prog R (blkC p5) (q10 R C6) fun z w=>l11 R C6 (z 1) (z 3) (z 4) (z 5) (z 6) w:=fun z w h=>by
 unfold l11 at h
 obtain ⟨J,μ,h0,hr⟩:=h
 refine loopT (fun z' w'=>J (z' 5) (z' 6) w') (fun z' w'=>μ (z' 5) (z' 6) w') h0 fun z' w' hA hI=>b12_ok R C6 (fun z5 z6 w1=>J z5 z6 w1∧μ z5 z6 w1<μ (z' 5) (z' 6) w') z' w' ?_
 have h1:=hr (z' 5) (z' 6) w' hI
 rwa [←hA.on 1,←hA.on 3,←hA.on 4] at h1
theorem l11_intro (R:EP) (C6:VP) (x1 x3 x4 x5 x6:Value) (w:World) (J:Value→VP) (μ:Value→Value→World→Nat) (h0:J x5 x6 w)
   (hr:∀y5 y6 w0,J y5 y6 w0→∀C11:Value→VP,(∀z5 z6 w1,J z5 z6 w1→μ z5 z6 w1<μ y5 y6 w0→C11 z5 z6 w1)→b12 R C6 C11 x1 x3 x4 y5 y6 w0):l11 R C6 x1 x3 x4 x5 x6 w:=by
 unfold l11
 exact ⟨J,μ,h0,fun y5 y6 w0 hJ=>hr y5 y6 w0 hJ _ (fun z5 z6 w1 h1 h2=>⟨h1,h2⟩)⟩
abbrev q11 (R:EP) (C6:VP):XP:=QX (fun z w=>C6 (z 5) w) (r0 R) [(2,(fun z w=>C6 (z 5) w)),(0,(fun z w=>b3 R (z 4) w))]
theorem k10_ok (R:EP) (C6:VP):TI prog R p5 (q11 R C6) fun z w=>l11 R C6 (z 1) (z 3) (z 4) (z 5) (z 6) w:=blockT 2 (l11_ok R C6)

def b9 (R:EP) (C6:VP) (x1 x3 x4:Value) (w:World) (_r:Tok R:=tok R) (_C6:Tok C6:=tok C6):Prop :=
 l11 R C6 x1 x3 x4 (Value.bool false) (Value.int .i64 0) w
theorem b9_ok (R:EP) (C6:VP):TI prog R (blkC p4) (q11 R C6) fun z w=>b9 R C6 (z 1) (z 3) (z 4) w:=appT 1 (k10_ok R C6)
abbrev q12 (R:EP) (C6:VP):XP:=QX (fun z w=>C6 (z 5) w) (r0 R) [(0,(fun z w=>b3 R (z 4) w))]
theorem k8_ok (R:EP) (C6:VP):TI prog R p4 (q12 R C6) fun z w=>b9 R C6 (z 1) (z 3) (z 4) w:=blockT 1 (b9_ok R C6)

def b7 (R:EP) (C6:VP) (x1 x3 x4 x5:Value) (w:World) (_r:Tok R:=tok R) (_C6:Tok C6:=tok C6):Prop :=
 SPL x5
 (b9 R C6 x1 x3 x4 w)
 (b3 R x4 w)
theorem b7_ok (R:EP) (C6:VP):TI prog R p3 (q12 R C6) fun z w=>b7 R C6 (z 1) (z 3) (z 4) (z 5) w:=appT 0 (k8_ok R C6)

def l6 (R:EP) (x1 x3 x4 x5:Value) (w:World) (_r:Tok R:=tok R):Prop :=
 ∃(J:VP) (μ:Value→World→Nat),J x5 w∧∀y5 w0,J y5 w0→b7 R (fun z5 w1=>J z5 w1∧μ z5 w1<μ y5 w0) x1 x3 x4 y5 w0
abbrev q13 (R:EP):XP:=QX (fun z w=>b3 R (z 4) w) (r0 R) [(0,(fun z w=>b3 R (z 4) w))]
theorem l6_ok (R:EP):TI prog R (blkC p2) (q13 R) fun z w=>l6 R (z 1) (z 3) (z 4) (z 5) w:=fun z w h=>by
 unfold l6 at h
 obtain ⟨J,μ,h0,hr⟩:=h
 refine loopT (fun z' w'=>J (z' 5) w') (fun z' w'=>μ (z' 5) w') h0 fun z' w' hA hI=>b7_ok R (fun z5 w1=>J z5 w1∧μ z5 w1<μ (z' 5) w') z' w' ?_
 have h1:=hr (z' 5) w' hI
 rwa [←hA.on 1,←hA.on 3,←hA.on 4] at h1
theorem l6_intro (R:EP) (x1 x3 x4 x5:Value) (w:World) (J:VP) (μ:Value→World→Nat) (h0:J x5 w)
   (hr:∀y5 w0,J y5 w0→∀C6:VP,(∀z5 w1,J z5 w1→μ z5 w1<μ y5 w0→C6 z5 w1)→b7 R C6 x1 x3 x4 y5 w0):l6 R x1 x3 x4 x5 w:=by
 unfold l6
 exact ⟨J,μ,h0,fun y5 w0 hJ=>hr y5 w0 hJ _ (fun z5 w1 h1 h2=>⟨h1,h2⟩)⟩
abbrev q14 (R:EP):XP:=QX (fun z w=>b3 R (z 4) w) (r0 R) []
theorem k5_ok (R:EP):TI prog R p2 (q14 R) fun z w=>l6 R (z 1) (z 3) (z 4) (z 5) w:=blockT 0 (l6_ok R)

def b4 (R:EP) (x1 x3 x4:Value) (w:World) (_r:Tok R:=tok R):Prop :=
 l6 R x1 x3 x4 (Value.bool true) w
theorem b4_ok (R:EP):TI prog R (fstC p1) (q14 R) fun z w=>b4 R (z 1) (z 3) (z 4) w:=appT 0 (k5_ok R)
theorem k2_ok (R:EP):TI prog R p1 (q1 R) fun z w=>b4 R (z 1) (z 3) (z 4) w:=seqT (b4_ok R) (b3_ok R)
def b1_1 (R:EP) (v1 v5 v13:Value) (w40:World) (_r:Tok R:=tok R):Prop :=
 RUN prog R (fieldAt 27 v1 3) w40 fun v41 w42 =>
 RUN prog R (loadAt 3 v41) w42 fun v43 w44 =>
 RUN prog R (fieldAt 27 v1 0) w44 fun v45 w46 =>
 RUN prog R (loadAt 22 v45) w46 fun v47 w48 =>
 RUN prog R (Builtin.len_ #[22] 3 #[v47]) w48 fun v49 w50 =>
 RUN prog R (bins .sub 3 (.tmp 41) (.tmp 44) v43 v49) w50 fun v51 w52 =>
 RUN prog R (indexAt 69 v5 v51) w52 fun v53 w54 =>
 RUN prog R (loadAt 4 v53) w54 fun v55 w56 =>
 RUN prog R (indexAt 69 v13 (Value.int .i64 0)) w56 fun v57 w58 =>
 RUNU prog R (storeAt 4 v57 v55) w58 fun w59 =>
 b4 R v1 v5 v13 w59
def b1_2 (R:EP) (v1 v5:Value) (w6:World) (_r:Tok R:=tok R):Prop :=
 RUN prog R (fieldAt 27 v1 1) w6 fun v7 w8 =>
 RUN prog R (loadAt 23 v7) w8 fun v9 w10 =>
 RUN prog R (Builtin.len_ #[23] 3 #[v9]) w10 fun v11 w12 =>
 RUN prog R (makeSlice 69 v11 v11) w12 fun v13 w14 =>
 PUR prog (fieldAt 27 v1 3) fun v15 =>
 LD prog (loadAt 3 v15) (World.drew w14) fun v16 =>
 PUR prog (fieldAt 27 v1 0) fun v17 =>
 LD prog (loadAt 22 v17) (World.drew w14) fun v18 =>
 LD prog (Builtin.len_ #[22] 3 #[v18]) (World.drew w14) fun v19 =>
 PUR prog (bins .sub 3 (.tmp 18) (.tmp 21) v16 v19) fun v20 =>
 PUR prog (fieldAt 27 v1 3) fun v21 =>
 LD prog (loadAt 3 v21) (World.drew w14) fun v22 =>
 PUR prog (fieldAt 27 v1 0) fun v23 =>
 LD prog (loadAt 22 v23) (World.drew w14) fun v24 =>
 LD prog (Builtin.len_ #[22] 3 #[v24]) (World.drew w14) fun v25 =>
 PUR prog (bins .sub 3 (.tmp 25) (.tmp 28) v22 v25) fun v26 =>
 PUR prog (indexAt 69 v5 v26) fun v27 =>
 LD prog (loadAt 4 v27) (World.drew w14) fun v28 =>
 PUR prog (indexAt 69 v13 v20) fun v29 =>
 RUNU prog R (storeAt 4 v29 v28) (World.drew w14) fun w30 =>
 RUN prog R (fieldAt 27 v1 1) w30 fun v31 w32 =>
 RUN prog R (loadAt 23 v31) w32 fun v33 w34 =>
 RUN prog R (indexAt 23 v33 (Value.int .i64 0)) w34 fun v35 w36 =>
 RUN prog R (loadAt 9 v35) w36 fun v37 w38 =>
 RUN prog R (bins .eql 9 (.tmp 36) (.const (Value.string ⟨#[]⟩)) v37 (Value.string ⟨#[]⟩)) w38 fun v39 w40 =>
 SPL v39
 (b1_1 R v1 v5 v13 w40)
 (b4 R v1 v5 v13 w40)

def b1 (R:EP) (x0:Value) (w:World) (_r:Tok R:=tok R):Prop :=
 RUN prog R (box 27 x0) w fun v1 w2 =>
 RUN prog R (loadAt 27 v1) w2 fun v3 w4 =>
 CALL prog R ref06_Marks.id #[v3] w4 fun v5 w6 =>
 b1_2 R v1 v5 w6
theorem b1_ok (R:EP):TI prog R code (q1 R) fun z w=>b1 R (z 0) w:=appT 4 (k2_ok R)
def run (R:EP) (a0:Value) (w:World):Prop:=b1 R a0 w
theorem calls (R:EP) (a0:Value) (w:World) (h:run R a0 w):Calls prog id #[a0] w R:=cls_t func46 [a0] (b1_ok R _ w h)
theorem enters:Enters prog id:=fun args w=>call46 args w
theorem ct {a0:Value} {w:World} {S:VP} (h:∀R:EP,(∀v w,S v w→R (.returned v) w)→run R a0 w):Ct prog id #[a0] w S :=
 Ct.intro enters fun R hR=>calls R a0 w (h R hR)
attribute [irreducible] l20 l11 l6
attribute [irreducible,go_sem] b3 b14 b23 b26_1 b26 b25_1 b25 b21 b18 b28 b27_1 b27 b16 b12 b9 b7 b4 b1_1 b1_2 b1 run
end ref06_Used

/-! ### presage/presageref06.Marks -/
namespace ref06_Marks
noncomputable def code:Code:=bodyOf f75
noncomputable abbrev p1:Code:=dropC 2 code
def b3 (R:EP) (x3:Value) (w:World) (_r:Tok R:=tok R):Prop :=
 R (.returned x3) w
abbrev r0 (R:EP) (z:Env) (w:World):Prop:=R (.returned (z 2)) w
abbrev q1 (R:EP):XP:=QX (r0 R) (r0 R) []
theorem b3_ok (R:EP):TI prog R (sndC p1) (q1 R) fun z w=>b3 R (z 3) w:=ofT
noncomputable abbrev p2:Code:=dropC 1 (fstC p1)
noncomputable abbrev p3:Code:=loopC (blkC p2)
noncomputable abbrev p4:Code:=dropC 1 p3
noncomputable abbrev p5:Code:=dropC 2 (blkC p4)
noncomputable abbrev p6:Code:=loopC (blkC p5)
noncomputable abbrev p7:Code:=dropC 1 p6
def b14 (R:EP) (C6:VP) (C11:Value→VP) (x4 x5:Value) (w:World) (_r:Tok R:=tok R) (_C6:Tok C6:=tok C6) (_C11:Tok C11:=tok C11):Prop :=
 RUN prog R (bins .add 3 (.tmp 17) (.const (Value.int .i64 1)) x5 (Value.int .i64 1)) w fun v1 w2 =>
 C11 x4 v1 w2
abbrev q2 (R:EP) (C6:VP) (C11:Value→VP):XP:=QX (fun z w=>C11 (z 4) (z 5) w) (r0 R) [(4,(fun z w=>C6 (z 4) w)),(2,(fun z w=>C6 (z 4) w)),(0,(fun z w=>b3 R (z 3) w))]
theorem b14_ok (R:EP) (C6:VP) (C11:Value→VP):TI prog R (sndC p7) (q2 R C6 C11) fun z w=>b14 R C6 C11 (z 4) (z 5) w:=ofT
noncomputable abbrev p8:Code:=blkC (fstC p7)
noncomputable abbrev p9:Code:=dropC 2 p8
def b17_1 (R:EP) (C6:VP) (C11:Value→VP) (x1 x3 x5 x6:Value) (w:World) (_r:Tok R:=tok R) (_C6:Tok C6:=tok C6) (_C11:Tok C11:=tok C11):Prop :=
 RUN prog R (fieldAt 67 x6 0) w fun v1 w2 =>
 RUN prog R (loadAt 3 v1) w2 fun v3 w4 =>
 RUN prog R (fieldAt 27 x1 0) w4 fun v5 w6 =>
 RUN prog R (loadAt 22 v5) w6 fun v7 w8 =>
 RUN prog R (Builtin.len_ #[22] 3 #[v7]) w8 fun v9 w10 =>
 RUN prog R (bins .sub 3 (.tmp 43) (.tmp 46) v3 v9) w10 fun v11 w12 =>
 RUN prog R (indexAt 69 x3 v11) w12 fun v13 w14 =>
 RUNU prog R (storeAt 4 v13 (Value.bool true)) w14 fun w15 =>
 b14 R C6 C11 (Value.bool true) x5 w15
def b17 (R:EP) (C6:VP) (C11:Value→VP) (x1 x3 x4 x5 x6 x40:Value) (w:World) (_r:Tok R:=tok R) (_C6:Tok C6:=tok C6) (_C11:Tok C11:=tok C11):Prop :=
 SPL x40
 (b17_1 R C6 C11 x1 x3 x5 x6 w)
 (b14 R C6 C11 x4 x5 w)
abbrev q3 (R:EP) (C6:VP) (C11:Value→VP):XP:=QX (fun z w=>b14 R C6 C11 (z 4) (z 5) w) (r0 R) [(6,(fun z w=>b14 R C6 C11 (z 4) (z 5) w)),(4,(fun z w=>C6 (z 4) w)),(2,(fun z w=>C6 (z 4) w)),(0,(fun z w=>b3 R (z 3) w))]
theorem b17_ok (R:EP) (C6:VP) (C11:Value→VP):TI prog R p9 (q3 R C6 C11) fun z w=>b17 R C6 C11 (z 1) (z 3) (z 4) (z 5) (z 6) (z 40) w:=ofT
def b16_1 (R:EP) (C6:VP) (C11:Value→VP) (x1 x3 x4 x5 v9:Value) (w29:World) (_r:Tok R:=tok R) (_C6:Tok C6:=tok C6) (_C11:Tok C11:=tok C11):Prop :=
 RUN prog R (loadAt 27 x1) w29 fun v30 w31 =>
 RUN prog R (fieldAt 67 v9 1) w31 fun v32 w33 =>
 RUN prog R (loadAt 24 v32) w33 fun v34 w35 =>
 CALL prog R ref06_Fits.id #[v30,x3,v34] w35 fun v36 w37 =>
 b17 R C6 C11 x1 x3 x4 x5 v9 v36 w37
def b16 (R:EP) (C6:VP) (C11:Value→VP) (x1 x3 x4 x5:Value) (w:World) (_r:Tok R:=tok R) (_C6:Tok C6:=tok C6) (_C11:Tok C11:=tok C11):Prop :=
 RUN prog R (fieldAt 27 x1 4) w fun v1 w2 =>
 RUN prog R (loadAt 25 v1) w2 fun v3 w4 =>
 RUN prog R (indexAt 25 v3 x5) w4 fun v5 w6 =>
 RUN prog R (loadAt 67 v5) w6 fun v7 w8 =>
 RUN prog R (alloc 67 true (.tuple #[])) w8 fun v9 w10 =>
 RUNU prog R (storeAt 67 v9 v7) w10 fun w11 =>
 RUN prog R (fieldAt 67 v9 0) w11 fun v12 w13 =>
 RUN prog R (loadAt 3 v12) w13 fun v14 w15 =>
 RUN prog R (fieldAt 27 x1 0) w15 fun v16 w17 =>
 RUN prog R (loadAt 22 v16) w17 fun v18 w19 =>
 RUN prog R (Builtin.len_ #[22] 3 #[v18]) w19 fun v20 w21 =>
 RUN prog R (bins .sub 3 (.tmp 26) (.tmp 29) v14 v20) w21 fun v22 w23 =>
 RUN prog R (indexAt 69 x3 v22) w23 fun v24 w25 =>
 RUN prog R (loadAt 4 v24) w25 fun v26 w27 =>
 RUN prog R (Op.unary .not v26) w27 fun v28 w29 =>
 SPL v28
 (b16_1 R C6 C11 x1 x3 x4 x5 v9 w29)
 (b17 R C6 C11 x1 x3 x4 x5 v9 (Value.bool false) w29)
theorem b16_ok (R:EP) (C6:VP) (C11:Value→VP):TI prog R p8 (q3 R C6 C11) fun z w=>b16 R C6 C11 (z 1) (z 3) (z 4) (z 5) w:=appT 1 (b17_ok R C6 C11)
abbrev q4 (R:EP) (C6:VP) (C11:Value→VP):XP:=QX (fun z w=>b14 R C6 C11 (z 4) (z 5) w) (r0 R) [(4,(fun z w=>C6 (z 4) w)),(2,(fun z w=>C6 (z 4) w)),(0,(fun z w=>b3 R (z 3) w))]
theorem k15_ok (R:EP) (C6:VP) (C11:Value→VP):TI prog R (fstC p7) (q4 R C6 C11) fun z w=>b16 R C6 C11 (z 1) (z 3) (z 4) (z 5) w:=blockT 3 (b16_ok R C6 C11)
theorem k13_ok (R:EP) (C6:VP) (C11:Value→VP):TI prog R p7 (q2 R C6 C11) fun z w=>b16 R C6 C11 (z 1) (z 3) (z 4) (z 5) w:=seqT (k15_ok R C6 C11) (b14_ok R C6 C11)
def b12 (R:EP) (C6:VP) (C11:Value→VP) (x1 x3 x4 x5:Value) (w:World) (_r:Tok R:=tok R) (_C6:Tok C6:=tok C6) (_C11:Tok C11:=tok C11):Prop :=
 RUN prog R (fieldAt 27 x1 4) w fun v1 w2 =>
 RUN prog R (loadAt 25 v1) w2 fun v3 w4 =>
 RUN prog R (Builtin.len_ #[25] 3 #[v3]) w4 fun v5 w6 =>
 RUN prog R (bins .lss 3 (.tmp 12) (.tmp 15) x5 v5) w6 fun v7 w8 =>
 SPL v7
 (b16 R C6 C11 x1 x3 x4 x5 w8)
 (C6 x4 w8)
theorem b12_ok (R:EP) (C6:VP) (C11:Value→VP):TI prog R p6 (q2 R C6 C11) fun z w=>b12 R C6 C11 (z 1) (z 3) (z 4) (z 5) w:=appT 0 (k13_ok R C6 C11)
def l11 (R:EP) (C6:VP) (x1 x3 x4 x5:Value) (w:World) (_r:Tok R:=tok R) (_C6:Tok C6:=tok C6):Prop :=
 ∃(J:Value→VP) (μ:Value→Value→World→Nat),J x4 x5 w∧∀y4 y5 w0,J y4 y5 w0→b12 R C6 (fun z4 z5 w1=>J z4 z5 w1∧μ z4 z5 w1<μ y4 y5 w0) x1 x3 y4 y5 w0
abbrev q5 (R:EP) (C6:VP):XP:=QX (fun z w=>C6 (z 4) w) (r0 R) [(4,(fun z w=>C6 (z 4) w)),(2,(fun z w=>C6 (z 4) w)),(0,(fun z w=>b3 R (z 3) w))]
theorem l11_ok (R:EP) (C6:VP):TI prog R (blkC p5) (q5 R C6) fun z w=>l11 R C6 (z 1) (z 3) (z 4) (z 5) w:=fun z w h=>by
 unfold l11 at h
 obtain ⟨J,μ,h0,hr⟩:=h
 refine loopT (fun z' w'=>J (z' 4) (z' 5) w') (fun z' w'=>μ (z' 4) (z' 5) w') h0 fun z' w' hA hI=>b12_ok R C6 (fun z4 z5 w1=>J z4 z5 w1∧μ z4 z5 w1<μ (z' 4) (z' 5) w') z' w' ?_
 have h1:=hr (z' 4) (z' 5) w' hI
 rwa [←hA.on 1,←hA.on 3] at h1
theorem l11_intro (R:EP) (C6:VP) (x1 x3 x4 x5:Value) (w:World) (J:Value→VP) (μ:Value→Value→World→Nat) (h0:J x4 x5 w)
   (hr:∀y4 y5 w0,J y4 y5 w0→∀C11:Value→VP,(∀z4 z5 w1,J z4 z5 w1→μ z4 z5 w1<μ y4 y5 w0→C11 z4 z5 w1)→b12 R C6 C11 x1 x3 y4 y5 w0):l11 R C6 x1 x3 x4 x5 w:=by
 unfold l11
 exact ⟨J,μ,h0,fun y4 y5 w0 hJ=>hr y4 y5 w0 hJ _ (fun z4 z5 w1 h1 h2=>⟨h1,h2⟩)⟩
abbrev q6 (R:EP) (C6:VP):XP:=QX (fun z w=>C6 (z 4) w) (r0 R) [(2,(fun z w=>C6 (z 4) w)),(0,(fun z w=>b3 R (z 3) w))]
theorem k10_ok (R:EP) (C6:VP):TI prog R p5 (q6 R C6) fun z w=>l11 R C6 (z 1) (z 3) (z 4) (z 5) w:=blockT 2 (l11_ok R C6)
def b9 (R:EP) (C6:VP) (x1 x3:Value) (w:World) (_r:Tok R:=tok R) (_C6:Tok C6:=tok C6):Prop :=
 l11 R C6 x1 x3 (Value.bool false) (Value.int .i64 0) w
theorem b9_ok (R:EP) (C6:VP):TI prog R (blkC p4) (q6 R C6) fun z w=>b9 R C6 (z 1) (z 3) w:=appT 1 (k10_ok R C6)
abbrev q7 (R:EP) (C6:VP):XP:=QX (fun z w=>C6 (z 4) w) (r0 R) [(0,(fun z w=>b3 R (z 3) w))]
theorem k8_ok (R:EP) (C6:VP):TI prog R p4 (q7 R C6) fun z w=>b9 R C6 (z 1) (z 3) w:=blockT 1 (b9_ok R C6)
def b7 (R:EP) (C6:VP) (x1 x3 x4:Value) (w:World) (_r:Tok R:=tok R) (_C6:Tok C6:=tok C6):Prop :=
 SPL x4
 (b9 R C6 x1 x3 w)
 (b3 R x3 w)
theorem b7_ok (R:EP) (C6:VP):TI prog R p3 (q7 R C6) fun z w=>b7 R C6 (z 1) (z 3) (z 4) w:=appT 0 (k8_ok R C6)
def l6 (R:EP) (x1 x3 x4:Value) (w:World) (_r:Tok R:=tok R):Prop :=
 ∃(J:VP) (μ:Value→World→Nat),J x4 w∧∀y4 w0,J y4 w0→b7 R (fun z4 w1=>J z4 w1∧μ z4 w1<μ y4 w0) x1 x3 y4 w0
abbrev q8 (R:EP):XP:=QX (fun z w=>b3 R (z 3) w) (r0 R) [(0,(fun z w=>b3 R (z 3) w))]
theorem l6_ok (R:EP):TI prog R (blkC p2) (q8 R) fun z w=>l6 R (z 1) (z 3) (z 4) w:=fun z w h=>by
 unfold l6 at h
 obtain ⟨J,μ,h0,hr⟩:=h
 refine loopT (fun z' w'=>J (z' 4) w') (fun z' w'=>μ (z' 4) w') h0 fun z' w' hA hI=>b7_ok R (fun z4 w1=>J z4 w1∧μ z4 w1<μ (z' 4) w') z' w' ?_
 have h1:=hr (z' 4) w' hI
 rwa [←hA.on 1,←hA.on 3] at h1
theorem l6_intro (R:EP) (x1 x3 x4:Value) (w:World) (J:VP) (μ:Value→World→Nat) (h0:J x4 w)
   (hr:∀y4 w0,J y4 w0→∀C6:VP,(∀z4 w1,J z4 w1→μ z4 w1<μ y4 w0→C6 z4 w1)→b7 R C6 x1 x3 y4 w0):l6 R x1 x3 x4 w:=by
 unfold l6
 exact ⟨J,μ,h0,fun y4 w0 hJ=>hr y4 w0 hJ _ (fun z4 w1 h1 h2=>⟨h1,h2⟩)⟩
abbrev q9 (R:EP):XP:=QX (fun z w=>b3 R (z 3) w) (r0 R) []
theorem k5_ok (R:EP):TI prog R p2 (q9 R) fun z w=>l6 R (z 1) (z 3) (z 4) w:=blockT 0 (l6_ok R)
def b4 (R:EP) (x1 x3:Value) (w:World) (_r:Tok R:=tok R):Prop :=
 l6 R x1 x3 (Value.bool true) w
theorem b4_ok (R:EP):TI prog R (fstC p1) (q9 R) fun z w=>b4 R (z 1) (z 3) w:=appT 0 (k5_ok R)
theorem k2_ok (R:EP):TI prog R p1 (q1 R) fun z w=>b4 R (z 1) (z 3) w:=seqT (b4_ok R) (b3_ok R)
def b1 (R:EP) (x0:Value) (w:World) (_r:Tok R:=tok R):Prop :=
 RUN prog R (box 27 x0) w fun v1 w2 =>
 RUN prog R (fieldAt 27 v1 1) w2 fun v3 w4 =>
 RUN prog R (loadAt 23 v3) w4 fun v5 w6 =>
 RUN prog R (Builtin.len_ #[23] 3 #[v5]) w6 fun v7 w8 =>
 RUN prog R (makeSlice 69 v7 v7) w8 fun v9 w10 =>
 b4 R v1 v9 w10
theorem b1_ok (R:EP):TI prog R code (q1 R) fun z w=>b1 R (z 0) w:=appT 1 (k2_ok R)
def run (R:EP) (a0:Value) (w:World):Prop:=b1 R a0 w
theorem calls (R:EP) (a0:Value) (w:World) (h:run R a0 w):Calls prog id #[a0] w R:=cls_t func75 [a0] (b1_ok R _ w h)
theorem enters:Enters prog id:=fun args w=>call75 args w
theorem ct {a0:Value} {w:World} {S:VP} (h:∀R:EP,(∀v w,S v w→R (.returned v) w)→run R a0 w):Ct prog id #[a0] w S :=
 Ct.intro enters fun R hR=>calls R a0 w (h R hR)
attribute [irreducible] l11 l6
attribute [irreducible,go_sem] b3 b14 b17_1 b17 b16_1 b16 b12 b9 b7 b4 b1 run
end ref06_Marks

/-! ### presage/presageref06.Fits -/
namespace ref06_Fits
noncomputable def code:Code:=bodyOf f76
noncomputable abbrev p1:Code:=dropC 1 code

def b3 (R:EP) (w:World) (_r:Tok R:=tok R):Prop :=
 R (.returned (Value.bool true)) w
abbrev r0 (R:EP) (z:Env) (w:World):Prop:=R (.returned (z 6)) w
abbrev q1 (R:EP):XP:=QX (r0 R) (r0 R) []
theorem b3_ok (R:EP):TI prog R (sndC p1) (q1 R) fun z w=>b3 R w:=ofT
noncomputable abbrev p2:Code:=dropC 1 (fstC p1)
noncomputable abbrev p3:Code:=loopC (blkC p2)
noncomputable abbrev p4:Code:=dropC 1 p3
def b9 (R:EP) (C6:VP) (x7:Value) (w:World) (_r:Tok R:=tok R) (_C6:Tok C6:=tok C6):Prop :=
 RUN prog R (bins .add 3 (.tmp 12) (.const (Value.int .i64 1)) x7 (Value.int .i64 1)) w fun v1 w2 =>
 C6 v1 w2
abbrev q2 (R:EP) (C6:VP):XP:=QX (fun z w=>C6 (z 7) w) (r0 R) [(0,(fun z w=>b3 R  w))]
theorem b9_ok (R:EP) (C6:VP):TI prog R (sndC p4) (q2 R C6) fun z w=>b9 R C6 (z 7) w:=ofT
noncomputable abbrev p5:Code:=blkC (fstC p4)
noncomputable abbrev p6:Code:=dropC 1 p5
def b12 (R:EP) (C6:VP) (x7 x35:Value) (w:World) (_r:Tok R:=tok R) (_C6:Tok C6:=tok C6):Prop :=
 SPL x35
 (R (.returned (Value.bool false)) w)
 (b9 R C6 x7 w)
abbrev q3 (R:EP) (C6:VP):XP:=QX (fun z w=>b9 R C6 (z 7) w) (r0 R) [(2,(fun z w=>b9 R C6 (z 7) w)),(0,(fun z w=>b3 R  w))]
theorem b12_ok (R:EP) (C6:VP):TI prog R p6 (q3 R C6) fun z w=>b12 R C6 (z 7) (z 35) w:=ofT
def b11_1 (R:EP) (C6:VP) (x1 x2 x3 x7:Value) (w:World) (_r:Tok R:=tok R) (_C6:Tok C6:=tok C6):Prop :=
 PUR prog (indexAt 24 x2 x7) fun v7 =>
 LD prog (loadAt 3 v7) (World.drew w) fun v8 =>
 PUR prog (fieldAt 27 x3 0) fun v9 =>
 LD prog (loadAt 22 v9) (World.drew w) fun v10 =>
 LD prog (Builtin.len_ #[22] 3 #[v10]) (World.drew w) fun v11 =>
 PUR prog (bins .sub 3 (.tmp 27) (.tmp 30) v8 v11) fun v12 =>
 PUR prog (indexAt 69 x1 v12) fun v13 =>
 LD prog (loadAt 4 v13) (World.drew w) fun v14 =>
 PUR prog (Op.unary .not v14) fun v15 =>
 b12 R C6 x7 v15 (World.drew w)
def b11 (R:EP) (C6:VP) (x1 x2 x3 x7:Value) (w:World) (_r:Tok R:=tok R) (_C6:Tok C6:=tok C6):Prop :=
 PUR prog (indexAt 24 x2 x7) fun v1 =>
 LD prog (loadAt 3 v1) (World.drew w) fun v2 =>
 PUR prog (fieldAt 27 x3 0) fun v3 =>
 LD prog (loadAt 22 v3) (World.drew w) fun v4 =>
 LD prog (Builtin.len_ #[22] 3 #[v4]) (World.drew w) fun v5 =>
 PUR prog (bins .geq 3 (.tmp 17) (.tmp 20) v2 v5) fun v6 =>
 SPL v6
 (b11_1 R C6 x1 x2 x3 x7 w)
 (b12 R C6 x7 (Value.bool false) (World.drew w))
theorem b11_ok (R:EP) (C6:VP):TI prog R p5 (q3 R C6) fun z w=>b11 R C6 (z 1) (z 2) (z 3) (z 7) w:=appT 0 (b12_ok R C6)
abbrev q4 (R:EP) (C6:VP):XP:=QX (fun z w=>b9 R C6 (z 7) w) (r0 R) [(0,(fun z w=>b3 R  w))]
theorem k10_ok (R:EP) (C6:VP):TI prog R (fstC p4) (q4 R C6) fun z w=>b11 R C6 (z 1) (z 2) (z 3) (z 7) w:=blockT 1 (b11_ok R C6)
theorem k8_ok (R:EP) (C6:VP):TI prog R p4 (q2 R C6) fun z w=>b11 R C6 (z 1) (z 2) (z 3) (z 7) w:=seqT (k10_ok R C6) (b9_ok R C6)
def b7 (R:EP) (C6:VP) (x1 x2 x3 x7:Value) (w:World) (_r:Tok R:=tok R) (_C6:Tok C6:=tok C6):Prop :=
 RUN prog R (Builtin.len_ #[24] 3 #[x2]) w fun v1 w2 =>
 RUN prog R (bins .lss 3 (.tmp 8) (.tmp 10) x7 v1) w2 fun v3 w4 =>
 SPL v3
 (b11 R C6 x1 x2 x3 x7 w4)
 (b3 R w4)
theorem b7_ok (R:EP) (C6:VP):TI prog R p3 (q2 R C6) fun z w=>b7 R C6 (z 1) (z 2) (z 3) (z 7) w:=appT 0 (k8_ok R C6)
def l6 (R:EP) (x1 x2 x3 x7:Value) (w:World) (_r:Tok R:=tok R):Prop :=
 ∃(J:VP) (μ:Value→World→Nat),J x7 w∧∀y7 w0,J y7 w0→b7 R (fun z7 w1=>J z7 w1∧μ z7 w1<μ y7 w0) x1 x2 x3 y7 w0
abbrev q5 (R:EP):XP:=QX (fun z w=>b3 R  w) (r0 R) [(0,(fun z w=>b3 R  w))]
theorem l6_ok (R:EP):TI prog R (blkC p2) (q5 R) fun z w=>l6 R (z 1) (z 2) (z 3) (z 7) w:=fun z w h=>by
 unfold l6 at h
 obtain ⟨J,μ,h0,hr⟩:=h
 refine loopT (fun z' w'=>J (z' 7) w') (fun z' w'=>μ (z' 7) w') h0 fun z' w' hA hI=>b7_ok R (fun z7 w1=>J z7 w1∧μ z7 w1<μ (z' 7) w') z' w' ?_
 have h1:=hr (z' 7) w' hI
 rwa [←hA.on 1,←hA.on 2,←hA.on 3] at h1
theorem l6_intro (R:EP) (x1 x2 x3 x7:Value) (w:World) (J:VP) (μ:Value→World→Nat) (h0:J x7 w)
   (hr:∀y7 w0,J y7 w0→∀C6:VP,(∀z7 w1,J z7 w1→μ z7 w1<μ y7 w0→C6 z7 w1)→b7 R C6 x1 x2 x3 y7 w0):l6 R x1 x2 x3 x7 w:=by
 unfold l6
 exact ⟨J,μ,h0,fun y7 w0 hJ=>hr y7 w0 hJ _ (fun z7 w1 h1 h2=>⟨h1,h2⟩)⟩
abbrev q6 (R:EP):XP:=QX (fun z w=>b3 R  w) (r0 R) []
theorem k5_ok (R:EP):TI prog R p2 (q6 R) fun z w=>l6 R (z 1) (z 2) (z 3) (z 7) w:=blockT 0 (l6_ok R)
def b4 (R:EP) (x1 x2 x3:Value) (w:World) (_r:Tok R:=tok R):Prop :=
 l6 R x1 x2 x3 (Value.int .i64 0) w
theorem b4_ok (R:EP):TI prog R (fstC p1) (q6 R) fun z w=>b4 R (z 1) (z 2) (z 3) w:=appT 0 (k5_ok R)
theorem k2_ok (R:EP):TI prog R p1 (q1 R) fun z w=>b4 R (z 1) (z 2) (z 3) w:=seqT (b4_ok R) (b3_ok R)
def b1 (R:EP) (x0 x1 x2:Value) (w:World) (_r:Tok R:=tok R):Prop :=
 RUN prog R (box 27 x0) w fun v1 w2 =>
 b4 R x1 x2 v1 w2
theorem b1_ok (R:EP):TI prog R code (q1 R) fun z w=>b1 R (z 0) (z 1) (z 2) w:=appT 0 (k2_ok R)
def run (R:EP) (a0 a1 a2:Value) (w:World):Prop:=b1 R a0 a1 a2 w
theorem calls (R:EP) (a0 a1 a2:Value) (w:World) (h:run R a0 a1 a2 w):Calls prog id #[a0,a1,a2] w R:=cls_t func76 [a0,a1,a2] (b1_ok R _ w h)
theorem enters:Enters prog id:=fun args w=>call76 args w
theorem ct {a0 a1 a2:Value} {w:World} {S:VP} (h:∀R:EP,(∀v w,S v w→R (.returned v) w)→run R a0 a1 a2 w):Ct prog id #[a0,a1,a2] w S :=
 Ct.intro enters fun R hR=>calls R a0 a1 a2 w (h R hR)
attribute [irreducible] l6
attribute [irreducible,go_sem] b3 b9 b12 b11_1 b11 b7 b4 b1 run
end ref06_Fits
end Go.Proofs.Ytmoepnfobnpdiaa
