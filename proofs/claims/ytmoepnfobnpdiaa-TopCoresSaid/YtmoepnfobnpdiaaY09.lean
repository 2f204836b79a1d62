/- Shallow programs, written by a program of ours (gen.py) off the translation; each is tied to the code by the kernel. -/
import Derived.Test.YtmoepnfobnpdiaaY04
set_option linter.unusedVariables false
set_option maxRecDepth 100000
namespace Go.Proofs.Ytmoepnfobnpdiaa
open Go.Px Try Instr

/-! ### presage/presageref07.Table -/
namespace ref07_Table
noncomputable def code:Code:=bodyOf f21
noncomputable abbrev p1:Code:=dropC 2 code
noncomputable abbrev p2:Code:=sndC (sndC p1)

def b4 (R:EP) (x3:Value) (w:World) (_r:Tok R:=tok R):Prop :=
 R (.returned x3) w
abbrev r0 (R:EP) (z:Env) (w:World):Prop:=R (.returned (z 2)) w
abbrev q1 (R:EP):XP:=QX (r0 R) (r0 R) []
theorem b4_ok (R:EP):TI prog R p2 (q1 R) fun z w=>b4 R (z 3) w:=ofT
noncomputable abbrev p3:Code:=fstC (sndC p1)
noncomputable abbrev p4:Code:=dropC 1 p3
noncomputable abbrev p5:Code:=loopC (blkC p4)
noncomputable abbrev p6:Code:=dropC 1 p5
noncomputable abbrev p7:Code:=dropC 2 (blkC p6)
noncomputable abbrev p8:Code:=loopC (blkC p7)
noncomputable abbrev p9:Code:=dropC 2 p8

def b14 (R:EP) (C7:VP) (C12:Value→VP) (x6 x7:Value) (w:World) (_r:Tok R:=tok R) (_C7:Tok C7:=tok C7) (_C12:Tok C12:=tok C12):Prop :=
 RUN prog R (bins .add 3 (.tmp 48) (.const (Value.int .i64 1)) x7 (Value.int .i64 1)) w fun v1 w2 =>
 C12 x6 v1 w2
abbrev q2 (R:EP) (C7:VP) (C12:Value→VP):XP:=QX (fun z w=>C12 (z 6) (z 7) w) (r0 R) [(8,(fun z w=>C7 (z 6) w)),(6,(fun z w=>C7 (z 6) w)),(4,(fun z w=>b4 R (z 3) w))]
theorem b14_ok (R:EP) (C7:VP) (C12:Value→VP):TI prog R p9 (q2 R C7 C12) fun z w=>b14 R C7 C12 (z 6) (z 7) w:=ofT
def b13_1 (R:EP) (C7:VP) (C12:Value→VP) (x1 x3 x6 x7:Value) (w8:World) (_r:Tok R:=tok R) (_C7:Tok C7:=tok C7) (_C12:Tok C12:=tok C12):Prop :=
 PUR prog (fieldAt 27 x1 4) fun v9 =>
 LD prog (loadAt 25 v9) (World.drew w8) fun v10 =>
 PUR prog (indexAt 25 v10 x7) fun v11 =>
 PUR prog (fieldAt 67 v11 1) fun v12 =>
 LD prog (loadAt 24 v12) (World.drew w8) fun v13 =>
 NILC x3 fun v14 =>
 PUR prog (fieldAt 103 v14 2) fun v15 =>
 LD prog (loadAt 101 v15) (World.drew w8) fun v16 =>
 PUR prog (fieldAt 27 x1 4) fun v17 =>
 LD prog (loadAt 25 v17) (World.drew w8) fun v18 =>
 PUR prog (indexAt 25 v18 x7) fun v19 =>
 PUR prog (fieldAt 67 v19 0) fun v20 =>
 LD prog (loadAt 3 v20) (World.drew w8) fun v21 =>
 PUR prog (indexAt 101 v16 v21) fun v22 =>
 LD prog (loadAt 69 v22) (World.drew w8) fun v23 =>
 CALL prog R ref07_Begin_lay.id #[x3,v13,v23] (World.drew w8) fun v24 w25 =>
 SPL x6
 (b14 R C7 C12 (Value.bool true) x7 w25)
 (b14 R C7 C12 v24 x7 w25)

def b13 (R:EP) (C7:VP) (C12:Value→VP) (x1 x3 x6 x7:Value) (w:World) (_r:Tok R:=tok R) (_C7:Tok C7:=tok C7) (_C12:Tok C12:=tok C12):Prop :=
 RUN prog R (fieldAt 27 x1 4) w fun v1 w2 =>
 RUN prog R (loadAt 25 v1) w2 fun v3 w4 =>
 RUN prog R (Builtin.len_ #[25] 3 #[v3]) w4 fun v5 w6 =>
 RUN prog R (bins .lss 3 (.tmp 43) (.tmp 46) x7 v5) w6 fun v7 w8 =>
 SPL v7
 (b13_1 R C7 C12 x1 x3 x6 x7 w8)
 (C7 x6 w8)
theorem b13_ok (R:EP) (C7:VP) (C12:Value→VP):TI prog R p8 (q2 R C7 C12) fun z w=>b13 R C7 C12 (z 1) (z 3) (z 6) (z 7) w:=appT 1 (b14_ok R C7 C12)

def l12 (R:EP) (C7:VP) (x1 x3 x6 x7:Value) (w:World) (_r:Tok R:=tok R) (_C7:Tok C7:=tok C7):Prop :=
 ∃(J:Value→VP) (μ:Value→Value→World→Nat),J x6 x7 w∧∀y6 y7 w0,J y6 y7 w0→b13 R C7 (fun z6 z7 w1=>J z6 z7 w1∧μ z6 z7 w1<μ y6 y7 w0) x1 x3 y6 y7 w0
abbrev q3 (R:EP) (C7:VP):XP:=QX (fun z w=>C7 (z 6) w) (r0 R) [(8,(fun z w=>C7 (z 6) w)),(6,(fun z w=>C7 (z 6) w)),(4,(fun z w=>b4 R (z 3) w))]
theorem l12_ok (R:EP) (C7:VP):TI prog R (blkC p7) (q3 R C7) fun z w=>l12 R C7 (z 1) (z 3) (z 6) (z 7) w:=fun z w h=>by
 unfold l12 at h
 obtain ⟨J,μ,h0,hr⟩:=h
 refine loopT (fun z' w'=>J (z' 6) (z' 7) w') (fun z' w'=>μ (z' 6) (z' 7) w') h0 fun z' w' hA hI=>b13_ok R C7 (fun z6 z7 w1=>J z6 z7 w1∧μ z6 z7 w1<μ (z' 6) (z' 7) w') z' w' ?_
 have h1:=hr (z' 6) (z' 7) w' hI
 rwa [←hA.on 1,←hA.on 3] at h1
theorem l12_intro (R:EP) (C7:VP) (x1 x3 x6 x7:Value) (w:World) (J:Value→VP) (μ:Value→Value→World→Nat) (h0:J x6 x7 w)
   (hr:∀y6 y7 w0,J y6 y7 w0→∀C12:Value→VP,(∀z6 z7 w1,J z6 z7 w1→μ z6 z7 w1<μ y6 y7 w0→C12 z6 z7 w1)→b13 R C7 C12 x1 x3 y6 y7 w0):l12 R C7 x1 x3 x6 x7 w:=by
 unfold l12
 exact ⟨J,μ,h0,fun y6 y7 w0 hJ=>hr y6 y7 w0 hJ _ (fun z6 z7 w1 h1 h2=>⟨h1,h2⟩)⟩
abbrev q4 (R:EP) (C7:VP):XP:=QX (fun z w=>C7 (z 6) w) (r0 R) [(6,(fun z w=>C7 (z 6) w)),(4,(fun z w=>b4 R (z 3) w))]
theorem k11_ok (R:EP) (C7:VP):TI prog R p7 (q4 R C7) fun z w=>l12 R C7 (z 1) (z 3) (z 6) (z 7) w:=blockT 4 (l12_ok R C7)

def b10 (R:EP) (C7:VP) (x1 x3:Value) (w:World) (_r:Tok R:=tok R) (_C7:Tok C7:=tok C7):Prop :=
 l12 R C7 x1 x3 (Value.bool false) (Value.int .i64 0) w
theorem b10_ok (R:EP) (C7:VP):TI prog R (blkC p6) (q4 R C7) fun z w=>b10 R C7 (z 1) (z 3) w:=appT 1 (k11_ok R C7)
abbrev q5 (R:EP) (C7:VP):XP:=QX (fun z w=>C7 (z 6) w) (r0 R) [(4,(fun z w=>b4 R (z 3) w))]
theorem k9_ok (R:EP) (C7:VP):TI prog R p6 (q5 R C7) fun z w=>b10 R C7 (z 1) (z 3) w:=blockT 3 (b10_ok R C7)

def b8 (R:EP) (C7:VP) (x1 x3 x6:Value) (w:World) (_r:Tok R:=tok R) (_C7:Tok C7:=tok C7):Prop :=
 SPL x6
 (b10 R C7 x1 x3 w)
 (b4 R x3 w)
theorem b8_ok (R:EP) (C7:VP):TI prog R p5 (q5 R C7) fun z w=>b8 R C7 (z 1) (z 3) (z 6) w:=appT 0 (k9_ok R C7)

def l7 (R:EP) (x1 x3 x6:Value) (w:World) (_r:Tok R:=tok R):Prop :=
 ∃(J:VP) (μ:Value→World→Nat),J x6 w∧∀y6 w0,J y6 w0→b8 R (fun z6 w1=>J z6 w1∧μ z6 w1<μ y6 w0) x1 x3 y6 w0
abbrev q6 (R:EP):XP:=QX (fun z w=>b4 R (z 3) w) (r0 R) [(4,(fun z w=>b4 R (z 3) w))]
theorem l7_ok (R:EP):TI prog R (blkC p4) (q6 R) fun z w=>l7 R (z 1) (z 3) (z 6) w:=fun z w h=>by
 unfold l7 at h
 obtain ⟨J,μ,h0,hr⟩:=h
 refine loopT (fun z' w'=>J (z' 6) w') (fun z' w'=>μ (z' 6) w') h0 fun z' w' hA hI=>b8_ok R (fun z6 w1=>J z6 w1∧μ z6 w1<μ (z' 6) w') z' w' ?_
 have h1:=hr (z' 6) w' hI
 rwa [←hA.on 1,←hA.on 3] at h1
theorem l7_intro (R:EP) (x1 x3 x6:Value) (w:World) (J:VP) (μ:Value→World→Nat) (h0:J x6 w)
   (hr:∀y6 w0,J y6 w0→∀C7:VP,(∀z6 w1,J z6 w1→μ z6 w1<μ y6 w0→C7 z6 w1)→b8 R C7 x1 x3 y6 w0):l7 R x1 x3 x6 w:=by
 unfold l7
 exact ⟨J,μ,h0,fun y6 w0 hJ=>hr y6 w0 hJ _ (fun z6 w1 h1 h2=>⟨h1,h2⟩)⟩
abbrev q7 (R:EP):XP:=QX (fun z w=>b4 R (z 3) w) (r0 R) []
theorem k6_ok (R:EP):TI prog R p4 (q7 R) fun z w=>l7 R (z 1) (z 3) (z 6) w:=blockT 2 (l7_ok R)

def b5 (R:EP) (x1 x3:Value) (w:World) (_r:Tok R:=tok R):Prop :=
 l7 R x1 x3 (Value.bool true) w
theorem b5_ok (R:EP):TI prog R p3 (q7 R) fun z w=>b5 R (z 1) (z 3) w:=appT 0 (k6_ok R)
theorem k3_ok (R:EP):TI prog R (sndC p1) (q1 R) fun z w=>b5 R (z 1) (z 3) w:=seqT (b5_ok R) (b4_ok R)
noncomputable abbrev p10:Code:=dropC 1 (fstC p1)
noncomputable abbrev p11:Code:=loopC (blkC p10)
noncomputable abbrev p12:Code:=dropC 1 p11

def b20 (R:EP) (C17:VP) (x4:Value) (w:World) (_r:Tok R:=tok R) (_C17:Tok C17:=tok C17):Prop :=
 RUN prog R (bins .add 3 (.tmp 18) (.const (Value.int .i64 1)) x4 (Value.int .i64 1)) w fun v1 w2 =>
 C17 v1 w2
abbrev q8 (R:EP) (C17:VP):XP:=QX (fun z w=>C17 (z 4) w) (r0 R) [(0,(fun z w=>b5 R (z 1) (z 3) w))]
theorem b20_ok (R:EP) (C17:VP):TI prog R (sndC p12) (q8 R C17) fun z w=>b20 R C17 (z 4) w:=ofT
noncomputable abbrev p13:Code:=blkC (fstC p12)
noncomputable abbrev p14:Code:=dropC 2 p13

def b23 (R:EP) (C17:VP) (x3 x4 x5:Value) (w:World) (_r:Tok R:=tok R) (_C17:Tok C17:=tok C17):Prop :=
 NILC x3 fun v1 =>
 RUN prog R (fieldAt 103 v1 2) w fun v2 w3 =>
 RUN prog R (loadAt 101 v2) w3 fun v4 w5 =>
 RUN prog R (buildSlice 101 1 #[(0,x5)]) w5 fun v6 w7 =>
 RUN prog R (Builtin.append_ #[101,101] 101 #[v4,v6]) w7 fun v8 w9 =>
 NILC x3 fun v10 =>
 RUN prog R (fieldAt 103 v10 2) w9 fun v11 w12 =>
 RUNU prog R (storeAt 101 v11 v8) w12 fun w13 =>
 b20 R C17 x4 w13
abbrev q9 (R:EP) (C17:VP):XP:=QX (fun z w=>b20 R C17 (z 4) w) (r0 R) [(2,(fun z w=>b20 R C17 (z 4) w)),(0,(fun z w=>b5 R (z 1) (z 3) w))]
theorem b23_ok (R:EP) (C17:VP):TI prog R p14 (q9 R C17) fun z w=>b23 R C17 (z 3) (z 4) (z 5) w:=ofT
def b22_1 (R:EP) (C17:VP) (x3 x4 v7:Value) (w16:World) (_r:Tok R:=tok R) (_C17:Tok C17:=tok C17):Prop :=
 RUN prog R (indexAt 69 v7 x4) w16 fun v17 w18 =>
 RUNU prog R (storeAt 4 v17 (Value.bool true)) w18 fun w19 =>
 b23 R C17 x3 x4 v7 w19

def b22 (R:EP) (C17:VP) (x1 x3 x4:Value) (w:World) (_r:Tok R:=tok R) (_C17:Tok C17:=tok C17):Prop :=
 RUN prog R (fieldAt 27 x1 0) w fun v1 w2 =>
 RUN prog R (loadAt 22 v1) w2 fun v3 w4 =>
 RUN prog R (Builtin.len_ #[22] 3 #[v3]) w4 fun v5 w6 =>
 RUN prog R (makeSlice 69 v5 v5) w6 fun v7 w8 =>
 RUN prog R (fieldAt 27 x1 0) w8 fun v9 w10 =>
 RUN prog R (loadAt 22 v9) w10 fun v11 w12 =>
 RUN prog R (Builtin.len_ #[22] 3 #[v11]) w12 fun v13 w14 =>
 RUN prog R (bins .lss 3 (.tmp 24) (.tmp 27) x4 v13) w14 fun v15 w16 =>
 SPL v15
 (b22_1 R C17 x3 x4 v7 w16)
 (b23 R C17 x3 x4 v7 w16)
theorem b22_ok (R:EP) (C17:VP):TI prog R p13 (q9 R C17) fun z w=>b22 R C17 (z 1) (z 3) (z 4) w:=appT 1 (b23_ok R C17)
abbrev q10 (R:EP) (C17:VP):XP:=QX (fun z w=>b20 R C17 (z 4) w) (r0 R) [(0,(fun z w=>b5 R (z 1) (z 3) w))]
theorem k21_ok (R:EP) (C17:VP):TI prog R (fstC p12) (q10 R C17) fun z w=>b22 R C17 (z 1) (z 3) (z 4) w:=blockT 1 (b22_ok R C17)
theorem k19_ok (R:EP) (C17:VP):TI prog R p12 (q8 R C17) fun z w=>b22 R C17 (z 1) (z 3) (z 4) w:=seqT (k21_ok R C17) (b20_ok R C17)

def b18 (R:EP) (C17:VP) (x1 x3 x4:Value) (w:World) (_r:Tok R:=tok R) (_C17:Tok C17:=tok C17):Prop :=
 RUN prog R (loadAt 27 x1) w fun v1 w2 =>
 CALL prog R ref02_Symbols.id #[v1] w2 fun v3 w4 =>
 RUN prog R (bins .lss 3 (.tmp 14) (.tmp 16) x4 v3) w4 fun v5 w6 =>
 SPL v5
 (b22 R C17 x1 x3 x4 w6)
 (b5 R x1 x3 w6)
theorem b18_ok (R:EP) (C17:VP):TI prog R p11 (q8 R C17) fun z w=>b18 R C17 (z 1) (z 3) (z 4) w:=appT 0 (k19_ok R C17)

def l17 (R:EP) (x1 x3 x4:Value) (w:World) (_r:Tok R:=tok R):Prop :=
 ∃(J:VP) (μ:Value→World→Nat),J x4 w∧∀y4 w0,J y4 w0→b18 R (fun z4 w1=>J z4 w1∧μ z4 w1<μ y4 w0) x1 x3 y4 w0
abbrev q11 (R:EP):XP:=QX (fun z w=>b5 R (z 1) (z 3) w) (r0 R) [(0,(fun z w=>b5 R (z 1) (z 3) w))]
theorem l17_ok (R:EP):TI prog R (blkC p10) (q11 R) fun z w=>l17 R (z 1) (z 3) (z 4) w:=fun z w h=>by
 unfold l17 at h
 obtain ⟨J,μ,h0,hr⟩:=h
 refine loopT (fun z' w'=>J (z' 4) w') (fun z' w'=>μ (z' 4) w') h0 fun z' w' hA hI=>b18_ok R (fun z4 w1=>J z4 w1∧μ z4 w1<μ (z' 4) w') z' w' ?_
 have h1:=hr (z' 4) w' hI
 rwa [←hA.on 1,←hA.on 3] at h1
theorem l17_intro (R:EP) (x1 x3 x4:Value) (w:World) (J:VP) (μ:Value→World→Nat) (h0:J x4 w)
   (hr:∀y4 w0,J y4 w0→∀C17:VP,(∀z4 w1,J z4 w1→μ z4 w1<μ y4 w0→C17 z4 w1)→b18 R C17 x1 x3 y4 w0):l17 R x1 x3 x4 w:=by
 unfold l17
 exact ⟨J,μ,h0,fun y4 w0 hJ=>hr y4 w0 hJ _ (fun z4 w1 h1 h2=>⟨h1,h2⟩)⟩
abbrev q12 (R:EP):XP:=QX (fun z w=>b5 R (z 1) (z 3) w) (r0 R) []
theorem k16_ok (R:EP):TI prog R p10 (q12 R) fun z w=>l17 R (z 1) (z 3) (z 4) w:=blockT 0 (l17_ok R)

def b15 (R:EP) (x1 x3:Value) (w:World) (_r:Tok R:=tok R):Prop :=
 l17 R x1 x3 (Value.int .i64 0) w
theorem b15_ok (R:EP):TI prog R (fstC p1) (q12 R) fun z w=>b15 R (z 1) (z 3) w:=appT 0 (k16_ok R)
theorem k2_ok (R:EP):TI prog R p1 (q1 R) fun z w=>b15 R (z 1) (z 3) w:=seqT (b15_ok R) (k3_ok R)
def b1_1 (R:EP) (v1 v3 v5:Value) (w6:World) (_r:Tok R:=tok R):Prop :=
 Sem.run prog (loadAt 27 v1) w6 = .ok v3 w6∧(PUR prog (build 103 #[(0,v3),(1,v5)]) fun v7 =>
 RUN prog R (box 103 v7) w6 fun v8 w9 =>
 b15 R v1 v8 w9)

def b1 (R:EP) (x0:Value) (w:World) (_r:Tok R:=tok R):Prop :=
 RUN prog R (box 27 x0) w fun v1 w2 =>
 LD prog (loadAt 27 v1) (World.drew w2) fun v3 =>
 LD prog (loadAt 27 v1) (World.drew w2) fun v4 =>
 CALL prog R ref07_Null.id #[v4] (World.drew w2) fun v5 w6 =>
 b1_1 R v1 v3 v5 w6
theorem b1_ok (R:EP):TI prog R code (q1 R) fun z w=>b1 R (z 0) w:=appT 1 (k2_ok R)
def run (R:EP) (a0:Value) (w:World):Prop:=b1 R a0 w
theorem calls (R:EP) (a0:Value) (w:World) (h:run R a0 w):Calls prog id #[a0] w R:=cls_t func21 [a0] (b1_ok R _ w h)
theorem enters:Enters prog id:=fun args w=>call21 args w
theorem ct {a0:Value} {w:World} {S:VP} (h:∀R:EP,(∀v w,S v w→R (.returned v) w)→run R a0 w):Ct prog id #[a0] w S :=
 Ct.intro enters fun R hR=>calls R a0 w (h R hR)
attribute [irreducible] l12 l7 l17
attribute [irreducible,go_sem] b4 b14 b13_1 b13 b10 b8 b5 b20 b23 b22_1 b22 b18 b15 b1_1 b1 run
end ref07_Table

/-! ### presage/presageref07.Null -/
namespace ref07_Null
noncomputable def code:Code:=bodyOf f47
noncomputable abbrev p1:Code:=dropC 2 code
def b3 (R:EP) (x3:Value) (w:World) (_r:Tok R:=tok R):Prop :=
 R (.returned x3) w
abbrev r0 (R:EP) (z:Env) (w:World):Prop:=R (.returned (z 2)) w
abbrev q1 (R:EP):XP:=QX (r0 R) (r0 R) []
theorem b3_ok (R:EP):TI prog R (sndC p1) (q1 R) fun z w=>b3 R (z 3) w:=ofT
noncomputable abbrev p2:Code:=dropC 1 (fstC p1)
noncomputable abbrev p3:Code:=loopC (blkC p2)
noncomputable abbrev p4:Code:=dropC 1 p3
noncomputable abbrev p5:Code:=dropC 2 (blkC p4)
noncomputable abbrev p6:Code:=loopC (blkC p5)
noncomputable abbrev p7:Code:=dropC 2 p6
def b13 (R:EP) (C6:VP) (C11:Value→VP) (x4 x5:Value) (w:World) (_r:Tok R:=tok R) (_C6:Tok C6:=tok C6) (_C11:Tok C11:=tok C11):Prop :=
 RUN prog R (bins .add 3 (.tmp 17) (.const (Value.int .i64 1)) x5 (Value.int .i64 1)) w fun v1 w2 =>
 C11 x4 v1 w2
abbrev q2 (R:EP) (C6:VP) (C11:Value→VP):XP:=QX (fun z w=>C11 (z 4) (z 5) w) (r0 R) [(4,(fun z w=>C6 (z 4) w)),(2,(fun z w=>C6 (z 4) w)),(0,(fun z w=>b3 R (z 3) w))]
theorem b13_ok (R:EP) (C6:VP) (C11:Value→VP):TI prog R p7 (q2 R C6 C11) fun z w=>b13 R C6 C11 (z 4) (z 5) w:=ofT
def b12_1 (R:EP) (C6:VP) (C11:Value→VP) (x3 x5 v17:Value) (w29:World) (_r:Tok R:=tok R) (_C6:Tok C6:=tok C6) (_C11:Tok C11:=tok C11):Prop :=
 RUN prog R (indexAt 69 x3 v17) w29 fun v30 w31 =>
 RUNU prog R (storeAt 4 v30 (Value.bool true)) w31 fun w32 =>
 b13 R C6 C11 (Value.bool true) x5 w32
def b12_2 (R:EP) (C6:VP) (C11:Value→VP) (x1 x3 x4 x5 v17:Value) (w21:World) (_r:Tok R:=tok R) (_C6:Tok C6:=tok C6) (_C11:Tok C11:=tok C11):Prop :=
 LD prog (loadAt 27 x1) (World.drew w21) fun v22 =>
 PUR prog (fieldAt 27 x1 4) fun v23 =>
 LD prog (loadAt 25 v23) (World.drew w21) fun v24 =>
 PUR prog (indexAt 25 v24 x5) fun v25 =>
 PUR prog (fieldAt 67 v25 1) fun v26 =>
 LD prog (loadAt 24 v26) (World.drew w21) fun v27 =>
 CALL prog R ref07_vanishes.id #[v22,x3,v27] (World.drew w21) fun v28 w29 =>
 SPL v28
 (b12_1 R C6 C11 x3 x5 v17 w29)
 (b13 R C6 C11 x4 x5 w29)
def b12_3 (R:EP) (C6:VP) (C11:Value→VP) (x1 x3 x4 x5:Value) (w8:World) (_r:Tok R:=tok R) (_C6:Tok C6:=tok C6) (_C11:Tok C11:=tok C11):Prop :=
 PUR prog (fieldAt 27 x1 4) fun v9 =>
 LD prog (loadAt 25 v9) (World.drew w8) fun v10 =>
 PUR prog (indexAt 25 v10 x5) fun v11 =>
 PUR prog (fieldAt 67 v11 0) fun v12 =>
 LD prog (loadAt 3 v12) (World.drew w8) fun v13 =>
 PUR prog (fieldAt 27 x1 0) fun v14 =>
 LD prog (loadAt 22 v14) (World.drew w8) fun v15 =>
 LD prog (Builtin.len_ #[22] 3 #[v15]) (World.drew w8) fun v16 =>
 PUR prog (bins .sub 3 (.tmp 24) (.tmp 27) v13 v16) fun v17 =>
 RUN prog R (indexAt 69 x3 v17) (World.drew w8) fun v18 w19 =>
 RUN prog R (loadAt 4 v18) w19 fun v20 w21 =>
 SPL v20
 (b13 R C6 C11 x4 x5 w21)
 (b12_2 R C6 C11 x1 x3 x4 x5 v17 w21)
def b12 (R:EP) (C6:VP) (C11:Value→VP) (x1 x3 x4 x5:Value) (w:World) (_r:Tok R:=tok R) (_C6:Tok C6:=tok C6) (_C11:Tok C11:=tok C11):Prop :=
 RUN prog R (fieldAt 27 x1 4) w fun v1 w2 =>
 RUN prog R (loadAt 25 v1) w2 fun v3 w4 =>
 RUN prog R (Builtin.len_ #[25] 3 #[v3]) w4 fun v5 w6 =>
 RUN prog R (bins .lss 3 (.tmp 12) (.tmp 15) x5 v5) w6 fun v7 w8 =>
 SPL v7
 (b12_3 R C6 C11 x1 x3 x4 x5 w8)
 (C6 x4 w8)
theorem b12_ok (R:EP) (C6:VP) (C11:Value→VP):TI prog R p6 (q2 R C6 C11) fun z w=>b12 R C6 C11 (z 1) (z 3) (z 4) (z 5) w:=appT 1 (b13_ok R C6 C11)
def l11 (R:EP) (C6:VP) (x1 x3 x4 x5:Value) (w:World) (_r:Tok R:=tok R) (_C6:Tok C6:=tok C6):Prop :=
 ∃(J:Value→VP) (μ:Value→Value→World→Nat),J x4 x5 w∧∀y4 y5 w0,J y4 y5 w0→b12 R C6 (fun z4 z5 w1=>J z4 z5 w1∧μ z4 z5 w1<μ y4 y5 w0) x1 x3 y4 y5 w0
abbrev q3 (R:EP) (C6:VP):XP:=QX (fun z w=>C6 (z 4) w) (r0 R) [(4,(fun z w=>C6 (z 4) w)),(2,(fun z w=>C6 (z 4) w)),(0,(fun z w=>b3 R (z 3) w))]
theorem l11_ok (R:EP) (C6:VP):TI prog R (blkC p5) (q3 R C6) fun z w=>l11 R C6 (z 1) (z 3) (z 4) (z 5) w:=fun z w h=>by
 unfold l11 at h
 obtain ⟨J,μ,h0,hr⟩:=h
 refine loopT (fun z' w'=>J (z' 4) (z' 5) w') (fun z' w'=>μ (z' 4) (z' 5) w') h0 fun z' w' hA hI=>b12_ok R C6 (fun z4 z5 w1=>J z4 z5 w1∧μ z4 z5 w1<μ (z' 4) (z' 5) w') z' w' ?_
 have h1:=hr (z' 4) (z' 5) w' hI
 rwa [←hA.on 1,←hA.on 3] at h1
theorem l11_intro (R:EP) (C6:VP) (x1 x3 x4 x5:Value) (w:World) (J:Value→VP) (μ:Value→Value→World→Nat) (h0:J x4 x5 w)
   (hr:∀y4 y5 w0,J y4 y5 w0→∀C11:Value→VP,(∀z4 z5 w1,J z4 z5 w1→μ z4 z5 w1<μ y4 y5 w0→C11 z4 z5 w1)→b12 R C6 C11 x1 x3 y4 y5 w0):l11 R C6 x1 x3 x4 x5 w:=by
 unfold l11
 exact ⟨J,μ,h0,fun y4 y5 w0 hJ=>hr y4 y5 w0 hJ _ (fun z4 z5 w1 h1 h2=>⟨h1,h2⟩)⟩
abbrev q4 (R:EP) (C6:VP):XP:=QX (fun z w=>C6 (z 4) w) (r0 R) [(2,(fun z w=>C6 (z 4) w)),(0,(fun z w=>b3 R (z 3) w))]
theorem k10_ok (R:EP) (C6:VP):TI prog R p5 (q4 R C6) fun z w=>l11 R C6 (z 1) (z 3) (z 4) (z 5) w:=blockT 2 (l11_ok R C6)
def b9 (R:EP) (C6:VP) (x1 x3:Value) (w:World) (_r:Tok R:=tok R) (_C6:Tok C6:=tok C6):Prop :=
 l11 R C6 x1 x3 (Value.bool false) (Value.int .i64 0) w
theorem b9_ok (R:EP) (C6:VP):TI prog R (blkC p4) (q4 R C6) fun z w=>b9 R C6 (z 1) (z 3) w:=appT 1 (k10_ok R C6)
abbrev q5 (R:EP) (C6:VP):XP:=QX (fun z w=>C6 (z 4) w) (r0 R) [(0,(fun z w=>b3 R (z 3) w))]
theorem k8_ok (R:EP) (C6:VP):TI prog R p4 (q5 R C6) fun z w=>b9 R C6 (z 1) (z 3) w:=blockT 1 (b9_ok R C6)
def b7 (R:EP) (C6:VP) (x1 x3 x4:Value) (w:World) (_r:Tok R:=tok R) (_C6:Tok C6:=tok C6):Prop :=
 SPL x4
 (b9 R C6 x1 x3 w)
 (b3 R x3 w)
theorem b7_ok (R:EP) (C6:VP):TI prog R p3 (q5 R C6) fun z w=>b7 R C6 (z 1) (z 3) (z 4) w:=appT 0 (k8_ok R C6)
def l6 (R:EP) (x1 x3 x4:Value) (w:World) (_r:Tok R:=tok R):Prop :=
 ∃(J:VP) (μ:Value→World→Nat),J x4 w∧∀y4 w0,J y4 w0→b7 R (fun z4 w1=>J z4 w1∧μ z4 w1<μ y4 w0) x1 x3 y4 w0
abbrev q6 (R:EP):XP:=QX (fun z w=>b3 R (z 3) w) (r0 R) [(0,(fun z w=>b3 R (z 3) w))]
theorem l6_ok (R:EP):TI prog R (blkC p2) (q6 R) fun z w=>l6 R (z 1) (z 3) (z 4) w:=fun z w h=>by
 unfold l6 at h
 obtain ⟨J,μ,h0,hr⟩:=h
 refine loopT (fun z' w'=>J (z' 4) w') (fun z' w'=>μ (z' 4) w') h0 fun z' w' hA hI=>b7_ok R (fun z4 w1=>J z4 w1∧μ z4 w1<μ (z' 4) w') z' w' ?_
 have h1:=hr (z' 4) w' hI
 rwa [←hA.on 1,←hA.on 3] at h1
theorem l6_intro (R:EP) (x1 x3 x4:Value) (w:World) (J:VP) (μ:Value→World→Nat) (h0:J x4 w)
   (hr:∀y4 w0,J y4 w0→∀C6:VP,(∀z4 w1,J z4 w1→μ z4 w1<μ y4 w0→C6 z4 w1)→b7 R C6 x1 x3 y4 w0):l6 R x1 x3 x4 w:=by
 unfold l6
 exact ⟨J,μ,h0,fun y4 w0 hJ=>hr y4 w0 hJ _ (fun z4 w1 h1 h2=>⟨h1,h2⟩)⟩
abbrev q7 (R:EP):XP:=QX (fun z w=>b3 R (z 3) w) (r0 R) []
theorem k5_ok (R:EP):TI prog R p2 (q7 R) fun z w=>l6 R (z 1) (z 3) (z 4) w:=blockT 0 (l6_ok R)
def b4 (R:EP) (x1 x3:Value) (w:World) (_r:Tok R:=tok R):Prop :=
 l6 R x1 x3 (Value.bool true) w
theorem b4_ok (R:EP):TI prog R (fstC p1) (q7 R) fun z w=>b4 R (z 1) (z 3) w:=appT 0 (k5_ok R)
theorem k2_ok (R:EP):TI prog R p1 (q1 R) fun z w=>b4 R (z 1) (z 3) w:=seqT (b4_ok R) (b3_ok R)
def b1 (R:EP) (x0:Value) (w:World) (_r:Tok R:=tok R):Prop :=
 RUN prog R (box 27 x0) w fun v1 w2 =>
 RUN prog R (fieldAt 27 v1 1) w2 fun v3 w4 =>
 RUN prog R (loadAt 23 v3) w4 fun v5 w6 =>
 RUN prog R (Builtin.len_ #[23] 3 #[v5]) w6 fun v7 w8 =>
 RUN prog R (makeSlice 69 v7 v7) w8 fun v9 w10 =>
 b4 R v1 v9 w10
theorem b1_ok (R:EP):TI prog R code (q1 R) fun z w=>b1 R (z 0) w:=appT 1 (k2_ok R)
def run (R:EP) (a0:Value) (w:World):Prop:=b1 R a0 w
theorem calls (R:EP) (a0:Value) (w:World) (h:run R a0 w):Calls prog id #[a0] w R:=cls_t func47 [a0] (b1_ok R _ w h)
theorem enters:Enters prog id:=fun args w=>call47 args w
theorem ct {a0:Value} {w:World} {S:VP} (h:∀R:EP,(∀v w,S v w→R (.returned v) w)→run R a0 w):Ct prog id #[a0] w S :=
 Ct.intro enters fun R hR=>calls R a0 w (h R hR)
attribute [irreducible] l11 l6
attribute [irreducible,go_sem] b3 b13 b12_1 b12_2 b12_3 b12 b9 b7 b4 b1 run
end ref07_Null

/-! ### (*presage/presageref07.Begin).lay -/
namespace ref07_Begin_lay
noncomputable def code:Code:=bodyOf f48
noncomputable abbrev p1:Code:=dropC 2 code

def b3 (R:EP) (x7:Value) (w:World) (_r:Tok R:=tok R):Prop :=
 R (.returned x7) w
abbrev r0 (R:EP) (z:Env) (w:World):Prop:=R (.returned (z 6)) w
abbrev q1 (R:EP):XP:=QX (r0 R) (r0 R) []
theorem b3_ok (R:EP):TI prog R (sndC p1) (q1 R) fun z w=>b3 R (z 7) w:=ofT
noncomputable abbrev p2:Code:=dropC 1 (fstC p1)
noncomputable abbrev p3:Code:=loopC (blkC p2)
noncomputable abbrev p4:Code:=dropC 1 p3

def b9 (R:EP) (C6:Value→VP) (x7 x8:Value) (w:World) (_r:Tok R:=tok R) (_C6:Tok C6:=tok C6):Prop :=
 RUN prog R (bins .add 3 (.tmp 15) (.const (Value.int .i64 1)) x8 (Value.int .i64 1)) w fun v1 w2 =>
 C6 x7 v1 w2
abbrev q2 (R:EP) (C6:Value→VP):XP:=QX (fun z w=>C6 (z 7) (z 8) w) (r0 R) [(0,(fun z w=>b3 R (z 7) w))]
theorem b9_ok (R:EP) (C6:Value→VP):TI prog R (sndC p4) (q2 R C6) fun z w=>b9 R C6 (z 7) (z 8) w:=ofT
noncomputable abbrev p5:Code:=blkC (fstC p4)
noncomputable abbrev p6:Code:=dropC 1 p5
noncomputable abbrev p7:Code:=dropC 1 (sndC p6)

def b14 (R:EP) (C6:Value→VP) (x7 x8 x77:Value) (w:World) (_r:Tok R:=tok R) (_C6:Tok C6:=tok C6):Prop :=
 SPL x77
 (b3 R x7 w)
 (b9 R C6 x7 x8 w)
abbrev q3 (R:EP) (C6:Value→VP):XP:=QX (fun z w=>b9 R C6 (z 7) (z 8) w) (r0 R) [(2,(fun z w=>b9 R C6 (z 7) (z 8) w)),(0,(fun z w=>b3 R (z 7) w))]
theorem b14_ok (R:EP) (C6:Value→VP):TI prog R p7 (q3 R C6) fun z w=>b14 R C6 (z 7) (z 8) (z 77) w:=ofT
def b13_1 (R:EP) (C6:Value→VP) (x0 x1 x7 x8:Value) (w:World) (_r:Tok R:=tok R) (_C6:Tok C6:=tok C6):Prop :=
 NILC x0 fun v9 =>
 PUR prog (fieldAt 103 v9 1) fun v10 =>
 LD prog (loadAt 69 v10) (World.drew w) fun v11 =>
 PUR prog (indexAt 24 x1 x8) fun v12 =>
 LD prog (loadAt 3 v12) (World.drew w) fun v13 =>
 NILC x0 fun v14 =>
 PUR prog (fieldAt 103 v14 0) fun v15 =>
 PUR prog (fieldAt 27 v15 0) fun v16 =>
 LD prog (loadAt 22 v16) (World.drew w) fun v17 =>
 LD prog (Builtin.len_ #[22] 3 #[v17]) (World.drew w) fun v18 =>
 PUR prog (bins .sub 3 (.tmp 66) (.tmp 72) v13 v18) fun v19 =>
 PUR prog (indexAt 69 v11 v19) fun v20 =>
 LD prog (loadAt 4 v20) (World.drew w) fun v21 =>
 PUR prog (Op.unary .not v21) fun v22 =>
 b14 R C6 x7 x8 v22 (World.drew w)

def b13 (R:EP) (C6:Value→VP) (x0 x1 x7 x8:Value) (w:World) (_r:Tok R:=tok R) (_C6:Tok C6:=tok C6):Prop :=
 PUR prog (indexAt 24 x1 x8) fun v1 =>
 LD prog (loadAt 3 v1) (World.drew w) fun v2 =>
 NILC x0 fun v3 =>
 PUR prog (fieldAt 103 v3 0) fun v4 =>
 PUR prog (fieldAt 27 v4 0) fun v5 =>
 LD prog (loadAt 22 v5) (World.drew w) fun v6 =>
 LD prog (Builtin.len_ #[22] 3 #[v6]) (World.drew w) fun v7 =>
 PUR prog (bins .lss 3 (.tmp 50) (.tmp 56) v2 v7) fun v8 =>
 SPL v8
 (b14 R C6 x7 x8 (Value.bool true) (World.drew w))
 (b13_1 R C6 x0 x1 x7 x8 w)
theorem b13_ok (R:EP) (C6:Value→VP):TI prog R (sndC p6) (q3 R C6) fun z w=>b13 R C6 (z 0) (z 1) (z 7) (z 8) w:=appT 0 (b14_ok R C6)
noncomputable abbrev p8:Code:=dropC 1 (fstC p6)
noncomputable abbrev p9:Code:=loopC (blkC p8)
noncomputable abbrev p10:Code:=dropC 1 p9

def b20 (R:EP) (C6:Value→VP) (C17:Value→VP) (x7 x10:Value) (w:World) (_r:Tok R:=tok R) (_C6:Tok C6:=tok C6) (_C17:Tok C17:=tok C17):Prop :=
 RUN prog R (bins .add 3 (.tmp 31) (.const (Value.int .i64 1)) x10 (Value.int .i64 1)) w fun v1 w2 =>
 C17 x7 v1 w2
abbrev q4 (R:EP) (C6:Value→VP) (C17:Value→VP):XP:=QX (fun z w=>C17 (z 7) (z 10) w) (r0 R) [(4,(fun z w=>b13 R C6 (z 0) (z 1) (z 7) (z 8) w)),(2,(fun z w=>b9 R C6 (z 7) (z 8) w)),(0,(fun z w=>b3 R (z 7) w))]
theorem b20_ok (R:EP) (C6:Value→VP) (C17:Value→VP):TI prog R (sndC p10) (q4 R C6 C17) fun z w=>b20 R C6 C17 (z 7) (z 10) w:=ofT
noncomputable abbrev p11:Code:=blkC (fstC p10)
noncomputable abbrev p12:Code:=dropC 1 p11
def b23_1 (R:EP) (C6:Value→VP) (C17:Value→VP) (x2 x10:Value) (w:World) (_r:Tok R:=tok R) (_C6:Tok C6:=tok C6) (_C17:Tok C17:=tok C17):Prop :=
 RUN prog R (indexAt 69 x2 x10) w fun v1 w2 =>
 RUNU prog R (storeAt 4 v1 (Value.bool true)) w2 fun w3 =>
 b20 R C6 C17 (Value.bool true) x10 w3

def b23 (R:EP) (C6:Value→VP) (C17:Value→VP) (x2 x7 x10 x43:Value) (w:World) (_r:Tok R:=tok R) (_C6:Tok C6:=tok C6) (_C17:Tok C17:=tok C17):Prop :=
 SPL x43
 (b23_1 R C6 C17 x2 x10 w)
 (b20 R C6 C17 x7 x10 w)
abbrev q5 (R:EP) (C6:Value→VP) (C17:Value→VP):XP:=QX (fun z w=>b20 R C6 C17 (z 7) (z 10) w) (r0 R) [(6,(fun z w=>b20 R C6 C17 (z 7) (z 10) w)),(4,(fun z w=>b13 R C6 (z 0) (z 1) (z 7) (z 8) w)),(2,(fun z w=>b9 R C6 (z 7) (z 8) w)),(0,(fun z w=>b3 R (z 7) w))]
theorem b23_ok (R:EP) (C6:Value→VP) (C17:Value→VP):TI prog R p12 (q5 R C6 C17) fun z w=>b23 R C6 C17 (z 2) (z 7) (z 10) (z 43) w:=ofT
def b22_1 (R:EP) (C6:Value→VP) (C17:Value→VP) (x2 x7 x10:Value) (w4:World) (_r:Tok R:=tok R) (_C6:Tok C6:=tok C6) (_C17:Tok C17:=tok C17):Prop :=
 RUN prog R (indexAt 69 x2 x10) w4 fun v5 w6 =>
 RUN prog R (loadAt 4 v5) w6 fun v7 w8 =>
 RUN prog R (Op.unary .not v7) w8 fun v9 w10 =>
 b23 R C6 C17 x2 x7 x10 v9 w10

def b22 (R:EP) (C6:Value→VP) (C17:Value→VP) (x2 x7 x9 x10:Value) (w:World) (_r:Tok R:=tok R) (_C6:Tok C6:=tok C6) (_C17:Tok C17:=tok C17):Prop :=
 RUN prog R (indexAt 69 x9 x10) w fun v1 w2 =>
 RUN prog R (loadAt 4 v1) w2 fun v3 w4 =>
 SPL v3
 (b22_1 R C6 C17 x2 x7 x10 w4)
 (b23 R C6 C17 x2 x7 x10 (Value.bool false) w4)
theorem b22_ok (R:EP) (C6:Value→VP) (C17:Value→VP):TI prog R p11 (q5 R C6 C17) fun z w=>b22 R C6 C17 (z 2) (z 7) (z 9) (z 10) w:=appT 0 (b23_ok R C6 C17)
abbrev q6 (R:EP) (C6:Value→VP) (C17:Value→VP):XP:=QX (fun z w=>b20 R C6 C17 (z 7) (z 10) w) (r0 R) [(4,(fun z w=>b13 R C6 (z 0) (z 1) (z 7) (z 8) w)),(2,(fun z w=>b9 R C6 (z 7) (z 8) w)),(0,(fun z w=>b3 R (z 7) w))]
theorem k21_ok (R:EP) (C6:Value→VP) (C17:Value→VP):TI prog R (fstC p10) (q6 R C6 C17) fun z w=>b22 R C6 C17 (z 2) (z 7) (z 9) (z 10) w:=blockT 3 (b22_ok R C6 C17)
theorem k19_ok (R:EP) (C6:Value→VP) (C17:Value→VP):TI prog R p10 (q4 R C6 C17) fun z w=>b22 R C6 C17 (z 2) (z 7) (z 9) (z 10) w:=seqT (k21_ok R C6 C17) (b20_ok R C6 C17)

def b18 (R:EP) (C6:Value→VP) (C17:Value→VP) (x0 x1 x2 x7 x8 x9 x10:Value) (w:World) (_r:Tok R:=tok R) (_C6:Tok C6:=tok C6) (_C17:Tok C17:=tok C17):Prop :=
 RUN prog R (Builtin.len_ #[69] 3 #[x9]) w fun v1 w2 =>
 RUN prog R (bins .lss 3 (.tmp 27) (.tmp 29) x10 v1) w2 fun v3 w4 =>
 SPL v3
 (b22 R C6 C17 x2 x7 x9 x10 w4)
 (b13 R C6 x0 x1 x7 x8 w4)
theorem b18_ok (R:EP) (C6:Value→VP) (C17:Value→VP):TI prog R p9 (q4 R C6 C17) fun z w=>b18 R C6 C17 (z 0) (z 1) (z 2) (z 7) (z 8) (z 9) (z 10) w:=appT 0 (k19_ok R C6 C17)

def l17 (R:EP) (C6:Value→VP) (x0 x1 x2 x7 x8 x9 x10:Value) (w:World) (_r:Tok R:=tok R) (_C6:Tok C6:=tok C6):Prop :=
 ∃(J:Value→VP) (μ:Value→Value→World→Nat),J x7 x10 w∧∀y7 y10 w0,J y7 y10 w0→b18 R C6 (fun z7 z10 w1=>J z7 z10 w1∧μ z7 z10 w1<μ y7 y10 w0) x0 x1 x2 y7 x8 x9 y10 w0
abbrev q7 (R:EP) (C6:Value→VP):XP:=QX (fun z w=>b13 R C6 (z 0) (z 1) (z 7) (z 8) w) (r0 R) [(4,(fun z w=>b13 R C6 (z 0) (z 1) (z 7) (z 8) w)),(2,(fun z w=>b9 R C6 (z 7) (z 8) w)),(0,(fun z w=>b3 R (z 7) w))]
theorem l17_ok (R:EP) (C6:Value→VP):TI prog R (blkC p8) (q7 R C6) fun z w=>l17 R C6 (z 0) (z 1) (z 2) (z 7) (z 8) (z 9) (z 10) w:=fun z w h=>by
 unfold l17 at h
 obtain ⟨J,μ,h0,hr⟩:=h
 refine loopT (fun z' w'=>J (z' 7) (z' 10) w') (fun z' w'=>μ (z' 7) (z' 10) w') h0 fun z' w' hA hI=>b18_ok R C6 (fun z7 z10 w1=>J z7 z10 w1∧μ z7 z10 w1<μ (z' 7) (z' 10) w') z' w' ?_
 have h1:=hr (z' 7) (z' 10) w' hI
 rwa [←hA.on 0,←hA.on 1,←hA.on 2,←hA.on 8,←hA.on 9] at h1
theorem l17_intro (R:EP) (C6:Value→VP) (x0 x1 x2 x7 x8 x9 x10:Value) (w:World) (J:Value→VP) (μ:Value→Value→World→Nat) (h0:J x7 x10 w)
   (hr:∀y7 y10 w0,J y7 y10 w0→∀C17:Value→VP,(∀z7 z10 w1,J z7 z10 w1→μ z7 z10 w1<μ y7 y10 w0→C17 z7 z10 w1)→b18 R C6 C17 x0 x1 x2 y7 x8 x9 y10 w0):l17 R C6 x0 x1 x2 x7 x8 x9 x10 w:=by
 unfold l17
 exact ⟨J,μ,h0,fun y7 y10 w0 hJ=>hr y7 y10 w0 hJ _ (fun z7 z10 w1 h1 h2=>⟨h1,h2⟩)⟩
abbrev q8 (R:EP) (C6:Value→VP):XP:=QX (fun z w=>b13 R C6 (z 0) (z 1) (z 7) (z 8) w) (r0 R) [(2,(fun z w=>b9 R C6 (z 7) (z 8) w)),(0,(fun z w=>b3 R (z 7) w))]
theorem k16_ok (R:EP) (C6:Value→VP):TI prog R p8 (q8 R C6) fun z w=>l17 R C6 (z 0) (z 1) (z 2) (z 7) (z 8) (z 9) (z 10) w:=blockT 2 (l17_ok R C6)

def b15 (R:EP) (C6:Value→VP) (x0 x1 x2 x7 x8 x9:Value) (w:World) (_r:Tok R:=tok R) (_C6:Tok C6:=tok C6):Prop :=
 l17 R C6 x0 x1 x2 x7 x8 x9 (Value.int .i64 0) w
theorem b15_ok (R:EP) (C6:Value→VP):TI prog R (fstC p6) (q8 R C6) fun z w=>b15 R C6 (z 0) (z 1) (z 2) (z 7) (z 8) (z 9) w:=appT 0 (k16_ok R C6)
theorem k12_ok (R:EP) (C6:Value→VP):TI prog R p6 (q3 R C6) fun z w=>b15 R C6 (z 0) (z 1) (z 2) (z 7) (z 8) (z 9) w:=seqT (b15_ok R C6) (b13_ok R C6)

def b11 (R:EP) (C6:Value→VP) (x0 x1 x2 x7 x8:Value) (w:World) (_r:Tok R:=tok R) (_C6:Tok C6:=tok C6):Prop :=
 NILC x0 fun v1 =>
 PUR prog (fieldAt 103 v1 2) fun v2 =>
 LD prog (loadAt 101 v2) (World.drew w) fun v3 =>
 PUR prog (indexAt 24 x1 x8) fun v4 =>
 LD prog (loadAt 3 v4) (World.drew w) fun v5 =>
 PUR prog (indexAt 101 v3 v5) fun v6 =>
 LD prog (loadAt 69 v6) (World.drew w) fun v7 =>
 b15 R C6 x0 x1 x2 x7 x8 v7 (World.drew w)
theorem b11_ok (R:EP) (C6:Value→VP):TI prog R p5 (q3 R C6) fun z w=>b11 R C6 (z 0) (z 1) (z 2) (z 7) (z 8) w:=appT 0 (k12_ok R C6)
abbrev q9 (R:EP) (C6:Value→VP):XP:=QX (fun z w=>b9 R C6 (z 7) (z 8) w) (r0 R) [(0,(fun z w=>b3 R (z 7) w))]
theorem k10_ok (R:EP) (C6:Value→VP):TI prog R (fstC p4) (q9 R C6) fun z w=>b11 R C6 (z 0) (z 1) (z 2) (z 7) (z 8) w:=blockT 1 (b11_ok R C6)
theorem k8_ok (R:EP) (C6:Value→VP):TI prog R p4 (q2 R C6) fun z w=>b11 R C6 (z 0) (z 1) (z 2) (z 7) (z 8) w:=seqT (k10_ok R C6) (b9_ok R C6)

def b7 (R:EP) (C6:Value→VP) (x0 x1 x2 x7 x8:Value) (w:World) (_r:Tok R:=tok R) (_C6:Tok C6:=tok C6):Prop :=
 RUN prog R (Builtin.len_ #[24] 3 #[x1]) w fun v1 w2 =>
 RUN prog R (bins .lss 3 (.tmp 11) (.tmp 13) x8 v1) w2 fun v3 w4 =>
 SPL v3
 (b11 R C6 x0 x1 x2 x7 x8 w4)
 (b3 R x7 w4)
theorem b7_ok (R:EP) (C6:Value→VP):TI prog R p3 (q2 R C6) fun z w=>b7 R C6 (z 0) (z 1) (z 2) (z 7) (z 8) w:=appT 0 (k8_ok R C6)

def l6 (R:EP) (x0 x1 x2 x7 x8:Value) (w:World) (_r:Tok R:=tok R):Prop :=
 ∃(J:Value→VP) (μ:Value→Value→World→Nat),J x7 x8 w∧∀y7 y8 w0,J y7 y8 w0→b7 R (fun z7 z8 w1=>J z7 z8 w1∧μ z7 z8 w1<μ y7 y8 w0) x0 x1 x2 y7 y8 w0
abbrev q10 (R:EP):XP:=QX (fun z w=>b3 R (z 7) w) (r0 R) [(0,(fun z w=>b3 R (z 7) w))]
theorem l6_ok (R:EP):TI prog R (blkC p2) (q10 R) fun z w=>l6 R (z 0) (z 1) (z 2) (z 7) (z 8) w:=fun z w h=>by
 unfold l6 at h
 obtain ⟨J,μ,h0,hr⟩:=h
 refine loopT (fun z' w'=>J (z' 7) (z' 8) w') (fun z' w'=>μ (z' 7) (z' 8) w') h0 fun z' w' hA hI=>b7_ok R (fun z7 z8 w1=>J z7 z8 w1∧μ z7 z8 w1<μ (z' 7) (z' 8) w') z' w' ?_
 have h1:=hr (z' 7) (z' 8) w' hI
 rwa [←hA.on 0,←hA.on 1,←hA.on 2] at h1
theorem l6_intro (R:EP) (x0 x1 x2 x7 x8:Value) (w:World) (J:Value→VP) (μ:Value→Value→World→Nat) (h0:J x7 x8 w)
   (hr:∀y7 y8 w0,J y7 y8 w0→∀C6:Value→VP,(∀z7 z8 w1,J z7 z8 w1→μ z7 z8 w1<μ y7 y8 w0→C6 z7 z8 w1)→b7 R C6 x0 x1 x2 y7 y8 w0):l6 R x0 x1 x2 x7 x8 w:=by
 unfold l6
 exact ⟨J,μ,h0,fun y7 y8 w0 hJ=>hr y7 y8 w0 hJ _ (fun z7 z8 w1 h1 h2=>⟨h1,h2⟩)⟩
abbrev q11 (R:EP):XP:=QX (fun z w=>b3 R (z 7) w) (r0 R) []
theorem k5_ok (R:EP):TI prog R p2 (q11 R) fun z w=>l6 R (z 0) (z 1) (z 2) (z 7) (z 8) w:=blockT 0 (l6_ok R)

def b4 (R:EP) (x0 x1 x2 x7:Value) (w:World) (_r:Tok R:=tok R):Prop :=
 l6 R x0 x1 x2 x7 (Value.int .i64 0) w
theorem b4_ok (R:EP):TI prog R (fstC p1) (q11 R) fun z w=>b4 R (z 0) (z 1) (z 2) (z 7) w:=appT 0 (k5_ok R)
theorem k2_ok (R:EP):TI prog R p1 (q1 R) fun z w=>b4 R (z 0) (z 1) (z 2) (z 7) w:=seqT (b4_ok R) (b3_ok R)

def b1 (R:EP) (x0 x1 x2:Value) (w:World) (_r:Tok R:=tok R):Prop :=
 b4 R x0 x1 x2 (Value.bool false) w
theorem b1_ok (R:EP):TI prog R code (q1 R) fun z w=>b1 R (z 0) (z 1) (z 2) w:=appT 1 (k2_ok R)
def run (R:EP) (a0 a1 a2:Value) (w:World):Prop:=b1 R a0 a1 a2 w
theorem calls (R:EP) (a0 a1 a2:Value) (w:World) (h:run R a0 a1 a2 w):Calls prog id #[a0,a1,a2] w R:=cls_t func48 [a0,a1,a2] (b1_ok R _ w h)
theorem enters:Enters prog id:=fun args w=>call48 args w
theorem ct {a0 a1 a2:Value} {w:World} {S:VP} (h:∀R:EP,(∀v w,S v w→R (.returned v) w)→run R a0 a1 a2 w):Ct prog id #[a0,a1,a2] w S :=
 Ct.intro enters fun R hR=>calls R a0 a1 a2 w (h R hR)
attribute [irreducible] l17 l6
attribute [irreducible,go_sem] b3 b9 b14 b13_1 b13 b20 b23_1 b23 b22_1 b22 b18 b15 b11 b7 b4 b1 run
end ref07_Begin_lay

/-! ### (*presage/presageref07.Begin).Of -/
namespace ref07_Begin_Of
noncomputable def code:Code:=bodyOf f52
def b1_1 (R:EP) (x0 x1 v10:Value) (w13:World) (_r:Tok R:=tok R):Prop :=
 NILC x0 fun v14 =>
 PUR prog (fieldAt 103 v14 0) fun v15 =>
 LD prog (loadAt 27 v15) (World.drew w13) fun v16 =>
 NILC x0 fun v17 =>
 PUR prog (fieldAt 103 v17 1) fun v18 =>
 LD prog (loadAt 69 v18) (World.drew w13) fun v19 =>
 CALL prog R ref07_vanishes.id #[v16,v19,x1] (World.drew w13) fun v20 w21 =>
 R (.returned (.tuple #[v10,v20])) w21
def b1 (R:EP) (x0 x1:Value) (w:World) (_r:Tok R:=tok R):Prop :=
 NILC x0 fun v1 =>
 RUN prog R (fieldAt 103 v1 0) w fun v2 w3 =>
 RUN prog R (fieldAt 27 v2 0) w3 fun v4 w5 =>
 RUN prog R (loadAt 22 v4) w5 fun v6 w7 =>
 RUN prog R (Builtin.len_ #[22] 3 #[v6]) w7 fun v8 w9 =>
 RUN prog R (makeSlice 69 v8 v8) w9 fun v10 w11 =>
 CALL prog R ref07_Begin_lay.id #[x0,x1,v10] w11 fun v12 w13 =>
 b1_1 R x0 x1 v10 w13
abbrev r0 (R:EP) (z:Env) (w:World):Prop:=R (.returned (.tuple #[(z 4),(z 5)])) w
abbrev q1 (R:EP):XP:=QX (r0 R) (r0 R) []
theorem b1_ok (R:EP):TI prog R code (q1 R) fun z w=>b1 R (z 0) (z 1) w:=ofT
def run (R:EP) (a0 a1:Value) (w:World):Prop:=b1 R a0 a1 w
theorem calls (R:EP) (a0 a1:Value) (w:World) (h:run R a0 a1 w):Calls prog id #[a0,a1] w R :=
 calls_of_tt (f:=id) (fn:=f52) (c:=code) (by kernel_rfl) func52 (by kernel_rfl) (by kernel_rfl) (args:=[a0,a1]) (Nat.le_of_ble_eq_true rfl) rfl (b1_ok R (envOf [a0,a1]) w h)
theorem enters:Enters prog id:=fun args w=>call52 args w
theorem ct {a0 a1:Value} {w:World} {S:VP} (h:∀R:EP,(∀v w,S v w→R (.returned v) w)→run R a0 a1 w):Ct prog id #[a0,a1] w S :=
 Ct.intro enters fun R hR=>calls R a0 a1 w (h R hR)
attribute [irreducible,go_sem] b1_1 b1 run
end ref07_Begin_Of

/-! ### presage/presageref07.vanishes -/
namespace ref07_vanishes
noncomputable def code:Code:=bodyOf f77
noncomputable abbrev p1:Code:=dropC 1 code

def b3 (R:EP) (w:World) (_r:Tok R:=tok R):Prop :=
 R (.returned (Value.bool true)) w
abbrev r0 (R:EP) (z:Env) (w:World):Prop:=R (.returned (z 6)) w
abbrev q1 (R:EP):XP:=QX (r0 R) (r0 R) []
theorem b3_ok (R:EP):TI prog R (sndC p1) (q1 R) fun z w=>b3 R w:=ofT
noncomputable abbrev p2:Code:=dropC 1 (fstC p1)
noncomputable abbrev p3:Code:=loopC (blkC p2)
noncomputable abbrev p4:Code:=dropC 1 p3
def b9 (R:EP) (C6:VP) (x7:Value) (w:World) (_r:Tok R:=tok R) (_C6:Tok C6:=tok C6):Prop :=
 RUN prog R (bins .add 3 (.tmp 12) (.const (Value.int .i64 1)) x7 (Value.int .i64 1)) w fun v1 w2 =>
 C6 v1 w2
abbrev q2 (R:EP) (C6:VP):XP:=QX (fun z w=>C6 (z 7) w) (r0 R) [(0,(fun z w=>b3 R  w))]
theorem b9_ok (R:EP) (C6:VP):TI prog R (sndC p4) (q2 R C6) fun z w=>b9 R C6 (z 7) w:=ofT
noncomputable abbrev p5:Code:=blkC (fstC p4)
noncomputable abbrev p6:Code:=dropC 1 p5
def b12 (R:EP) (C6:VP) (x7 x35:Value) (w:World) (_r:Tok R:=tok R) (_C6:Tok C6:=tok C6):Prop :=
 SPL x35
 (R (.returned (Value.bool false)) w)
 (b9 R C6 x7 w)
abbrev q3 (R:EP) (C6:VP):XP:=QX (fun z w=>b9 R C6 (z 7) w) (r0 R) [(2,(fun z w=>b9 R C6 (z 7) w)),(0,(fun z w=>b3 R  w))]
theorem b12_ok (R:EP) (C6:VP):TI prog R p6 (q3 R C6) fun z w=>b12 R C6 (z 7) (z 35) w:=ofT
def b11_1 (R:EP) (C6:VP) (x1 x2 x3 x7:Value) (w:World) (_r:Tok R:=tok R) (_C6:Tok C6:=tok C6):Prop :=
 PUR prog (indexAt 24 x2 x7) fun v7 =>
 LD prog (loadAt 3 v7) (World.drew w) fun v8 =>
 PUR prog (fieldAt 27 x3 0) fun v9 =>
 LD prog (loadAt 22 v9) (World.drew w) fun v10 =>
 LD prog (Builtin.len_ #[22] 3 #[v10]) (World.drew w) fun v11 =>
 PUR prog (bins .sub 3 (.tmp 27) (.tmp 30) v8 v11) fun v12 =>
 PUR prog (indexAt 69 x1 v12) fun v13 =>
 LD prog (loadAt 4 v13) (World.drew w) fun v14 =>
 PUR prog (Op.unary .not v14) fun v15 =>
 b12 R C6 x7 v15 (World.drew w)
def b11 (R:EP) (C6:VP) (x1 x2 x3 x7:Value) (w:World) (_r:Tok R:=tok R) (_C6:Tok C6:=tok C6):Prop :=
 PUR prog (indexAt 24 x2 x7) fun v1 =>
 LD prog (loadAt 3 v1) (World.drew w) fun v2 =>
 PUR prog (fieldAt 27 x3 0) fun v3 =>
 LD prog (loadAt 22 v3) (World.drew w) fun v4 =>
 LD prog (Builtin.len_ #[22] 3 #[v4]) (World.drew w) fun v5 =>
 PUR prog (bins .lss 3 (.tmp 17) (.tmp 20) v2 v5) fun v6 =>
 SPL v6
 (b12 R C6 x7 (Value.bool true) (World.drew w))
 (b11_1 R C6 x1 x2 x3 x7 w)
theorem b11_ok (R:EP) (C6:VP):TI prog R p5 (q3 R C6) fun z w=>b11 R C6 (z 1) (z 2) (z 3) (z 7) w:=appT 0 (b12_ok R C6)
abbrev q4 (R:EP) (C6:VP):XP:=QX (fun z w=>b9 R C6 (z 7) w) (r0 R) [(0,(fun z w=>b3 R  w))]
theorem k10_ok (R:EP) (C6:VP):TI prog R (fstC p4) (q4 R C6) fun z w=>b11 R C6 (z 1) (z 2) (z 3) (z 7) w:=blockT 1 (b11_ok R C6)
theorem k8_ok (R:EP) (C6:VP):TI prog R p4 (q2 R C6) fun z w=>b11 R C6 (z 1) (z 2) (z 3) (z 7) w:=seqT (k10_ok R C6) (b9_ok R C6)
def b7 (R:EP) (C6:VP) (x1 x2 x3 x7:Value) (w:World) (_r:Tok R:=tok R) (_C6:Tok C6:=tok C6):Prop :=
 RUN prog R (Builtin.len_ #[24] 3 #[x2]) w fun v1 w2 =>
 RUN prog R (bins .lss 3 (.tmp 8) (.tmp 10) x7 v1) w2 fun v3 w4 =>
 SPL v3
 (b11 R C6 x1 x2 x3 x7 w4)
 (b3 R w4)
theorem b7_ok (R:EP) (C6:VP):TI prog R p3 (q2 R C6) fun z w=>b7 R C6 (z 1) (z 2) (z 3) (z 7) w:=appT 0 (k8_ok R C6)
def l6 (R:EP) (x1 x2 x3 x7:Value) (w:World) (_r:Tok R:=tok R):Prop :=
 ∃(J:VP) (μ:Value→World→Nat),J x7 w∧∀y7 w0,J y7 w0→b7 R (fun z7 w1=>J z7 w1∧μ z7 w1<μ y7 w0) x1 x2 x3 y7 w0
abbrev q5 (R:EP):XP:=QX (fun z w=>b3 R  w) (r0 R) [(0,(fun z w=>b3 R  w))]
theorem l6_ok (R:EP):TI prog R (blkC p2) (q5 R) fun z w=>l6 R (z 1) (z 2) (z 3) (z 7) w:=fun z w h=>by
 unfold l6 at h
 obtain ⟨J,μ,h0,hr⟩:=h
 refine loopT (fun z' w'=>J (z' 7) w') (fun z' w'=>μ (z' 7) w') h0 fun z' w' hA hI=>b7_ok R (fun z7 w1=>J z7 w1∧μ z7 w1<μ (z' 7) w') z' w' ?_
 have h1:=hr (z' 7) w' hI
 rwa [←hA.on 1,←hA.on 2,←hA.on 3] at h1
theorem l6_intro (R:EP) (x1 x2 x3 x7:Value) (w:World) (J:VP) (μ:Value→World→Nat) (h0:J x7 w)
   (hr:∀y7 w0,J y7 w0→∀C6:VP,(∀z7 w1,J z7 w1→μ z7 w1<μ y7 w0→C6 z7 w1)→b7 R C6 x1 x2 x3 y7 w0):l6 R x1 x2 x3 x7 w:=by
 unfold l6
 exact ⟨J,μ,h0,fun y7 w0 hJ=>hr y7 w0 hJ _ (fun z7 w1 h1 h2=>⟨h1,h2⟩)⟩
abbrev q6 (R:EP):XP:=QX (fun z w=>b3 R  w) (r0 R) []
theorem k5_ok (R:EP):TI prog R p2 (q6 R) fun z w=>l6 R (z 1) (z 2) (z 3) (z 7) w:=blockT 0 (l6_ok R)
def b4 (R:EP) (x1 x2 x3:Value) (w:World) (_r:Tok R:=tok R):Prop :=
 l6 R x1 x2 x3 (Value.int .i64 0) w
theorem b4_ok (R:EP):TI prog R (fstC p1) (q6 R) fun z w=>b4 R (z 1) (z 2) (z 3) w:=appT 0 (k5_ok R)
theorem k2_ok (R:EP):TI prog R p1 (q1 R) fun z w=>b4 R (z 1) (z 2) (z 3) w:=seqT (b4_ok R) (b3_ok R)
def b1 (R:EP) (x0 x1 x2:Value) (w:World) (_r:Tok R:=tok R):Prop :=
 RUN prog R (box 27 x0) w fun v1 w2 =>
 b4 R x1 x2 v1 w2
theorem b1_ok (R:EP):TI prog R code (q1 R) fun z w=>b1 R (z 0) (z 1) (z 2) w:=appT 0 (k2_ok R)
def run (R:EP) (a0 a1 a2:Value) (w:World):Prop:=b1 R a0 a1 a2 w
theorem calls (R:EP) (a0 a1 a2:Value) (w:World) (h:run R a0 a1 a2 w):Calls prog id #[a0,a1,a2] w R:=cls_t func77 [a0,a1,a2] (b1_ok R _ w h)
theorem enters:Enters prog id:=fun args w=>call77 args w
theorem ct {a0 a1 a2:Value} {w:World} {S:VP} (h:∀R:EP,(∀v w,S v w→R (.returned v) w)→run R a0 a1 a2 w):Ct prog id #[a0,a1,a2] w S :=
 Ct.intro enters fun R hR=>calls R a0 a1 a2 w (h R hR)
attribute [irreducible] l6
attribute [irreducible,go_sem] b3 b9 b12 b11_1 b11 b7 b4 b1 run
end ref07_vanishes
end Go.Proofs.Ytmoepnfobnpdiaa
