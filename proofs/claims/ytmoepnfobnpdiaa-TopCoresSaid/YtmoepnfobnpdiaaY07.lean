/- Shallow programs, written by a program of ours (gen.py) off the translation; each is tied to the code by the kernel. -/
import Derived.Test.YtmoepnfobnpdiaaY04
set_option linter.unusedVariables false
set_option maxRecDepth 100000
namespace Go.Proofs.Ytmoepnfobnpdiaa
open Go.Px Try Instr

/-! ### presage/presagetop.TopCores -/
namespace top_TopCores
noncomputable def code:Code:=bodyOf f3
noncomputable abbrev p1:Code:=dropC 9 code
noncomputable abbrev p2:Code:=sndC (sndC p1)

def b5 (R:EP) (w:World) (_r:Tok R:=tok R):Prop :=
 R (.returned (Value.bool true)) w
abbrev r0 (R:EP) (z:Env) (w:World):Prop:=R (.returned (z 2)) w
abbrev q1 (R:EP):XP:=QX (r0 R) (r0 R) []
theorem b5_ok (R:EP):TI prog R (sndC p2) (q1 R) fun z w=>b5 R w:=ofT
noncomputable abbrev p3:Code:=dropC 1 (fstC p2)
noncomputable abbrev p4:Code:=loopC (blkC p3)
noncomputable abbrev p5:Code:=dropC 1 p4

def b11 (R:EP) (C8:VP) (x14:Value) (w:World) (_r:Tok R:=tok R) (_C8:Tok C8:=tok C8):Prop :=
 RUN prog R (bins .add 3 (.tmp 121) (.const (Value.int .i64 1)) x14 (Value.int .i64 1)) w fun v1 w2 =>
 C8 v1 w2
abbrev q2 (R:EP) (C8:VP):XP:=QX (fun z w=>C8 (z 14) w) (r0 R) [(8,(fun z w=>b5 R  w))]
theorem b11_ok (R:EP) (C8:VP):TI prog R (sndC p5) (q2 R C8) fun z w=>b11 R C8 (z 14) w:=ofT
noncomputable abbrev p6:Code:=blkC (fstC p5)
noncomputable abbrev p7:Code:=dropC 2 p6
noncomputable abbrev p8:Code:=dropC 1 (sndC p7)

def b16 (R:EP) (C8:VP) (x14 x155:Value) (w:World) (_r:Tok R:=tok R) (_C8:Tok C8:=tok C8):Prop :=
 SPL x155
 (R (.returned (Value.bool false)) w)
 (b11 R C8 x14 w)
abbrev q3 (R:EP) (C8:VP):XP:=QX (fun z w=>b11 R C8 (z 14) w) (r0 R) [(10,(fun z w=>b11 R C8 (z 14) w)),(8,(fun z w=>b5 R  w))]
theorem b16_ok (R:EP) (C8:VP):TI prog R p8 (q3 R C8) fun z w=>b16 R C8 (z 14) (z 155) w:=ofT

def b15 (R:EP) (C8:VP) (x14 x16 x17:Value) (w:World) (_r:Tok R:=tok R) (_C8:Tok C8:=tok C8):Prop :=
 RUN prog R (Op.unary .not x17) w fun v1 w2 =>
 SPL v1
 (b16 R C8 x14 (Value.bool true) w2)
 (RUN prog R (bins .neq 31 (.tmp 153) (.const (Value.int .i64 0)) x16 (Value.int .i64 0)) w2 fun v3 w4 =>
 b16 R C8 x14 v3 w4)
theorem b15_ok (R:EP) (C8:VP):TI prog R (sndC p7) (q3 R C8) fun z w=>b15 R C8 (z 14) (z 16) (z 17) w:=appT 0 (b16_ok R C8)
noncomputable abbrev p9:Code:=dropC 1 (fstC p7)
noncomputable abbrev p10:Code:=loopC (blkC p9)

def b21 (R:EP) (C8:VP) (C19:Value→VP) (x9 x15 x18:Value) (w:World) (_r:Tok R:=tok R) (_C8:Tok C8:=tok C8) (_C19:Tok C19:=tok C19):Prop :=
 RUN prog R (indexAt 38 x9 x18) w fun v1 w2 =>
 RUN prog R (loadAt 39 v1) w2 fun v3 w4 =>
 CALL prog R ref09_SameItems.id #[v3,x15] w4 fun v5 w6 =>
 RUN prog R (bins .add 3 (.tmp 142) (.const (Value.int .i64 1)) x18 (Value.int .i64 1)) w6 fun v7 w8 =>
 C19 v5 v7 w8
abbrev q4 (R:EP) (C8:VP) (C19:Value→VP):XP:=QX (fun z w=>C19 (z 17) (z 18) w) (r0 R) [(12,(fun z w=>b15 R C8 (z 14) (z 16) (z 17) w)),(10,(fun z w=>b11 R C8 (z 14) w)),(8,(fun z w=>b5 R  w))]
theorem b21_ok (R:EP) (C8:VP) (C19:Value→VP):TI prog R (sndC p10) (q4 R C8 C19) fun z w=>b21 R C8 C19 (z 9) (z 15) (z 18) w:=ofT
noncomputable abbrev p11:Code:=dropC 1 (fstC p10)

def b23 (R:EP) (C8:VP) (C19:Value→VP) (x9 x14 x15 x16 x17 x18 x141:Value) (w:World) (_r:Tok R:=tok R) (_C8:Tok C8:=tok C8) (_C19:Tok C19:=tok C19):Prop :=
 SPL x141
 (b21 R C8 C19 x9 x15 x18 w)
 (b15 R C8 x14 x16 x17 w)
abbrev q5 (R:EP) (C8:VP) (C19:Value→VP):XP:=QX (fun z w=>b21 R C8 C19 (z 9) (z 15) (z 18) w) (r0 R) [(12,(fun z w=>b15 R C8 (z 14) (z 16) (z 17) w)),(10,(fun z w=>b11 R C8 (z 14) w)),(8,(fun z w=>b5 R  w))]
theorem b23_ok (R:EP) (C8:VP) (C19:Value→VP):TI prog R p11 (q5 R C8 C19) fun z w=>b23 R C8 C19 (z 9) (z 14) (z 15) (z 16) (z 17) (z 18) (z 141) w:=ofT

def b22 (R:EP) (C8:VP) (C19:Value→VP) (x9 x14 x15 x16 x17 x18:Value) (w:World) (_r:Tok R:=tok R) (_C8:Tok C8:=tok C8) (_C19:Tok C19:=tok C19):Prop :=
 RUN prog R (Builtin.len_ #[38] 3 #[x9]) w fun v1 w2 =>
 RUN prog R (bins .lss 3 (.tmp 134) (.tmp 136) x18 v1) w2 fun v3 w4 =>
 SPL v3
 (RUN prog R (Op.unary .not x17) w4 fun v5 w6 =>
 b23 R C8 C19 x9 x14 x15 x16 x17 x18 v5 w6)
 (b23 R C8 C19 x9 x14 x15 x16 x17 x18 (Value.bool false) w4)
theorem b22_ok (R:EP) (C8:VP) (C19:Value→VP):TI prog R (fstC p10) (q5 R C8 C19) fun z w=>b22 R C8 C19 (z 9) (z 14) (z 15) (z 16) (z 17) (z 18) w:=appT 0 (b23_ok R C8 C19)
theorem k20_ok (R:EP) (C8:VP) (C19:Value→VP):TI prog R p10 (q4 R C8 C19) fun z w=>b22 R C8 C19 (z 9) (z 14) (z 15) (z 16) (z 17) (z 18) w:=seqT (b22_ok R C8 C19) (b21_ok R C8 C19)

def l19 (R:EP) (C8:VP) (x9 x14 x15 x16 x17 x18:Value) (w:World) (_r:Tok R:=tok R) (_C8:Tok C8:=tok C8):Prop :=
 ∃(J:Value→VP) (μ:Value→Value→World→Nat),J x17 x18 w∧∀y17 y18 w0,J y17 y18 w0→b22 R C8 (fun z17 z18 w1=>J z17 z18 w1∧μ z17 z18 w1<μ y17 y18 w0) x9 x14 x15 x16 y17 y18 w0
abbrev q6 (R:EP) (C8:VP):XP:=QX (fun z w=>b15 R C8 (z 14) (z 16) (z 17) w) (r0 R) [(12,(fun z w=>b15 R C8 (z 14) (z 16) (z 17) w)),(10,(fun z w=>b11 R C8 (z 14) w)),(8,(fun z w=>b5 R  w))]
theorem l19_ok (R:EP) (C8:VP):TI prog R (blkC p9) (q6 R C8) fun z w=>l19 R C8 (z 9) (z 14) (z 15) (z 16) (z 17) (z 18) w:=fun z w h=>by
 unfold l19 at h
 obtain ⟨J,μ,h0,hr⟩:=h
 refine loopT (fun z' w'=>J (z' 17) (z' 18) w') (fun z' w'=>μ (z' 17) (z' 18) w') h0 fun z' w' hA hI=>k20_ok R C8 (fun z17 z18 w1=>J z17 z18 w1∧μ z17 z18 w1<μ (z' 17) (z' 18) w') z' w' ?_
 have h1:=hr (z' 17) (z' 18) w' hI
 rwa [←hA.on 9,←hA.on 14,←hA.on 15,←hA.on 16] at h1
theorem l19_intro (R:EP) (C8:VP) (x9 x14 x15 x16 x17 x18:Value) (w:World) (J:Value→VP) (μ:Value→Value→World→Nat) (h0:J x17 x18 w)
   (hr:∀y17 y18 w0,J y17 y18 w0→∀C19:Value→VP,(∀z17 z18 w1,J z17 z18 w1→μ z17 z18 w1<μ y17 y18 w0→C19 z17 z18 w1)→b22 R C8 C19 x9 x14 x15 x16 y17 y18 w0):l19 R C8 x9 x14 x15 x16 x17 x18 w:=by
 unfold l19
 exact ⟨J,μ,h0,fun y17 y18 w0 hJ=>hr y17 y18 w0 hJ _ (fun z17 z18 w1 h1 h2=>⟨h1,h2⟩)⟩
abbrev q7 (R:EP) (C8:VP):XP:=QX (fun z w=>b15 R C8 (z 14) (z 16) (z 17) w) (r0 R) [(10,(fun z w=>b11 R C8 (z 14) w)),(8,(fun z w=>b5 R  w))]
theorem k18_ok (R:EP) (C8:VP):TI prog R p9 (q7 R C8) fun z w=>l19 R C8 (z 9) (z 14) (z 15) (z 16) (z 17) (z 18) w:=blockT 6 (l19_ok R C8)

def b17 (R:EP) (C8:VP) (x9 x14 x15 x16 x17:Value) (w:World) (_r:Tok R:=tok R) (_C8:Tok C8:=tok C8):Prop :=
 l19 R C8 x9 x14 x15 x16 x17 (Value.int .i64 0) w
theorem b17_ok (R:EP) (C8:VP):TI prog R (fstC p7) (q7 R C8) fun z w=>b17 R C8 (z 9) (z 14) (z 15) (z 16) (z 17) w:=appT 0 (k18_ok R C8)
theorem k14_ok (R:EP) (C8:VP):TI prog R p7 (q3 R C8) fun z w=>b17 R C8 (z 9) (z 14) (z 15) (z 16) (z 17) w:=seqT (b17_ok R C8) (b15_ok R C8)
def b13_1 (R:EP) (C8:VP) (x9 x14 v7:Value) (w8:World) (_r:Tok R:=tok R) (_C8:Tok C8:=tok C8):Prop :=
 PUR prog (extract v7 0) fun v9 =>
 PUR prog (extract v7 1) fun v10 =>
 b17 R C8 x9 x14 v9 v10 (Value.bool false) w8

def b13 (R:EP) (C8:VP) (x1 x3 x9 x14:Value) (w:World) (_r:Tok R:=tok R) (_C8:Tok C8:=tok C8):Prop :=
 LD prog (loadAt 27 x1) (World.drew w) fun v1 =>
 PUR prog (fieldAt 30 x3 0) fun v2 =>
 LD prog (loadAt 28 v2) (World.drew w) fun v3 =>
 PUR prog (indexAt 28 v3 x14) fun v4 =>
 PUR prog (fieldAt 48 v4 0) fun v5 =>
 LD prog (loadAt 39 v5) (World.drew w) fun v6 =>
 CALL prog R lr0_Closure.id #[v1,v6] (World.drew w) fun v7 w8 =>
 b13_1 R C8 x9 x14 v7 w8
theorem b13_ok (R:EP) (C8:VP):TI prog R p6 (q3 R C8) fun z w=>b13 R C8 (z 1) (z 3) (z 9) (z 14) w:=appT 1 (k14_ok R C8)
abbrev q8 (R:EP) (C8:VP):XP:=QX (fun z w=>b11 R C8 (z 14) w) (r0 R) [(8,(fun z w=>b5 R  w))]
theorem k12_ok (R:EP) (C8:VP):TI prog R (fstC p5) (q8 R C8) fun z w=>b13 R C8 (z 1) (z 3) (z 9) (z 14) w:=blockT 5 (b13_ok R C8)
theorem k10_ok (R:EP) (C8:VP):TI prog R p5 (q2 R C8) fun z w=>b13 R C8 (z 1) (z 3) (z 9) (z 14) w:=seqT (k12_ok R C8) (b11_ok R C8)

def b9 (R:EP) (C8:VP) (x1 x3 x9 x14:Value) (w:World) (_r:Tok R:=tok R) (_C8:Tok C8:=tok C8):Prop :=
 RUN prog R (fieldAt 30 x3 0) w fun v1 w2 =>
 RUN prog R (loadAt 28 v1) w2 fun v3 w4 =>
 RUN prog R (Builtin.len_ #[28] 3 #[v3]) w4 fun v5 w6 =>
 RUN prog R (bins .lss 3 (.tmp 116) (.tmp 119) x14 v5) w6 fun v7 w8 =>
 SPL v7
 (b13 R C8 x1 x3 x9 x14 w8)
 (b5 R w8)
theorem b9_ok (R:EP) (C8:VP):TI prog R p4 (q2 R C8) fun z w=>b9 R C8 (z 1) (z 3) (z 9) (z 14) w:=appT 0 (k10_ok R C8)

def l8 (R:EP) (x1 x3 x9 x14:Value) (w:World) (_r:Tok R:=tok R):Prop :=
 ∃(J:VP) (μ:Value→World→Nat),J x14 w∧∀y14 w0,J y14 w0→b9 R (fun z14 w1=>J z14 w1∧μ z14 w1<μ y14 w0) x1 x3 x9 y14 w0
abbrev q9 (R:EP):XP:=QX (fun z w=>b5 R  w) (r0 R) [(8,(fun z w=>b5 R  w))]
theorem l8_ok (R:EP):TI prog R (blkC p3) (q9 R) fun z w=>l8 R (z 1) (z 3) (z 9) (z 14) w:=fun z w h=>by
 unfold l8 at h
 obtain ⟨J,μ,h0,hr⟩:=h
 refine loopT (fun z' w'=>J (z' 14) w') (fun z' w'=>μ (z' 14) w') h0 fun z' w' hA hI=>b9_ok R (fun z14 w1=>J z14 w1∧μ z14 w1<μ (z' 14) w') z' w' ?_
 have h1:=hr (z' 14) w' hI
 rwa [←hA.on 1,←hA.on 3,←hA.on 9] at h1
theorem l8_intro (R:EP) (x1 x3 x9 x14:Value) (w:World) (J:VP) (μ:Value→World→Nat) (h0:J x14 w)
   (hr:∀y14 w0,J y14 w0→∀C8:VP,(∀z14 w1,J z14 w1→μ z14 w1<μ y14 w0→C8 z14 w1)→b9 R C8 x1 x3 x9 y14 w0):l8 R x1 x3 x9 x14 w:=by
 unfold l8
 exact ⟨J,μ,h0,fun y14 w0 hJ=>hr y14 w0 hJ _ (fun z14 w1 h1 h2=>⟨h1,h2⟩)⟩
abbrev q10 (R:EP):XP:=QX (fun z w=>b5 R  w) (r0 R) []
theorem k7_ok (R:EP):TI prog R p3 (q10 R) fun z w=>l8 R (z 1) (z 3) (z 9) (z 14) w:=blockT 4 (l8_ok R)

def b6 (R:EP) (x1 x3 x9:Value) (w:World) (_r:Tok R:=tok R):Prop :=
 l8 R x1 x3 x9 (Value.int .i64 0) w
theorem b6_ok (R:EP):TI prog R (fstC p2) (q10 R) fun z w=>b6 R (z 1) (z 3) (z 9) w:=appT 0 (k7_ok R)
theorem k4_ok (R:EP):TI prog R p2 (q1 R) fun z w=>b6 R (z 1) (z 3) (z 9) w:=seqT (b6_ok R) (b5_ok R)
noncomputable abbrev p12:Code:=fstC (sndC p1)
noncomputable abbrev p13:Code:=dropC 1 p12

def b25 (R:EP) (x1 x3 x9 x115:Value) (w:World) (_r:Tok R:=tok R):Prop :=
 SPL x115
 (R (.returned (Value.bool false)) w)
 (b6 R x1 x3 x9 w)
abbrev q11 (R:EP):XP:=QX (fun z w=>b6 R (z 1) (z 3) (z 9) w) (r0 R) []
theorem b25_ok (R:EP):TI prog R p13 (q11 R) fun z w=>b25 R (z 1) (z 3) (z 9) (z 115) w:=ofT
def b24_1 (R:EP) (x1 x3 x9:Value) (w8:World) (_r:Tok R:=tok R):Prop :=
 RUN prog R (fieldAt 30 x3 0) w8 fun v9 w10 =>
 RUN prog R (loadAt 28 v9) w10 fun v11 w12 =>
 RUN prog R (Builtin.len_ #[28] 3 #[v11]) w12 fun v13 w14 =>
 RUN prog R (Builtin.len_ #[38] 3 #[x9]) w14 fun v15 w16 =>
 RUN prog R (bins .neq 3 (.tmp 111) (.tmp 113) v13 v15) w16 fun v17 w18 =>
 b25 R x1 x3 x9 v17 w18

def b24 (R:EP) (x1 x3 x9:Value) (w:World) (_r:Tok R:=tok R):Prop :=
 RUN prog R (fieldAt 30 x3 2) w fun v1 w2 =>
 RUN prog R (loadAt 3 v1) w2 fun v3 w4 =>
 RUN prog R (Builtin.len_ #[38] 3 #[x9]) w4 fun v5 w6 =>
 RUN prog R (bins .neq 3 (.tmp 104) (.tmp 106) v3 v5) w6 fun v7 w8 =>
 SPL v7
 (b25 R x1 x3 x9 (Value.bool true) w8)
 (b24_1 R x1 x3 x9 w8)
theorem b24_ok (R:EP):TI prog R p12 (q11 R) fun z w=>b24 R (z 1) (z 3) (z 9) w:=appT 0 (b25_ok R)
theorem k3_ok (R:EP):TI prog R (sndC p1) (q1 R) fun z w=>b24 R (z 1) (z 3) (z 9) w:=seqT (b24_ok R) (k4_ok R)
noncomputable abbrev p14:Code:=dropC 1 (fstC p1)
noncomputable abbrev p15:Code:=loopC (blkC p14)
noncomputable abbrev p16:Code:=dropC 1 p15

def b31 (R:EP) (C28:Value→VP) (x9 x10:Value) (w:World) (_r:Tok R:=tok R) (_C28:Tok C28:=tok C28):Prop :=
 RUN prog R (bins .add 3 (.tmp 74) (.const (Value.int .i64 1)) x10 (Value.int .i64 1)) w fun v1 w2 =>
 C28 x9 v1 w2
abbrev q12 (R:EP) (C28:Value→VP):XP:=QX (fun z w=>C28 (z 9) (z 10) w) (r0 R) [(0,(fun z w=>b24 R (z 1) (z 3) (z 9) w))]
theorem b31_ok (R:EP) (C28:Value→VP):TI prog R (sndC p16) (q12 R C28) fun z w=>b31 R C28 (z 9) (z 10) w:=ofT
noncomputable abbrev p17:Code:=blkC (fstC p16)
noncomputable abbrev p18:Code:=dropC 2 p17
def b35_1 (R:EP) (C28:Value→VP) (x9 x10 x11:Value) (w2:World) (_r:Tok R:=tok R) (_C28:Tok C28:=tok C28):Prop :=
 RUN prog R (buildSlice 38 1 #[(0,x11)]) w2 fun v3 w4 =>
 RUN prog R (Builtin.append_ #[38,38] 38 #[x9,v3]) w4 fun v5 w6 =>
 b31 R C28 v5 x10 w6

def b35 (R:EP) (C28:Value→VP) (x9 x10 x11 x12:Value) (w:World) (_r:Tok R:=tok R) (_C28:Tok C28:=tok C28):Prop :=
 RUN prog R (Op.unary .not x12) w fun v1 w2 =>
 SPL v1
 (b35_1 R C28 x9 x10 x11 w2)
 (b31 R C28 x9 x10 w2)
abbrev q13 (R:EP) (C28:Value→VP):XP:=QX (fun z w=>b31 R C28 (z 9) (z 10) w) (r0 R) [(2,(fun z w=>b31 R C28 (z 9) (z 10) w)),(0,(fun z w=>b24 R (z 1) (z 3) (z 9) w))]
theorem b35_ok (R:EP) (C28:Value→VP):TI prog R (sndC p18) (q13 R C28) fun z w=>b35 R C28 (z 9) (z 10) (z 11) (z 12) w:=ofT
noncomputable abbrev p19:Code:=dropC 1 (fstC p18)
noncomputable abbrev p20:Code:=loopC (blkC p19)

def b40 (R:EP) (C28:Value→VP) (C38:Value→VP) (x9 x11 x13:Value) (w:World) (_r:Tok R:=tok R) (_C28:Tok C28:=tok C28) (_C38:Tok C38:=tok C38):Prop :=
 RUN prog R (indexAt 38 x9 x13) w fun v1 w2 =>
 RUN prog R (loadAt 39 v1) w2 fun v3 w4 =>
 CALL prog R ref09_SameItems.id #[v3,x11] w4 fun v5 w6 =>
 RUN prog R (bins .add 3 (.tmp 89) (.const (Value.int .i64 1)) x13 (Value.int .i64 1)) w6 fun v7 w8 =>
 C38 v5 v7 w8
abbrev q14 (R:EP) (C28:Value→VP) (C38:Value→VP):XP:=QX (fun z w=>C38 (z 12) (z 13) w) (r0 R) [(4,(fun z w=>b35 R C28 (z 9) (z 10) (z 11) (z 12) w)),(2,(fun z w=>b31 R C28 (z 9) (z 10) w)),(0,(fun z w=>b24 R (z 1) (z 3) (z 9) w))]
theorem b40_ok (R:EP) (C28:Value→VP) (C38:Value→VP):TI prog R (sndC p20) (q14 R C28 C38) fun z w=>b40 R C28 C38 (z 9) (z 11) (z 13) w:=ofT
noncomputable abbrev p21:Code:=dropC 1 (fstC p20)

def b42 (R:EP) (C28:Value→VP) (C38:Value→VP) (x9 x10 x11 x12 x13 x88:Value) (w:World) (_r:Tok R:=tok R) (_C28:Tok C28:=tok C28) (_C38:Tok C38:=tok C38):Prop :=
 SPL x88
 (b40 R C28 C38 x9 x11 x13 w)
 (b35 R C28 x9 x10 x11 x12 w)
abbrev q15 (R:EP) (C28:Value→VP) (C38:Value→VP):XP:=QX (fun z w=>b40 R C28 C38 (z 9) (z 11) (z 13) w) (r0 R) [(4,(fun z w=>b35 R C28 (z 9) (z 10) (z 11) (z 12) w)),(2,(fun z w=>b31 R C28 (z 9) (z 10) w)),(0,(fun z w=>b24 R (z 1) (z 3) (z 9) w))]
theorem b42_ok (R:EP) (C28:Value→VP) (C38:Value→VP):TI prog R p21 (q15 R C28 C38) fun z w=>b42 R C28 C38 (z 9) (z 10) (z 11) (z 12) (z 13) (z 88) w:=ofT

def b41 (R:EP) (C28:Value→VP) (C38:Value→VP) (x9 x10 x11 x12 x13:Value) (w:World) (_r:Tok R:=tok R) (_C28:Tok C28:=tok C28) (_C38:Tok C38:=tok C38):Prop :=
 RUN prog R (Builtin.len_ #[38] 3 #[x9]) w fun v1 w2 =>
 RUN prog R (bins .lss 3 (.tmp 81) (.tmp 83) x13 v1) w2 fun v3 w4 =>
 SPL v3
 (RUN prog R (Op.unary .not x12) w4 fun v5 w6 =>
 b42 R C28 C38 x9 x10 x11 x12 x13 v5 w6)
 (b42 R C28 C38 x9 x10 x11 x12 x13 (Value.bool false) w4)
theorem b41_ok (R:EP) (C28:Value→VP) (C38:Value→VP):TI prog R (fstC p20) (q15 R C28 C38) fun z w=>b41 R C28 C38 (z 9) (z 10) (z 11) (z 12) (z 13) w:=appT 0 (b42_ok R C28 C38)
theorem k39_ok (R:EP) (C28:Value→VP) (C38:Value→VP):TI prog R p20 (q14 R C28 C38) fun z w=>b41 R C28 C38 (z 9) (z 10) (z 11) (z 12) (z 13) w:=seqT (b41_ok R C28 C38) (b40_ok R C28 C38)

def l38 (R:EP) (C28:Value→VP) (x9 x10 x11 x12 x13:Value) (w:World) (_r:Tok R:=tok R) (_C28:Tok C28:=tok C28):Prop :=
 ∃(J:Value→VP) (μ:Value→Value→World→Nat),J x12 x13 w∧∀y12 y13 w0,J y12 y13 w0→b41 R C28 (fun z12 z13 w1=>J z12 z13 w1∧μ z12 z13 w1<μ y12 y13 w0) x9 x10 x11 y12 y13 w0
abbrev q16 (R:EP) (C28:Value→VP):XP:=QX (fun z w=>b35 R C28 (z 9) (z 10) (z 11) (z 12) w) (r0 R) [(4,(fun z w=>b35 R C28 (z 9) (z 10) (z 11) (z 12) w)),(2,(fun z w=>b31 R C28 (z 9) (z 10) w)),(0,(fun z w=>b24 R (z 1) (z 3) (z 9) w))]
theorem l38_ok (R:EP) (C28:Value→VP):TI prog R (blkC p19) (q16 R C28) fun z w=>l38 R C28 (z 9) (z 10) (z 11) (z 12) (z 13) w:=fun z w h=>by
 unfold l38 at h
 obtain ⟨J,μ,h0,hr⟩:=h
 refine loopT (fun z' w'=>J (z' 12) (z' 13) w') (fun z' w'=>μ (z' 12) (z' 13) w') h0 fun z' w' hA hI=>k39_ok R C28 (fun z12 z13 w1=>J z12 z13 w1∧μ z12 z13 w1<μ (z' 12) (z' 13) w') z' w' ?_
 have h1:=hr (z' 12) (z' 13) w' hI
 rwa [←hA.on 9,←hA.on 10,←hA.on 11] at h1
theorem l38_intro (R:EP) (C28:Value→VP) (x9 x10 x11 x12 x13:Value) (w:World) (J:Value→VP) (μ:Value→Value→World→Nat) (h0:J x12 x13 w)
   (hr:∀y12 y13 w0,J y12 y13 w0→∀C38:Value→VP,(∀z12 z13 w1,J z12 z13 w1→μ z12 z13 w1<μ y12 y13 w0→C38 z12 z13 w1)→b41 R C28 C38 x9 x10 x11 y12 y13 w0):l38 R C28 x9 x10 x11 x12 x13 w:=by
 unfold l38
 exact ⟨J,μ,h0,fun y12 y13 w0 hJ=>hr y12 y13 w0 hJ _ (fun z12 z13 w1 h1 h2=>⟨h1,h2⟩)⟩
abbrev q17 (R:EP) (C28:Value→VP):XP:=QX (fun z w=>b35 R C28 (z 9) (z 10) (z 11) (z 12) w) (r0 R) [(2,(fun z w=>b31 R C28 (z 9) (z 10) w)),(0,(fun z w=>b24 R (z 1) (z 3) (z 9) w))]
theorem k37_ok (R:EP) (C28:Value→VP):TI prog R p19 (q17 R C28) fun z w=>l38 R C28 (z 9) (z 10) (z 11) (z 12) (z 13) w:=blockT 2 (l38_ok R C28)

def b36 (R:EP) (C28:Value→VP) (x9 x10 x11 x12:Value) (w:World) (_r:Tok R:=tok R) (_C28:Tok C28:=tok C28):Prop :=
 l38 R C28 x9 x10 x11 x12 (Value.int .i64 0) w
theorem b36_ok (R:EP) (C28:Value→VP):TI prog R (fstC p18) (q17 R C28) fun z w=>b36 R C28 (z 9) (z 10) (z 11) (z 12) w:=appT 0 (k37_ok R C28)
theorem k34_ok (R:EP) (C28:Value→VP):TI prog R p18 (q13 R C28) fun z w=>b36 R C28 (z 9) (z 10) (z 11) (z 12) w:=seqT (b36_ok R C28) (b35_ok R C28)

def b33 (R:EP) (C28:Value→VP) (x7 x9 x10:Value) (w:World) (_r:Tok R:=tok R) (_C28:Tok C28:=tok C28):Prop :=
 RUN prog R (indexAt 35 x7 x10) w fun v1 w2 =>
 RUN prog R (loadAt 42 v1) w2 fun v3 w4 =>
 CALL prog R top_core.id #[v3] w4 fun v5 w6 =>
 b36 R C28 x9 x10 v5 (Value.bool false) w6
theorem b33_ok (R:EP) (C28:Value→VP):TI prog R p17 (q13 R C28) fun z w=>b33 R C28 (z 7) (z 9) (z 10) w:=appT 1 (k34_ok R C28)
abbrev q18 (R:EP) (C28:Value→VP):XP:=QX (fun z w=>b31 R C28 (z 9) (z 10) w) (r0 R) [(0,(fun z w=>b24 R (z 1) (z 3) (z 9) w))]
theorem k32_ok (R:EP) (C28:Value→VP):TI prog R (fstC p16) (q18 R C28) fun z w=>b33 R C28 (z 7) (z 9) (z 10) w:=blockT 1 (b33_ok R C28)
theorem k30_ok (R:EP) (C28:Value→VP):TI prog R p16 (q12 R C28) fun z w=>b33 R C28 (z 7) (z 9) (z 10) w:=seqT (k32_ok R C28) (b31_ok R C28)

def b29 (R:EP) (C28:Value→VP) (x1 x3 x7 x9 x10:Value) (w:World) (_r:Tok R:=tok R) (_C28:Tok C28:=tok C28):Prop :=
 RUN prog R (Builtin.len_ #[35] 3 #[x7]) w fun v1 w2 =>
 RUN prog R (bins .lss 3 (.tmp 70) (.tmp 72) x10 v1) w2 fun v3 w4 =>
 SPL v3
 (b33 R C28 x7 x9 x10 w4)
 (b24 R x1 x3 x9 w4)
theorem b29_ok (R:EP) (C28:Value→VP):TI prog R p15 (q12 R C28) fun z w=>b29 R C28 (z 1) (z 3) (z 7) (z 9) (z 10) w:=appT 0 (k30_ok R C28)

def l28 (R:EP) (x1 x3 x7 x9 x10:Value) (w:World) (_r:Tok R:=tok R):Prop :=
 ∃(J:Value→VP) (μ:Value→Value→World→Nat),J x9 x10 w∧∀y9 y10 w0,J y9 y10 w0→b29 R (fun z9 z10 w1=>J z9 z10 w1∧μ z9 z10 w1<μ y9 y10 w0) x1 x3 x7 y9 y10 w0
abbrev q19 (R:EP):XP:=QX (fun z w=>b24 R (z 1) (z 3) (z 9) w) (r0 R) [(0,(fun z w=>b24 R (z 1) (z 3) (z 9) w))]
theorem l28_ok (R:EP):TI prog R (blkC p14) (q19 R) fun z w=>l28 R (z 1) (z 3) (z 7) (z 9) (z 10) w:=fun z w h=>by
 unfold l28 at h
 obtain ⟨J,μ,h0,hr⟩:=h
 refine loopT (fun z' w'=>J (z' 9) (z' 10) w') (fun z' w'=>μ (z' 9) (z' 10) w') h0 fun z' w' hA hI=>b29_ok R (fun z9 z10 w1=>J z9 z10 w1∧μ z9 z10 w1<μ (z' 9) (z' 10) w') z' w' ?_
 have h1:=hr (z' 9) (z' 10) w' hI
 rwa [←hA.on 1,←hA.on 3,←hA.on 7] at h1
theorem l28_intro (R:EP) (x1 x3 x7 x9 x10:Value) (w:World) (J:Value→VP) (μ:Value→Value→World→Nat) (h0:J x9 x10 w)
   (hr:∀y9 y10 w0,J y9 y10 w0→∀C28:Value→VP,(∀z9 z10 w1,J z9 z10 w1→μ z9 z10 w1<μ y9 y10 w0→C28 z9 z10 w1)→b29 R C28 x1 x3 x7 y9 y10 w0):l28 R x1 x3 x7 x9 x10 w:=by
 unfold l28
 exact ⟨J,μ,h0,fun y9 y10 w0 hJ=>hr y9 y10 w0 hJ _ (fun z9 z10 w1 h1 h2=>⟨h1,h2⟩)⟩
abbrev q20 (R:EP):XP:=QX (fun z w=>b24 R (z 1) (z 3) (z 9) w) (r0 R) []
theorem k27_ok (R:EP):TI prog R p14 (q20 R) fun z w=>l28 R (z 1) (z 3) (z 7) (z 9) (z 10) w:=blockT 0 (l28_ok R)

def b26 (R:EP) (x1 x3 x7 x9:Value) (w:World) (_r:Tok R:=tok R):Prop :=
 l28 R x1 x3 x7 x9 (Value.int .i64 0) w
theorem b26_ok (R:EP):TI prog R (fstC p1) (q20 R) fun z w=>b26 R (z 1) (z 3) (z 7) (z 9) w:=appT 0 (k27_ok R)
theorem k2_ok (R:EP):TI prog R p1 (q1 R) fun z w=>b26 R (z 1) (z 3) (z 7) (z 9) w:=seqT (b26_ok R) (k3_ok R)
def b1_1 (R:EP) (v9 v16:Value) (w25:World) (_r:Tok R:=tok R):Prop :=
 RUN prog R (bins .eql 31 (.tmp 33) (.const (Value.int .i64 11)) v9 (Value.int .i64 11)) w25 fun v26 w27 =>
 RUN prog R (bins .eql 4 (.tmp 32) (.tmp 34) v16 v26) w27 fun v28 w29 =>
 R (.returned v28) w29
def b1_2 (R:EP) (v9 v11 v16:Value) (w19:World) (_r:Tok R:=tok R):Prop :=
 RUN prog R (fieldAt 30 v11 2) w19 fun v20 w21 =>
 RUN prog R (loadAt 3 v20) w21 fun v22 w23 =>
 RUN prog R (bins .eql 3 (.tmp 29) (.const (Value.int .i64 0)) v22 (Value.int .i64 0)) w23 fun v24 w25 =>
 SPL v24
 (b1_1 R v9 v16 w25)
 (R (.returned (Value.bool false)) w25)
def b1_3 (R:EP) (v11:Value) (w47:World) (_r:Tok R:=tok R):Prop :=
 RUN prog R (fieldAt 30 v11 2) w47 fun v48 w49 =>
 RUN prog R (loadAt 3 v48) w49 fun v50 w51 =>
 RUN prog R (bins .gtr 3 (.tmp 49) (.const (Value.int .i64 1)) v50 (Value.int .i64 1)) w51 fun v52 w53 =>
 R (.returned v52) w53
def b1_4 (R:EP) (v11:Value) (w35:World) (_r:Tok R:=tok R):Prop :=
 RUN prog R (fieldAt 30 v11 2) w35 fun v36 w37 =>
 RUN prog R (loadAt 3 v36) w37 fun v38 w39 =>
 RUN prog R (fieldAt 30 v11 0) w39 fun v40 w41 =>
 RUN prog R (loadAt 28 v40) w41 fun v42 w43 =>
 RUN prog R (Builtin.len_ #[28] 3 #[v42]) w43 fun v44 w45 =>
 RUN prog R (bins .eql 3 (.tmp 42) (.tmp 45) v38 v44) w45 fun v46 w47 =>
 SPL v46
 (b1_3 R v11 w47)
 (R (.returned (Value.bool false)) w47)
def b1_5 (R:EP) (v11:Value) (w75:World) (_r:Tok R:=tok R):Prop :=
 RUN prog R (fieldAt 30 v11 2) w75 fun v76 w77 =>
 RUN prog R (loadAt 3 v76) w77 fun v78 w79 =>
 RUN prog R (bins .gtr 3 (.tmp 67) (.const (Value.int .i64 1)) v78 (Value.int .i64 1)) w79 fun v80 w81 =>
 R (.returned v80) w81
def b1_6 (R:EP) (v11:Value) (w63:World) (_r:Tok R:=tok R):Prop :=
 RUN prog R (fieldAt 30 v11 2) w63 fun v64 w65 =>
 RUN prog R (loadAt 3 v64) w65 fun v66 w67 =>
 RUN prog R (fieldAt 30 v11 0) w67 fun v68 w69 =>
 RUN prog R (loadAt 28 v68) w69 fun v70 w71 =>
 RUN prog R (Builtin.len_ #[28] 3 #[v70]) w71 fun v72 w73 =>
 RUN prog R (bins .eql 3 (.tmp 60) (.tmp 63) v66 v72) w73 fun v74 w75 =>
 SPL v74
 (b1_5 R v11 w75)
 (R (.returned (Value.bool false)) w75)
def b1_7 (R:EP) (v1 v11 v56:Value) (w57:World) (_r:Tok R:=tok R):Prop :=
 RUN prog R (extract v56 0) w57 fun v58 w59 =>
 RUN prog R (extract v56 1) w59 fun v60 w61 =>
 RUN prog R (Op.unary .not v60) w61 fun v62 w63 =>
 SPL v62
 (b1_6 R v11 w63)
 (b26 R v1 v11 v58 (Value.slice Option.none 0 0) w63)
def b1_8 (R:EP) (v1 v11:Value) (w35:World) (_r:Tok R:=tok R):Prop :=
 RUN prog R (loadAt 27 v1) w35 fun v54 w55 =>
 CALL prog R top_collection.id #[v54,(Value.int .i64 150)] w55 fun v56 w57 =>
 b1_7 R v1 v11 v56 w57
def b1_9 (R:EP) (v1 v11:Value) (w19:World) (_r:Tok R:=tok R):Prop :=
 RUN prog R (loadAt 27 v1) w19 fun v30 w31 =>
 CALL prog R top_useful.id #[v30] w31 fun v32 w33 =>
 RUN prog R (Op.unary .not v32) w33 fun v34 w35 =>
 SPL v34
 (b1_4 R v11 w35)
 (b1_8 R v1 v11 w35)
def b1_10 (R:EP) (v1 v5:Value) (w6:World) (_r:Tok R:=tok R):Prop :=
 RUN prog R (extract v5 0) w6 fun v7 w8 =>
 RUN prog R (extract v5 1) w8 fun v9 w10 =>
 RUN prog R (alloc 30 true (.tuple #[])) w10 fun v11 w12 =>
 RUNU prog R (storeAt 30 v11 v7) w12 fun w13 =>
 RUN prog R (loadAt 27 v1) w13 fun v14 w15 =>
 CALL prog R ref02_Closed.id #[v14] w15 fun v16 w17 =>
 RUN prog R (bins .neq 31 (.tmp 26) (.const (Value.int .i64 0)) v9 (Value.int .i64 0)) w17 fun v18 w19 =>
 SPL v18
 (b1_2 R v9 v11 v16 w19)
 (b1_9 R v1 v11 w19)

def b1 (R:EP) (x0:Value) (w:World) (_r:Tok R:=tok R):Prop :=
 RUN prog R (box 27 x0) w fun v1 w2 =>
 RUN prog R (loadAt 27 v1) w2 fun v3 w4 =>
 CALL prog R lr0_Build.id #[v3] w4 fun v5 w6 =>
 b1_10 R v1 v5 w6
theorem b1_ok (R:EP):TI prog R code (q1 R) fun z w=>b1 R (z 0) w:=appT 8 (k2_ok R)
def run (R:EP) (a0:Value) (w:World):Prop:=b1 R a0 w
theorem calls (R:EP) (a0:Value) (w:World) (h:run R a0 w):Calls prog id #[a0] w R:=cls_t func3 [a0] (b1_ok R _ w h)
theorem enters:Enters prog id:=fun args w=>call3 args w
theorem ct {a0:Value} {w:World} {S:VP} (h:∀R:EP,(∀v w,S v w→R (.returned v) w)→run R a0 w):Ct prog id #[a0] w S :=
 Ct.intro enters fun R hR=>calls R a0 w (h R hR)
attribute [irreducible] l19 l8 l38 l28
attribute [irreducible,go_sem] b5 b11 b16 b15 b21 b23 b22 b17 b13_1 b13 b9 b6 b25 b24_1 b24 b31 b35_1 b35 b40 b42 b41 b36 b33 b29 b26 b1_1 b1_2 b1_3 b1_4 b1_5 b1_6 b1_7 b1_8 b1_9 b1_10 b1 run
end top_TopCores

/-! ### presage/presagetop.useful -/
namespace top_useful
noncomputable def code:Code:=bodyOf f6
noncomputable abbrev p1:Code:=dropC 2 code
def b3 (R:EP) (x4:Value) (w:World) (_r:Tok R:=tok R):Prop :=
 RUN prog R (bins .eql 31 (.tmp 22) (.const (Value.int .i64 0)) x4 (Value.int .i64 0)) w fun v1 w2 =>
 R (.returned v1) w2
abbrev r0 (R:EP) (z:Env) (w:World):Prop:=R (.returned (z 2)) w
abbrev q1 (R:EP):XP:=QX (r0 R) (r0 R) []
theorem b3_ok (R:EP):TI prog R (sndC p1) (q1 R) fun z w=>b3 R (z 4) w:=ofT
noncomputable abbrev p2:Code:=dropC 1 (fstC p1)
noncomputable abbrev p3:Code:=loopC (blkC p2)
def b7_1 (R:EP) (C6:VP) (x3 x5:Value) (w4:World) (_r:Tok R:=tok R) (_C6:Tok C6:=tok C6):Prop :=
 RUN prog R (indexAt 69 x3 x5) w4 fun v5 w6 =>
 RUN prog R (loadAt 4 v5) w6 fun v7 w8 =>
 RUN prog R (Op.unary .not v7) w8 fun v9 w10 =>
 SPL v9
 (R (.returned (Value.bool false)) w10)
 (RUN prog R (bins .add 3 (.tmp 15) (.const (Value.int .i64 1)) x5 (Value.int .i64 1)) w10 fun v11 w12 =>
 C6 v11 w12)
def b7 (R:EP) (C6:VP) (x3 x4 x5:Value) (w:World) (_r:Tok R:=tok R) (_C6:Tok C6:=tok C6):Prop :=
 RUN prog R (Builtin.len_ #[69] 3 #[x3]) w fun v1 w2 =>
 RUN prog R (bins .lss 3 (.tmp 11) (.tmp 13) x5 v1) w2 fun v3 w4 =>
 SPL v3
 (b7_1 R C6 x3 x5 w4)
 (b3 R x4 w4)
abbrev q2 (R:EP) (C6:VP):XP:=QX (fun z w=>C6 (z 5) w) (r0 R) [(0,(fun z w=>b3 R (z 4) w))]
theorem b7_ok (R:EP) (C6:VP):TI prog R p3 (q2 R C6) fun z w=>b7 R C6 (z 3) (z 4) (z 5) w:=ofT
def l6 (R:EP) (x3 x4 x5:Value) (w:World) (_r:Tok R:=tok R):Prop :=
 ∃(J:VP) (μ:Value→World→Nat),J x5 w∧∀y5 w0,J y5 w0→b7 R (fun z5 w1=>J z5 w1∧μ z5 w1<μ y5 w0) x3 x4 y5 w0
abbrev q3 (R:EP):XP:=QX (fun z w=>b3 R (z 4) w) (r0 R) [(0,(fun z w=>b3 R (z 4) w))]
theorem l6_ok (R:EP):TI prog R (blkC p2) (q3 R) fun z w=>l6 R (z 3) (z 4) (z 5) w:=fun z w h=>by
 unfold l6 at h
 obtain ⟨J,μ,h0,hr⟩:=h
 refine loopT (fun z' w'=>J (z' 5) w') (fun z' w'=>μ (z' 5) w') h0 fun z' w' hA hI=>b7_ok R (fun z5 w1=>J z5 w1∧μ z5 w1<μ (z' 5) w') z' w' ?_
 have h1:=hr (z' 5) w' hI
 rwa [←hA.on 3,←hA.on 4] at h1
theorem l6_intro (R:EP) (x3 x4 x5:Value) (w:World) (J:VP) (μ:Value→World→Nat) (h0:J x5 w)
   (hr:∀y5 w0,J y5 w0→∀C6:VP,(∀z5 w1,J z5 w1→μ z5 w1<μ y5 w0→C6 z5 w1)→b7 R C6 x3 x4 y5 w0):l6 R x3 x4 x5 w:=by
 unfold l6
 exact ⟨J,μ,h0,fun y5 w0 hJ=>hr y5 w0 hJ _ (fun z5 w1 h1 h2=>⟨h1,h2⟩)⟩
abbrev q4 (R:EP):XP:=QX (fun z w=>b3 R (z 4) w) (r0 R) []
theorem k5_ok (R:EP):TI prog R p2 (q4 R) fun z w=>l6 R (z 3) (z 4) (z 5) w:=blockT 0 (l6_ok R)
def b4 (R:EP) (x3 x4:Value) (w:World) (_r:Tok R:=tok R):Prop :=
 l6 R x3 x4 (Value.int .i64 0) w
theorem b4_ok (R:EP):TI prog R (fstC p1) (q4 R) fun z w=>b4 R (z 3) (z 4) w:=appT 0 (k5_ok R)
theorem k2_ok (R:EP):TI prog R p1 (q1 R) fun z w=>b4 R (z 3) (z 4) w:=seqT (b4_ok R) (b3_ok R)
def b1_1 (R:EP) (v5:Value) (w6:World) (_r:Tok R:=tok R):Prop :=
 RUN prog R (extract v5 0) w6 fun v7 w8 =>
 RUN prog R (extract v5 1) w8 fun v9 w10 =>
 b4 R v7 v9 w10
def b1 (R:EP) (x0:Value) (w:World) (_r:Tok R:=tok R):Prop :=
 RUN prog R (box 27 x0) w fun v1 w2 =>
 RUN prog R (loadAt 27 v1) w2 fun v3 w4 =>
 CALL prog R ref06_Useful.id #[v3] w4 fun v5 w6 =>
 b1_1 R v5 w6
theorem b1_ok (R:EP):TI prog R code (q1 R) fun z w=>b1 R (z 0) w:=appT 1 (k2_ok R)
def run (R:EP) (a0:Value) (w:World):Prop:=b1 R a0 w
theorem calls (R:EP) (a0:Value) (w:World) (h:run R a0 w):Calls prog id #[a0] w R:=cls_t func6 [a0] (b1_ok R _ w h)
theorem enters:Enters prog id:=fun args w=>call6 args w
theorem ct {a0:Value} {w:World} {S:VP} (h:∀R:EP,(∀v w,S v w→R (.returned v) w)→run R a0 w):Ct prog id #[a0] w S :=
 Ct.intro enters fun R hR=>calls R a0 w (h R hR)
attribute [irreducible] l6
attribute [irreducible,go_sem] b3 b7_1 b7 b4 b1_1 b1 run
end top_useful

/-! ### presage/presagetop.collection -/
namespace top_collection
noncomputable def code:Code:=bodyOf f7
noncomputable abbrev p1:Code:=dropC 3 code

def b3 (R:EP) (x6 x7:Value) (w:World) (_r:Tok R:=tok R):Prop :=
 NILC x6 fun v1 =>
 PUR prog (fieldAt 76 v1 2) fun v2 =>
 LD prog (loadAt 3 v2) (World.drew w) fun v3 =>
 PUR prog (bins .gtr 3 (.tmp 81) (.const (Value.int .i64 0)) v3 (Value.int .i64 0)) fun v4 =>
 R (.returned (.tuple #[x7,v4])) (World.drew w)
abbrev r0 (R:EP) (z:Env) (w:World):Prop:=R (.returned (.tuple #[(z 4),(z 5)])) w
abbrev q1 (R:EP):XP:=QX (r0 R) (r0 R) []
theorem b3_ok (R:EP):TI prog R (sndC p1) (q1 R) fun z w=>b3 R (z 6) (z 7) w:=ofT
noncomputable abbrev p2:Code:=dropC 1 (fstC p1)
noncomputable abbrev p3:Code:=loopC (blkC p2)
noncomputable abbrev p4:Code:=dropC 1 p3

def b9 (R:EP) (C6:Value→VP) (x7 x8:Value) (w:World) (_r:Tok R:=tok R) (_C6:Tok C6:=tok C6):Prop :=
 RUN prog R (bins .add 3 (.tmp 27) (.const (Value.int .i64 1)) x8 (Value.int .i64 1)) w fun v1 w2 =>
 C6 x7 v1 w2
abbrev q2 (R:EP) (C6:Value→VP):XP:=QX (fun z w=>C6 (z 7) (z 8) w) (r0 R) [(0,(fun z w=>b3 R (z 6) (z 7) w))]
theorem b9_ok (R:EP) (C6:Value→VP):TI prog R (sndC p4) (q2 R C6) fun z w=>b9 R C6 (z 7) (z 8) w:=ofT
noncomputable abbrev p5:Code:=blkC (fstC p4)
noncomputable abbrev p6:Code:=dropC 1 p5
noncomputable abbrev p7:Code:=loopC (blkC p6)
noncomputable abbrev p8:Code:=dropC 1 p7

def b16 (R:EP) (C6:Value→VP) (C13:Value→VP) (x7 x9:Value) (w:World) (_r:Tok R:=tok R) (_C6:Tok C6:=tok C6) (_C13:Tok C13:=tok C13):Prop :=
 RUN prog R (bins .add 3 (.tmp 33) (.const (Value.int .i64 1)) x9 (Value.int .i64 1)) w fun v1 w2 =>
 C13 x7 v1 w2
abbrev q3 (R:EP) (C6:Value→VP) (C13:Value→VP):XP:=QX (fun z w=>C13 (z 7) (z 9) w) (r0 R) [(4,(fun z w=>b9 R C6 (z 7) (z 8) w)),(2,(fun z w=>b9 R C6 (z 7) (z 8) w)),(0,(fun z w=>b3 R (z 6) (z 7) w))]
theorem b16_ok (R:EP) (C6:Value→VP) (C13:Value→VP):TI prog R (sndC p8) (q3 R C6 C13) fun z w=>b16 R C6 C13 (z 7) (z 9) w:=ofT
noncomputable abbrev p9:Code:=blkC (fstC p8)
noncomputable abbrev p10:Code:=dropC 2 p9
noncomputable abbrev p11:Code:=dropC 1 (sndC p10)

def b22 (R:EP) (C6:Value→VP) (C13:Value→VP) (x7 x9 x10:Value) (w:World) (_r:Tok R:=tok R) (_C6:Tok C6:=tok C6) (_C13:Tok C13:=tok C13):Prop :=
 RUN prog R (buildSlice 35 1 #[(0,x10)]) w fun v1 w2 =>
 RUN prog R (Builtin.append_ #[35,35] 35 #[x7,v1]) w2 fun v3 w4 =>
 b16 R C6 C13 v3 x9 w4
abbrev q4 (R:EP) (C6:Value→VP) (C13:Value→VP):XP:=QX (fun z w=>b16 R C6 C13 (z 7) (z 9) w) (r0 R) [(6,(fun z w=>b16 R C6 C13 (z 7) (z 9) w)),(4,(fun z w=>b9 R C6 (z 7) (z 8) w)),(2,(fun z w=>b9 R C6 (z 7) (z 8) w)),(0,(fun z w=>b3 R (z 6) (z 7) w))]
theorem b22_ok (R:EP) (C6:Value→VP) (C13:Value→VP):TI prog R (sndC p11) (q4 R C6 C13) fun z w=>b22 R C6 C13 (z 7) (z 9) (z 10) w:=ofT
noncomputable abbrev p12:Code:=dropC 1 (fstC p11)

def b24 (R:EP) (C6:Value→VP) (C13:Value→VP) (x7 x9 x10 x72:Value) (w:World) (_r:Tok R:=tok R) (_C6:Tok C6:=tok C6) (_C13:Tok C13:=tok C13):Prop :=
 SPL x72
 (R (.returned (.tuple #[(Value.slice Option.none 0 0),(Value.bool false)])) w)
 (b22 R C6 C13 x7 x9 x10 w)
abbrev q5 (R:EP) (C6:Value→VP) (C13:Value→VP):XP:=QX (fun z w=>b22 R C6 C13 (z 7) (z 9) (z 10) w) (r0 R) [(6,(fun z w=>b16 R C6 C13 (z 7) (z 9) w)),(4,(fun z w=>b9 R C6 (z 7) (z 8) w)),(2,(fun z w=>b9 R C6 (z 7) (z 8) w)),(0,(fun z w=>b3 R (z 6) (z 7) w))]
theorem b24_ok (R:EP) (C6:Value→VP) (C13:Value→VP):TI prog R p12 (q5 R C6 C13) fun z w=>b24 R C6 C13 (z 7) (z 9) (z 10) (z 72) w:=ofT
def b23_1 (R:EP) (C6:Value→VP) (C13:Value→VP) (x6 x7 x9 x10:Value) (w4:World) (_r:Tok R:=tok R) (_C6:Tok C6:=tok C6) (_C13:Tok C13:=tok C13):Prop :=
 NILC x6 fun v5 =>
 RUN prog R (fieldAt 76 v5 2) w4 fun v6 w7 =>
 RUN prog R (loadAt 3 v6) w7 fun v8 w9 =>
 RUN prog R (bins .leq 3 (.tmp 70) (.const (Value.int .i64 0)) v8 (Value.int .i64 0)) w9 fun v10 w11 =>
 b24 R C6 C13 x7 x9 x10 v10 w11

def b23 (R:EP) (C6:Value→VP) (C13:Value→VP) (x1 x6 x7 x9 x10:Value) (w:World) (_r:Tok R:=tok R) (_C6:Tok C6:=tok C6) (_C13:Tok C13:=tok C13):Prop :=
 RUN prog R (Builtin.len_ #[35] 3 #[x7]) w fun v1 w2 =>
 RUN prog R (bins .geq 3 (.tmp 63) (.tmp 64) v1 x1) w2 fun v3 w4 =>
 SPL v3
 (b24 R C6 C13 x7 x9 x10 (Value.bool true) w4)
 (b23_1 R C6 C13 x6 x7 x9 x10 w4)
theorem b23_ok (R:EP) (C6:Value→VP) (C13:Value→VP):TI prog R (fstC p11) (q5 R C6 C13) fun z w=>b23 R C6 C13 (z 1) (z 6) (z 7) (z 9) (z 10) w:=appT 0 (b24_ok R C6 C13)
theorem k21_ok (R:EP) (C6:Value→VP) (C13:Value→VP):TI prog R p11 (q4 R C6 C13) fun z w=>b23 R C6 C13 (z 1) (z 6) (z 7) (z 9) (z 10) w:=seqT (b23_ok R C6 C13) (b22_ok R C6 C13)

def b20 (R:EP) (C6:Value→VP) (C13:Value→VP) (x1 x6 x7 x9 x10 x11:Value) (w:World) (_r:Tok R:=tok R) (_C6:Tok C6:=tok C6) (_C13:Tok C13:=tok C13):Prop :=
 SPL x11
 (b16 R C6 C13 x7 x9 w)
 (b23 R C6 C13 x1 x6 x7 x9 x10 w)
theorem b20_ok (R:EP) (C6:Value→VP) (C13:Value→VP):TI prog R (sndC p10) (q4 R C6 C13) fun z w=>b20 R C6 C13 (z 1) (z 6) (z 7) (z 9) (z 10) (z 11) w:=appT 0 (k21_ok R C6 C13)
noncomputable abbrev p13:Code:=dropC 1 (fstC p10)
noncomputable abbrev p14:Code:=loopC (blkC p13)

def b29 (R:EP) (C6:Value→VP) (C13:Value→VP) (C27:Value→VP) (x7 x10 x12:Value) (w:World) (_r:Tok R:=tok R) (_C6:Tok C6:=tok C6) (_C13:Tok C13:=tok C13) (_C27:Tok C27:=tok C27):Prop :=
 RUN prog R (indexAt 35 x7 x12) w fun v1 w2 =>
 RUN prog R (loadAt 42 v1) w2 fun v3 w4 =>
 CALL prog R top_alike.id #[v3,x10] w4 fun v5 w6 =>
 RUN prog R (bins .add 3 (.tmp 53) (.const (Value.int .i64 1)) x12 (Value.int .i64 1)) w6 fun v7 w8 =>
 C27 v5 v7 w8
abbrev q6 (R:EP) (C6:Value→VP) (C13:Value→VP) (C27:Value→VP):XP:=QX (fun z w=>C27 (z 11) (z 12) w) (r0 R) [(8,(fun z w=>b20 R C6 C13 (z 1) (z 6) (z 7) (z 9) (z 10) (z 11) w)),(6,(fun z w=>b16 R C6 C13 (z 7) (z 9) w)),(4,(fun z w=>b9 R C6 (z 7) (z 8) w)),(2,(fun z w=>b9 R C6 (z 7) (z 8) w)),(0,(fun z w=>b3 R (z 6) (z 7) w))]
theorem b29_ok (R:EP) (C6:Value→VP) (C13:Value→VP) (C27:Value→VP):TI prog R (sndC p14) (q6 R C6 C13 C27) fun z w=>b29 R C6 C13 C27 (z 7) (z 10) (z 12) w:=ofT
noncomputable abbrev p15:Code:=dropC 1 (fstC p14)

def b31 (R:EP) (C6:Value→VP) (C13:Value→VP) (C27:Value→VP) (x1 x6 x7 x9 x10 x11 x12 x52:Value) (w:World) (_r:Tok R:=tok R) (_C6:Tok C6:=tok C6) (_C13:Tok C13:=tok C13) (_C27:Tok C27:=tok C27):Prop :=
 SPL x52
 (b29 R C6 C13 C27 x7 x10 x12 w)
 (b20 R C6 C13 x1 x6 x7 x9 x10 x11 w)
abbrev q7 (R:EP) (C6:Value→VP) (C13:Value→VP) (C27:Value→VP):XP:=QX (fun z w=>b29 R C6 C13 C27 (z 7) (z 10) (z 12) w) (r0 R) [(8,(fun z w=>b20 R C6 C13 (z 1) (z 6) (z 7) (z 9) (z 10) (z 11) w)),(6,(fun z w=>b16 R C6 C13 (z 7) (z 9) w)),(4,(fun z w=>b9 R C6 (z 7) (z 8) w)),(2,(fun z w=>b9 R C6 (z 7) (z 8) w)),(0,(fun z w=>b3 R (z 6) (z 7) w))]
theorem b31_ok (R:EP) (C6:Value→VP) (C13:Value→VP) (C27:Value→VP):TI prog R p15 (q7 R C6 C13 C27) fun z w=>b31 R C6 C13 C27 (z 1) (z 6) (z 7) (z 9) (z 10) (z 11) (z 12) (z 52) w:=ofT

def b30 (R:EP) (C6:Value→VP) (C13:Value→VP) (C27:Value→VP) (x1 x6 x7 x9 x10 x11 x12:Value) (w:World) (_r:Tok R:=tok R) (_C6:Tok C6:=tok C6) (_C13:Tok C13:=tok C13) (_C27:Tok C27:=tok C27):Prop :=
 RUN prog R (Builtin.len_ #[35] 3 #[x7]) w fun v1 w2 =>
 RUN prog R (bins .lss 3 (.tmp 45) (.tmp 47) x12 v1) w2 fun v3 w4 =>
 SPL v3
 (RUN prog R (Op.unary .not x11) w4 fun v5 w6 =>
 b31 R C6 C13 C27 x1 x6 x7 x9 x10 x11 x12 v5 w6)
 (b31 R C6 C13 C27 x1 x6 x7 x9 x10 x11 x12 (Value.bool false) w4)
theorem b30_ok (R:EP) (C6:Value→VP) (C13:Value→VP) (C27:Value→VP):TI prog R (fstC p14) (q7 R C6 C13 C27) fun z w=>b30 R C6 C13 C27 (z 1) (z 6) (z 7) (z 9) (z 10) (z 11) (z 12) w:=appT 0 (b31_ok R C6 C13 C27)
theorem k28_ok (R:EP) (C6:Value→VP) (C13:Value→VP) (C27:Value→VP):TI prog R p14 (q6 R C6 C13 C27) fun z w=>b30 R C6 C13 C27 (z 1) (z 6) (z 7) (z 9) (z 10) (z 11) (z 12) w:=seqT (b30_ok R C6 C13 C27) (b29_ok R C6 C13 C27)

def l27 (R:EP) (C6:Value→VP) (C13:Value→VP) (x1 x6 x7 x9 x10 x11 x12:Value) (w:World) (_r:Tok R:=tok R) (_C6:Tok C6:=tok C6) (_C13:Tok C13:=tok C13):Prop :=
 ∃(J:Value→VP) (μ:Value→Value→World→Nat),J x11 x12 w∧∀y11 y12 w0,J y11 y12 w0→b30 R C6 C13 (fun z11 z12 w1=>J z11 z12 w1∧μ z11 z12 w1<μ y11 y12 w0) x1 x6 x7 x9 x10 y11 y12 w0
abbrev q8 (R:EP) (C6:Value→VP) (C13:Value→VP):XP:=QX (fun z w=>b20 R C6 C13 (z 1) (z 6) (z 7) (z 9) (z 10) (z 11) w) (r0 R) [(8,(fun z w=>b20 R C6 C13 (z 1) (z 6) (z 7) (z 9) (z 10) (z 11) w)),(6,(fun z w=>b16 R C6 C13 (z 7) (z 9) w)),(4,(fun z w=>b9 R C6 (z 7) (z 8) w)),(2,(fun z w=>b9 R C6 (z 7) (z 8) w)),(0,(fun z w=>b3 R (z 6) (z 7) w))]
theorem l27_ok (R:EP) (C6:Value→VP) (C13:Value→VP):TI prog R (blkC p13) (q8 R C6 C13) fun z w=>l27 R C6 C13 (z 1) (z 6) (z 7) (z 9) (z 10) (z 11) (z 12) w:=fun z w h=>by
 unfold l27 at h
 obtain ⟨J,μ,h0,hr⟩:=h
 refine loopT (fun z' w'=>J (z' 11) (z' 12) w') (fun z' w'=>μ (z' 11) (z' 12) w') h0 fun z' w' hA hI=>k28_ok R C6 C13 (fun z11 z12 w1=>J z11 z12 w1∧μ z11 z12 w1<μ (z' 11) (z' 12) w') z' w' ?_
 have h1:=hr (z' 11) (z' 12) w' hI
 rwa [←hA.on 1,←hA.on 6,←hA.on 7,←hA.on 9,←hA.on 10] at h1
theorem l27_intro (R:EP) (C6:Value→VP) (C13:Value→VP) (x1 x6 x7 x9 x10 x11 x12:Value) (w:World) (J:Value→VP) (μ:Value→Value→World→Nat) (h0:J x11 x12 w)
   (hr:∀y11 y12 w0,J y11 y12 w0→∀C27:Value→VP,(∀z11 z12 w1,J z11 z12 w1→μ z11 z12 w1<μ y11 y12 w0→C27 z11 z12 w1)→b30 R C6 C13 C27 x1 x6 x7 x9 x10 y11 y12 w0):l27 R C6 C13 x1 x6 x7 x9 x10 x11 x12 w:=by
 unfold l27
 exact ⟨J,μ,h0,fun y11 y12 w0 hJ=>hr y11 y12 w0 hJ _ (fun z11 z12 w1 h1 h2=>⟨h1,h2⟩)⟩
abbrev q9 (R:EP) (C6:Value→VP) (C13:Value→VP):XP:=QX (fun z w=>b20 R C6 C13 (z 1) (z 6) (z 7) (z 9) (z 10) (z 11) w) (r0 R) [(6,(fun z w=>b16 R C6 C13 (z 7) (z 9) w)),(4,(fun z w=>b9 R C6 (z 7) (z 8) w)),(2,(fun z w=>b9 R C6 (z 7) (z 8) w)),(0,(fun z w=>b3 R (z 6) (z 7) w))]
theorem k26_ok (R:EP) (C6:Value→VP) (C13:Value→VP):TI prog R p13 (q9 R C6 C13) fun z w=>l27 R C6 C13 (z 1) (z 6) (z 7) (z 9) (z 10) (z 11) (z 12) w:=blockT 4 (l27_ok R C6 C13)

def b25 (R:EP) (C6:Value→VP) (C13:Value→VP) (x1 x6 x7 x9 x10 x11:Value) (w:World) (_r:Tok R:=tok R) (_C6:Tok C6:=tok C6) (_C13:Tok C13:=tok C13):Prop :=
 l27 R C6 C13 x1 x6 x7 x9 x10 x11 (Value.int .i64 0) w
theorem b25_ok (R:EP) (C6:Value→VP) (C13:Value→VP):TI prog R (fstC p10) (q9 R C6 C13) fun z w=>b25 R C6 C13 (z 1) (z 6) (z 7) (z 9) (z 10) (z 11) w:=appT 0 (k26_ok R C6 C13)
theorem k19_ok (R:EP) (C6:Value→VP) (C13:Value→VP):TI prog R p10 (q4 R C6 C13) fun z w=>b25 R C6 C13 (z 1) (z 6) (z 7) (z 9) (z 10) (z 11) w:=seqT (b25_ok R C6 C13) (b20_ok R C6 C13)
def b18_1 (R:EP) (C6:Value→VP) (C13:Value→VP) (x1 x6 x7 x9 v5:Value) (w6:World) (_r:Tok R:=tok R) (_C6:Tok C6:=tok C6) (_C13:Tok C13:=tok C13):Prop :=
 RUN prog R (Builtin.len_ #[42] 3 #[v5]) w6 fun v7 w8 =>
 RUN prog R (bins .eql 3 (.tmp 43) (.const (Value.int .i64 0)) v7 (Value.int .i64 0)) w8 fun v9 w10 =>
 b25 R C6 C13 x1 x6 x7 x9 v5 v9 w10

def b18 (R:EP) (C6:Value→VP) (C13:Value→VP) (x1 x6 x7 x8 x9:Value) (w:World) (_r:Tok R:=tok R) (_C6:Tok C6:=tok C6) (_C13:Tok C13:=tok C13):Prop :=
 RUN prog R (indexAt 35 x7 x8) w fun v1 w2 =>
 RUN prog R (loadAt 42 v1) w2 fun v3 w4 =>
 CALL prog R top_canon_behind.id #[x6,v3,x9] w4 fun v5 w6 =>
 b18_1 R C6 C13 x1 x6 x7 x9 v5 w6
theorem b18_ok (R:EP) (C6:Value→VP) (C13:Value→VP):TI prog R p9 (q4 R C6 C13) fun z w=>b18 R C6 C13 (z 1) (z 6) (z 7) (z 8) (z 9) w:=appT 1 (k19_ok R C6 C13)
abbrev q10 (R:EP) (C6:Value→VP) (C13:Value→VP):XP:=QX (fun z w=>b16 R C6 C13 (z 7) (z 9) w) (r0 R) [(4,(fun z w=>b9 R C6 (z 7) (z 8) w)),(2,(fun z w=>b9 R C6 (z 7) (z 8) w)),(0,(fun z w=>b3 R (z 6) (z 7) w))]
theorem k17_ok (R:EP) (C6:Value→VP) (C13:Value→VP):TI prog R (fstC p8) (q10 R C6 C13) fun z w=>b18 R C6 C13 (z 1) (z 6) (z 7) (z 8) (z 9) w:=blockT 3 (b18_ok R C6 C13)
theorem k15_ok (R:EP) (C6:Value→VP) (C13:Value→VP):TI prog R p8 (q3 R C6 C13) fun z w=>b18 R C6 C13 (z 1) (z 6) (z 7) (z 8) (z 9) w:=seqT (k17_ok R C6 C13) (b16_ok R C6 C13)

def b14 (R:EP) (C6:Value→VP) (C13:Value→VP) (x1 x2 x6 x7 x8 x9:Value) (w:World) (_r:Tok R:=tok R) (_C6:Tok C6:=tok C6) (_C13:Tok C13:=tok C13):Prop :=
 RUN prog R (loadAt 27 x2) w fun v1 w2 =>
 CALL prog R ref02_Symbols.id #[v1] w2 fun v3 w4 =>
 RUN prog R (bins .lss 3 (.tmp 29) (.tmp 31) x9 v3) w4 fun v5 w6 =>
 SPL v5
 (b18 R C6 C13 x1 x6 x7 x8 x9 w6)
 (b9 R C6 x7 x8 w6)
theorem b14_ok (R:EP) (C6:Value→VP) (C13:Value→VP):TI prog R p7 (q3 R C6 C13) fun z w=>b14 R C6 C13 (z 1) (z 2) (z 6) (z 7) (z 8) (z 9) w:=appT 0 (k15_ok R C6 C13)

def l13 (R:EP) (C6:Value→VP) (x1 x2 x6 x7 x8 x9:Value) (w:World) (_r:Tok R:=tok R) (_C6:Tok C6:=tok C6):Prop :=
 ∃(J:Value→VP) (μ:Value→Value→World→Nat),J x7 x9 w∧∀y7 y9 w0,J y7 y9 w0→b14 R C6 (fun z7 z9 w1=>J z7 z9 w1∧μ z7 z9 w1<μ y7 y9 w0) x1 x2 x6 y7 x8 y9 w0
abbrev q11 (R:EP) (C6:Value→VP):XP:=QX (fun z w=>b9 R C6 (z 7) (z 8) w) (r0 R) [(4,(fun z w=>b9 R C6 (z 7) (z 8) w)),(2,(fun z w=>b9 R C6 (z 7) (z 8) w)),(0,(fun z w=>b3 R (z 6) (z 7) w))]
theorem l13_ok (R:EP) (C6:Value→VP):TI prog R (blkC p6) (q11 R C6) fun z w=>l13 R C6 (z 1) (z 2) (z 6) (z 7) (z 8) (z 9) w:=fun z w h=>by
 unfold l13 at h
 obtain ⟨J,μ,h0,hr⟩:=h
 refine loopT (fun z' w'=>J (z' 7) (z' 9) w') (fun z' w'=>μ (z' 7) (z' 9) w') h0 fun z' w' hA hI=>b14_ok R C6 (fun z7 z9 w1=>J z7 z9 w1∧μ z7 z9 w1<μ (z' 7) (z' 9) w') z' w' ?_
 have h1:=hr (z' 7) (z' 9) w' hI
 rwa [←hA.on 1,←hA.on 2,←hA.on 6,←hA.on 8] at h1
theorem l13_intro (R:EP) (C6:Value→VP) (x1 x2 x6 x7 x8 x9:Value) (w:World) (J:Value→VP) (μ:Value→Value→World→Nat) (h0:J x7 x9 w)
   (hr:∀y7 y9 w0,J y7 y9 w0→∀C13:Value→VP,(∀z7 z9 w1,J z7 z9 w1→μ z7 z9 w1<μ y7 y9 w0→C13 z7 z9 w1)→b14 R C6 C13 x1 x2 x6 y7 x8 y9 w0):l13 R C6 x1 x2 x6 x7 x8 x9 w:=by
 unfold l13
 exact ⟨J,μ,h0,fun y7 y9 w0 hJ=>hr y7 y9 w0 hJ _ (fun z7 z9 w1 h1 h2=>⟨h1,h2⟩)⟩
abbrev q12 (R:EP) (C6:Value→VP):XP:=QX (fun z w=>b9 R C6 (z 7) (z 8) w) (r0 R) [(2,(fun z w=>b9 R C6 (z 7) (z 8) w)),(0,(fun z w=>b3 R (z 6) (z 7) w))]
theorem k12_ok (R:EP) (C6:Value→VP):TI prog R p6 (q12 R C6) fun z w=>l13 R C6 (z 1) (z 2) (z 6) (z 7) (z 8) (z 9) w:=blockT 2 (l13_ok R C6)

def b11 (R:EP) (C6:Value→VP) (x1 x2 x6 x7 x8:Value) (w:World) (_r:Tok R:=tok R) (_C6:Tok C6:=tok C6):Prop :=
 l13 R C6 x1 x2 x6 x7 x8 (Value.int .i64 1) w
theorem b11_ok (R:EP) (C6:Value→VP):TI prog R p5 (q12 R C6) fun z w=>b11 R C6 (z 1) (z 2) (z 6) (z 7) (z 8) w:=appT 0 (k12_ok R C6)
abbrev q13 (R:EP) (C6:Value→VP):XP:=QX (fun z w=>b9 R C6 (z 7) (z 8) w) (r0 R) [(0,(fun z w=>b3 R (z 6) (z 7) w))]
theorem k10_ok (R:EP) (C6:Value→VP):TI prog R (fstC p4) (q13 R C6) fun z w=>b11 R C6 (z 1) (z 2) (z 6) (z 7) (z 8) w:=blockT 1 (b11_ok R C6)
theorem k8_ok (R:EP) (C6:Value→VP):TI prog R p4 (q2 R C6) fun z w=>b11 R C6 (z 1) (z 2) (z 6) (z 7) (z 8) w:=seqT (k10_ok R C6) (b9_ok R C6)

def b7 (R:EP) (C6:Value→VP) (x1 x2 x6 x7 x8:Value) (w:World) (_r:Tok R:=tok R) (_C6:Tok C6:=tok C6):Prop :=
 RUN prog R (Builtin.len_ #[35] 3 #[x7]) w fun v1 w2 =>
 RUN prog R (bins .lss 3 (.tmp 23) (.tmp 25) x8 v1) w2 fun v3 w4 =>
 SPL v3
 (b11 R C6 x1 x2 x6 x7 x8 w4)
 (b3 R x6 x7 w4)
theorem b7_ok (R:EP) (C6:Value→VP):TI prog R p3 (q2 R C6) fun z w=>b7 R C6 (z 1) (z 2) (z 6) (z 7) (z 8) w:=appT 0 (k8_ok R C6)

def l6 (R:EP) (x1 x2 x6 x7 x8:Value) (w:World) (_r:Tok R:=tok R):Prop :=
 ∃(J:Value→VP) (μ:Value→Value→World→Nat),J x7 x8 w∧∀y7 y8 w0,J y7 y8 w0→b7 R (fun z7 z8 w1=>J z7 z8 w1∧μ z7 z8 w1<μ y7 y8 w0) x1 x2 x6 y7 y8 w0
abbrev q14 (R:EP):XP:=QX (fun z w=>b3 R (z 6) (z 7) w) (r0 R) [(0,(fun z w=>b3 R (z 6) (z 7) w))]
theorem l6_ok (R:EP):TI prog R (blkC p2) (q14 R) fun z w=>l6 R (z 1) (z 2) (z 6) (z 7) (z 8) w:=fun z w h=>by
 unfold l6 at h
 obtain ⟨J,μ,h0,hr⟩:=h
 refine loopT (fun z' w'=>J (z' 7) (z' 8) w') (fun z' w'=>μ (z' 7) (z' 8) w') h0 fun z' w' hA hI=>b7_ok R (fun z7 z8 w1=>J z7 z8 w1∧μ z7 z8 w1<μ (z' 7) (z' 8) w') z' w' ?_
 have h1:=hr (z' 7) (z' 8) w' hI
 rwa [←hA.on 1,←hA.on 2,←hA.on 6] at h1
theorem l6_intro (R:EP) (x1 x2 x6 x7 x8:Value) (w:World) (J:Value→VP) (μ:Value→Value→World→Nat) (h0:J x7 x8 w)
   (hr:∀y7 y8 w0,J y7 y8 w0→∀C6:Value→VP,(∀z7 z8 w1,J z7 z8 w1→μ z7 z8 w1<μ y7 y8 w0→C6 z7 z8 w1)→b7 R C6 x1 x2 x6 y7 y8 w0):l6 R x1 x2 x6 x7 x8 w:=by
 unfold l6
 exact ⟨J,μ,h0,fun y7 y8 w0 hJ=>hr y7 y8 w0 hJ _ (fun z7 z8 w1 h1 h2=>⟨h1,h2⟩)⟩
abbrev q15 (R:EP):XP:=QX (fun z w=>b3 R (z 6) (z 7) w) (r0 R) []
theorem k5_ok (R:EP):TI prog R p2 (q15 R) fun z w=>l6 R (z 1) (z 2) (z 6) (z 7) (z 8) w:=blockT 0 (l6_ok R)

def b4 (R:EP) (x1 x2 x6 x7:Value) (w:World) (_r:Tok R:=tok R):Prop :=
 l6 R x1 x2 x6 x7 (Value.int .i64 0) w
theorem b4_ok (R:EP):TI prog R (fstC p1) (q15 R) fun z w=>b4 R (z 1) (z 2) (z 6) (z 7) w:=appT 0 (k5_ok R)
theorem k2_ok (R:EP):TI prog R p1 (q1 R) fun z w=>b4 R (z 1) (z 2) (z 6) (z 7) w:=seqT (b4_ok R) (b3_ok R)
def b1_1 (R:EP) (x1 v1 v3 v5:Value) (w6:World) (_r:Tok R:=tok R):Prop :=
 Sem.run prog (loadAt 27 v1) w6 = .ok v3 w6∧(PUR prog (build 76 #[(0,v3),(1,v5),(2,(Value.int .i64 20000))]) fun v7 =>
 RUN prog R (box 76 v7) w6 fun v8 w9 =>
 RUN prog R (build 79 #[]) w9 fun v10 w11 =>
 RUN prog R (buildSlice 41 1 #[(0,v10)]) w11 fun v12 w13 =>
 CALL prog R top_canon_closure.id #[v8,v12] w13 fun v14 w15 =>
 RUN prog R (buildSlice 35 1 #[(0,v14)]) w15 fun v16 w17 =>
 b4 R x1 v1 v8 v16 w17)

def b1 (R:EP) (x0 x1:Value) (w:World) (_r:Tok R:=tok R):Prop :=
 RUN prog R (box 27 x0) w fun v1 w2 =>
 LD prog (loadAt 27 v1) (World.drew w2) fun v3 =>
 LD prog (loadAt 27 v1) (World.drew w2) fun v4 =>
 CALL prog R ref07_Table.id #[v4] (World.drew w2) fun v5 w6 =>
 b1_1 R x1 v1 v3 v5 w6
theorem b1_ok (R:EP):TI prog R code (q1 R) fun z w=>b1 R (z 0) (z 1) w:=appT 2 (k2_ok R)
def run (R:EP) (a0 a1:Value) (w:World):Prop:=b1 R a0 a1 w
theorem calls (R:EP) (a0 a1:Value) (w:World) (h:run R a0 a1 w):Calls prog id #[a0,a1] w R :=
 calls_of_tt (f:=id) (fn:=f7) (c:=code) (by kernel_rfl) func7 (by kernel_rfl) (by kernel_rfl) (args:=[a0,a1]) (Nat.le_of_ble_eq_true rfl) rfl (b1_ok R (envOf [a0,a1]) w h)
theorem enters:Enters prog id:=fun args w=>call7 args w
theorem ct {a0 a1:Value} {w:World} {S:VP} (h:∀R:EP,(∀v w,S v w→R (.returned v) w)→run R a0 a1 w):Ct prog id #[a0,a1] w S :=
 Ct.intro enters fun R hR=>calls R a0 a1 w (h R hR)
attribute [irreducible] l27 l13 l6
attribute [irreducible,go_sem] b3 b9 b16 b22 b24 b23_1 b23 b20 b29 b31 b30 b25 b18_1 b18 b14 b11 b7 b4 b1_1 b1 run
end top_collection

/-! ### presage/presagetop.core -/
namespace top_core
noncomputable def code:Code:=bodyOf f8
noncomputable abbrev p1:Code:=dropC 2 code
def b3 (R:EP) (x3:Value) (w:World) (_r:Tok R:=tok R):Prop :=
 R (.returned x3) w
abbrev r0 (R:EP) (z:Env) (w:World):Prop:=R (.returned (z 2)) w
abbrev q1 (R:EP):XP:=QX (r0 R) (r0 R) []
theorem b3_ok (R:EP):TI prog R (sndC p1) (q1 R) fun z w=>b3 R (z 3) w:=ofT
noncomputable abbrev p2:Code:=dropC 1 (fstC p1)
noncomputable abbrev p3:Code:=loopC (blkC p2)
noncomputable abbrev p4:Code:=dropC 1 p3
def b9 (R:EP) (C6:Value→VP) (x3 x4:Value) (w:World) (_r:Tok R:=tok R) (_C6:Tok C6:=tok C6):Prop :=
 RUN prog R (bins .add 3 (.tmp 9) (.const (Value.int .i64 1)) x4 (Value.int .i64 1)) w fun v1 w2 =>
 C6 x3 v1 w2
abbrev q2 (R:EP) (C6:Value→VP):XP:=QX (fun z w=>C6 (z 3) (z 4) w) (r0 R) [(0,(fun z w=>b3 R (z 3) w))]
theorem b9_ok (R:EP) (C6:Value→VP):TI prog R (sndC p4) (q2 R C6) fun z w=>b9 R C6 (z 3) (z 4) w:=ofT
noncomputable abbrev p5:Code:=blkC (fstC p4)
noncomputable abbrev p6:Code:=dropC 1 p5
def b12_1 (R:EP) (C6:Value→VP) (x0 x3 x4:Value) (w:World) (_r:Tok R:=tok R) (_C6:Tok C6:=tok C6):Prop :=
 RUN prog R (indexAt 42 x0 x4) w fun v1 w2 =>
 RUN prog R (fieldAt 79 v1 0) w2 fun v3 w4 =>
 RUN prog R (loadAt 57 v3) w4 fun v5 w6 =>
 RUN prog R (buildSlice 39 1 #[(0,v5)]) w6 fun v7 w8 =>
 RUN prog R (Builtin.append_ #[39,39] 39 #[x3,v7]) w8 fun v9 w10 =>
 b9 R C6 v9 x4 w10
def b12 (R:EP) (C6:Value→VP) (x0 x3 x4 x27:Value) (w:World) (_r:Tok R:=tok R) (_C6:Tok C6:=tok C6):Prop :=
 SPL x27
 (b12_1 R C6 x0 x3 x4 w)
 (b9 R C6 x3 x4 w)
abbrev q3 (R:EP) (C6:Value→VP):XP:=QX (fun z w=>b9 R C6 (z 3) (z 4) w) (r0 R) [(2,(fun z w=>b9 R C6 (z 3) (z 4) w)),(0,(fun z w=>b3 R (z 3) w))]
theorem b12_ok (R:EP) (C6:Value→VP):TI prog R p6 (q3 R C6) fun z w=>b12 R C6 (z 0) (z 3) (z 4) (z 27) w:=ofT
def b11_1 (R:EP) (C6:Value→VP) (x0 x3 x4:Value) (w:World) (_r:Tok R:=tok R) (_C6:Tok C6:=tok C6):Prop :=
 LD prog (Builtin.len_ #[39] 3 #[x3]) (World.drew w) fun v3 =>
 PUR prog (bins .sub 3 (.tmp 17) (.const (Value.int .i64 1)) v3 (Value.int .i64 1)) fun v4 =>
 PUR prog (indexAt 39 x3 v4) fun v5 =>
 LD prog (loadAt 57 v5) (World.drew w) fun v6 =>
 PUR prog (indexAt 42 x0 x4) fun v7 =>
 PUR prog (fieldAt 79 v7 0) fun v8 =>
 LD prog (loadAt 57 v8) (World.drew w) fun v9 =>
 PUR prog (bins .neq 57 (.tmp 20) (.tmp 25) v6 v9) fun v10 =>
 b12 R C6 x0 x3 x4 v10 (World.drew w)
def b11 (R:EP) (C6:Value→VP) (x0 x3 x4:Value) (w:World) (_r:Tok R:=tok R) (_C6:Tok C6:=tok C6):Prop :=
 LD prog (Builtin.len_ #[39] 3 #[x3]) (World.drew w) fun v1 =>
 PUR prog (bins .eql 3 (.tmp 12) (.const (Value.int .i64 0)) v1 (Value.int .i64 0)) fun v2 =>
 SPL v2
 (b12 R C6 x0 x3 x4 (Value.bool true) (World.drew w))
 (b11_1 R C6 x0 x3 x4 w)
theorem b11_ok (R:EP) (C6:Value→VP):TI prog R p5 (q3 R C6) fun z w=>b11 R C6 (z 0) (z 3) (z 4) w:=appT 0 (b12_ok R C6)
abbrev q4 (R:EP) (C6:Value→VP):XP:=QX (fun z w=>b9 R C6 (z 3) (z 4) w) (r0 R) [(0,(fun z w=>b3 R (z 3) w))]
theorem k10_ok (R:EP) (C6:Value→VP):TI prog R (fstC p4) (q4 R C6) fun z w=>b11 R C6 (z 0) (z 3) (z 4) w:=blockT 1 (b11_ok R C6)
theorem k8_ok (R:EP) (C6:Value→VP):TI prog R p4 (q2 R C6) fun z w=>b11 R C6 (z 0) (z 3) (z 4) w:=seqT (k10_ok R C6) (b9_ok R C6)
def b7 (R:EP) (C6:Value→VP) (x0 x3 x4:Value) (w:World) (_r:Tok R:=tok R) (_C6:Tok C6:=tok C6):Prop :=
 RUN prog R (Builtin.len_ #[42] 3 #[x0]) w fun v1 w2 =>
 RUN prog R (bins .lss 3 (.tmp 5) (.tmp 7) x4 v1) w2 fun v3 w4 =>
 SPL v3
 (b11 R C6 x0 x3 x4 w4)
 (b3 R x3 w4)
theorem b7_ok (R:EP) (C6:Value→VP):TI prog R p3 (q2 R C6) fun z w=>b7 R C6 (z 0) (z 3) (z 4) w:=appT 0 (k8_ok R C6)
def l6 (R:EP) (x0 x3 x4:Value) (w:World) (_r:Tok R:=tok R):Prop :=
 ∃(J:Value→VP) (μ:Value→Value→World→Nat),J x3 x4 w∧∀y3 y4 w0,J y3 y4 w0→b7 R (fun z3 z4 w1=>J z3 z4 w1∧μ z3 z4 w1<μ y3 y4 w0) x0 y3 y4 w0
abbrev q5 (R:EP):XP:=QX (fun z w=>b3 R (z 3) w) (r0 R) [(0,(fun z w=>b3 R (z 3) w))]
theorem l6_ok (R:EP):TI prog R (blkC p2) (q5 R) fun z w=>l6 R (z 0) (z 3) (z 4) w:=fun z w h=>by
 unfold l6 at h
 obtain ⟨J,μ,h0,hr⟩:=h
 refine loopT (fun z' w'=>J (z' 3) (z' 4) w') (fun z' w'=>μ (z' 3) (z' 4) w') h0 fun z' w' hA hI=>b7_ok R (fun z3 z4 w1=>J z3 z4 w1∧μ z3 z4 w1<μ (z' 3) (z' 4) w') z' w' ?_
 have h1:=hr (z' 3) (z' 4) w' hI
 rwa [←hA.on 0] at h1
theorem l6_intro (R:EP) (x0 x3 x4:Value) (w:World) (J:Value→VP) (μ:Value→Value→World→Nat) (h0:J x3 x4 w)
   (hr:∀y3 y4 w0,J y3 y4 w0→∀C6:Value→VP,(∀z3 z4 w1,J z3 z4 w1→μ z3 z4 w1<μ y3 y4 w0→C6 z3 z4 w1)→b7 R C6 x0 y3 y4 w0):l6 R x0 x3 x4 w:=by
 unfold l6
 exact ⟨J,μ,h0,fun y3 y4 w0 hJ=>hr y3 y4 w0 hJ _ (fun z3 z4 w1 h1 h2=>⟨h1,h2⟩)⟩
abbrev q6 (R:EP):XP:=QX (fun z w=>b3 R (z 3) w) (r0 R) []
theorem k5_ok (R:EP):TI prog R p2 (q6 R) fun z w=>l6 R (z 0) (z 3) (z 4) w:=blockT 0 (l6_ok R)
def b4 (R:EP) (x0 x3:Value) (w:World) (_r:Tok R:=tok R):Prop :=
 l6 R x0 x3 (Value.int .i64 0) w
theorem b4_ok (R:EP):TI prog R (fstC p1) (q6 R) fun z w=>b4 R (z 0) (z 3) w:=appT 0 (k5_ok R)
theorem k2_ok (R:EP):TI prog R p1 (q1 R) fun z w=>b4 R (z 0) (z 3) w:=seqT (b4_ok R) (b3_ok R)
def b1 (R:EP) (x0:Value) (w:World) (_r:Tok R:=tok R):Prop :=
 b4 R x0 (Value.slice Option.none 0 0) w
theorem b1_ok (R:EP):TI prog R code (q1 R) fun z w=>b1 R (z 0) w:=appT 1 (k2_ok R)
def run (R:EP) (a0:Value) (w:World):Prop:=b1 R a0 w
theorem calls (R:EP) (a0:Value) (w:World) (h:run R a0 w):Calls prog id #[a0] w R:=cls_t func8 [a0] (b1_ok R _ w h)
theorem enters:Enters prog id:=fun args w=>call8 args w
theorem ct {a0:Value} {w:World} {S:VP} (h:∀R:EP,(∀v w,S v w→R (.returned v) w)→run R a0 w):Ct prog id #[a0] w S :=
 Ct.intro enters fun R hR=>calls R a0 w (h R hR)
attribute [irreducible] l6
attribute [irreducible,go_sem] b3 b9 b12_1 b12 b11_1 b11 b7 b4 b1 run
end top_core

/-! ### (*presage/presagetop.canon).closure -/
namespace top_canon_closure
noncomputable def code:Code:=bodyOf f22
noncomputable abbrev p1:Code:=dropC 3 code

def b3 (R:EP) (x5:Value) (w:World) (_r:Tok R:=tok R):Prop :=
 R (.returned x5) w
abbrev r0 (R:EP) (z:Env) (w:World):Prop:=R (.returned (z 4)) w
abbrev q1 (R:EP):XP:=QX (r0 R) (r0 R) []
theorem b3_ok (R:EP):TI prog R (sndC p1) (q1 R) fun z w=>b3 R (z 5) w:=ofT
noncomputable abbrev p2:Code:=blkC (fstC p1)
noncomputable abbrev p3:Code:=sndC (loopC p2)
noncomputable abbrev p4:Code:=dropC 11 (blkC p3)
noncomputable abbrev p5:Code:=loopC (blkC p4)
noncomputable abbrev p6:Code:=dropC 1 p5

def b13 (R:EP) (C5:Value→VP) (C10:Value→VP) (x6 x13:Value) (w:World) (_r:Tok R:=tok R) (_C5:Tok C5:=tok C5) (_C10:Tok C10:=tok C10):Prop :=
 RUN prog R (bins .add 3 (.tmp 93) (.const (Value.int .i64 1)) x13 (Value.int .i64 1)) w fun v1 w2 =>
 C10 x6 v1 w2
abbrev q2 (R:EP) (C5:Value→VP) (C10:Value→VP):XP:=QX (fun z w=>C10 (z 6) (z 13) w) (r0 R) [(4,(fun z w=>C5 (z 5) (z 6) w)),(2,(fun z w=>C5 (z 5) (z 6) w)),(0,(fun z w=>b3 R (z 5) w))]
theorem b13_ok (R:EP) (C5:Value→VP) (C10:Value→VP):TI prog R (sndC p6) (q2 R C5 C10) fun z w=>b13 R C5 C10 (z 6) (z 13) w:=ofT
noncomputable abbrev p7:Code:=blkC (fstC p6)
noncomputable abbrev p8:Code:=dropC 2 p7
noncomputable abbrev p9:Code:=loopC (blkC p8)
noncomputable abbrev p10:Code:=dropC 1 p9

def b20 (R:EP) (C5:Value→VP) (C10:Value→VP) (C17:Value→VP) (x6 x14:Value) (w:World) (_r:Tok R:=tok R) (_C5:Tok C5:=tok C5) (_C10:Tok C10:=tok C10) (_C17:Tok C17:=tok C17):Prop :=
 RUN prog R (bins .add 3 (.tmp 110) (.const (Value.int .i64 1)) x14 (Value.int .i64 1)) w fun v1 w2 =>
 C17 x6 v1 w2
abbrev q3 (R:EP) (C5:Value→VP) (C10:Value→VP) (C17:Value→VP):XP:=QX (fun z w=>C17 (z 6) (z 14) w) (r0 R) [(8,(fun z w=>b13 R C5 C10 (z 6) (z 13) w)),(6,(fun z w=>b13 R C5 C10 (z 6) (z 13) w)),(4,(fun z w=>C5 (z 5) (z 6) w)),(2,(fun z w=>C5 (z 5) (z 6) w)),(0,(fun z w=>b3 R (z 5) w))]
theorem b20_ok (R:EP) (C5:Value→VP) (C10:Value→VP) (C17:Value→VP):TI prog R (sndC p10) (q3 R C5 C10 C17) fun z w=>b20 R C5 C10 C17 (z 6) (z 14) w:=ofT
noncomputable abbrev p11:Code:=blkC (fstC p10)
noncomputable abbrev p12:Code:=dropC 1 p11
def b23_1 (R:EP) (C5:Value→VP) (C10:Value→VP) (C17:Value→VP) (x6 x13 x14:Value) (w:World) (_r:Tok R:=tok R) (_C5:Tok C5:=tok C5) (_C10:Tok C10:=tok C10) (_C17:Tok C17:=tok C17):Prop :=
 RUN prog R (build 57 #[(0,x13)]) w fun v1 w2 =>
 RUN prog R (build 79 #[(0,v1),(1,x14)]) w2 fun v3 w4 =>
 RUN prog R (buildSlice 41 1 #[(0,v3)]) w4 fun v5 w6 =>
 RUN prog R (Builtin.append_ #[41,41] 41 #[x6,v5]) w6 fun v7 w8 =>
 b20 R C5 C10 C17 v7 x14 w8

def b23 (R:EP) (C5:Value→VP) (C10:Value→VP) (C17:Value→VP) (x6 x13 x14 x124:Value) (w:World) (_r:Tok R:=tok R) (_C5:Tok C5:=tok C5) (_C10:Tok C10:=tok C10) (_C17:Tok C17:=tok C17):Prop :=
 SPL x124
 (b23_1 R C5 C10 C17 x6 x13 x14 w)
 (b20 R C5 C10 C17 x6 x14 w)
abbrev q4 (R:EP) (C5:Value→VP) (C10:Value→VP) (C17:Value→VP):XP:=QX (fun z w=>b20 R C5 C10 C17 (z 6) (z 14) w) (r0 R) [(10,(fun z w=>b20 R C5 C10 C17 (z 6) (z 14) w)),(8,(fun z w=>b13 R C5 C10 (z 6) (z 13) w)),(6,(fun z w=>b13 R C5 C10 (z 6) (z 13) w)),(4,(fun z w=>C5 (z 5) (z 6) w)),(2,(fun z w=>C5 (z 5) (z 6) w)),(0,(fun z w=>b3 R (z 5) w))]
theorem b23_ok (R:EP) (C5:Value→VP) (C10:Value→VP) (C17:Value→VP):TI prog R p12 (q4 R C5 C10 C17) fun z w=>b23 R C5 C10 C17 (z 6) (z 13) (z 14) (z 124) w:=ofT
def b22_1 (R:EP) (C5:Value→VP) (C10:Value→VP) (C17:Value→VP) (x6 x7 x13 x14:Value) (w4:World) (_r:Tok R:=tok R) (_C5:Tok C5:=tok C5) (_C10:Tok C10:=tok C10) (_C17:Tok C17:=tok C17):Prop :=
 RUN prog R (fieldAt 79 x7 1) w4 fun v5 w6 =>
 RUN prog R (loadAt 3 v5) w6 fun v7 w8 =>
 RUN prog R (bins .eql 3 (.tmp 119) (.tmp 121) x14 v7) w8 fun v9 w10 =>
 b23 R C5 C10 C17 x6 x13 x14 v9 w10

def b22 (R:EP) (C5:Value→VP) (C10:Value→VP) (C17:Value→VP) (x6 x7 x11 x12 x13 x14:Value) (w:World) (_r:Tok R:=tok R) (_C5:Tok C5:=tok C5) (_C10:Tok C10:=tok C10) (_C17:Tok C17:=tok C17):Prop :=
 RUN prog R (indexAt 69 x11 x14) w fun v1 w2 =>
 RUN prog R (loadAt 4 v1) w2 fun v3 w4 =>
 SPL v3
 (b23 R C5 C10 C17 x6 x13 x14 (Value.bool true) w4)
 (SPL x12
 (b22_1 R C5 C10 C17 x6 x7 x13 x14 w4)
 (b23 R C5 C10 C17 x6 x13 x14 (Value.bool false) w4))
theorem b22_ok (R:EP) (C5:Value→VP) (C10:Value→VP) (C17:Value→VP):TI prog R p11 (q4 R C5 C10 C17) fun z w=>b22 R C5 C10 C17 (z 6) (z 7) (z 11) (z 12) (z 13) (z 14) w:=appT 0 (b23_ok R C5 C10 C17)
abbrev q5 (R:EP) (C5:Value→VP) (C10:Value→VP) (C17:Value→VP):XP:=QX (fun z w=>b20 R C5 C10 C17 (z 6) (z 14) w) (r0 R) [(8,(fun z w=>b13 R C5 C10 (z 6) (z 13) w)),(6,(fun z w=>b13 R C5 C10 (z 6) (z 13) w)),(4,(fun z w=>C5 (z 5) (z 6) w)),(2,(fun z w=>C5 (z 5) (z 6) w)),(0,(fun z w=>b3 R (z 5) w))]
theorem k21_ok (R:EP) (C5:Value→VP) (C10:Value→VP) (C17:Value→VP):TI prog R (fstC p10) (q5 R C5 C10 C17) fun z w=>b22 R C5 C10 C17 (z 6) (z 7) (z 11) (z 12) (z 13) (z 14) w:=blockT 5 (b22_ok R C5 C10 C17)
theorem k19_ok (R:EP) (C5:Value→VP) (C10:Value→VP) (C17:Value→VP):TI prog R p10 (q3 R C5 C10 C17) fun z w=>b22 R C5 C10 C17 (z 6) (z 7) (z 11) (z 12) (z 13) (z 14) w:=seqT (k21_ok R C5 C10 C17) (b20_ok R C5 C10 C17)

def b18 (R:EP) (C5:Value→VP) (C10:Value→VP) (C17:Value→VP) (x6 x7 x11 x12 x13 x14:Value) (w:World) (_r:Tok R:=tok R) (_C5:Tok C5:=tok C5) (_C10:Tok C10:=tok C10) (_C17:Tok C17:=tok C17):Prop :=
 RUN prog R (Builtin.len_ #[69] 3 #[x11]) w fun v1 w2 =>
 RUN prog R (bins .lss 3 (.tmp 106) (.tmp 108) x14 v1) w2 fun v3 w4 =>
 SPL v3
 (b22 R C5 C10 C17 x6 x7 x11 x12 x13 x14 w4)
 (b13 R C5 C10 x6 x13 w4)
theorem b18_ok (R:EP) (C5:Value→VP) (C10:Value→VP) (C17:Value→VP):TI prog R p9 (q3 R C5 C10 C17) fun z w=>b18 R C5 C10 C17 (z 6) (z 7) (z 11) (z 12) (z 13) (z 14) w:=appT 0 (k19_ok R C5 C10 C17)

def l17 (R:EP) (C5:Value→VP) (C10:Value→VP) (x6 x7 x11 x12 x13 x14:Value) (w:World) (_r:Tok R:=tok R) (_C5:Tok C5:=tok C5) (_C10:Tok C10:=tok C10):Prop :=
 ∃(J:Value→VP) (μ:Value→Value→World→Nat),J x6 x14 w∧∀y6 y14 w0,J y6 y14 w0→b18 R C5 C10 (fun z6 z14 w1=>J z6 z14 w1∧μ z6 z14 w1<μ y6 y14 w0) y6 x7 x11 x12 x13 y14 w0
abbrev q6 (R:EP) (C5:Value→VP) (C10:Value→VP):XP:=QX (fun z w=>b13 R C5 C10 (z 6) (z 13) w) (r0 R) [(8,(fun z w=>b13 R C5 C10 (z 6) (z 13) w)),(6,(fun z w=>b13 R C5 C10 (z 6) (z 13) w)),(4,(fun z w=>C5 (z 5) (z 6) w)),(2,(fun z w=>C5 (z 5) (z 6) w)),(0,(fun z w=>b3 R (z 5) w))]
theorem l17_ok (R:EP) (C5:Value→VP) (C10:Value→VP):TI prog R (blkC p8) (q6 R C5 C10) fun z w=>l17 R C5 C10 (z 6) (z 7) (z 11) (z 12) (z 13) (z 14) w:=fun z w h=>by
 unfold l17 at h
 obtain ⟨J,μ,h0,hr⟩:=h
 refine loopT (fun z' w'=>J (z' 6) (z' 14) w') (fun z' w'=>μ (z' 6) (z' 14) w') h0 fun z' w' hA hI=>b18_ok R C5 C10 (fun z6 z14 w1=>J z6 z14 w1∧μ z6 z14 w1<μ (z' 6) (z' 14) w') z' w' ?_
 have h1:=hr (z' 6) (z' 14) w' hI
 rwa [←hA.on 7,←hA.on 11,←hA.on 12,←hA.on 13] at h1
theorem l17_intro (R:EP) (C5:Value→VP) (C10:Value→VP) (x6 x7 x11 x12 x13 x14:Value) (w:World) (J:Value→VP) (μ:Value→Value→World→Nat) (h0:J x6 x14 w)
   (hr:∀y6 y14 w0,J y6 y14 w0→∀C17:Value→VP,(∀z6 z14 w1,J z6 z14 w1→μ z6 z14 w1<μ y6 y14 w0→C17 z6 z14 w1)→b18 R C5 C10 C17 y6 x7 x11 x12 x13 y14 w0):l17 R C5 C10 x6 x7 x11 x12 x13 x14 w:=by
 unfold l17
 exact ⟨J,μ,h0,fun y6 y14 w0 hJ=>hr y6 y14 w0 hJ _ (fun z6 z14 w1 h1 h2=>⟨h1,h2⟩)⟩
abbrev q7 (R:EP) (C5:Value→VP) (C10:Value→VP):XP:=QX (fun z w=>b13 R C5 C10 (z 6) (z 13) w) (r0 R) [(6,(fun z w=>b13 R C5 C10 (z 6) (z 13) w)),(4,(fun z w=>C5 (z 5) (z 6) w)),(2,(fun z w=>C5 (z 5) (z 6) w)),(0,(fun z w=>b3 R (z 5) w))]
theorem k16_ok (R:EP) (C5:Value→VP) (C10:Value→VP):TI prog R p8 (q7 R C5 C10) fun z w=>l17 R C5 C10 (z 6) (z 7) (z 11) (z 12) (z 13) (z 14) w:=blockT 4 (l17_ok R C5 C10)

def b15 (R:EP) (C5:Value→VP) (C10:Value→VP) (x0 x6 x7 x9 x11 x12 x13:Value) (w:World) (_r:Tok R:=tok R) (_C5:Tok C5:=tok C5) (_C10:Tok C10:=tok C10):Prop :=
 NILC x0 fun v1 =>
 RUN prog R (fieldAt 76 v1 0) w fun v2 w3 =>
 RUN prog R (fieldAt 27 v2 4) w3 fun v4 w5 =>
 RUN prog R (loadAt 25 v4) w5 fun v6 w7 =>
 RUN prog R (indexAt 25 v6 x13) w7 fun v8 w9 =>
 RUN prog R (fieldAt 67 v8 0) w9 fun v10 w11 =>
 RUN prog R (loadAt 3 v10) w11 fun v12 w13 =>
 RUN prog R (bins .neq 3 (.tmp 103) (.tmp 104) v12 x9) w13 fun v14 w15 =>
 SPL v14
 (b13 R C5 C10 x6 x13 w15)
 (l17 R C5 C10 x6 x7 x11 x12 x13 (Value.int .i64 0) w15)
theorem b15_ok (R:EP) (C5:Value→VP) (C10:Value→VP):TI prog R p7 (q7 R C5 C10) fun z w=>b15 R C5 C10 (z 0) (z 6) (z 7) (z 9) (z 11) (z 12) (z 13) w:=appT 1 (k16_ok R C5 C10)
abbrev q8 (R:EP) (C5:Value→VP) (C10:Value→VP):XP:=QX (fun z w=>b13 R C5 C10 (z 6) (z 13) w) (r0 R) [(4,(fun z w=>C5 (z 5) (z 6) w)),(2,(fun z w=>C5 (z 5) (z 6) w)),(0,(fun z w=>b3 R (z 5) w))]
theorem k14_ok (R:EP) (C5:Value→VP) (C10:Value→VP):TI prog R (fstC p6) (q8 R C5 C10) fun z w=>b15 R C5 C10 (z 0) (z 6) (z 7) (z 9) (z 11) (z 12) (z 13) w:=blockT 3 (b15_ok R C5 C10)
theorem k12_ok (R:EP) (C5:Value→VP) (C10:Value→VP):TI prog R p6 (q2 R C5 C10) fun z w=>b15 R C5 C10 (z 0) (z 6) (z 7) (z 9) (z 11) (z 12) (z 13) w:=seqT (k14_ok R C5 C10) (b13_ok R C5 C10)

def b11 (R:EP) (C5:Value→VP) (C10:Value→VP) (x0 x5 x6 x7 x9 x11 x12 x13:Value) (w:World) (_r:Tok R:=tok R) (_C5:Tok C5:=tok C5) (_C10:Tok C10:=tok C10):Prop :=
 NILC x0 fun v1 =>
 RUN prog R (fieldAt 76 v1 0) w fun v2 w3 =>
 RUN prog R (fieldAt 27 v2 4) w3 fun v4 w5 =>
 RUN prog R (loadAt 25 v4) w5 fun v6 w7 =>
 RUN prog R (Builtin.len_ #[25] 3 #[v6]) w7 fun v8 w9 =>
 RUN prog R (bins .lss 3 (.tmp 85) (.tmp 91) x13 v8) w9 fun v10 w11 =>
 SPL v10
 (b15 R C5 C10 x0 x6 x7 x9 x11 x12 x13 w11)
 (C5 x5 x6 w11)
theorem b11_ok (R:EP) (C5:Value→VP) (C10:Value→VP):TI prog R p5 (q2 R C5 C10) fun z w=>b11 R C5 C10 (z 0) (z 5) (z 6) (z 7) (z 9) (z 11) (z 12) (z 13) w:=appT 0 (k12_ok R C5 C10)

def l10 (R:EP) (C5:Value→VP) (x0 x5 x6 x7 x9 x11 x12 x13:Value) (w:World) (_r:Tok R:=tok R) (_C5:Tok C5:=tok C5):Prop :=
 ∃(J:Value→VP) (μ:Value→Value→World→Nat),J x6 x13 w∧∀y6 y13 w0,J y6 y13 w0→b11 R C5 (fun z6 z13 w1=>J z6 z13 w1∧μ z6 z13 w1<μ y6 y13 w0) x0 x5 y6 x7 x9 x11 x12 y13 w0
abbrev q9 (R:EP) (C5:Value→VP):XP:=QX (fun z w=>C5 (z 5) (z 6) w) (r0 R) [(4,(fun z w=>C5 (z 5) (z 6) w)),(2,(fun z w=>C5 (z 5) (z 6) w)),(0,(fun z w=>b3 R (z 5) w))]
theorem l10_ok (R:EP) (C5:Value→VP):TI prog R (blkC p4) (q9 R C5) fun z w=>l10 R C5 (z 0) (z 5) (z 6) (z 7) (z 9) (z 11) (z 12) (z 13) w:=fun z w h=>by
 unfold l10 at h
 obtain ⟨J,μ,h0,hr⟩:=h
 refine loopT (fun z' w'=>J (z' 6) (z' 13) w') (fun z' w'=>μ (z' 6) (z' 13) w') h0 fun z' w' hA hI=>b11_ok R C5 (fun z6 z13 w1=>J z6 z13 w1∧μ z6 z13 w1<μ (z' 6) (z' 13) w') z' w' ?_
 have h1:=hr (z' 6) (z' 13) w' hI
 rwa [←hA.on 0,←hA.on 5,←hA.on 7,←hA.on 9,←hA.on 11,←hA.on 12] at h1
theorem l10_intro (R:EP) (C5:Value→VP) (x0 x5 x6 x7 x9 x11 x12 x13:Value) (w:World) (J:Value→VP) (μ:Value→Value→World→Nat) (h0:J x6 x13 w)
   (hr:∀y6 y13 w0,J y6 y13 w0→∀C10:Value→VP,(∀z6 z13 w1,J z6 z13 w1→μ z6 z13 w1<μ y6 y13 w0→C10 z6 z13 w1)→b11 R C5 C10 x0 x5 y6 x7 x9 x11 x12 y13 w0):l10 R C5 x0 x5 x6 x7 x9 x11 x12 x13 w:=by
 unfold l10
 exact ⟨J,μ,h0,fun y6 y13 w0 hJ=>hr y6 y13 w0 hJ _ (fun z6 z13 w1 h1 h2=>⟨h1,h2⟩)⟩
abbrev q10 (R:EP) (C5:Value→VP):XP:=QX (fun z w=>C5 (z 5) (z 6) w) (r0 R) [(2,(fun z w=>C5 (z 5) (z 6) w)),(0,(fun z w=>b3 R (z 5) w))]
theorem k9_ok (R:EP) (C5:Value→VP):TI prog R p4 (q10 R C5) fun z w=>l10 R C5 (z 0) (z 5) (z 6) (z 7) (z 9) (z 11) (z 12) (z 13) w:=blockT 2 (l10_ok R C5)
def b8_1 (R:EP) (C5:Value→VP) (x0 v5 v8 v14 v36 v65:Value) (w66:World) (_r:Tok R:=tok R) (_C5:Tok C5:=tok C5):Prop :=
 PUR prog (extract v65 0) fun v67 =>
 PUR prog (extract v65 1) fun v68 =>
 l10 R C5 x0 v14 v8 v5 v36 v67 v68 (Value.int .i64 0) w66
def b8_2 (R:EP) (C5:Value→VP) (x0 v5 v8 v14 v36:Value) (w46:World) (_r:Tok R:=tok R) (_C5:Tok C5:=tok C5):Prop :=
 NILC x0 fun v47 =>
 PUR prog (fieldAt 76 v47 1) fun v48 =>
 LD prog (loadAt 73 v48) (World.drew w46) fun v49 =>
 NILC x0 fun v50 =>
 PUR prog (fieldAt 76 v50 0) fun v51 =>
 PUR prog (fieldAt 27 v51 4) fun v52 =>
 LD prog (loadAt 25 v52) (World.drew w46) fun v53 =>
 PUR prog (fieldAt 79 v5 0) fun v54 =>
 PUR prog (fieldAt 57 v54 0) fun v55 =>
 LD prog (loadAt 3 v55) (World.drew w46) fun v56 =>
 PUR prog (indexAt 25 v53 v56) fun v57 =>
 PUR prog (fieldAt 67 v57 1) fun v58 =>
 LD prog (loadAt 24 v58) (World.drew w46) fun v59 =>
 PUR prog (fieldAt 79 v5 0) fun v60 =>
 PUR prog (fieldAt 57 v60 1) fun v61 =>
 LD prog (loadAt 3 v61) (World.drew w46) fun v62 =>
 PUR prog (bins .add 3 (.tmp 79) (.const (Value.int .i64 1)) v62 (Value.int .i64 1)) fun v63 =>
 PUR prog (sliceAt 24 v59 (some v63) none none) fun v64 =>
 CALL prog R ref07_Begin_Of.id #[v49,v64] (World.drew w46) fun v65 w66 =>
 b8_1 R C5 x0 v5 v8 v14 v36 v65 w66
def b8_3 (R:EP) (C5:Value→VP) (x0 v5 v8 v14 v36:Value) (w37:World) (_r:Tok R:=tok R) (_C5:Tok C5:=tok C5):Prop :=
 NILC x0 fun v38 =>
 RUN prog R (fieldAt 76 v38 0) w37 fun v39 w40 =>
 RUN prog R (loadAt 27 v39) w40 fun v41 w42 =>
 CALL prog R ref02_IsNon.id #[v41,v36] w42 fun v43 w44 =>
 RUN prog R (Op.unary .not v43) w44 fun v45 w46 =>
 SPL v45
 (C5 v14 v8 w46)
 (b8_2 R C5 x0 v5 v8 v14 v36 w46)
def b8_4 (R:EP) (C5:Value→VP) (x0 v5 v8 v14:Value) (w19:World) (_r:Tok R:=tok R) (_C5:Tok C5:=tok C5):Prop :=
 NILC x0 fun v20 =>
 RUN prog R (fieldAt 76 v20 2) w19 fun v21 w22 =>
 RUN prog R (loadAt 3 v21) w22 fun v23 w24 =>
 RUN prog R (bins .sub 3 (.tmp 42) (.const (Value.int .i64 1)) v23 (Value.int .i64 1)) w24 fun v25 w26 =>
 NILC x0 fun v27 =>
 RUN prog R (fieldAt 76 v27 2) w26 fun v28 w29 =>
 RUNU prog R (storeAt 3 v28 v25) w29 fun w30 =>
 NILC x0 fun v31 =>
 PUR prog (fieldAt 76 v31 0) fun v32 =>
 LD prog (loadAt 27 v32) (World.drew w30) fun v33 =>
 PUR prog (fieldAt 79 v5 0) fun v34 =>
 LD prog (loadAt 57 v34) (World.drew w30) fun v35 =>
 CALL prog R ref09_After.id #[v33,v35] (World.drew w30) fun v36 w37 =>
 b8_3 R C5 x0 v5 v8 v14 v36 w37
def b8_5 (R:EP) (C5:Value→VP) (x0 v5 v8 v12:Value) (w13:World) (_r:Tok R:=tok R) (_C5:Tok C5:=tok C5):Prop :=
 RUN prog R (extract v12 0) w13 fun v14 w15 =>
 RUN prog R (extract v12 1) w15 fun v16 w17 =>
 RUN prog R (Op.unary .not v16) w17 fun v18 w19 =>
 SPL v18
 (C5 v14 v8 w19)
 (b8_4 R C5 x0 v5 v8 v14 w19)

def b8 (R:EP) (C5:Value→VP) (x0 x5 x6:Value) (w:World) (_r:Tok R:=tok R) (_C5:Tok C5:=tok C5):Prop :=
 RUN prog R (indexAt 41 x6 (Value.int .i64 0)) w fun v1 w2 =>
 RUN prog R (loadAt 79 v1) w2 fun v3 w4 =>
 RUN prog R (alloc 79 true (.tuple #[])) w4 fun v5 w6 =>
 RUNU prog R (storeAt 79 v5 v3) w6 fun w7 =>
 RUN prog R (sliceAt 41 x6 (some (Value.int .i64 1)) none none) w7 fun v8 w9 =>
 RUN prog R (loadAt 79 v5) w9 fun v10 w11 =>
 CALL prog R top_set_with.id #[x5,v10] w11 fun v12 w13 =>
 b8_5 R C5 x0 v5 v8 v12 w13
theorem b8_ok (R:EP) (C5:Value→VP):TI prog R (blkC p3) (q10 R C5) fun z w=>b8 R C5 (z 0) (z 5) (z 6) w:=appT 10 (k9_ok R C5)
abbrev q11 (R:EP) (C5:Value→VP):XP:=QX (fun z w=>C5 (z 5) (z 6) w) (r0 R) [(0,(fun z w=>b3 R (z 5) w))]
theorem k7_ok (R:EP) (C5:Value→VP):TI prog R p3 (q11 R C5) fun z w=>b8 R C5 (z 0) (z 5) (z 6) w:=blockT 1 (b8_ok R C5)
noncomputable abbrev p13:Code:=fstC (loopC p2)
noncomputable abbrev p14:Code:=dropC 1 p13

def b25 (R:EP) (C5:Value→VP) (x0 x5 x6 x25:Value) (w:World) (_r:Tok R:=tok R) (_C5:Tok C5:=tok C5):Prop :=
 SPL x25
 (b8 R C5 x0 x5 x6 w)
 (b3 R x5 w)
abbrev q12 (R:EP) (C5:Value→VP):XP:=QX (fun z w=>b8 R C5 (z 0) (z 5) (z 6) w) (r0 R) [(0,(fun z w=>b3 R (z 5) w))]
theorem b25_ok (R:EP) (C5:Value→VP):TI prog R p14 (q12 R C5) fun z w=>b25 R C5 (z 0) (z 5) (z 6) (z 25) w:=ofT
def b24_1 (R:EP) (C5:Value→VP) (x0 x5 x6:Value) (w4:World) (_r:Tok R:=tok R) (_C5:Tok C5:=tok C5):Prop :=
 NILC x0 fun v5 =>
 RUN prog R (fieldAt 76 v5 2) w4 fun v6 w7 =>
 RUN prog R (loadAt 3 v6) w7 fun v8 w9 =>
 RUN prog R (bins .gtr 3 (.tmp 23) (.const (Value.int .i64 0)) v8 (Value.int .i64 0)) w9 fun v10 w11 =>
 b25 R C5 x0 x5 x6 v10 w11

def b24 (R:EP) (C5:Value→VP) (x0 x5 x6:Value) (w:World) (_r:Tok R:=tok R) (_C5:Tok C5:=tok C5):Prop :=
 RUN prog R (Builtin.len_ #[41] 3 #[x6]) w fun v1 w2 =>
 RUN prog R (bins .gtr 3 (.tmp 17) (.const (Value.int .i64 0)) v1 (Value.int .i64 0)) w2 fun v3 w4 =>
 SPL v3
 (b24_1 R C5 x0 x5 x6 w4)
 (b25 R C5 x0 x5 x6 (Value.bool false) w4)
theorem b24_ok (R:EP) (C5:Value→VP):TI prog R p13 (q12 R C5) fun z w=>b24 R C5 (z 0) (z 5) (z 6) w:=appT 0 (b25_ok R C5)
theorem k6_ok (R:EP) (C5:Value→VP):TI prog R (loopC p2) (q11 R C5) fun z w=>b24 R C5 (z 0) (z 5) (z 6) w:=seqT (b24_ok R C5) (k7_ok R C5)

def l5 (R:EP) (x0 x5 x6:Value) (w:World) (_r:Tok R:=tok R):Prop :=
 ∃(J:Value→VP) (μ:Value→Value→World→Nat),J x5 x6 w∧∀y5 y6 w0,J y5 y6 w0→b24 R (fun z5 z6 w1=>J z5 z6 w1∧μ z5 z6 w1<μ y5 y6 w0) x0 y5 y6 w0
abbrev q13 (R:EP):XP:=QX (fun z w=>b3 R (z 5) w) (r0 R) [(0,(fun z w=>b3 R (z 5) w))]
theorem l5_ok (R:EP):TI prog R p2 (q13 R) fun z w=>l5 R (z 0) (z 5) (z 6) w:=fun z w h=>by
 unfold l5 at h
 obtain ⟨J,μ,h0,hr⟩:=h
 refine loopT (fun z' w'=>J (z' 5) (z' 6) w') (fun z' w'=>μ (z' 5) (z' 6) w') h0 fun z' w' hA hI=>k6_ok R (fun z5 z6 w1=>J z5 z6 w1∧μ z5 z6 w1<μ (z' 5) (z' 6) w') z' w' ?_
 have h1:=hr (z' 5) (z' 6) w' hI
 rwa [←hA.on 0] at h1
theorem l5_intro (R:EP) (x0 x5 x6:Value) (w:World) (J:Value→VP) (μ:Value→Value→World→Nat) (h0:J x5 x6 w)
   (hr:∀y5 y6 w0,J y5 y6 w0→∀C5:Value→VP,(∀z5 z6 w1,J z5 z6 w1→μ z5 z6 w1<μ y5 y6 w0→C5 z5 z6 w1)→b24 R C5 x0 y5 y6 w0):l5 R x0 x5 x6 w:=by
 unfold l5
 exact ⟨J,μ,h0,fun y5 y6 w0 hJ=>hr y5 y6 w0 hJ _ (fun z5 z6 w1 h1 h2=>⟨h1,h2⟩)⟩
abbrev q14 (R:EP):XP:=QX (fun z w=>b3 R (z 5) w) (r0 R) []
theorem k4_ok (R:EP):TI prog R (fstC p1) (q14 R) fun z w=>l5 R (z 0) (z 5) (z 6) w:=blockT 0 (l5_ok R)
theorem k2_ok (R:EP):TI prog R p1 (q1 R) fun z w=>l5 R (z 0) (z 5) (z 6) w:=seqT (k4_ok R) (b3_ok R)

def b1 (R:EP) (x0 x1:Value) (w:World) (_r:Tok R:=tok R):Prop :=
 l5 R x0 (Value.slice Option.none 0 0) x1 w
theorem b1_ok (R:EP):TI prog R code (q1 R) fun z w=>b1 R (z 0) (z 1) w:=appT 2 (k2_ok R)
def run (R:EP) (a0 a1:Value) (w:World):Prop:=b1 R a0 a1 w
theorem calls (R:EP) (a0 a1:Value) (w:World) (h:run R a0 a1 w):Calls prog id #[a0,a1] w R:=cls_t func22 [a0,a1] (b1_ok R _ w h)
theorem enters:Enters prog id:=fun args w=>call22 args w
theorem ct {a0 a1:Value} {w:World} {S:VP} (h:∀R:EP,(∀v w,S v w→R (.returned v) w)→run R a0 a1 w):Ct prog id #[a0,a1] w S :=
 Ct.intro enters fun R hR=>calls R a0 a1 w (h R hR)
attribute [irreducible] l17 l10 l5
attribute [irreducible,go_sem] b3 b13 b20 b23_1 b23 b22_1 b22 b18 b15 b11 b8_1 b8_2 b8_3 b8_4 b8_5 b8 b25 b24_1 b24 b1 run
end top_canon_closure

/-! ### (*presage/presagetop.canon).behind -/
namespace top_canon_behind
noncomputable def code:Code:=bodyOf f24
noncomputable abbrev p1:Code:=dropC 2 code
def b3 (R:EP) (x0 x7:Value) (w:World) (_r:Tok R:=tok R):Prop :=
 CALL prog R top_canon_closure.id #[x0,x7] w fun v1 w2 =>
 R (.returned v1) w2
abbrev r0 (R:EP) (z:Env) (w:World):Prop:=R (.returned (z 6)) w
abbrev q1 (R:EP):XP:=QX (r0 R) (r0 R) []
theorem b3_ok (R:EP):TI prog R (sndC p1) (q1 R) fun z w=>b3 R (z 0) (z 7) w:=ofT
noncomputable abbrev p2:Code:=dropC 1 (fstC p1)
noncomputable abbrev p3:Code:=loopC (blkC p2)
noncomputable abbrev p4:Code:=dropC 2 p3
def b8 (R:EP) (C6:Value→VP) (x7 x8:Value) (w:World) (_r:Tok R:=tok R) (_C6:Tok C6:=tok C6):Prop :=
 RUN prog R (bins .add 3 (.tmp 13) (.const (Value.int .i64 1)) x8 (Value.int .i64 1)) w fun v1 w2 =>
 C6 x7 v1 w2
abbrev q2 (R:EP) (C6:Value→VP):XP:=QX (fun z w=>C6 (z 7) (z 8) w) (r0 R) [(0,(fun z w=>b3 R (z 0) (z 7) w))]
theorem b8_ok (R:EP) (C6:Value→VP):TI prog R p4 (q2 R C6) fun z w=>b8 R C6 (z 7) (z 8) w:=ofT
def b7_1 (R:EP) (C6:Value→VP) (x1 x7 x8:Value) (w12:World) (_r:Tok R:=tok R) (_C6:Tok C6:=tok C6):Prop :=
 PUR prog (indexAt 42 x1 x8) fun v14 =>
 PUR prog (fieldAt 79 v14 0) fun v15 =>
 PUR prog (fieldAt 57 v15 0) fun v16 =>
 LD prog (loadAt 3 v16) (World.drew w12) fun v17 =>
 PUR prog (indexAt 42 x1 x8) fun v18 =>
 PUR prog (fieldAt 79 v18 0) fun v19 =>
 PUR prog (fieldAt 57 v19 1) fun v20 =>
 LD prog (loadAt 3 v20) (World.drew w12) fun v21 =>
 PUR prog (bins .add 3 (.tmp 39) (.const (Value.int .i64 1)) v21 (Value.int .i64 1)) fun v22 =>
 PUR prog (build 57 #[(0,v17),(1,v22)]) fun v23 =>
 PUR prog (indexAt 42 x1 x8) fun v24 =>
 PUR prog (fieldAt 79 v24 1) fun v25 =>
 LD prog (loadAt 3 v25) (World.drew w12) fun v26 =>
 PUR prog (build 79 #[(0,v23),(1,v26)]) fun v27 =>
 RUN prog R (buildSlice 41 1 #[(0,v27)]) (World.drew w12) fun v28 w29 =>
 RUN prog R (Builtin.append_ #[41,41] 41 #[x7,v28]) w29 fun v30 w31 =>
 b8 R C6 v30 x8 w31
def b7_2 (R:EP) (C6:Value→VP) (x0 x1 x2 x7 x8:Value) (w4:World) (_r:Tok R:=tok R) (_C6:Tok C6:=tok C6):Prop :=
 NILC x0 fun v5 =>
 PUR prog (fieldAt 76 v5 0) fun v6 =>
 LD prog (loadAt 27 v6) (World.drew w4) fun v7 =>
 PUR prog (indexAt 42 x1 x8) fun v8 =>
 PUR prog (fieldAt 79 v8 0) fun v9 =>
 LD prog (loadAt 57 v9) (World.drew w4) fun v10 =>
 CALL prog R ref09_After.id #[v7,v10] (World.drew w4) fun v11 w12 =>
 PUR prog (bins .eql 3 (.tmp 24) (.tmp 25) v11 x2) fun v13 =>
 SPL v13
 (b7_1 R C6 x1 x7 x8 w12)
 (b8 R C6 x7 x8 w12)
def b7 (R:EP) (C6:Value→VP) (x0 x1 x2 x7 x8:Value) (w:World) (_r:Tok R:=tok R) (_C6:Tok C6:=tok C6):Prop :=
 RUN prog R (Builtin.len_ #[42] 3 #[x1]) w fun v1 w2 =>
 RUN prog R (bins .lss 3 (.tmp 9) (.tmp 11) x8 v1) w2 fun v3 w4 =>
 SPL v3
 (b7_2 R C6 x0 x1 x2 x7 x8 w4)
 (b3 R x0 x7 w4)
theorem b7_ok (R:EP) (C6:Value→VP):TI prog R p3 (q2 R C6) fun z w=>b7 R C6 (z 0) (z 1) (z 2) (z 7) (z 8) w:=appT 1 (b8_ok R C6)
def l6 (R:EP) (x0 x1 x2 x7 x8:Value) (w:World) (_r:Tok R:=tok R):Prop :=
 ∃(J:Value→VP) (μ:Value→Value→World→Nat),J x7 x8 w∧∀y7 y8 w0,J y7 y8 w0→b7 R (fun z7 z8 w1=>J z7 z8 w1∧μ z7 z8 w1<μ y7 y8 w0) x0 x1 x2 y7 y8 w0
abbrev q3 (R:EP):XP:=QX (fun z w=>b3 R (z 0) (z 7) w) (r0 R) [(0,(fun z w=>b3 R (z 0) (z 7) w))]
theorem l6_ok (R:EP):TI prog R (blkC p2) (q3 R) fun z w=>l6 R (z 0) (z 1) (z 2) (z 7) (z 8) w:=fun z w h=>by
 unfold l6 at h
 obtain ⟨J,μ,h0,hr⟩:=h
 refine loopT (fun z' w'=>J (z' 7) (z' 8) w') (fun z' w'=>μ (z' 7) (z' 8) w') h0 fun z' w' hA hI=>b7_ok R (fun z7 z8 w1=>J z7 z8 w1∧μ z7 z8 w1<μ (z' 7) (z' 8) w') z' w' ?_
 have h1:=hr (z' 7) (z' 8) w' hI
 rwa [←hA.on 0,←hA.on 1,←hA.on 2] at h1
theorem l6_intro (R:EP) (x0 x1 x2 x7 x8:Value) (w:World) (J:Value→VP) (μ:Value→Value→World→Nat) (h0:J x7 x8 w)
   (hr:∀y7 y8 w0,J y7 y8 w0→∀C6:Value→VP,(∀z7 z8 w1,J z7 z8 w1→μ z7 z8 w1<μ y7 y8 w0→C6 z7 z8 w1)→b7 R C6 x0 x1 x2 y7 y8 w0):l6 R x0 x1 x2 x7 x8 w:=by
 unfold l6
 exact ⟨J,μ,h0,fun y7 y8 w0 hJ=>hr y7 y8 w0 hJ _ (fun z7 z8 w1 h1 h2=>⟨h1,h2⟩)⟩
abbrev q4 (R:EP):XP:=QX (fun z w=>b3 R (z 0) (z 7) w) (r0 R) []
theorem k5_ok (R:EP):TI prog R p2 (q4 R) fun z w=>l6 R (z 0) (z 1) (z 2) (z 7) (z 8) w:=blockT 0 (l6_ok R)
def b4 (R:EP) (x0 x1 x2 x7:Value) (w:World) (_r:Tok R:=tok R):Prop :=
 l6 R x0 x1 x2 x7 (Value.int .i64 0) w
theorem b4_ok (R:EP):TI prog R (fstC p1) (q4 R) fun z w=>b4 R (z 0) (z 1) (z 2) (z 7) w:=appT 0 (k5_ok R)
theorem k2_ok (R:EP):TI prog R p1 (q1 R) fun z w=>b4 R (z 0) (z 1) (z 2) (z 7) w:=seqT (b4_ok R) (b3_ok R)
def b1 (R:EP) (x0 x1 x2:Value) (w:World) (_r:Tok R:=tok R):Prop :=
 b4 R x0 x1 x2 (Value.slice Option.none 0 0) w
theorem b1_ok (R:EP):TI prog R code (q1 R) fun z w=>b1 R (z 0) (z 1) (z 2) w:=appT 1 (k2_ok R)
def run (R:EP) (a0 a1 a2:Value) (w:World):Prop:=b1 R a0 a1 a2 w
theorem calls (R:EP) (a0 a1 a2:Value) (w:World) (h:run R a0 a1 a2 w):Calls prog id #[a0,a1,a2] w R:=cls_t func24 [a0,a1,a2] (b1_ok R _ w h)
theorem enters:Enters prog id:=fun args w=>call24 args w
theorem ct {a0 a1 a2:Value} {w:World} {S:VP} (h:∀R:EP,(∀v w,S v w→R (.returned v) w)→run R a0 a1 a2 w):Ct prog id #[a0,a1,a2] w S :=
 Ct.intro enters fun R hR=>calls R a0 a1 a2 w (h R hR)
attribute [irreducible] l6
attribute [irreducible,go_sem] b3 b8 b7_1 b7_2 b7 b4 b1 run
end top_canon_behind

/-! ### presage/presagetop.alike -/
namespace top_alike
noncomputable def code:Code:=bodyOf f25
noncomputable abbrev p1:Code:=dropC 2 code

def b3 (R:EP) (w:World) (_r:Tok R:=tok R):Prop :=
 R (.returned (Value.bool true)) w
abbrev r0 (R:EP) (z:Env) (w:World):Prop:=R (.returned (z 4)) w
abbrev q1 (R:EP):XP:=QX (r0 R) (r0 R) []
theorem b3_ok (R:EP):TI prog R (sndC p1) (q1 R) fun z w=>b3 R w:=ofT
noncomputable abbrev p2:Code:=dropC 1 (fstC p1)
noncomputable abbrev p3:Code:=loopC (blkC p2)
def b7_1 (R:EP) (C6:VP) (x0 x1 x5:Value) (w4:World) (_r:Tok R:=tok R) (_C6:Tok C6:=tok C6):Prop :=
 PUR prog (indexAt 42 x0 x5) fun v5 =>
 LD prog (loadAt 79 v5) (World.drew w4) fun v6 =>
 PUR prog (indexAt 42 x1 x5) fun v7 =>
 LD prog (loadAt 79 v7) (World.drew w4) fun v8 =>
 PUR prog (bins .neq 79 (.tmp 20) (.tmp 24) v6 v8) fun v9 =>
 SPL v9
 (R (.returned (Value.bool false)) (World.drew w4))
 (RUN prog R (bins .add 3 (.tmp 15) (.const (Value.int .i64 1)) x5 (Value.int .i64 1)) (World.drew w4) fun v10 w11 =>
 C6 v10 w11)
def b7 (R:EP) (C6:VP) (x0 x1 x5:Value) (w:World) (_r:Tok R:=tok R) (_C6:Tok C6:=tok C6):Prop :=
 RUN prog R (Builtin.len_ #[42] 3 #[x0]) w fun v1 w2 =>
 RUN prog R (bins .lss 3 (.tmp 11) (.tmp 13) x5 v1) w2 fun v3 w4 =>
 SPL v3
 (b7_1 R C6 x0 x1 x5 w4)
 (b3 R w4)
abbrev q2 (R:EP) (C6:VP):XP:=QX (fun z w=>C6 (z 5) w) (r0 R) [(0,(fun z w=>b3 R  w))]
theorem b7_ok (R:EP) (C6:VP):TI prog R p3 (q2 R C6) fun z w=>b7 R C6 (z 0) (z 1) (z 5) w:=ofT
def l6 (R:EP) (x0 x1 x5:Value) (w:World) (_r:Tok R:=tok R):Prop :=
 ∃(J:VP) (μ:Value→World→Nat),J x5 w∧∀y5 w0,J y5 w0→b7 R (fun z5 w1=>J z5 w1∧μ z5 w1<μ y5 w0) x0 x1 y5 w0
abbrev q3 (R:EP):XP:=QX (fun z w=>b3 R  w) (r0 R) [(0,(fun z w=>b3 R  w))]
theorem l6_ok (R:EP):TI prog R (blkC p2) (q3 R) fun z w=>l6 R (z 0) (z 1) (z 5) w:=fun z w h=>by
 unfold l6 at h
 obtain ⟨J,μ,h0,hr⟩:=h
 refine loopT (fun z' w'=>J (z' 5) w') (fun z' w'=>μ (z' 5) w') h0 fun z' w' hA hI=>b7_ok R (fun z5 w1=>J z5 w1∧μ z5 w1<μ (z' 5) w') z' w' ?_
 have h1:=hr (z' 5) w' hI
 rwa [←hA.on 0,←hA.on 1] at h1
theorem l6_intro (R:EP) (x0 x1 x5:Value) (w:World) (J:VP) (μ:Value→World→Nat) (h0:J x5 w)
   (hr:∀y5 w0,J y5 w0→∀C6:VP,(∀z5 w1,J z5 w1→μ z5 w1<μ y5 w0→C6 z5 w1)→b7 R C6 x0 x1 y5 w0):l6 R x0 x1 x5 w:=by
 unfold l6
 exact ⟨J,μ,h0,fun y5 w0 hJ=>hr y5 w0 hJ _ (fun z5 w1 h1 h2=>⟨h1,h2⟩)⟩
abbrev q4 (R:EP):XP:=QX (fun z w=>b3 R  w) (r0 R) []
theorem k5_ok (R:EP):TI prog R p2 (q4 R) fun z w=>l6 R (z 0) (z 1) (z 5) w:=blockT 0 (l6_ok R)
def b4 (R:EP) (x0 x1:Value) (w:World) (_r:Tok R:=tok R):Prop :=
 l6 R x0 x1 (Value.int .i64 0) w
theorem b4_ok (R:EP):TI prog R (fstC p1) (q4 R) fun z w=>b4 R (z 0) (z 1) w:=appT 0 (k5_ok R)
theorem k2_ok (R:EP):TI prog R p1 (q1 R) fun z w=>b4 R (z 0) (z 1) w:=seqT (b4_ok R) (b3_ok R)
def b1 (R:EP) (x0 x1:Value) (w:World) (_r:Tok R:=tok R):Prop :=
 RUN prog R (Builtin.len_ #[42] 3 #[x0]) w fun v1 w2 =>
 RUN prog R (Builtin.len_ #[42] 3 #[x1]) w2 fun v3 w4 =>
 RUN prog R (bins .neq 3 (.tmp 7) (.tmp 9) v1 v3) w4 fun v5 w6 =>
 SPL v5
 (R (.returned (Value.bool false)) w6)
 (b4 R x0 x1 w6)
theorem b1_ok (R:EP):TI prog R code (q1 R) fun z w=>b1 R (z 0) (z 1) w:=appT 1 (k2_ok R)
def run (R:EP) (a0 a1:Value) (w:World):Prop:=b1 R a0 a1 w
theorem calls (R:EP) (a0 a1:Value) (w:World) (h:run R a0 a1 w):Calls prog id #[a0,a1] w R:=cls_t func25 [a0,a1] (b1_ok R _ w h)
theorem enters:Enters prog id:=fun args w=>call25 args w
theorem ct {a0 a1:Value} {w:World} {S:VP} (h:∀R:EP,(∀v w,S v w→R (.returned v) w)→run R a0 a1 w):Ct prog id #[a0,a1] w S :=
 Ct.intro enters fun R hR=>calls R a0 a1 w (h R hR)
attribute [irreducible] l6
attribute [irreducible,go_sem] b3 b7_1 b7 b4 b1 run
end top_alike

/-! ### (presage/presagetop.set).with -/
namespace top_set_with
noncomputable def code:Code:=bodyOf f49
noncomputable abbrev p1:Code:=dropC 3 code
noncomputable abbrev p2:Code:=sndC (sndC p1)
def b4 (R:EP) (x0 x3 x6:Value) (w:World) (_r:Tok R:=tok R):Prop :=
 RUN prog R (sliceAt 42 x0 none (some x6) none) w fun v1 w2 =>
 RUN prog R (Builtin.append_ #[42,42] 42 #[(Value.slice Option.none 0 0),v1]) w2 fun v3 w4 =>
 RUN prog R (loadAt 79 x3) w4 fun v5 w6 =>
 RUN prog R (buildSlice 42 1 #[(0,v5)]) w6 fun v7 w8 =>
 RUN prog R (Builtin.append_ #[42,42] 42 #[v3,v7]) w8 fun v9 w10 =>
 RUN prog R (sliceAt 42 x0 (some x6) none none) w10 fun v11 w12 =>
 RUN prog R (Builtin.append_ #[42,42] 42 #[v9,v11]) w12 fun v13 w14 =>
 R (.returned (.tuple #[v13,(Value.bool true)])) w14
abbrev r0 (R:EP) (z:Env) (w:World):Prop:=R (.returned (.tuple #[(z 4),(z 5)])) w
abbrev q1 (R:EP):XP:=QX (r0 R) (r0 R) []
theorem b4_ok (R:EP):TI prog R p2 (q1 R) fun z w=>b4 R (z 0) (z 3) (z 6) w:=ofT
noncomputable abbrev p3:Code:=fstC (sndC p1)
noncomputable abbrev p4:Code:=dropC 1 p3
def b6 (R:EP) (x0 x3 x6 x39:Value) (w:World) (_r:Tok R:=tok R):Prop :=
 SPL x39
 (R (.returned (.tuple #[x0,(Value.bool false)])) w)
 (b4 R x0 x3 x6 w)
abbrev q2 (R:EP):XP:=QX (fun z w=>b4 R (z 0) (z 3) (z 6) w) (r0 R) []
theorem b6_ok (R:EP):TI prog R p4 (q2 R) fun z w=>b6 R (z 0) (z 3) (z 6) (z 39) w:=ofT
def b5_1 (R:EP) (x0 x3 x6:Value) (w:World) (_r:Tok R:=tok R):Prop :=
 PUR prog (indexAt 42 x0 x6) fun v3 =>
 LD prog (loadAt 79 v3) (World.drew w) fun v4 =>
 LD prog (loadAt 79 x3) (World.drew w) fun v5 =>
 PUR prog (bins .eql 79 (.tmp 36) (.tmp 37) v4 v5) fun v6 =>
 b6 R x0 x3 x6 v6 (World.drew w)
def b5 (R:EP) (x0 x3 x6:Value) (w:World) (_r:Tok R:=tok R):Prop :=
 LD prog (Builtin.len_ #[42] 3 #[x0]) (World.drew w) fun v1 =>
 PUR prog (bins .lss 3 (.tmp 28) (.tmp 30) x6 v1) fun v2 =>
 SPL v2
 (b5_1 R x0 x3 x6 w)
 (b6 R x0 x3 x6 (Value.bool false) (World.drew w))
theorem b5_ok (R:EP):TI prog R p3 (q2 R) fun z w=>b5 R (z 0) (z 3) (z 6) w:=appT 0 (b6_ok R)
theorem k3_ok (R:EP):TI prog R (sndC p1) (q1 R) fun z w=>b5 R (z 0) (z 3) (z 6) w:=seqT (b5_ok R) (b4_ok R)
noncomputable abbrev p5:Code:=blkC (fstC p1)
def b9_1 (R:EP) (C8:Value→VP) (x0 x3 x6 x7:Value) (w2:World) (_r:Tok R:=tok R) (_C8:Tok C8:=tok C8):Prop :=
 RUN prog R (bins .add 3 (.tmp 15) (.tmp 16) x6 x7) w2 fun v3 w4 =>
 RUN prog R (bins .quo 3 (.tmp 17) (.const (Value.int .i64 2)) v3 (Value.int .i64 2)) w4 fun v5 w6 =>
 PUR prog (indexAt 42 x0 v5) fun v7 =>
 LD prog (loadAt 79 v7) (World.drew w6) fun v8 =>
 LD prog (loadAt 79 x3) (World.drew w6) fun v9 =>
 CALL prog R top_before.id #[v8,v9] (World.drew w6) fun v10 w11 =>
 SPL v10
 (RUN prog R (bins .add 3 (.tmp 25) (.const (Value.int .i64 1)) v5 (Value.int .i64 1)) w11 fun v12 w13 =>
 C8 v12 x7 w13)
 (C8 x6 v5 w11)
def b9 (R:EP) (C8:Value→VP) (x0 x3 x6 x7:Value) (w:World) (_r:Tok R:=tok R) (_C8:Tok C8:=tok C8):Prop :=
 RUN prog R (bins .lss 3 (.tmp 12) (.tmp 13) x6 x7) w fun v1 w2 =>
 SPL v1
 (b9_1 R C8 x0 x3 x6 x7 w2)
 (b5 R x0 x3 x6 w2)
abbrev q3 (R:EP) (C8:Value→VP):XP:=QX (fun z w=>C8 (z 6) (z 7) w) (r0 R) [(0,(fun z w=>b5 R (z 0) (z 3) (z 6) w))]
theorem b9_ok (R:EP) (C8:Value→VP):TI prog R (loopC p5) (q3 R C8) fun z w=>b9 R C8 (z 0) (z 3) (z 6) (z 7) w:=ofT
def l8 (R:EP) (x0 x3 x6 x7:Value) (w:World) (_r:Tok R:=tok R):Prop :=
 ∃(J:Value→VP) (μ:Value→Value→World→Nat),J x6 x7 w∧∀y6 y7 w0,J y6 y7 w0→b9 R (fun z6 z7 w1=>J z6 z7 w1∧μ z6 z7 w1<μ y6 y7 w0) x0 x3 y6 y7 w0
abbrev q4 (R:EP):XP:=QX (fun z w=>b5 R (z 0) (z 3) (z 6) w) (r0 R) [(0,(fun z w=>b5 R (z 0) (z 3) (z 6) w))]
theorem l8_ok (R:EP):TI prog R p5 (q4 R) fun z w=>l8 R (z 0) (z 3) (z 6) (z 7) w:=fun z w h=>by
 unfold l8 at h
 obtain ⟨J,μ,h0,hr⟩:=h
 refine loopT (fun z' w'=>J (z' 6) (z' 7) w') (fun z' w'=>μ (z' 6) (z' 7) w') h0 fun z' w' hA hI=>b9_ok R (fun z6 z7 w1=>J z6 z7 w1∧μ z6 z7 w1<μ (z' 6) (z' 7) w') z' w' ?_
 have h1:=hr (z' 6) (z' 7) w' hI
 rwa [←hA.on 0,←hA.on 3] at h1
theorem l8_intro (R:EP) (x0 x3 x6 x7:Value) (w:World) (J:Value→VP) (μ:Value→Value→World→Nat) (h0:J x6 x7 w)
   (hr:∀y6 y7 w0,J y6 y7 w0→∀C8:Value→VP,(∀z6 z7 w1,J z6 z7 w1→μ z6 z7 w1<μ y6 y7 w0→C8 z6 z7 w1)→b9 R C8 x0 x3 y6 y7 w0):l8 R x0 x3 x6 x7 w:=by
 unfold l8
 exact ⟨J,μ,h0,fun y6 y7 w0 hJ=>hr y6 y7 w0 hJ _ (fun z6 z7 w1 h1 h2=>⟨h1,h2⟩)⟩
abbrev q5 (R:EP):XP:=QX (fun z w=>b5 R (z 0) (z 3) (z 6) w) (r0 R) []
theorem k7_ok (R:EP):TI prog R (fstC p1) (q5 R) fun z w=>l8 R (z 0) (z 3) (z 6) (z 7) w:=blockT 0 (l8_ok R)
theorem k2_ok (R:EP):TI prog R p1 (q1 R) fun z w=>l8 R (z 0) (z 3) (z 6) (z 7) w:=seqT (k7_ok R) (k3_ok R)
def b1 (R:EP) (x0 x1:Value) (w:World) (_r:Tok R:=tok R):Prop :=
 RUN prog R (box 79 x1) w fun v1 w2 =>
 RUN prog R (Builtin.len_ #[42] 3 #[x0]) w2 fun v3 w4 =>
 l8 R x0 v1 (Value.int .i64 0) v3 w4
theorem b1_ok (R:EP):TI prog R code (q1 R) fun z w=>b1 R (z 0) (z 1) w:=appT 2 (k2_ok R)
def run (R:EP) (a0 a1:Value) (w:World):Prop:=b1 R a0 a1 w
theorem calls (R:EP) (a0 a1:Value) (w:World) (h:run R a0 a1 w):Calls prog id #[a0,a1] w R :=
 calls_of_tt (f:=id) (fn:=f49) (c:=code) (by kernel_rfl) func49 (by kernel_rfl) (by kernel_rfl) (args:=[a0,a1]) (Nat.le_of_ble_eq_true rfl) rfl (b1_ok R (envOf [a0,a1]) w h)
theorem enters:Enters prog id:=fun args w=>call49 args w
theorem ct {a0 a1:Value} {w:World} {S:VP} (h:∀R:EP,(∀v w,S v w→R (.returned v) w)→run R a0 a1 w):Ct prog id #[a0,a1] w S :=
 Ct.intro enters fun R hR=>calls R a0 a1 w (h R hR)
attribute [irreducible] l8
attribute [irreducible,go_sem] b4 b6 b5_1 b5 b9_1 b9 b1 run
end top_set_with

/-! ### presage/presagetop.before -/
namespace top_before
noncomputable def code:Code:=bodyOf f78
def b1_1 (R:EP) (v1 v3:Value) (w18:World) (_r:Tok R:=tok R):Prop :=
 RUN prog R (fieldAt 79 v1 0) w18 fun v19 w20 =>
 RUN prog R (fieldAt 57 v19 0) w20 fun v21 w22 =>
 RUN prog R (loadAt 3 v21) w22 fun v23 w24 =>
 RUN prog R (fieldAt 79 v3 0) w24 fun v25 w26 =>
 RUN prog R (fieldAt 57 v25 0) w26 fun v27 w28 =>
 RUN prog R (loadAt 3 v27) w28 fun v29 w30 =>
 RUN prog R (bins .lss 3 (.tmp 14) (.tmp 17) v23 v29) w30 fun v31 w32 =>
 R (.returned v31) w32
def b1_2 (R:EP) (v1 v3:Value) (w46:World) (_r:Tok R:=tok R):Prop :=
 RUN prog R (fieldAt 79 v1 0) w46 fun v47 w48 =>
 RUN prog R (fieldAt 57 v47 1) w48 fun v49 w50 =>
 RUN prog R (loadAt 3 v49) w50 fun v51 w52 =>
 RUN prog R (fieldAt 79 v3 0) w52 fun v53 w54 =>
 RUN prog R (fieldAt 57 v53 1) w54 fun v55 w56 =>
 RUN prog R (loadAt 3 v55) w56 fun v57 w58 =>
 RUN prog R (bins .lss 3 (.tmp 28) (.tmp 31) v51 v57) w58 fun v59 w60 =>
 R (.returned v59) w60
def b1_3 (R:EP) (v1 v3:Value) (w46:World) (_r:Tok R:=tok R):Prop :=
 RUN prog R (fieldAt 79 v1 1) w46 fun v61 w62 =>
 RUN prog R (loadAt 3 v61) w62 fun v63 w64 =>
 RUN prog R (fieldAt 79 v3 1) w64 fun v65 w66 =>
 RUN prog R (loadAt 3 v65) w66 fun v67 w68 =>
 RUN prog R (bins .lss 3 (.tmp 34) (.tmp 36) v63 v67) w68 fun v69 w70 =>
 R (.returned v69) w70
def b1_4 (R:EP) (v1 v3:Value) (w18:World) (_r:Tok R:=tok R):Prop :=
 RUN prog R (fieldAt 79 v1 0) w18 fun v33 w34 =>
 RUN prog R (fieldAt 57 v33 1) w34 fun v35 w36 =>
 RUN prog R (loadAt 3 v35) w36 fun v37 w38 =>
 RUN prog R (fieldAt 79 v3 0) w38 fun v39 w40 =>
 RUN prog R (fieldAt 57 v39 1) w40 fun v41 w42 =>
 RUN prog R (loadAt 3 v41) w42 fun v43 w44 =>
 RUN prog R (bins .neq 3 (.tmp 21) (.tmp 24) v37 v43) w44 fun v45 w46 =>
 SPL v45
 (b1_2 R v1 v3 w46)
 (b1_3 R v1 v3 w46)
def b1 (R:EP) (x0 x1:Value) (w:World) (_r:Tok R:=tok R):Prop :=
 RUN prog R (box 79 x0) w fun v1 w2 =>
 RUN prog R (box 79 x1) w2 fun v3 w4 =>
 RUN prog R (fieldAt 79 v1 0) w4 fun v5 w6 =>
 RUN prog R (fieldAt 57 v5 0) w6 fun v7 w8 =>
 RUN prog R (loadAt 3 v7) w8 fun v9 w10 =>
 RUN prog R (fieldAt 79 v3 0) w10 fun v11 w12 =>
 RUN prog R (fieldAt 57 v11 0) w12 fun v13 w14 =>
 RUN prog R (loadAt 3 v13) w14 fun v15 w16 =>
 RUN prog R (bins .neq 3 (.tmp 7) (.tmp 10) v9 v15) w16 fun v17 w18 =>
 SPL v17
 (b1_1 R v1 v3 w18)
 (b1_4 R v1 v3 w18)
abbrev r0 (R:EP) (z:Env) (w:World):Prop:=R (.returned (z 4)) w
abbrev q1 (R:EP):XP:=QX (r0 R) (r0 R) []
theorem b1_ok (R:EP):TI prog R code (q1 R) fun z w=>b1 R (z 0) (z 1) w:=ofT
def run (R:EP) (a0 a1:Value) (w:World):Prop:=b1 R a0 a1 w
theorem calls (R:EP) (a0 a1:Value) (w:World) (h:run R a0 a1 w):Calls prog id #[a0,a1] w R:=cls_t func78 [a0,a1] (b1_ok R _ w h)
theorem enters:Enters prog id:=fun args w=>call78 args w
theorem ct {a0 a1:Value} {w:World} {S:VP} (h:∀R:EP,(∀v w,S v w→R (.returned v) w)→run R a0 a1 w):Ct prog id #[a0,a1] w S :=
 Ct.intro enters fun R hR=>calls R a0 a1 w (h R hR)
attribute [irreducible,go_sem] b1_1 b1_2 b1_3 b1_4 b1 run
end top_before
end Go.Proofs.Ytmoepnfobnpdiaa
