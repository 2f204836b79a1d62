/- Shallow programs, written by a program of ours (gen.py) off the translation; each is tied to the code by the kernel. -/
import Derived.Test.YtckbgeedlobfaaaDoorY04
set_option linter.unusedVariables false
set_option maxRecDepth 100000
namespace Go.Proofs.YtckbgeedlobfaaaDoor
open Go.Px Tryd
abbrev cP24 (R:EP):=codeP prog (pan R)
variable (R:EP) (ρ:Env) (w:World)

/-! ### presage/presagelaw04.SpecHeads -/
namespace law04_SpecHeads
noncomputable def code:Code:=bodyOf f9
noncomputable abbrev p1:Code:=dropC 4 code
noncomputable abbrev p2:Code:=dropC 3 (sndC p1)
noncomputable abbrev p3:Code:=dropC 1 (sndC p2)
noncomputable abbrev p4:Code:=dropC 1 (sndC p3)

def b8 (x0 x3 x12:Value) (w:World) (_r:Tok R:=tok R):Prop :=
 CALL prog (pan R) law04_alike.id #[x0,x12] w fun v1 w2 =>
 SPL x3
 (R (.returned v1) w2)
 (R (.returned (.bool Bool.false)) w2)
abbrev q1:XP:=QX (fun ρ w=>R (.returned (ρ 2)) w) (fun ρ w=>R (.returned (ρ 2)) w) []
theorem b8_ok (h:b8 R (ρ 0) (ρ 3) (ρ 12) w):cP24 R p4 (q1 R) ρ w:=cast (by kernel_rfl) h
def b7_1 (x0 x3 x10 x12:Value) (w2:World) (_r:Tok R:=tok R):Prop :=
 RUN prog (pan R) (bins .add 9 (.const (.string {data:=#[37,115,116,97,114,116,32] })) (.tmp 140) (.string {data:=#[37,115,116,97,114,116,32] }) x10) w2 fun v3 w4 =>
 RUN prog (pan R) (bins .add 9 (.tmp 141) (.const (.string {data:=#[32,59,32] })) v3 (.string {data:=#[32,59,32] })) w4 fun v5 w6 =>
 RUN prog (pan R) (bins .add 9 (.tmp 142) (.tmp 143) v5 x12) w6 fun v7 w8 =>
 b8 R x0 x3 v7 w8

def b7 (x0 x3 x9 x10 x12:Value) (w:World) (_r:Tok R:=tok R):Prop :=
 RUN prog (pan R) (Op.unary .not x9) w fun v1 w2 =>
 SPL v1
 (b7_1 R x0 x3 x10 x12 w2)
 (b8 R x0 x3 x12 w2)
abbrev q2:XP:=QX (fun ρ w=>b8 R (ρ 0) (ρ 3) (ρ 12) w) (fun ρ w=>R (.returned (ρ 2)) w) []
theorem b7_eq:(b7 R (ρ 0) (ρ 3) (ρ 9) (ρ 10) (ρ 12) w)=cP24 R (preC 0 (sndC p3)) (q2 R) ρ w:=by kernel_rfl
theorem b7_ok (h:b7 R (ρ 0) (ρ 3) (ρ 9) (ρ 10) (ρ 12) w):cP24 R (sndC p3) (q1 R) ρ w:=by
 have e:appC 0 (preC 0 (sndC p3)) (dropC 1 (sndC p3))=(sndC p3):=by kernel_rfl
 rw [←e]
 exact appQ (fun ρ w=>b8 R (ρ 0) (ρ 3) (ρ 12) w) 0 ((b7_eq R ρ w).mp h) (fun ρ w h=>b8_ok R ρ w h)
noncomputable abbrev p5:Code:=dropC 1 (fstC p3)
noncomputable abbrev p6:Code:=dropC 1 (thnC p5)

def b13 (x0 x3 x9 x10 x12 x13:Value) (w:World) (_r:Tok R:=tok R):Prop :=
 RUN prog (pan R) (bins .add 9 (.tmp 134) (.const (.string {data:=#[32,59,32] })) x13 (.string {data:=#[32,59,32] })) w fun v1 w2 =>
 RUN prog (pan R) (bins .add 9 (.tmp 135) (.tmp 136) v1 x12) w2 fun v3 w4 =>
 b7 R x0 x3 x9 x10 v3 w4
abbrev q3:XP:=QX (fun ρ w=>b7 R (ρ 0) (ρ 3) (ρ 9) (ρ 10) (ρ 12) w) (fun ρ w=>R (.returned (ρ 2)) w) []
theorem b13_ok (h:b13 R (ρ 0) (ρ 3) (ρ 9) (ρ 10) (ρ 12) (ρ 13) w):cP24 R (sndC p6) (q3 R) ρ w:=cast (by kernel_rfl) h
noncomputable abbrev p7:Code:=dropC 1 (fstC p6)
noncomputable abbrev p8:Code:=loopC (blkC p7)
def b17_1 (C16:Value→VP) (x6 x13 x14:Value) (w8:World) (_r:Tok R:=tok R) (_C16:Tok C16:=tok C16):Prop :=
 RUN prog (pan R) (bins .add 9 (.tmp 124) (.const (.string {data:=#[32,39] })) x13 (.string {data:=#[32,39] })) w8 fun v9 w10 =>
 RUN prog (pan R) (Instr.fieldAt 28 x6 0) w10 fun v11 w12 =>
 RUN prog (pan R) (Instr.loadAt 23 v11) w12 fun v13 w14 =>
 RUN prog (pan R) (Instr.indexAt 23 v13 x14) w14 fun v15 w16 =>
 RUN prog (pan R) (Instr.fieldAt 39 v15 0) w16 fun v17 w18 =>
 RUN prog (pan R) (Instr.loadAt 9 v17) w18 fun v19 w20 =>
 RUN prog (pan R) (bins .add 9 (.tmp 125) (.tmp 131) v9 v19) w20 fun v21 w22 =>
 RUN prog (pan R) (bins .add 9 (.tmp 132) (.const (.string {data:=#[39] })) v21 (.string {data:=#[39] })) w22 fun v23 w24 =>
 RUN prog (pan R) (bins .add 3 (.tmp 122) (.const (.int .i64 1)) x14 (.int .i64 1)) w24 fun v25 w26 =>
 C16 v23 v25 w26

def b17 (C16:Value→VP) (x0 x3 x6 x9 x10 x12 x13 x14:Value) (w:World) (_r:Tok R:=tok R) (_C16:Tok C16:=tok C16):Prop :=
 RUN prog (pan R) (Instr.fieldAt 28 x6 0) w fun v1 w2 =>
 RUN prog (pan R) (Instr.loadAt 23 v1) w2 fun v3 w4 =>
 RUN prog (pan R) (Builtin.len_ #[23] 3 #[v3]) w4 fun v5 w6 =>
 RUN prog (pan R) (bins .lss 3 (.tmp 117) (.tmp 120) x14 v5) w6 fun v7 w8 =>
 SPL v7
 (b17_1 R C16 x6 x13 x14 w8)
 (b13 R x0 x3 x9 x10 x12 x13 w8)
abbrev q4 (C16:Value→VP):XP:=QX (fun ρ w=>C16 (ρ 13) (ρ 14) w) (fun ρ w=>R (.returned (ρ 2)) w) [(4,(fun ρ w=>b13 R (ρ 0) (ρ 3) (ρ 9) (ρ 10) (ρ 12) (ρ 13) w))]
theorem b17_ok (R:EP) (C16:Value→VP) (ρ:Env) (w:World) (h:b17 R C16 (ρ 0) (ρ 3) (ρ 6) (ρ 9) (ρ 10) (ρ 12) (ρ 13) (ρ 14) w):cP24 R p8 (q4 R C16) ρ w:=cast (by kernel_rfl) h

def l16 (x0 x3 x6 x9 x10 x12 x13 x14:Value) (w:World) (_r:Tok R:=tok R):Prop :=
 ∃(J:Value→VP) (μ:Value→Value→World→Nat),J x13 x14 w∧∀y13 y14 w0,J y13 y14 w0→b17 R (fun z13 z14 w1=>J z13 z14 w1∧μ z13 z14 w1<μ y13 y14 w0) x0 x3 x6 x9 x10 x12 y13 y14 w0
abbrev q5:XP:=QX (fun ρ w=>b13 R (ρ 0) (ρ 3) (ρ 9) (ρ 10) (ρ 12) (ρ 13) w) (fun ρ w=>R (.returned (ρ 2)) w) [(4,(fun ρ w=>b13 R (ρ 0) (ρ 3) (ρ 9) (ρ 10) (ρ 12) (ρ 13) w))]
theorem l16_ok (h:l16 R (ρ 0) (ρ 3) (ρ 6) (ρ 9) (ρ 10) (ρ 12) (ρ 13) (ρ 14) w):cP24 R (blkC p7) (q5 R) ρ w:=by
 unfold l16 at h
 obtain ⟨J,μ,h0,hr⟩:=h
 have e:Code.loop (loopC (blkC p7))=(blkC p7):=by kernel_rfl
 rw [←e]
 refine loopQ (fun ρ' w'=>J (ρ' 13) (ρ' 14) w') (fun ρ' w'=>μ (ρ' 13) (ρ' 14) w') h0 fun ρ' w' hA hI=>?_
 have e0:ρ' 0=ρ 0:=Agree.at hA 0 (by kernel_rfl)
 have e3:ρ' 3=ρ 3:=Agree.at hA 3 (by kernel_rfl)
 have e6:ρ' 6=ρ 6:=Agree.at hA 6 (by kernel_rfl)
 have e9:ρ' 9=ρ 9:=Agree.at hA 9 (by kernel_rfl)
 have e10:ρ' 10=ρ 10:=Agree.at hA 10 (by kernel_rfl)
 have e12:ρ' 12=ρ 12:=Agree.at hA 12 (by kernel_rfl)
 have h1:=hr (ρ' 13) (ρ' 14) w' hI
 rw [←e0,←e3,←e6,←e9,←e10,←e12] at h1
 exact b17_ok R (fun z13 z14 w1=>J z13 z14 w1∧μ z13 z14 w1<μ (ρ' 13) (ρ' 14) w') ρ' w' h1
theorem l16_intro (R:EP) (x0 x3 x6 x9 x10 x12 x13 x14:Value) (w:World) (J:Value→VP) (μ:Value→Value→World→Nat) (h0:J x13 x14 w)
  (hr:∀y13 y14 w0,J y13 y14 w0→∀C16:Value→VP,(∀z13 z14 w1,J z13 z14 w1→μ z13 z14 w1<μ y13 y14 w0→C16 z13 z14 w1)→b17 R C16 x0 x3 x6 x9 x10 x12 y13 y14 w0):l16 R x0 x3 x6 x9 x10 x12 x13 x14 w:=by
 unfold l16
 exact ⟨J,μ,h0,fun y13 y14 w0 hJ=>hr y13 y14 w0 hJ _ (fun z13 z14 w1 h1 h2=>⟨h1,h2⟩)⟩
abbrev q6:XP:=QX (fun ρ w=>b13 R (ρ 0) (ρ 3) (ρ 9) (ρ 10) (ρ 12) (ρ 13) w) (fun ρ w=>R (.returned (ρ 2)) w) []
theorem k15_ok (h:l16 R (ρ 0) (ρ 3) (ρ 6) (ρ 9) (ρ 10) (ρ 12) (ρ 13) (ρ 14) w):cP24 R p7 (q6 R) ρ w:=by
 have e:Code.block 2 (blkC p7)=p7:=by kernel_rfl
 rw [←e]
 exact blockQ (l16_ok R ρ w h)

def b14 (x0 x3 x6 x9 x10 x12 x13:Value) (w:World) (_r:Tok R:=tok R):Prop :=
 l16 R x0 x3 x6 x9 x10 x12 x13 (.int .i64 1) w
abbrev q7:XP:=QX (fun ρ w=>l16 R (ρ 0) (ρ 3) (ρ 6) (ρ 9) (ρ 10) (ρ 12) (ρ 13) (ρ 14) w) (fun ρ w=>R (.returned (ρ 2)) w) []
theorem b14_eq:(b14 R (ρ 0) (ρ 3) (ρ 6) (ρ 9) (ρ 10) (ρ 12) (ρ 13) w)=cP24 R (preC 0 (fstC p6)) (q7 R) ρ w:=by kernel_rfl
theorem b14_ok (h:b14 R (ρ 0) (ρ 3) (ρ 6) (ρ 9) (ρ 10) (ρ 12) (ρ 13) w):cP24 R (fstC p6) (q6 R) ρ w:=by
 have e:appC 0 (preC 0 (fstC p6)) (dropC 1 (fstC p6))=(fstC p6):=by kernel_rfl
 rw [←e]
 exact appQ (fun ρ w=>l16 R (ρ 0) (ρ 3) (ρ 6) (ρ 9) (ρ 10) (ρ 12) (ρ 13) (ρ 14) w) 0 ((b14_eq R ρ w).mp h) (fun ρ w h=>k15_ok R ρ w h)
theorem k12_ok (h:b14 R (ρ 0) (ρ 3) (ρ 6) (ρ 9) (ρ 10) (ρ 12) (ρ 13) w):cP24 R p6 (q3 R) ρ w:=by
 have e:Code.seq (fstC p6) (sndC p6)=p6:=by kernel_rfl
 rw [←e]
 exact seqQ (fun ρ w=>b13 R (ρ 0) (ρ 3) (ρ 9) (ρ 10) (ρ 12) (ρ 13) w) (b14_ok R ρ w h) (fun ρ w h=>b13_ok R ρ w h)

def b11 (x0 x3 x6 x9 x10 x12:Value) (w:World) (_r:Tok R:=tok R):Prop :=
 b14 R x0 x3 x6 x9 x10 x12 (.string {data:=#[37,116,111,107,101,110] }) w
abbrev q8:XP:=QX (fun ρ w=>b14 R (ρ 0) (ρ 3) (ρ 6) (ρ 9) (ρ 10) (ρ 12) (ρ 13) w) (fun ρ w=>R (.returned (ρ 2)) w) []
theorem b11_eq:(b11 R (ρ 0) (ρ 3) (ρ 6) (ρ 9) (ρ 10) (ρ 12) w)=cP24 R (preC 0 (thnC p5)) (q8 R) ρ w:=by kernel_rfl
theorem b11_ok (h:b11 R (ρ 0) (ρ 3) (ρ 6) (ρ 9) (ρ 10) (ρ 12) w):cP24 R (thnC p5) (q3 R) ρ w:=by
 have e:appC 0 (preC 0 (thnC p5)) (dropC 1 (thnC p5))=(thnC p5):=by kernel_rfl
 rw [←e]
 exact appQ (fun ρ w=>b14 R (ρ 0) (ρ 3) (ρ 6) (ρ 9) (ρ 10) (ρ 12) (ρ 13) w) 0 ((b11_eq R ρ w).mp h) (fun ρ w h=>k12_ok R ρ w h)

def b18 (x0 x3 x9 x10 x12:Value) (w:World) (_r:Tok R:=tok R):Prop :=
 b7 R x0 x3 x9 x10 x12 w
theorem b18_ok (h:b18 R (ρ 0) (ρ 3) (ρ 9) (ρ 10) (ρ 12) w):cP24 R (elsC p5) (q3 R) ρ w:=cast (by kernel_rfl) h

def b10 (x0 x3 x6 x9 x10 x12 x116:Value) (w:World) (_r:Tok R:=tok R):Prop :=
 SPL x116 (b11 R x0 x3 x6 x9 x10 x12 w) (b18 R x0 x3 x9 x10 x12 w)
theorem b10_ok (h:b10 R (ρ 0) (ρ 3) (ρ 6) (ρ 9) (ρ 10) (ρ 12) (ρ 116) w):cP24 R p5 (q3 R) ρ w:=by
 have e:Code.cond (.tmp 116) (thnC p5) (elsC p5)=p5:=by kernel_rfl
 rw [←e]
 exact condQ' h (fun h=>b11_ok R ρ w h) (fun h=>b18_ok R ρ w h)
def b9_1 (x0 x3 x6 x9 x10 x12:Value) (w2:World) (_r:Tok R:=tok R):Prop :=
 RUN prog (pan R) (Instr.fieldAt 28 x6 0) w2 fun v3 w4 =>
 RUN prog (pan R) (Instr.loadAt 23 v3) w4 fun v5 w6 =>
 RUN prog (pan R) (Builtin.len_ #[23] 3 #[v5]) w6 fun v7 w8 =>
 RUN prog (pan R) (bins .gtr 3 (.tmp 114) (.const (.int .i64 1)) v7 (.int .i64 1)) w8 fun v9 w10 =>
 b10 R x0 x3 x6 x9 x10 x12 v9 w10

def b9 (x0 x3 x6 x8 x9 x10 x12:Value) (w:World) (_r:Tok R:=tok R):Prop :=
 RUN prog (pan R) (Op.unary .not x8) w fun v1 w2 =>
 SPL v1
 (b9_1 R x0 x3 x6 x9 x10 x12 w2)
 (b10 R x0 x3 x6 x9 x10 x12 (.bool Bool.false) w2)
abbrev q9:XP:=QX (fun ρ w=>b10 R (ρ 0) (ρ 3) (ρ 6) (ρ 9) (ρ 10) (ρ 12) (ρ 116) w) (fun ρ w=>R (.returned (ρ 2)) w) []
theorem b9_eq:(b9 R (ρ 0) (ρ 3) (ρ 6) (ρ 8) (ρ 9) (ρ 10) (ρ 12) w)=cP24 R (preC 0 (fstC p3)) (q9 R) ρ w:=by kernel_rfl
theorem b9_ok (h:b9 R (ρ 0) (ρ 3) (ρ 6) (ρ 8) (ρ 9) (ρ 10) (ρ 12) w):cP24 R (fstC p3) (q3 R) ρ w:=by
 have e:appC 0 (preC 0 (fstC p3)) (dropC 1 (fstC p3))=(fstC p3):=by kernel_rfl
 rw [←e]
 exact appQ (fun ρ w=>b10 R (ρ 0) (ρ 3) (ρ 6) (ρ 9) (ρ 10) (ρ 12) (ρ 116) w) 0 ((b9_eq R ρ w).mp h) (fun ρ w h=>b10_ok R ρ w h)
theorem k6_ok (h:b9 R (ρ 0) (ρ 3) (ρ 6) (ρ 8) (ρ 9) (ρ 10) (ρ 12) w):cP24 R p3 (q1 R) ρ w:=by
 have e:Code.seq (fstC p3) (sndC p3)=p3:=by kernel_rfl
 rw [←e]
 exact seqQ (fun ρ w=>b7 R (ρ 0) (ρ 3) (ρ 9) (ρ 10) (ρ 12) w) (b9_ok R ρ w h) (fun ρ w h=>b7_ok R ρ w h)

def b5 (x0 x3 x4 x6 x8 x9 x10:Value) (w:World) (_r:Tok R:=tok R):Prop :=
 CALL prog (pan R) law04_joined.id #[x4] w fun v1 w2 =>
 b9 R x0 x3 x6 x8 x9 x10 v1 w2
abbrev q10:XP:=QX (fun ρ w=>b9 R (ρ 0) (ρ 3) (ρ 6) (ρ 8) (ρ 9) (ρ 10) (ρ 12) w) (fun ρ w=>R (.returned (ρ 2)) w) []
theorem b5_eq:(b5 R (ρ 0) (ρ 3) (ρ 4) (ρ 6) (ρ 8) (ρ 9) (ρ 10) w)=cP24 R (preC 0 (sndC p2)) (q10 R) ρ w:=by kernel_rfl
theorem b5_ok (h:b5 R (ρ 0) (ρ 3) (ρ 4) (ρ 6) (ρ 8) (ρ 9) (ρ 10) w):cP24 R (sndC p2) (q1 R) ρ w:=by
 have e:appC 0 (preC 0 (sndC p2)) (dropC 1 (sndC p2))=(sndC p2):=by kernel_rfl
 rw [←e]
 exact appQ (fun ρ w=>b9 R (ρ 0) (ρ 3) (ρ 6) (ρ 8) (ρ 9) (ρ 10) (ρ 12) w) 0 ((b5_eq R ρ w).mp h) (fun ρ w h=>k6_ok R ρ w h)
noncomputable abbrev p9:Code:=dropC 1 (fstC p2)
noncomputable abbrev p10:Code:=loopC (blkC p9)
noncomputable abbrev p11:Code:=dropC 1 p10

def b24 (C21:Value→Value→Value→VP) (x8 x9 x10 x11:Value) (w:World) (_r:Tok R:=tok R) (_C21:Tok C21:=tok C21):Prop :=
 RUN prog (pan R) (bins .add 3 (.tmp 39) (.const (.int .i64 1)) x11 (.int .i64 1)) w fun v1 w2 =>
 C21 x8 x9 x10 v1 w2
abbrev q11 (C21:Value→Value→Value→VP):XP:=QX (fun ρ w=>C21 (ρ 8) (ρ 9) (ρ 10) (ρ 11) w) (fun ρ w=>R (.returned (ρ 2)) w) [(0,(fun ρ w=>b5 R (ρ 0) (ρ 3) (ρ 4) (ρ 6) (ρ 8) (ρ 9) (ρ 10) w))]
theorem b24_ok (R:EP) (C21:Value→Value→Value→VP) (ρ:Env) (w:World) (h:b24 R C21 (ρ 8) (ρ 9) (ρ 10) (ρ 11) w):cP24 R (sndC p11) (q11 R C21) ρ w:=cast (by kernel_rfl) h
noncomputable abbrev p12:Code:=blkC (fstC p11)
noncomputable abbrev p13:Code:=dropC 1 p12
noncomputable abbrev p14:Code:=dropC 1 p13
noncomputable abbrev p15:Code:=dropC 1 p14
def b29_1 (C21:Value→Value→Value→VP) (x4 x8 x9 x11:Value) (w:World) (_r:Tok R:=tok R) (_C21:Tok C21:=tok C21):Prop :=
 RUN prog (pan R) (Instr.indexAt 41 x4 x11) w fun v1 w2 =>
 RUN prog (pan R) (Instr.fieldAt 46 v1 1) w2 fun v3 w4 =>
 RUN prog (pan R) (Instr.loadAt 9 v3) w4 fun v5 w6 =>
 b24 R C21 x8 x9 v5 x11 w6

def b29 (C21:Value→Value→Value→VP) (x4 x8 x9 x10 x11 x101:Value) (w:World) (_r:Tok R:=tok R) (_C21:Tok C21:=tok C21):Prop :=
 SPL x101
 (b29_1 R C21 x4 x8 x9 x11 w)
 (b24 R C21 x8 x9 x10 x11 w)
abbrev q12 (C21:Value→Value→Value→VP):XP:=QX (fun ρ w=>b24 R C21 (ρ 8) (ρ 9) (ρ 10) (ρ 11) w) (fun ρ w=>R (.returned (ρ 2)) w) [(2,(fun ρ w=>b24 R C21 (ρ 8) (ρ 9) (ρ 10) (ρ 11) w)),(0,(fun ρ w=>b5 R (ρ 0) (ρ 3) (ρ 4) (ρ 6) (ρ 8) (ρ 9) (ρ 10) w))]
theorem b29_ok (R:EP) (C21:Value→Value→Value→VP) (ρ:Env) (w:World) (h:b29 R C21 (ρ 4) (ρ 8) (ρ 9) (ρ 10) (ρ 11) (ρ 101) w):cP24 R p15 (q12 R C21) ρ w:=cast (by kernel_rfl) h
def b28_1 (C21:Value→Value→Value→VP) (x4 x8 x9 x10 x11:Value) (w18:World) (_r:Tok R:=tok R) (_C21:Tok C21:=tok C21):Prop :=
 RUN prog (pan R) (bins .add 3 (.tmp 95) (.const (.int .i64 1)) x11 (.int .i64 1)) w18 fun v19 w20 =>
 RUN prog (pan R) (Instr.indexAt 41 x4 v19) w20 fun v21 w22 =>
 RUN prog (pan R) (Instr.fieldAt 46 v21 1) w22 fun v23 w24 =>
 RUN prog (pan R) (Instr.loadAt 9 v23) w24 fun v25 w26 =>
 RUN prog (pan R) (bins .eql 9 (.tmp 99) (.const (.string {data:=#[58] })) v25 (.string {data:=#[58] })) w26 fun v27 w28 =>
 b29 R C21 x4 x8 x9 x10 x11 v27 w28
def b28_2 (C21:Value→Value→Value→VP) (x4 x8 x9 x10 x11:Value) (w8:World) (_r:Tok R:=tok R) (_C21:Tok C21:=tok C21):Prop :=
 RUN prog (pan R) (bins .add 3 (.tmp 86) (.const (.int .i64 1)) x11 (.int .i64 1)) w8 fun v9 w10 =>
 RUN prog (pan R) (Instr.indexAt 41 x4 v9) w10 fun v11 w12 =>
 RUN prog (pan R) (Instr.fieldAt 46 v11 0) w12 fun v13 w14 =>
 RUN prog (pan R) (Instr.loadAt 3 v13) w14 fun v15 w16 =>
 RUN prog (pan R) (bins .eql 3 (.tmp 90) (.const (.int .i64 4)) v15 (.int .i64 4)) w16 fun v17 w18 =>
 SPL v17
 (b28_1 R C21 x4 x8 x9 x10 x11 w18)
 (b29 R C21 x4 x8 x9 x10 x11 (.bool Bool.false) w18)
def b28_3 (C21:Value→Value→Value→VP) (x4 x8 x9 x10 x11:Value) (w2:World) (_r:Tok R:=tok R) (_C21:Tok C21:=tok C21):Prop :=
 RUN prog (pan R) (bins .add 3 (.tmp 78) (.const (.int .i64 1)) x11 (.int .i64 1)) w2 fun v3 w4 =>
 RUN prog (pan R) (Builtin.len_ #[41] 3 #[x4]) w4 fun v5 w6 =>
 RUN prog (pan R) (bins .lss 3 (.tmp 79) (.tmp 81) v3 v5) w6 fun v7 w8 =>
 SPL v7
 (b28_2 R C21 x4 x8 x9 x10 x11 w8)
 (b29 R C21 x4 x8 x9 x10 x11 (.bool Bool.false) w8)

def b28 (C21:Value→Value→Value→VP) (x4 x8 x9 x10 x11:Value) (w:World) (_r:Tok R:=tok R) (_C21:Tok C21:=tok C21):Prop :=
 RUN prog (pan R) (bins .eql 9 (.tmp 75) (.const (.string {data:=#[] })) x10 (.string {data:=#[] })) w fun v1 w2 =>
 SPL v1
 (b28_3 R C21 x4 x8 x9 x10 x11 w2)
 (b29 R C21 x4 x8 x9 x10 x11 (.bool Bool.false) w2)
abbrev q13 (C21:Value→Value→Value→VP):XP:=QX (fun ρ w=>b29 R C21 (ρ 4) (ρ 8) (ρ 9) (ρ 10) (ρ 11) (ρ 101) w) (fun ρ w=>R (.returned (ρ 2)) w) [(2,(fun ρ w=>b24 R C21 (ρ 8) (ρ 9) (ρ 10) (ρ 11) w)),(0,(fun ρ w=>b5 R (ρ 0) (ρ 3) (ρ 4) (ρ 6) (ρ 8) (ρ 9) (ρ 10) w))]
theorem b28_eq (R:EP) (C21:Value→Value→Value→VP) (ρ:Env) (w:World):(b28 R C21 (ρ 4) (ρ 8) (ρ 9) (ρ 10) (ρ 11) w)=cP24 R (preC 0 p14) (q13 R C21) ρ w:=by kernel_rfl
theorem b28_ok (R:EP) (C21:Value→Value→Value→VP) (ρ:Env) (w:World) (h:b28 R C21 (ρ 4) (ρ 8) (ρ 9) (ρ 10) (ρ 11) w):cP24 R p14 (q12 R C21) ρ w:=by
 have e:appC 0 (preC 0 p14) (dropC 1 p14)=p14:=by kernel_rfl
 rw [←e]
 exact appQ (fun ρ w=>b29 R C21 (ρ 4) (ρ 8) (ρ 9) (ρ 10) (ρ 11) (ρ 101) w) 0 ((b28_eq R C21 ρ w).mp h) (fun ρ w h=>b29_ok R C21 ρ w h)
def b27_1 (C21:Value→Value→Value→VP) (x4 x8 x10 x11:Value) (w8:World) (_r:Tok R:=tok R) (_C21:Tok C21:=tok C21):Prop :=
 RUN prog (pan R) (Instr.indexAt 41 x4 x11) w8 fun v9 w10 =>
 RUN prog (pan R) (Instr.fieldAt 46 v9 1) w10 fun v11 w12 =>
 RUN prog (pan R) (Instr.loadAt 9 v11) w12 fun v13 w14 =>
 RUN prog (pan R) (bins .eql 9 (.tmp 71) (.const (.string {data:=#[37,115,116,97,114,116] })) v13 (.string {data:=#[37,115,116,97,114,116] })) w14 fun v15 w16 =>
 b28 R C21 x4 x8 v15 x10 x11 w16
def b27_2 (C21:Value→Value→Value→VP) (x4 x8 x10 x11:Value) (w:World) (_r:Tok R:=tok R) (_C21:Tok C21:=tok C21):Prop :=
 RUN prog (pan R) (Instr.indexAt 41 x4 x11) w fun v1 w2 =>
 RUN prog (pan R) (Instr.fieldAt 46 v1 0) w2 fun v3 w4 =>
 RUN prog (pan R) (Instr.loadAt 3 v3) w4 fun v5 w6 =>
 RUN prog (pan R) (bins .eql 3 (.tmp 64) (.const (.int .i64 3)) v5 (.int .i64 3)) w6 fun v7 w8 =>
 SPL v7
 (b27_1 R C21 x4 x8 x10 x11 w8)
 (b28 R C21 x4 x8 (.bool Bool.false) x10 x11 w8)

def b27 (C21:Value→Value→Value→VP) (x4 x8 x9 x10 x11:Value) (w:World) (_r:Tok R:=tok R) (_C21:Tok C21:=tok C21):Prop :=
 SPL x9
 (b28 R C21 x4 x8 (.bool Bool.true) x10 x11 w)
 (b27_2 R C21 x4 x8 x10 x11 w)
abbrev q14 (C21:Value→Value→Value→VP):XP:=QX (fun ρ w=>b28 R C21 (ρ 4) (ρ 8) (ρ 9) (ρ 10) (ρ 11) w) (fun ρ w=>R (.returned (ρ 2)) w) [(2,(fun ρ w=>b24 R C21 (ρ 8) (ρ 9) (ρ 10) (ρ 11) w)),(0,(fun ρ w=>b5 R (ρ 0) (ρ 3) (ρ 4) (ρ 6) (ρ 8) (ρ 9) (ρ 10) w))]
theorem b27_eq (R:EP) (C21:Value→Value→Value→VP) (ρ:Env) (w:World):(b27 R C21 (ρ 4) (ρ 8) (ρ 9) (ρ 10) (ρ 11) w)=cP24 R (preC 0 p13) (q14 R C21) ρ w:=by kernel_rfl
theorem b27_ok (R:EP) (C21:Value→Value→Value→VP) (ρ:Env) (w:World) (h:b27 R C21 (ρ 4) (ρ 8) (ρ 9) (ρ 10) (ρ 11) w):cP24 R p13 (q12 R C21) ρ w:=by
 have e:appC 0 (preC 0 p13) (dropC 1 p13)=p13:=by kernel_rfl
 rw [←e]
 exact appQ (fun ρ w=>b28 R C21 (ρ 4) (ρ 8) (ρ 9) (ρ 10) (ρ 11) w) 0 ((b27_eq R C21 ρ w).mp h) (fun ρ w h=>b28_ok R C21 ρ w h)
def b26_1 (C21:Value→Value→Value→VP) (x4 x9 x10 x11:Value) (w8:World) (_r:Tok R:=tok R) (_C21:Tok C21:=tok C21):Prop :=
 RUN prog (pan R) (Instr.indexAt 41 x4 x11) w8 fun v9 w10 =>
 RUN prog (pan R) (Instr.fieldAt 46 v9 1) w10 fun v11 w12 =>
 RUN prog (pan R) (Instr.loadAt 9 v11) w12 fun v13 w14 =>
 RUN prog (pan R) (bins .eql 9 (.tmp 54) (.const (.string {data:=#[37,116,111,107,101,110] })) v13 (.string {data:=#[37,116,111,107,101,110] })) w14 fun v15 w16 =>
 b27 R C21 x4 v15 x9 x10 x11 w16
def b26_2 (C21:Value→Value→Value→VP) (x4 x9 x10 x11:Value) (w:World) (_r:Tok R:=tok R) (_C21:Tok C21:=tok C21):Prop :=
 RUN prog (pan R) (Instr.indexAt 41 x4 x11) w fun v1 w2 =>
 RUN prog (pan R) (Instr.fieldAt 46 v1 0) w2 fun v3 w4 =>
 RUN prog (pan R) (Instr.loadAt 3 v3) w4 fun v5 w6 =>
 RUN prog (pan R) (bins .eql 3 (.tmp 47) (.const (.int .i64 3)) v5 (.int .i64 3)) w6 fun v7 w8 =>
 SPL v7
 (b26_1 R C21 x4 x9 x10 x11 w8)
 (b27 R C21 x4 (.bool Bool.false) x9 x10 x11 w8)

def b26 (C21:Value→Value→Value→VP) (x4 x8 x9 x10 x11:Value) (w:World) (_r:Tok R:=tok R) (_C21:Tok C21:=tok C21):Prop :=
 SPL x8
 (b27 R C21 x4 (.bool Bool.true) x9 x10 x11 w)
 (b26_2 R C21 x4 x9 x10 x11 w)
abbrev q15 (C21:Value→Value→Value→VP):XP:=QX (fun ρ w=>b27 R C21 (ρ 4) (ρ 8) (ρ 9) (ρ 10) (ρ 11) w) (fun ρ w=>R (.returned (ρ 2)) w) [(2,(fun ρ w=>b24 R C21 (ρ 8) (ρ 9) (ρ 10) (ρ 11) w)),(0,(fun ρ w=>b5 R (ρ 0) (ρ 3) (ρ 4) (ρ 6) (ρ 8) (ρ 9) (ρ 10) w))]
theorem b26_eq (R:EP) (C21:Value→Value→Value→VP) (ρ:Env) (w:World):(b26 R C21 (ρ 4) (ρ 8) (ρ 9) (ρ 10) (ρ 11) w)=cP24 R (preC 0 p12) (q15 R C21) ρ w:=by kernel_rfl
theorem b26_ok (R:EP) (C21:Value→Value→Value→VP) (ρ:Env) (w:World) (h:b26 R C21 (ρ 4) (ρ 8) (ρ 9) (ρ 10) (ρ 11) w):cP24 R p12 (q12 R C21) ρ w:=by
 have e:appC 0 (preC 0 p12) (dropC 1 p12)=p12:=by kernel_rfl
 rw [←e]
 exact appQ (fun ρ w=>b27 R C21 (ρ 4) (ρ 8) (ρ 9) (ρ 10) (ρ 11) w) 0 ((b26_eq R C21 ρ w).mp h) (fun ρ w h=>b27_ok R C21 ρ w h)
abbrev q16 (C21:Value→Value→Value→VP):XP:=QX (fun ρ w=>b24 R C21 (ρ 8) (ρ 9) (ρ 10) (ρ 11) w) (fun ρ w=>R (.returned (ρ 2)) w) [(0,(fun ρ w=>b5 R (ρ 0) (ρ 3) (ρ 4) (ρ 6) (ρ 8) (ρ 9) (ρ 10) w))]
theorem k25_ok (R:EP) (C21:Value→Value→Value→VP) (ρ:Env) (w:World) (h:b26 R C21 (ρ 4) (ρ 8) (ρ 9) (ρ 10) (ρ 11) w):cP24 R (fstC p11) (q16 R C21) ρ w:=by
 have e:Code.block 1 (blkC (fstC p11))=(fstC p11):=by kernel_rfl
 rw [←e]
 exact blockQ (b26_ok R C21 ρ w h)
theorem k23_ok (R:EP) (C21:Value→Value→Value→VP) (ρ:Env) (w:World) (h:b26 R C21 (ρ 4) (ρ 8) (ρ 9) (ρ 10) (ρ 11) w):cP24 R p11 (q11 R C21) ρ w:=by
 have e:Code.seq (fstC p11) (sndC p11)=p11:=by kernel_rfl
 rw [←e]
 exact seqQ (fun ρ w=>b24 R C21 (ρ 8) (ρ 9) (ρ 10) (ρ 11) w) (k25_ok R C21 ρ w h) (fun ρ w h=>b24_ok R C21 ρ w h)

def b22 (C21:Value→Value→Value→VP) (x0 x3 x4 x6 x8 x9 x10 x11:Value) (w:World) (_r:Tok R:=tok R) (_C21:Tok C21:=tok C21):Prop :=
 RUN prog (pan R) (Builtin.len_ #[41] 3 #[x4]) w fun v1 w2 =>
 RUN prog (pan R) (bins .lss 3 (.tmp 35) (.tmp 37) x11 v1) w2 fun v3 w4 =>
 SPL v3
 (b26 R C21 x4 x8 x9 x10 x11 w4)
 (b5 R x0 x3 x4 x6 x8 x9 x10 w4)
abbrev q17 (C21:Value→Value→Value→VP):XP:=QX (fun ρ w=>b26 R C21 (ρ 4) (ρ 8) (ρ 9) (ρ 10) (ρ 11) w) (fun ρ w=>R (.returned (ρ 2)) w) [(0,(fun ρ w=>b5 R (ρ 0) (ρ 3) (ρ 4) (ρ 6) (ρ 8) (ρ 9) (ρ 10) w))]
theorem b22_eq (R:EP) (C21:Value→Value→Value→VP) (ρ:Env) (w:World):(b22 R C21 (ρ 0) (ρ 3) (ρ 4) (ρ 6) (ρ 8) (ρ 9) (ρ 10) (ρ 11) w)=cP24 R (preC 0 p10) (q17 R C21) ρ w:=by kernel_rfl
theorem b22_ok (R:EP) (C21:Value→Value→Value→VP) (ρ:Env) (w:World) (h:b22 R C21 (ρ 0) (ρ 3) (ρ 4) (ρ 6) (ρ 8) (ρ 9) (ρ 10) (ρ 11) w):cP24 R p10 (q11 R C21) ρ w:=by
 have e:appC 0 (preC 0 p10) (dropC 1 p10)=p10:=by kernel_rfl
 rw [←e]
 exact appQ (fun ρ w=>b26 R C21 (ρ 4) (ρ 8) (ρ 9) (ρ 10) (ρ 11) w) 0 ((b22_eq R C21 ρ w).mp h) (fun ρ w h=>k23_ok R C21 ρ w h)

def l21 (x0 x3 x4 x6 x8 x9 x10 x11:Value) (w:World) (_r:Tok R:=tok R):Prop :=
 ∃(J:Value→Value→Value→VP) (μ:Value→Value→Value→Value→World→Nat),J x8 x9 x10 x11 w∧∀y8 y9 y10 y11 w0,J y8 y9 y10 y11 w0→b22 R (fun z8 z9 z10 z11 w1=>J z8 z9 z10 z11 w1∧μ z8 z9 z10 z11 w1<μ y8 y9 y10 y11 w0) x0 x3 x4 x6 y8 y9 y10 y11 w0
abbrev q18:XP:=QX (fun ρ w=>b5 R (ρ 0) (ρ 3) (ρ 4) (ρ 6) (ρ 8) (ρ 9) (ρ 10) w) (fun ρ w=>R (.returned (ρ 2)) w) [(0,(fun ρ w=>b5 R (ρ 0) (ρ 3) (ρ 4) (ρ 6) (ρ 8) (ρ 9) (ρ 10) w))]
theorem l21_ok (h:l21 R (ρ 0) (ρ 3) (ρ 4) (ρ 6) (ρ 8) (ρ 9) (ρ 10) (ρ 11) w):cP24 R (blkC p9) (q18 R) ρ w:=by
 unfold l21 at h
 obtain ⟨J,μ,h0,hr⟩:=h
 have e:Code.loop (loopC (blkC p9))=(blkC p9):=by kernel_rfl
 rw [←e]
 refine loopQ (fun ρ' w'=>J (ρ' 8) (ρ' 9) (ρ' 10) (ρ' 11) w') (fun ρ' w'=>μ (ρ' 8) (ρ' 9) (ρ' 10) (ρ' 11) w') h0 fun ρ' w' hA hI=>?_
 have e0:ρ' 0=ρ 0:=Agree.at hA 0 (by kernel_rfl)
 have e3:ρ' 3=ρ 3:=Agree.at hA 3 (by kernel_rfl)
 have e4:ρ' 4=ρ 4:=Agree.at hA 4 (by kernel_rfl)
 have e6:ρ' 6=ρ 6:=Agree.at hA 6 (by kernel_rfl)
 have h1:=hr (ρ' 8) (ρ' 9) (ρ' 10) (ρ' 11) w' hI
 rw [←e0,←e3,←e4,←e6] at h1
 exact b22_ok R (fun z8 z9 z10 z11 w1=>J z8 z9 z10 z11 w1∧μ z8 z9 z10 z11 w1<μ (ρ' 8) (ρ' 9) (ρ' 10) (ρ' 11) w') ρ' w' h1
theorem l21_intro (R:EP) (x0 x3 x4 x6 x8 x9 x10 x11:Value) (w:World) (J:Value→Value→Value→VP) (μ:Value→Value→Value→Value→World→Nat) (h0:J x8 x9 x10 x11 w)
  (hr:∀y8 y9 y10 y11 w0,J y8 y9 y10 y11 w0→∀C21:Value→Value→Value→VP,(∀z8 z9 z10 z11 w1,J z8 z9 z10 z11 w1→μ z8 z9 z10 z11 w1<μ y8 y9 y10 y11 w0→C21 z8 z9 z10 z11 w1)→b22 R C21 x0 x3 x4 x6 y8 y9 y10 y11 w0):l21 R x0 x3 x4 x6 x8 x9 x10 x11 w:=by
 unfold l21
 exact ⟨J,μ,h0,fun y8 y9 y10 y11 w0 hJ=>hr y8 y9 y10 y11 w0 hJ _ (fun z8 z9 z10 z11 w1 h1 h2=>⟨h1,h2⟩)⟩
abbrev q19:XP:=QX (fun ρ w=>b5 R (ρ 0) (ρ 3) (ρ 4) (ρ 6) (ρ 8) (ρ 9) (ρ 10) w) (fun ρ w=>R (.returned (ρ 2)) w) []
theorem k20_ok (h:l21 R (ρ 0) (ρ 3) (ρ 4) (ρ 6) (ρ 8) (ρ 9) (ρ 10) (ρ 11) w):cP24 R p9 (q19 R) ρ w:=by
 have e:Code.block 0 (blkC p9)=p9:=by kernel_rfl
 rw [←e]
 exact blockQ (l21_ok R ρ w h)

def b19 (x0 x3 x4 x6 x8 x9 x10:Value) (w:World) (_r:Tok R:=tok R):Prop :=
 l21 R x0 x3 x4 x6 x8 x9 x10 (.int .i64 0) w
abbrev q20:XP:=QX (fun ρ w=>l21 R (ρ 0) (ρ 3) (ρ 4) (ρ 6) (ρ 8) (ρ 9) (ρ 10) (ρ 11) w) (fun ρ w=>R (.returned (ρ 2)) w) []
theorem b19_eq:(b19 R (ρ 0) (ρ 3) (ρ 4) (ρ 6) (ρ 8) (ρ 9) (ρ 10) w)=cP24 R (preC 0 (fstC p2)) (q20 R) ρ w:=by kernel_rfl
theorem b19_ok (h:b19 R (ρ 0) (ρ 3) (ρ 4) (ρ 6) (ρ 8) (ρ 9) (ρ 10) w):cP24 R (fstC p2) (q19 R) ρ w:=by
 have e:appC 0 (preC 0 (fstC p2)) (dropC 1 (fstC p2))=(fstC p2):=by kernel_rfl
 rw [←e]
 exact appQ (fun ρ w=>l21 R (ρ 0) (ρ 3) (ρ 4) (ρ 6) (ρ 8) (ρ 9) (ρ 10) (ρ 11) w) 0 ((b19_eq R ρ w).mp h) (fun ρ w h=>k20_ok R ρ w h)
theorem k4_ok (h:b19 R (ρ 0) (ρ 3) (ρ 4) (ρ 6) (ρ 8) (ρ 9) (ρ 10) w):cP24 R p2 (q1 R) ρ w:=by
 have e:Code.seq (fstC p2) (sndC p2)=p2:=by kernel_rfl
 rw [←e]
 exact seqQ (fun ρ w=>b5 R (ρ 0) (ρ 3) (ρ 4) (ρ 6) (ρ 8) (ρ 9) (ρ 10) w) (b19_ok R ρ w h) (fun ρ w h=>b5_ok R ρ w h)

def b3 (x0 x3 x4 x6:Value) (w:World) (_r:Tok R:=tok R):Prop :=
 b19 R x0 x3 x4 x6 (.bool Bool.false) (.bool Bool.false) (.string {data:=#[] }) w
abbrev q21:XP:=QX (fun ρ w=>b19 R (ρ 0) (ρ 3) (ρ 4) (ρ 6) (ρ 8) (ρ 9) (ρ 10) w) (fun ρ w=>R (.returned (ρ 2)) w) []
theorem b3_eq:(b3 R (ρ 0) (ρ 3) (ρ 4) (ρ 6) w)=cP24 R (preC 2 (sndC p1)) (q21 R) ρ w:=by kernel_rfl
theorem b3_ok (h:b3 R (ρ 0) (ρ 3) (ρ 4) (ρ 6) w):cP24 R (sndC p1) (q1 R) ρ w:=by
 have e:appC 2 (preC 2 (sndC p1)) (dropC 3 (sndC p1))=(sndC p1):=by kernel_rfl
 rw [←e]
 exact appQ (fun ρ w=>b19 R (ρ 0) (ρ 3) (ρ 4) (ρ 6) (ρ 8) (ρ 9) (ρ 10) w) 2 ((b3_eq R ρ w).mp h) (fun ρ w h=>k4_ok R ρ w h)
noncomputable abbrev p16:Code:=dropC 1 (fstC p1)

def b31 (x0 x3 x4 x6 x33:Value) (w:World) (_r:Tok R:=tok R):Prop :=
 SPL x33
 (R (.returned x3) w)
 (b3 R x0 x3 x4 x6 w)
abbrev q22:XP:=QX (fun ρ w=>b3 R (ρ 0) (ρ 3) (ρ 4) (ρ 6) w) (fun ρ w=>R (.returned (ρ 2)) w) []
theorem b31_ok (h:b31 R (ρ 0) (ρ 3) (ρ 4) (ρ 6) (ρ 33) w):cP24 R p16 (q22 R) ρ w:=cast (by kernel_rfl) h
def b30_1 (x0 x3 x4 x6 x7:Value) (w2:World) (_r:Tok R:=tok R):Prop :=
 RUN prog (pan R) (Instr.fieldAt 31 x7 0) w2 fun v3 w4 =>
 RUN prog (pan R) (Instr.loadAt 29 v3) w4 fun v5 w6 =>
 RUN prog (pan R) (bins .neq 29 (.tmp 31) (.const (.int .i64 0)) v5 (.int .i64 0)) w6 fun v7 w8 =>
 b31 R x0 x3 x4 x6 v7 w8

def b30 (x0 x3 x4 x5 x6 x7:Value) (w:World) (_r:Tok R:=tok R):Prop :=
 RUN prog (pan R) (Op.unary .not x5) w fun v1 w2 =>
 SPL v1
 (b31 R x0 x3 x4 x6 (.bool Bool.true) w2)
 (b30_1 R x0 x3 x4 x6 x7 w2)
abbrev q23:XP:=QX (fun ρ w=>b31 R (ρ 0) (ρ 3) (ρ 4) (ρ 6) (ρ 33) w) (fun ρ w=>R (.returned (ρ 2)) w) []
theorem b30_eq:(b30 R (ρ 0) (ρ 3) (ρ 4) (ρ 5) (ρ 6) (ρ 7) w)=cP24 R (preC 0 (fstC p1)) (q23 R) ρ w:=by kernel_rfl
theorem b30_ok (h:b30 R (ρ 0) (ρ 3) (ρ 4) (ρ 5) (ρ 6) (ρ 7) w):cP24 R (fstC p1) (q22 R) ρ w:=by
 have e:appC 0 (preC 0 (fstC p1)) (dropC 1 (fstC p1))=(fstC p1):=by kernel_rfl
 rw [←e]
 exact appQ (fun ρ w=>b31 R (ρ 0) (ρ 3) (ρ 4) (ρ 6) (ρ 33) w) 0 ((b30_eq R ρ w).mp h) (fun ρ w h=>b31_ok R ρ w h)
theorem k2_ok (h:b30 R (ρ 0) (ρ 3) (ρ 4) (ρ 5) (ρ 6) (ρ 7) w):cP24 R p1 (q1 R) ρ w:=by
 have e:Code.seq (fstC p1) (sndC p1)=p1:=by kernel_rfl
 rw [←e]
 exact seqQ (fun ρ w=>b3 R (ρ 0) (ρ 3) (ρ 4) (ρ 6) w) (b30_ok R ρ w h) (fun ρ w h=>b3_ok R ρ w h)
def b1_1 (x0 v1 v5 v7 v9:Value) (w10:World) (_r:Tok R:=tok R):Prop :=
 RUN prog (pan R) (Instr.extract v9 0) w10 fun v11 w12 =>
 RUN prog (pan R) (Instr.extract v9 1) w12 fun v13 w14 =>
 RUN prog (pan R) (Instr.alloc 28 true (.tuple #[])) w14 fun v15 w16 =>
 RUN prog (pan R) (Instr.alloc 31 true (.tuple #[])) w16 fun v17 w18 =>
 RUNU prog (pan R) (Instr.storeAt 28 v15 v11) w18 fun w19 =>
 RUNU prog (pan R) (Instr.storeAt 31 v17 v13) w19 fun w20 =>
 b30 R x0 v1 v5 v7 v15 v17 w20
def b1_2 (x0 v1 v3:Value) (w4:World) (_r:Tok R:=tok R):Prop :=
 RUN prog (pan R) (Instr.extract v3 0) w4 fun v5 w6 =>
 RUN prog (pan R) (Instr.extract v3 1) w6 fun v7 w8 =>
 CALL prog (pan R) spec_Read.id #[x0] w8 fun v9 w10 =>
 b1_1 R x0 v1 v5 v7 v9 w10

def b1 (x0:Value) (w:World) (_r:Tok R:=tok R):Prop :=
 CALL prog (pan R) law04_awake.id #[] w fun v1 w2 =>
 CALL prog (pan R) law04_good.id #[x0,(.int .i64 1400)] w2 fun v3 w4 =>
 b1_2 R x0 v1 v3 w4
abbrev q24:XP:=QX (fun ρ w=>b30 R (ρ 0) (ρ 3) (ρ 4) (ρ 5) (ρ 6) (ρ 7) w) (fun ρ w=>R (.returned (ρ 2)) w) []
theorem b1_eq:(b1 R (ρ 0) w)=cP24 R (preC 3 code) (q24 R) ρ w:=by kernel_rfl
theorem b1_ok (h:b1 R (ρ 0) w):cP24 R code (q1 R) ρ w:=by
 have e:appC 3 (preC 3 code) (dropC 4 code)=code:=by kernel_rfl
 rw [←e]
 exact appQ (fun ρ w=>b30 R (ρ 0) (ρ 3) (ρ 4) (ρ 5) (ρ 6) (ρ 7) w) 3 ((b1_eq R ρ w).mp h) (fun ρ w h=>k2_ok R ρ w h)
/-- What is owed for a call. -/
def run (a0:Value) (w:World):Prop:=b1 R a0 w
theorem calls (R:EP) (a0:Value) (w:World) (h:run R a0 w):Calls prog id #[a0] w R :=
 calls_of_t (f:=id) (fn:=f9) (c:=code) (by kernel_rfl) func9 (by kernel_rfl) (by kernel_rfl) (args:=[a0]) (Nat.le_of_ble_eq_true rfl) rfl (b1_ok R (envOf [a0]) w h)
theorem enters:Enters prog id:=fun args w=>call9 args w
theorem ct {a0:Value} {w:World} {S:VP} (h:∀R:EP,(∀v w,S v w→R (.returned v) w)→run R a0 w):Ct prog id #[a0] w S :=
 Ct.intro enters fun R hR=>calls R a0 w (h R hR)
attribute [irreducible] b8 b7_1 b7 b13 b17_1 b17 l16 b14 b11 b18 b10 b9_1 b9 b5 b24 b29_1 b29 b28_1 b28_2 b28_3 b28 b27_1 b27_2 b27 b26_1 b26_2 b26 b22 l21 b19 b3 b31 b30_1 b30 b1_1 b1_2 b1 run
attribute [go_sem] b8 b7_1 b7 b13 b17_1 b17 b14 b11 b18 b10 b9_1 b9 b5 b24 b29_1 b29 b28_1 b28_2 b28_3 b28 b27_1 b27_2 b27 b26_1 b26_2 b26 b22 b19 b3 b31 b30_1 b30 b1_1 b1_2 b1 run
end law04_SpecHeads

/-! ### presage/presagelaw04.awake -/
namespace law04_awake
noncomputable def code:Code:=bodyOf f11
def b1_1 (w58:World) (_r:Tok R:=tok R):Prop :=
 CALL prog (pan R) spec_Bad.id #[(.string {data:=#[] })] w58 fun v59 w60 =>
 RUN prog (pan R) (bins .eql 3 (.tmp 39) (.const (.int .i64 0)) v59 (.int .i64 0)) w60 fun v61 w62 =>
 R (.returned v61) w62
def b1_2 (v21:Value) (w52:World) (_r:Tok R:=tok R):Prop :=
 RUN prog (pan R) (Instr.fieldAt 31 v21 1) w52 fun v53 w54 =>
 RUN prog (pan R) (Instr.loadAt 3 v53) w54 fun v55 w56 =>
 RUN prog (pan R) (bins .eql 3 (.tmp 35) (.const (.int .i64 3)) v55 (.int .i64 3)) w56 fun v57 w58 =>
 SPL v57
 (b1_1 R w58)
 (R (.returned (.bool Bool.false)) w58)
def b1_3 (v21:Value) (w46:World) (_r:Tok R:=tok R):Prop :=
 RUN prog (pan R) (Instr.fieldAt 31 v21 0) w46 fun v47 w48 =>
 RUN prog (pan R) (Instr.loadAt 29 v47) w48 fun v49 w50 =>
 RUN prog (pan R) (bins .eql 29 (.tmp 30) (.const (.int .i64 10)) v49 (.int .i64 10)) w50 fun v51 w52 =>
 SPL v51
 (b1_2 R v21 w52)
 (R (.returned (.bool Bool.false)) w52)
def b1_4 (v7 v21:Value) (w38:World) (_r:Tok R:=tok R):Prop :=
 RUN prog (pan R) (Instr.fieldAt 28 v7 0) w38 fun v39 w40 =>
 RUN prog (pan R) (Instr.loadAt 23 v39) w40 fun v41 w42 =>
 RUN prog (pan R) (Builtin.len_ #[23] 3 #[v41]) w42 fun v43 w44 =>
 RUN prog (pan R) (bins .eql 3 (.tmp 25) (.const (.int .i64 3)) v43 (.int .i64 3)) w44 fun v45 w46 =>
 SPL v45
 (b1_3 R v21 w46)
 (R (.returned (.bool Bool.false)) w46)
def b1_5 (v7 v21:Value) (w30:World) (_r:Tok R:=tok R):Prop :=
 RUN prog (pan R) (Instr.fieldAt 28 v7 4) w30 fun v31 w32 =>
 RUN prog (pan R) (Instr.loadAt 26 v31) w32 fun v33 w34 =>
 RUN prog (pan R) (Builtin.len_ #[26] 3 #[v33]) w34 fun v35 w36 =>
 RUN prog (pan R) (bins .eql 3 (.tmp 19) (.const (.int .i64 2)) v35 (.int .i64 2)) w36 fun v37 w38 =>
 SPL v37
 (b1_4 R v7 v21 w38)
 (R (.returned (.bool Bool.false)) w38)
def b1_6 (v7 v9 v13:Value) (w14:World) (_r:Tok R:=tok R):Prop :=
 RUN prog (pan R) (Instr.extract v13 0) w14 fun v15 w16 =>
 RUN prog (pan R) (Instr.extract v13 1) w16 fun v17 w18 =>
 RUN prog (pan R) (Instr.alloc 28 true (.tuple #[])) w18 fun v19 w20 =>
 RUN prog (pan R) (Instr.alloc 31 true (.tuple #[])) w20 fun v21 w22 =>
 RUNU prog (pan R) (Instr.storeAt 28 v19 v15) w22 fun w23 =>
 RUNU prog (pan R) (Instr.storeAt 31 v21 v17) w23 fun w24 =>
 RUN prog (pan R) (Instr.fieldAt 31 v9 0) w24 fun v25 w26 =>
 RUN prog (pan R) (Instr.loadAt 29 v25) w26 fun v27 w28 =>
 RUN prog (pan R) (bins .eql 29 (.tmp 14) (.const (.int .i64 0)) v27 (.int .i64 0)) w28 fun v29 w30 =>
 SPL v29
 (b1_5 R v7 v21 w30)
 (R (.returned (.bool Bool.false)) w30)
def b1_7 (v1:Value) (w2:World) (_r:Tok R:=tok R):Prop :=
 RUN prog (pan R) (Instr.extract v1 0) w2 fun v3 w4 =>
 RUN prog (pan R) (Instr.extract v1 1) w4 fun v5 w6 =>
 RUN prog (pan R) (Instr.alloc 28 true (.tuple #[])) w6 fun v7 w8 =>
 RUN prog (pan R) (Instr.alloc 31 true (.tuple #[])) w8 fun v9 w10 =>
 RUNU prog (pan R) (Instr.storeAt 28 v7 v3) w10 fun w11 =>
 RUNU prog (pan R) (Instr.storeAt 31 v9 v5) w11 fun w12 =>
 CALL prog (pan R) spec_Read.id #[(.string {data:=#[115,32,58] })] w12 fun v13 w14 =>
 b1_6 R v7 v9 v13 w14

def b1 (w:World) (_r:Tok R:=tok R):Prop :=
 CALL prog (pan R) spec_Read.id #[(.string {data:=#[101,32,58,32,101,32,39,43,39,32,110,32,124,32,110,32,59] })] w fun v1 w2 =>
 b1_7 R v1 w2
abbrev q1:XP:=QX (fun ρ w=>R (.returned (ρ 0)) w) (fun ρ w=>R (.returned (ρ 0)) w) []
theorem b1_ok (h:b1 R w):cP24 R code (q1 R) ρ w:=cast (by kernel_rfl) h
/-- What is owed for a call. -/
def run (w:World):Prop:=b1 R w
theorem calls (R:EP) (w:World) (h:run R w):Calls prog id #[] w R :=
 calls_of_t (f:=id) (fn:=f11) (c:=code) (by kernel_rfl) func11 (by kernel_rfl) (by kernel_rfl) (args:=[]) (Nat.le_of_ble_eq_true rfl) rfl (b1_ok R (envOf []) w h)
theorem enters:Enters prog id:=fun args w=>call11 args w
theorem ct {w:World} {S:VP} (h:∀R:EP,(∀v w,S v w→R (.returned v) w)→run R w):Ct prog id #[] w S :=
 Ct.intro enters fun R hR=>calls R w (h R hR)
attribute [irreducible] b1_1 b1_2 b1_3 b1_4 b1_5 b1_6 b1_7 b1 run
attribute [go_sem] b1_1 b1_2 b1_3 b1_4 b1_5 b1_6 b1_7 b1 run
end law04_awake

/-! ### presage/presagelaw04.written -/
namespace law04_written
noncomputable def code:Code:=bodyOf f19
def b1_1 (v1:Value) (w8:World) (_r:Tok R:=tok R):Prop :=
 RUN prog (pan R) (Instr.fieldAt 46 v1 1) w8 fun v9 w10 =>
 RUN prog (pan R) (Instr.loadAt 9 v9) w10 fun v11 w12 =>
 RUN prog (pan R) (bins .add 9 (.const (.string {data:=#[39] })) (.tmp 7) (.string {data:=#[39] }) v11) w12 fun v13 w14 =>
 RUN prog (pan R) (bins .add 9 (.tmp 8) (.const (.string {data:=#[39] })) v13 (.string {data:=#[39] })) w14 fun v15 w16 =>
 R (.returned v15) w16
def b1_2 (v1:Value) (w8:World) (_r:Tok R:=tok R):Prop :=
 RUN prog (pan R) (Instr.fieldAt 46 v1 1) w8 fun v17 w18 =>
 RUN prog (pan R) (Instr.loadAt 9 v17) w18 fun v19 w20 =>
 R (.returned v19) w20
def b1 (x0:Value) (w:World) (_r:Tok R:=tok R):Prop :=
 RUN prog (pan R) (Instr.box 46 x0) w fun v1 w2 =>
 RUN prog (pan R) (Instr.fieldAt 46 v1 0) w2 fun v3 w4 =>
 RUN prog (pan R) (Instr.loadAt 3 v3) w4 fun v5 w6 =>
 RUN prog (pan R) (bins .eql 3 (.tmp 4) (.const (.int .i64 2)) v5 (.int .i64 2)) w6 fun v7 w8 =>
 SPL v7
 (b1_1 R v1 w8)
 (b1_2 R v1 w8)
abbrev q1:XP:=QX (fun ρ w=>R (.returned (ρ 2)) w) (fun ρ w=>R (.returned (ρ 2)) w) []
theorem b1_ok (h:b1 R (ρ 0) w):cP24 R code (q1 R) ρ w:=cast (by kernel_rfl) h
/-- What is owed for a call. -/
def run (a0:Value) (w:World):Prop:=b1 R a0 w
theorem calls (R:EP) (a0:Value) (w:World) (h:run R a0 w):Calls prog id #[a0] w R :=
 calls_of_t (f:=id) (fn:=f19) (c:=code) (by kernel_rfl) func19 (by kernel_rfl) (by kernel_rfl) (args:=[a0]) (Nat.le_of_ble_eq_true rfl) rfl (b1_ok R (envOf [a0]) w h)
theorem enters:Enters prog id:=fun args w=>call19 args w
theorem ct {a0:Value} {w:World} {S:VP} (h:∀R:EP,(∀v w,S v w→R (.returned v) w)→run R a0 w):Ct prog id #[a0] w S :=
 Ct.intro enters fun R hR=>calls R a0 w (h R hR)
attribute [irreducible] b1_1 b1_2 b1 run
attribute [go_sem] b1_1 b1_2 b1 run
end law04_written

/-! ### presage/presagelaw04.good -/
namespace law04_good
noncomputable def code:Code:=bodyOf f21
noncomputable abbrev p1:Code:=dropC 3 code
def b3_1 (x1 x6 x8:Value) (w6:World) (_r:Tok R:=tok R):Prop :=
 RUN prog (pan R) (bins .add 3 (.tmp 39) (.tmp 40) x8 x1) w6 fun v7 w8 =>
 RUN prog (pan R) (bins .leq 3 (.tmp 41) (.const (.int .i64 8192)) v7 (.int .i64 8192)) w8 fun v9 w10 =>
 R (.returned (.tuple #[x6,v9])) w10
def b3_2 (x0 x1 x6 x8:Value) (w2:World) (_r:Tok R:=tok R):Prop :=
 CALL prog (pan R) spec_Bad.id #[x0] w2 fun v3 w4 =>
 RUN prog (pan R) (bins .lss 3 (.tmp 35) (.const (.int .i64 0)) v3 (.int .i64 0)) w4 fun v5 w6 =>
 SPL v5
 (b3_1 R x1 x6 x8 w6)
 (R (.returned (.tuple #[x6,(.bool Bool.false)])) w6)
def b3 (x0 x1 x6 x7 x8:Value) (w:World) (_r:Tok R:=tok R):Prop :=
 RUN prog (pan R) (bins .lss 3 (.tmp 31) (.const (.int .i64 0)) x7 (.int .i64 0)) w fun v1 w2 =>
 SPL v1
 (b3_2 R x0 x1 x6 x8 w2)
 (R (.returned (.tuple #[x6,(.bool Bool.false)])) w2)
abbrev q1:XP:=QX (fun ρ w=>R (.returned (.tuple #[(ρ 4),(ρ 5)])) w) (fun ρ w=>R (.returned (.tuple #[(ρ 4),(ρ 5)])) w) []
theorem b3_ok (h:b3 R (ρ 0) (ρ 1) (ρ 6) (ρ 7) (ρ 8) w):cP24 R (sndC p1) (q1 R) ρ w:=cast (by kernel_rfl) h
noncomputable abbrev p2:Code:=dropC 1 (fstC p1)
noncomputable abbrev p3:Code:=loopC (blkC p2)
def b7_1 (C6:Value→VP) (x6 x8 x9:Value) (w4:World) (_r:Tok R:=tok R) (_C6:Tok C6:=tok C6):Prop :=
 RUN prog (pan R) (Instr.indexAt 41 x6 x9) w4 fun v5 w6 =>
 RUN prog (pan R) (Instr.fieldAt 46 v5 1) w6 fun v7 w8 =>
 RUN prog (pan R) (Instr.loadAt 9 v7) w8 fun v9 w10 =>
 RUN prog (pan R) (Builtin.len_ #[9] 3 #[v9]) w10 fun v11 w12 =>
 RUN prog (pan R) (bins .add 3 (.tmp 21) (.tmp 27) x8 v11) w12 fun v13 w14 =>
 RUN prog (pan R) (bins .add 3 (.tmp 28) (.const (.int .i64 3)) v13 (.int .i64 3)) w14 fun v15 w16 =>
 RUN prog (pan R) (bins .add 3 (.tmp 19) (.const (.int .i64 1)) x9 (.int .i64 1)) w16 fun v17 w18 =>
 C6 v15 v17 w18
def b7 (C6:Value→VP) (x0 x1 x6 x7 x8 x9:Value) (w:World) (_r:Tok R:=tok R) (_C6:Tok C6:=tok C6):Prop :=
 RUN prog (pan R) (Builtin.len_ #[41] 3 #[x6]) w fun v1 w2 =>
 RUN prog (pan R) (bins .lss 3 (.tmp 15) (.tmp 17) x9 v1) w2 fun v3 w4 =>
 SPL v3
 (b7_1 R C6 x6 x8 x9 w4)
 (b3 R x0 x1 x6 x7 x8 w4)
abbrev q2 (C6:Value→VP):XP:=QX (fun ρ w=>C6 (ρ 8) (ρ 9) w) (fun ρ w=>R (.returned (.tuple #[(ρ 4),(ρ 5)])) w) [(0,(fun ρ w=>b3 R (ρ 0) (ρ 1) (ρ 6) (ρ 7) (ρ 8) w))]
theorem b7_ok (R:EP) (C6:Value→VP) (ρ:Env) (w:World) (h:b7 R C6 (ρ 0) (ρ 1) (ρ 6) (ρ 7) (ρ 8) (ρ 9) w):cP24 R p3 (q2 R C6) ρ w:=cast (by kernel_rfl) h
def l6 (x0 x1 x6 x7 x8 x9:Value) (w:World) (_r:Tok R:=tok R):Prop :=
 ∃(J:Value→VP) (μ:Value→Value→World→Nat),J x8 x9 w∧∀y8 y9 w0,J y8 y9 w0→b7 R (fun z8 z9 w1=>J z8 z9 w1∧μ z8 z9 w1<μ y8 y9 w0) x0 x1 x6 x7 y8 y9 w0
abbrev q3:XP:=QX (fun ρ w=>b3 R (ρ 0) (ρ 1) (ρ 6) (ρ 7) (ρ 8) w) (fun ρ w=>R (.returned (.tuple #[(ρ 4),(ρ 5)])) w) [(0,(fun ρ w=>b3 R (ρ 0) (ρ 1) (ρ 6) (ρ 7) (ρ 8) w))]
theorem l6_ok (h:l6 R (ρ 0) (ρ 1) (ρ 6) (ρ 7) (ρ 8) (ρ 9) w):cP24 R (blkC p2) (q3 R) ρ w:=by
 unfold l6 at h
 obtain ⟨J,μ,h0,hr⟩:=h
 have e:Code.loop (loopC (blkC p2))=(blkC p2):=by kernel_rfl
 rw [←e]
 refine loopQ (fun ρ' w'=>J (ρ' 8) (ρ' 9) w') (fun ρ' w'=>μ (ρ' 8) (ρ' 9) w') h0 fun ρ' w' hA hI=>?_
 have e0:ρ' 0=ρ 0:=Agree.at hA 0 (by kernel_rfl)
 have e1:ρ' 1=ρ 1:=Agree.at hA 1 (by kernel_rfl)
 have e6:ρ' 6=ρ 6:=Agree.at hA 6 (by kernel_rfl)
 have e7:ρ' 7=ρ 7:=Agree.at hA 7 (by kernel_rfl)
 have h1:=hr (ρ' 8) (ρ' 9) w' hI
 rw [←e0,←e1,←e6,←e7] at h1
 exact b7_ok R (fun z8 z9 w1=>J z8 z9 w1∧μ z8 z9 w1<μ (ρ' 8) (ρ' 9) w') ρ' w' h1
theorem l6_intro (R:EP) (x0 x1 x6 x7 x8 x9:Value) (w:World) (J:Value→VP) (μ:Value→Value→World→Nat) (h0:J x8 x9 w)
  (hr:∀y8 y9 w0,J y8 y9 w0→∀C6:Value→VP,(∀z8 z9 w1,J z8 z9 w1→μ z8 z9 w1<μ y8 y9 w0→C6 z8 z9 w1)→b7 R C6 x0 x1 x6 x7 y8 y9 w0):l6 R x0 x1 x6 x7 x8 x9 w:=by
 unfold l6
 exact ⟨J,μ,h0,fun y8 y9 w0 hJ=>hr y8 y9 w0 hJ _ (fun z8 z9 w1 h1 h2=>⟨h1,h2⟩)⟩
abbrev q4:XP:=QX (fun ρ w=>b3 R (ρ 0) (ρ 1) (ρ 6) (ρ 7) (ρ 8) w) (fun ρ w=>R (.returned (.tuple #[(ρ 4),(ρ 5)])) w) []
theorem k5_ok (h:l6 R (ρ 0) (ρ 1) (ρ 6) (ρ 7) (ρ 8) (ρ 9) w):cP24 R p2 (q4 R) ρ w:=by
 have e:Code.block 0 (blkC p2)=p2:=by kernel_rfl
 rw [←e]
 exact blockQ (l6_ok R ρ w h)
def b4 (x0 x1 x6 x7 x8:Value) (w:World) (_r:Tok R:=tok R):Prop :=
 l6 R x0 x1 x6 x7 x8 (.int .i64 0) w
abbrev q5:XP:=QX (fun ρ w=>l6 R (ρ 0) (ρ 1) (ρ 6) (ρ 7) (ρ 8) (ρ 9) w) (fun ρ w=>R (.returned (.tuple #[(ρ 4),(ρ 5)])) w) []
theorem b4_eq:(b4 R (ρ 0) (ρ 1) (ρ 6) (ρ 7) (ρ 8) w)=cP24 R (preC 0 (fstC p1)) (q5 R) ρ w:=by kernel_rfl
theorem b4_ok (h:b4 R (ρ 0) (ρ 1) (ρ 6) (ρ 7) (ρ 8) w):cP24 R (fstC p1) (q4 R) ρ w:=by
 have e:appC 0 (preC 0 (fstC p1)) (dropC 1 (fstC p1))=(fstC p1):=by kernel_rfl
 rw [←e]
 exact appQ (fun ρ w=>l6 R (ρ 0) (ρ 1) (ρ 6) (ρ 7) (ρ 8) (ρ 9) w) 0 ((b4_eq R ρ w).mp h) (fun ρ w h=>k5_ok R ρ w h)
theorem k2_ok (h:b4 R (ρ 0) (ρ 1) (ρ 6) (ρ 7) (ρ 8) w):cP24 R p1 (q1 R) ρ w:=by
 have e:Code.seq (fstC p1) (sndC p1)=p1:=by kernel_rfl
 rw [←e]
 exact seqQ (fun ρ w=>b3 R (ρ 0) (ρ 1) (ρ 6) (ρ 7) (ρ 8) w) (b4_ok R ρ w h) (fun ρ w h=>b3_ok R ρ w h)
def b1_1 (x0 x1 v1:Value) (w2:World) (_r:Tok R:=tok R):Prop :=
 RUN prog (pan R) (Instr.extract v1 0) w2 fun v3 w4 =>
 RUN prog (pan R) (Instr.extract v1 1) w4 fun v5 w6 =>
 b4 R x0 x1 v3 v5 (.int .i64 0) w6
def b1 (x0 x1:Value) (w:World) (_r:Tok R:=tok R):Prop :=
 CALL prog (pan R) ref03_All.id #[x0] w fun v1 w2 =>
 b1_1 R x0 x1 v1 w2
abbrev q6:XP:=QX (fun ρ w=>b4 R (ρ 0) (ρ 1) (ρ 6) (ρ 7) (ρ 8) w) (fun ρ w=>R (.returned (.tuple #[(ρ 4),(ρ 5)])) w) []
theorem b1_eq:(b1 R (ρ 0) (ρ 1) w)=cP24 R (preC 2 code) (q6 R) ρ w:=by kernel_rfl
theorem b1_ok (h:b1 R (ρ 0) (ρ 1) w):cP24 R code (q1 R) ρ w:=by
 have e:appC 2 (preC 2 code) (dropC 3 code)=code:=by kernel_rfl
 rw [←e]
 exact appQ (fun ρ w=>b4 R (ρ 0) (ρ 1) (ρ 6) (ρ 7) (ρ 8) w) 2 ((b1_eq R ρ w).mp h) (fun ρ w h=>k2_ok R ρ w h)
/-- What is owed for a call. -/
def run (a0 a1:Value) (w:World):Prop:=b1 R a0 a1 w
theorem calls (R:EP) (a0 a1:Value) (w:World) (h:run R a0 a1 w):Calls prog id #[a0,a1] w R :=
 calls_of_tt (f:=id) (fn:=f21) (c:=code) (by kernel_rfl) func21 (by kernel_rfl) (by kernel_rfl) (args:=[a0,a1]) (Nat.le_of_ble_eq_true rfl) rfl (b1_ok R (envOf [a0,a1]) w h)
theorem enters:Enters prog id:=fun args w=>call21 args w
theorem ct {a0 a1:Value} {w:World} {S:VP} (h:∀R:EP,(∀v w,S v w→R (.returned v) w)→run R a0 a1 w):Ct prog id #[a0,a1] w S :=
 Ct.intro enters fun R hR=>calls R a0 a1 w (h R hR)
attribute [irreducible] b3_1 b3_2 b3 b7_1 b7 l6 b4 b1_1 b1 run
attribute [go_sem] b3_1 b3_2 b3 b7_1 b7 b4 b1_1 b1 run
end law04_good

/-! ### presage/presagelaw04.joined -/
namespace law04_joined
noncomputable def code:Code:=bodyOf f22
noncomputable abbrev p1:Code:=dropC 2 code
def b3 (x3:Value) (w:World) (_r:Tok R:=tok R):Prop :=
 R (.returned x3) w
abbrev q1:XP:=QX (fun ρ w=>R (.returned (ρ 2)) w) (fun ρ w=>R (.returned (ρ 2)) w) []
theorem b3_ok (h:b3 R (ρ 3) w):cP24 R (sndC p1) (q1 R) ρ w:=cast (by kernel_rfl) h
noncomputable abbrev p2:Code:=dropC 1 (fstC p1)
noncomputable abbrev p3:Code:=loopC (blkC p2)
def b7_1 (C6:Value→VP) (x3 x4 v9:Value) (w10:World) (_r:Tok R:=tok R) (_C6:Tok C6:=tok C6):Prop :=
 RUN prog (pan R) (bins .add 9 (.tmp 11) (.tmp 16) x3 v9) w10 fun v11 w12 =>
 RUN prog (pan R) (bins .add 9 (.tmp 17) (.const (.string {data:=#[32] })) v11 (.string {data:=#[32] })) w12 fun v13 w14 =>
 RUN prog (pan R) (bins .add 3 (.tmp 9) (.const (.int .i64 1)) x4 (.int .i64 1)) w14 fun v15 w16 =>
 C6 v13 v15 w16
def b7_2 (C6:Value→VP) (x0 x3 x4:Value) (w4:World) (_r:Tok R:=tok R) (_C6:Tok C6:=tok C6):Prop :=
 RUN prog (pan R) (Instr.indexAt 41 x0 x4) w4 fun v5 w6 =>
 RUN prog (pan R) (Instr.loadAt 46 v5) w6 fun v7 w8 =>
 CALL prog (pan R) law04_written.id #[v7] w8 fun v9 w10 =>
 b7_1 R C6 x3 x4 v9 w10
def b7 (C6:Value→VP) (x0 x3 x4:Value) (w:World) (_r:Tok R:=tok R) (_C6:Tok C6:=tok C6):Prop :=
 RUN prog (pan R) (Builtin.len_ #[41] 3 #[x0]) w fun v1 w2 =>
 RUN prog (pan R) (bins .lss 3 (.tmp 5) (.tmp 7) x4 v1) w2 fun v3 w4 =>
 SPL v3
 (b7_2 R C6 x0 x3 x4 w4)
 (b3 R x3 w4)
abbrev q2 (C6:Value→VP):XP:=QX (fun ρ w=>C6 (ρ 3) (ρ 4) w) (fun ρ w=>R (.returned (ρ 2)) w) [(0,(fun ρ w=>b3 R (ρ 3) w))]
theorem b7_ok (R:EP) (C6:Value→VP) (ρ:Env) (w:World) (h:b7 R C6 (ρ 0) (ρ 3) (ρ 4) w):cP24 R p3 (q2 R C6) ρ w:=cast (by kernel_rfl) h
def l6 (x0 x3 x4:Value) (w:World) (_r:Tok R:=tok R):Prop :=
 ∃(J:Value→VP) (μ:Value→Value→World→Nat),J x3 x4 w∧∀y3 y4 w0,J y3 y4 w0→b7 R (fun z3 z4 w1=>J z3 z4 w1∧μ z3 z4 w1<μ y3 y4 w0) x0 y3 y4 w0
abbrev q3:XP:=QX (fun ρ w=>b3 R (ρ 3) w) (fun ρ w=>R (.returned (ρ 2)) w) [(0,(fun ρ w=>b3 R (ρ 3) w))]
theorem l6_ok (h:l6 R (ρ 0) (ρ 3) (ρ 4) w):cP24 R (blkC p2) (q3 R) ρ w:=by
 unfold l6 at h
 obtain ⟨J,μ,h0,hr⟩:=h
 have e:Code.loop (loopC (blkC p2))=(blkC p2):=by kernel_rfl
 rw [←e]
 refine loopQ (fun ρ' w'=>J (ρ' 3) (ρ' 4) w') (fun ρ' w'=>μ (ρ' 3) (ρ' 4) w') h0 fun ρ' w' hA hI=>?_
 have e0:ρ' 0=ρ 0:=Agree.at hA 0 (by kernel_rfl)
 have h1:=hr (ρ' 3) (ρ' 4) w' hI
 rw [←e0] at h1
 exact b7_ok R (fun z3 z4 w1=>J z3 z4 w1∧μ z3 z4 w1<μ (ρ' 3) (ρ' 4) w') ρ' w' h1
theorem l6_intro (R:EP) (x0 x3 x4:Value) (w:World) (J:Value→VP) (μ:Value→Value→World→Nat) (h0:J x3 x4 w)
  (hr:∀y3 y4 w0,J y3 y4 w0→∀C6:Value→VP,(∀z3 z4 w1,J z3 z4 w1→μ z3 z4 w1<μ y3 y4 w0→C6 z3 z4 w1)→b7 R C6 x0 y3 y4 w0):l6 R x0 x3 x4 w:=by
 unfold l6
 exact ⟨J,μ,h0,fun y3 y4 w0 hJ=>hr y3 y4 w0 hJ _ (fun z3 z4 w1 h1 h2=>⟨h1,h2⟩)⟩
abbrev q4:XP:=QX (fun ρ w=>b3 R (ρ 3) w) (fun ρ w=>R (.returned (ρ 2)) w) []
theorem k5_ok (h:l6 R (ρ 0) (ρ 3) (ρ 4) w):cP24 R p2 (q4 R) ρ w:=by
 have e:Code.block 0 (blkC p2)=p2:=by kernel_rfl
 rw [←e]
 exact blockQ (l6_ok R ρ w h)
def b4 (x0 x3:Value) (w:World) (_r:Tok R:=tok R):Prop :=
 l6 R x0 x3 (.int .i64 0) w
abbrev q5:XP:=QX (fun ρ w=>l6 R (ρ 0) (ρ 3) (ρ 4) w) (fun ρ w=>R (.returned (ρ 2)) w) []
theorem b4_eq:(b4 R (ρ 0) (ρ 3) w)=cP24 R (preC 0 (fstC p1)) (q5 R) ρ w:=by kernel_rfl
theorem b4_ok (h:b4 R (ρ 0) (ρ 3) w):cP24 R (fstC p1) (q4 R) ρ w:=by
 have e:appC 0 (preC 0 (fstC p1)) (dropC 1 (fstC p1))=(fstC p1):=by kernel_rfl
 rw [←e]
 exact appQ (fun ρ w=>l6 R (ρ 0) (ρ 3) (ρ 4) w) 0 ((b4_eq R ρ w).mp h) (fun ρ w h=>k5_ok R ρ w h)
theorem k2_ok (h:b4 R (ρ 0) (ρ 3) w):cP24 R p1 (q1 R) ρ w:=by
 have e:Code.seq (fstC p1) (sndC p1)=p1:=by kernel_rfl
 rw [←e]
 exact seqQ (fun ρ w=>b3 R (ρ 3) w) (b4_ok R ρ w h) (fun ρ w h=>b3_ok R ρ w h)
def b1 (x0:Value) (w:World) (_r:Tok R:=tok R):Prop :=
 b4 R x0 (.string {data:=#[] }) w
abbrev q6:XP:=QX (fun ρ w=>b4 R (ρ 0) (ρ 3) w) (fun ρ w=>R (.returned (ρ 2)) w) []
theorem b1_eq:(b1 R (ρ 0) w)=cP24 R (preC 1 code) (q6 R) ρ w:=by kernel_rfl
theorem b1_ok (h:b1 R (ρ 0) w):cP24 R code (q1 R) ρ w:=by
 have e:appC 1 (preC 1 code) (dropC 2 code)=code:=by kernel_rfl
 rw [←e]
 exact appQ (fun ρ w=>b4 R (ρ 0) (ρ 3) w) 1 ((b1_eq R ρ w).mp h) (fun ρ w h=>k2_ok R ρ w h)
/-- What is owed for a call. -/
def run (a0:Value) (w:World):Prop:=b1 R a0 w
theorem calls (R:EP) (a0:Value) (w:World) (h:run R a0 w):Calls prog id #[a0] w R :=
 calls_of_t (f:=id) (fn:=f22) (c:=code) (by kernel_rfl) func22 (by kernel_rfl) (by kernel_rfl) (args:=[a0]) (Nat.le_of_ble_eq_true rfl) rfl (b1_ok R (envOf [a0]) w h)
theorem enters:Enters prog id:=fun args w=>call22 args w
theorem ct {a0:Value} {w:World} {S:VP} (h:∀R:EP,(∀v w,S v w→R (.returned v) w)→run R a0 w):Ct prog id #[a0] w S :=
 Ct.intro enters fun R hR=>calls R a0 w (h R hR)
attribute [irreducible] b3 b7_1 b7_2 b7 l6 b4 b1 run
attribute [go_sem] b3 b7_1 b7_2 b7 b4 b1 run
end law04_joined

/-! ### presage/presagelaw04.alike -/
namespace law04_alike
noncomputable def code:Code:=bodyOf f23
def b1_1 (v9 v21:Value) (w40:World) (_r:Tok R:=tok R):Prop :=
 RUN prog (pan R) (Instr.fieldAt 31 v9 1) w40 fun v41 w42 =>
 RUN prog (pan R) (Instr.loadAt 3 v41) w42 fun v43 w44 =>
 RUN prog (pan R) (Instr.fieldAt 31 v21 1) w44 fun v45 w46 =>
 RUN prog (pan R) (Instr.loadAt 3 v45) w46 fun v47 w48 =>
 RUN prog (pan R) (bins .eql 3 (.tmp 33) (.tmp 35) v43 v47) w48 fun v49 w50 =>
 R (.returned v49) w50
def b1_2 (v9 v21:Value) (w30:World) (_r:Tok R:=tok R):Prop :=
 RUN prog (pan R) (Instr.fieldAt 31 v9 0) w30 fun v31 w32 =>
 RUN prog (pan R) (Instr.loadAt 29 v31) w32 fun v33 w34 =>
 RUN prog (pan R) (Instr.fieldAt 31 v21 0) w34 fun v35 w36 =>
 RUN prog (pan R) (Instr.loadAt 29 v35) w36 fun v37 w38 =>
 RUN prog (pan R) (bins .eql 29 (.tmp 26) (.tmp 28) v33 v37) w38 fun v39 w40 =>
 SPL v39
 (b1_1 R v9 v21 w40)
 (R (.returned (.bool Bool.false)) w40)
def b1_3 (v7 v9 v13:Value) (w14:World) (_r:Tok R:=tok R):Prop :=
 RUN prog (pan R) (Instr.extract v13 0) w14 fun v15 w16 =>
 RUN prog (pan R) (Instr.extract v13 1) w16 fun v17 w18 =>
 RUN prog (pan R) (Instr.alloc 28 true (.tuple #[])) w18 fun v19 w20 =>
 RUN prog (pan R) (Instr.alloc 31 true (.tuple #[])) w20 fun v21 w22 =>
 RUNU prog (pan R) (Instr.storeAt 28 v19 v15) w22 fun w23 =>
 RUNU prog (pan R) (Instr.storeAt 31 v21 v17) w23 fun w24 =>
 RUN prog (pan R) (Instr.loadAt 28 v7) w24 fun v25 w26 =>
 RUN prog (pan R) (Instr.loadAt 28 v19) w26 fun v27 w28 =>
 CALL prog (pan R) ref02_Same.id #[v25,v27] w28 fun v29 w30 =>
 SPL v29
 (b1_2 R v9 v21 w30)
 (R (.returned (.bool Bool.false)) w30)
def b1_4 (x1 v1:Value) (w2:World) (_r:Tok R:=tok R):Prop :=
 RUN prog (pan R) (Instr.extract v1 0) w2 fun v3 w4 =>
 RUN prog (pan R) (Instr.extract v1 1) w4 fun v5 w6 =>
 RUN prog (pan R) (Instr.alloc 28 true (.tuple #[])) w6 fun v7 w8 =>
 RUN prog (pan R) (Instr.alloc 31 true (.tuple #[])) w8 fun v9 w10 =>
 RUNU prog (pan R) (Instr.storeAt 28 v7 v3) w10 fun w11 =>
 RUNU prog (pan R) (Instr.storeAt 31 v9 v5) w11 fun w12 =>
 CALL prog (pan R) spec_Read.id #[x1] w12 fun v13 w14 =>
 b1_3 R v7 v9 v13 w14
def b1 (x0 x1:Value) (w:World) (_r:Tok R:=tok R):Prop :=
 CALL prog (pan R) spec_Read.id #[x0] w fun v1 w2 =>
 b1_4 R x1 v1 w2
abbrev q1:XP:=QX (fun ρ w=>R (.returned (ρ 4)) w) (fun ρ w=>R (.returned (ρ 4)) w) []
theorem b1_ok (h:b1 R (ρ 0) (ρ 1) w):cP24 R code (q1 R) ρ w:=cast (by kernel_rfl) h
/-- What is owed for a call. -/
def run (a0 a1:Value) (w:World):Prop:=b1 R a0 a1 w
theorem calls (R:EP) (a0 a1:Value) (w:World) (h:run R a0 a1 w):Calls prog id #[a0,a1] w R :=
 calls_of_t (f:=id) (fn:=f23) (c:=code) (by kernel_rfl) func23 (by kernel_rfl) (by kernel_rfl) (args:=[a0,a1]) (Nat.le_of_ble_eq_true rfl) rfl (b1_ok R (envOf [a0,a1]) w h)
theorem enters:Enters prog id:=fun args w=>call23 args w
theorem ct {a0 a1:Value} {w:World} {S:VP} (h:∀R:EP,(∀v w,S v w→R (.returned v) w)→run R a0 a1 w):Ct prog id #[a0,a1] w S :=
 Ct.intro enters fun R hR=>calls R a0 a1 w (h R hR)
attribute [irreducible] b1_1 b1_2 b1_3 b1_4 b1 run
attribute [go_sem] b1_1 b1_2 b1_3 b1_4 b1 run
end law04_alike
end Go.Proofs.YtckbgeedlobfaaaDoor
