/-
  Texts of this claim: T02H2, TBP3, TBPF, TBPA, TBPB, TBPC, TBPD, TBPE.
-/
import Derived.Test.YtckbgeedlobfaaaDoorY04
set_option linter.unusedVariables false
set_option maxRecDepth 100000
/- Shallow programs, written by a program of ours (gen.py) off the translation; each is tied to the code by the kernel. -/
namespace Go.Proofs.YtckbgeedlobfaaaDoor
open Go.Px Tryd
abbrev cP8 (R:EP):=codeP prog (pan R)
variable (R:EP) (ρ:Env) (w:World)

/-! ### (*presage/gram.Builder).Grammar -/
namespace gram_Builder_Grammar
noncomputable def code:Code:=bodyOf f29
noncomputable abbrev p1:Code:=dropC 1 code
noncomputable abbrev p2:Code:=dropC 1 (sndC p1)
noncomputable abbrev p3:Code:=dropC 1 (sndC p2)
noncomputable abbrev p4:Code:=dropC 1 (sndC p3)
noncomputable abbrev p5:Code:=dropC 2 (sndC p4)

def b10 (x2 x4:Value) (w:World) (_r:Tok R:=tok R):Prop :=
 RUN prog (pan R) (Instr.loadAt 28 x4) w fun v1 w2 =>
 RUNU prog (pan R) (Instr.storeAt 28 x2 v1) w2 fun w3 =>
 LD prog (Instr.loadAt 28 x2) w3 fun r0=>R (.returned (.tuple #[r0,(.int .i64 0)])) w3
abbrev q1:XP:=QX (fun ρ w=>LD prog (Instr.loadAt 28 (ρ 2)) w fun r0=>R (.returned (.tuple #[r0,(ρ 3)])) w) (fun ρ w=>LD prog (Instr.loadAt 28 (ρ 2)) w fun r0=>R (.returned (.tuple #[r0,(ρ 3)])) w) []
theorem b10_ok (h:b10 R (ρ 2) (ρ 4) w):cP8 R p5 (q1 R) ρ w:=cast (by kernel_rfl) h
def b9_1 (x0 x2 x4 x7:Value) (w20:World) (_r:Tok R:=tok R):Prop :=
 NILC x0 fun v21 =>
 RUN prog (pan R) (Instr.fieldAt 103 v21 5) w20 fun v22 w23 =>
 RUN prog (pan R) (Instr.loadAt 3 v22) w23 fun v24 w25 =>
 RUN prog (pan R) (Instr.lookup 104 x7 v24 false) w25 fun v26 w27 =>
 RUN prog (pan R) (Instr.fieldAt 28 x4 3) w27 fun v28 w29 =>
 RUNU prog (pan R) (Instr.storeAt 3 v28 v26) w29 fun w30 =>
 b10 R x2 x4 w30

def b9 (x0 x2 x4 x7:Value) (w:World) (_r:Tok R:=tok R):Prop :=
 RUN prog (pan R) (Instr.fieldAt 28 x4 4) w fun v1 w2 =>
 RUN prog (pan R) (Instr.loadAt 26 v1) w2 fun v3 w4 =>
 RUN prog (pan R) (Instr.indexAt 26 v3 (.int .i64 0)) w4 fun v5 w6 =>
 RUN prog (pan R) (Instr.fieldAt 37 v5 0) w6 fun v7 w8 =>
 RUN prog (pan R) (Instr.loadAt 3 v7) w8 fun v9 w10 =>
 RUN prog (pan R) (Instr.fieldAt 28 x4 3) w10 fun v11 w12 =>
 RUNU prog (pan R) (Instr.storeAt 3 v11 v9) w12 fun w13 =>
 NILC x0 fun v14 =>
 RUN prog (pan R) (Instr.fieldAt 103 v14 5) w13 fun v15 w16 =>
 RUN prog (pan R) (Instr.loadAt 3 v15) w16 fun v17 w18 =>
 RUN prog (pan R) (bins .neq 3 (.tmp 163) (.const (.int .i64 0)) v17 (.int .i64 0)) w18 fun v19 w20 =>
 SPL v19
 (b9_1 R x0 x2 x4 x7 w20)
 (b10 R x2 x4 w20)
abbrev q2:XP:=QX (fun ρ w=>b10 R (ρ 2) (ρ 4) w) (fun ρ w=>LD prog (Instr.loadAt 28 (ρ 2)) w fun r0=>R (.returned (.tuple #[r0,(ρ 3)])) w) []
theorem b9_eq:(b9 R (ρ 0) (ρ 2) (ρ 4) (ρ 7) w)=cP8 R (preC 1 (sndC p4)) (q2 R) ρ w:=by kernel_rfl
theorem b9_ok (h:b9 R (ρ 0) (ρ 2) (ρ 4) (ρ 7) w):cP8 R (sndC p4) (q1 R) ρ w:=by
 have e:appC 1 (preC 1 (sndC p4)) (dropC 2 (sndC p4))=(sndC p4):=by kernel_rfl
 rw [←e]
 exact appQ (fun ρ w=>b10 R (ρ 2) (ρ 4) w) 1 ((b9_eq R ρ w).mp h) (fun ρ w h=>b10_ok R ρ w h)
noncomputable abbrev p6:Code:=dropC 1 (fstC p4)
noncomputable abbrev p7:Code:=loopC (blkC p6)
noncomputable abbrev p8:Code:=dropC 2 p7

def b16 (C13:VP) (x117:Value) (w:World) (_r:Tok R:=tok R) (_C13:Tok C13:=tok C13):Prop :=
 RUN prog (pan R) (bins .add 3 (.tmp 117) (.const (.int .i64 1)) x117 (.int .i64 1)) w fun v1 w2 =>
 C13 v1 w2
abbrev q3 (C13:VP):XP:=QX (fun ρ w=>C13 (ρ 117) w) (fun ρ w=>LD prog (Instr.loadAt 28 (ρ 2)) w fun r0=>R (.returned (.tuple #[r0,(ρ 3)])) w) [(8,(fun ρ w=>b9 R (ρ 0) (ρ 2) (ρ 4) (ρ 7) w))]
theorem b16_ok (R:EP) (C13:VP) (ρ:Env) (w:World) (h:b16 R C13 (ρ 117) w):cP8 R (sndC p8) (q3 R C13) ρ w:=cast (by kernel_rfl) h
noncomputable abbrev p9:Code:=blkC (fstC p8)
noncomputable abbrev p10:Code:=dropC 2 p9

def b20 (C13:VP) (x4 x12 x117:Value) (w:World) (_r:Tok R:=tok R) (_C13:Tok C13:=tok C13):Prop :=
 RUN prog (pan R) (Instr.fieldAt 28 x4 4) w fun v1 w2 =>
 RUN prog (pan R) (Instr.loadAt 26 v1) w2 fun v3 w4 =>
 RUN prog (pan R) (Instr.loadAt 37 x12) w4 fun v5 w6 =>
 RUN prog (pan R) (Instr.buildSlice 26 1 #[(0,v5)]) w6 fun v7 w8 =>
 RUN prog (pan R) (Builtin.append_ #[26,26] 26 #[v3,v7]) w8 fun v9 w10 =>
 RUN prog (pan R) (Instr.fieldAt 28 x4 4) w10 fun v11 w12 =>
 RUNU prog (pan R) (Instr.storeAt 26 v11 v9) w12 fun w13 =>
 b16 R C13 x117 w13
abbrev q4 (C13:VP):XP:=QX (fun ρ w=>b16 R C13 (ρ 117) w) (fun ρ w=>LD prog (Instr.loadAt 28 (ρ 2)) w fun r0=>R (.returned (.tuple #[r0,(ρ 3)])) w) [(10,(fun ρ w=>b16 R C13 (ρ 117) w)),(8,(fun ρ w=>b9 R (ρ 0) (ρ 2) (ρ 4) (ρ 7) w))]
theorem b20_ok (R:EP) (C13:VP) (ρ:Env) (w:World) (h:b20 R C13 (ρ 4) (ρ 12) (ρ 117) w):cP8 R (sndC p10) (q4 R C13) ρ w:=cast (by kernel_rfl) h
noncomputable abbrev p11:Code:=dropC 1 (fstC p10)
noncomputable abbrev p12:Code:=loopC (blkC p11)
noncomputable abbrev p13:Code:=dropC 2 p12

def b26 (C13:VP) (C23:VP) (x131:Value) (w:World) (_r:Tok R:=tok R) (_C13:Tok C13:=tok C13) (_C23:Tok C23:=tok C23):Prop :=
 RUN prog (pan R) (bins .add 3 (.tmp 131) (.const (.int .i64 1)) x131 (.int .i64 1)) w fun v1 w2 =>
 C23 v1 w2
abbrev q5 (C13:VP) (C23:VP):XP:=QX (fun ρ w=>C23 (ρ 131) w) (fun ρ w=>LD prog (Instr.loadAt 28 (ρ 2)) w fun r0=>R (.returned (.tuple #[r0,(ρ 3)])) w) [(12,(fun ρ w=>b20 R C13 (ρ 4) (ρ 12) (ρ 117) w)),(10,(fun ρ w=>b16 R C13 (ρ 117) w)),(8,(fun ρ w=>b9 R (ρ 0) (ρ 2) (ρ 4) (ρ 7) w))]
theorem b26_ok (R:EP) (C13:VP) (C23:VP) (ρ:Env) (w:World) (h:b26 R C13 C23 (ρ 131) w):cP8 R (sndC p13) (q5 R C13 C23) ρ w:=cast (by kernel_rfl) h
noncomputable abbrev p14:Code:=blkC (fstC p13)
noncomputable abbrev p15:Code:=dropC 2 p14

def b29 (C13:VP) (C23:VP) (x12 x14 x131:Value) (w:World) (_r:Tok R:=tok R) (_C13:Tok C13:=tok C13) (_C23:Tok C23:=tok C23):Prop :=
 RUN prog (pan R) (Instr.fieldAt 37 x12 1) w fun v1 w2 =>
 RUN prog (pan R) (Instr.loadAt 25 v1) w2 fun v3 w4 =>
 RUN prog (pan R) (Instr.buildSlice 25 1 #[(0,x14)]) w4 fun v5 w6 =>
 RUN prog (pan R) (Builtin.append_ #[25,25] 25 #[v3,v5]) w6 fun v7 w8 =>
 RUN prog (pan R) (Instr.fieldAt 37 x12 1) w8 fun v9 w10 =>
 RUNU prog (pan R) (Instr.storeAt 25 v9 v7) w10 fun w11 =>
 b26 R C13 C23 x131 w11
abbrev q6 (C13:VP) (C23:VP):XP:=QX (fun ρ w=>b26 R C13 C23 (ρ 131) w) (fun ρ w=>LD prog (Instr.loadAt 28 (ρ 2)) w fun r0=>R (.returned (.tuple #[r0,(ρ 3)])) w) [(14,(fun ρ w=>b26 R C13 C23 (ρ 131) w)),(12,(fun ρ w=>b20 R C13 (ρ 4) (ρ 12) (ρ 117) w)),(10,(fun ρ w=>b16 R C13 (ρ 117) w)),(8,(fun ρ w=>b9 R (ρ 0) (ρ 2) (ρ 4) (ρ 7) w))]
theorem b29_ok (R:EP) (C13:VP) (C23:VP) (ρ:Env) (w:World) (h:b29 R C13 C23 (ρ 12) (ρ 14) (ρ 131) w):cP8 R p15 (q6 R C13 C23) ρ w:=cast (by kernel_rfl) h

def b28 (C13:VP) (C23:VP) (x7 x12 x129 x131:Value) (w:World) (_r:Tok R:=tok R) (_C13:Tok C13:=tok C13) (_C23:Tok C23:=tok C23):Prop :=
 RUN prog (pan R) (Instr.indexAt 25 x129 x131) w fun v1 w2 =>
 RUN prog (pan R) (Instr.loadAt 3 v1) w2 fun v3 w4 =>
 RUN prog (pan R) (bins .lss 3 (.tmp 135) (.const (.int .i64 0)) v3 (.int .i64 0)) w4 fun v5 w6 =>
 SPL v5
 (RUN prog (pan R) (Instr.lookup 104 x7 v3 false) w6 fun v7 w8 =>
 b29 R C13 C23 x12 v7 x131 w8)
 (b29 R C13 C23 x12 v3 x131 w6)
abbrev q7 (C13:VP) (C23:VP):XP:=QX (fun ρ w=>b29 R C13 C23 (ρ 12) (ρ 14) (ρ 131) w) (fun ρ w=>LD prog (Instr.loadAt 28 (ρ 2)) w fun r0=>R (.returned (.tuple #[r0,(ρ 3)])) w) [(14,(fun ρ w=>b26 R C13 C23 (ρ 131) w)),(12,(fun ρ w=>b20 R C13 (ρ 4) (ρ 12) (ρ 117) w)),(10,(fun ρ w=>b16 R C13 (ρ 117) w)),(8,(fun ρ w=>b9 R (ρ 0) (ρ 2) (ρ 4) (ρ 7) w))]
theorem b28_eq (R:EP) (C13:VP) (C23:VP) (ρ:Env) (w:World):(b28 R C13 C23 (ρ 7) (ρ 12) (ρ 129) (ρ 131) w)=cP8 R (preC 1 p14) (q7 R C13 C23) ρ w:=by kernel_rfl
theorem b28_ok (R:EP) (C13:VP) (C23:VP) (ρ:Env) (w:World) (h:b28 R C13 C23 (ρ 7) (ρ 12) (ρ 129) (ρ 131) w):cP8 R p14 (q6 R C13 C23) ρ w:=by
 have e:appC 1 (preC 1 p14) (dropC 2 p14)=p14:=by kernel_rfl
 rw [←e]
 exact appQ (fun ρ w=>b29 R C13 C23 (ρ 12) (ρ 14) (ρ 131) w) 1 ((b28_eq R C13 C23 ρ w).mp h) (fun ρ w h=>b29_ok R C13 C23 ρ w h)
abbrev q8 (C13:VP) (C23:VP):XP:=QX (fun ρ w=>b26 R C13 C23 (ρ 131) w) (fun ρ w=>LD prog (Instr.loadAt 28 (ρ 2)) w fun r0=>R (.returned (.tuple #[r0,(ρ 3)])) w) [(12,(fun ρ w=>b20 R C13 (ρ 4) (ρ 12) (ρ 117) w)),(10,(fun ρ w=>b16 R C13 (ρ 117) w)),(8,(fun ρ w=>b9 R (ρ 0) (ρ 2) (ρ 4) (ρ 7) w))]
theorem k27_ok (R:EP) (C13:VP) (C23:VP) (ρ:Env) (w:World) (h:b28 R C13 C23 (ρ 7) (ρ 12) (ρ 129) (ρ 131) w):cP8 R (fstC p13) (q8 R C13 C23) ρ w:=by
 have e:Code.block 7 (blkC (fstC p13))=(fstC p13):=by kernel_rfl
 rw [←e]
 exact blockQ (b28_ok R C13 C23 ρ w h)
theorem k25_ok (R:EP) (C13:VP) (C23:VP) (ρ:Env) (w:World) (h:b28 R C13 C23 (ρ 7) (ρ 12) (ρ 129) (ρ 131) w):cP8 R p13 (q5 R C13 C23) ρ w:=by
 have e:Code.seq (fstC p13) (sndC p13)=p13:=by kernel_rfl
 rw [←e]
 exact seqQ (fun ρ w=>b26 R C13 C23 (ρ 131) w) (k27_ok R C13 C23 ρ w h) (fun ρ w h=>b26_ok R C13 C23 ρ w h)

def b24 (C13:VP) (C23:VP) (x4 x7 x12 x117 x129 x130 x131:Value) (w:World) (_r:Tok R:=tok R) (_C13:Tok C13:=tok C13) (_C23:Tok C23:=tok C23):Prop :=
 RUN prog (pan R) (bins .lss 3 (.tmp 131) (.tmp 130) x131 x130) w fun v1 w2 =>
 SPL v1
 (b28 R C13 C23 x7 x12 x129 x131 w2)
 (b20 R C13 x4 x12 x117 w2)
abbrev q9 (C13:VP) (C23:VP):XP:=QX (fun ρ w=>b28 R C13 C23 (ρ 7) (ρ 12) (ρ 129) (ρ 131) w) (fun ρ w=>LD prog (Instr.loadAt 28 (ρ 2)) w fun r0=>R (.returned (.tuple #[r0,(ρ 3)])) w) [(12,(fun ρ w=>b20 R C13 (ρ 4) (ρ 12) (ρ 117) w)),(10,(fun ρ w=>b16 R C13 (ρ 117) w)),(8,(fun ρ w=>b9 R (ρ 0) (ρ 2) (ρ 4) (ρ 7) w))]
theorem b24_eq (R:EP) (C13:VP) (C23:VP) (ρ:Env) (w:World):(b24 R C13 C23 (ρ 4) (ρ 7) (ρ 12) (ρ 117) (ρ 129) (ρ 130) (ρ 131) w)=cP8 R (preC 1 p12) (q9 R C13 C23) ρ w:=by kernel_rfl
theorem b24_ok (R:EP) (C13:VP) (C23:VP) (ρ:Env) (w:World) (h:b24 R C13 C23 (ρ 4) (ρ 7) (ρ 12) (ρ 117) (ρ 129) (ρ 130) (ρ 131) w):cP8 R p12 (q5 R C13 C23) ρ w:=by
 have e:appC 1 (preC 1 p12) (dropC 2 p12)=p12:=by kernel_rfl
 rw [←e]
 exact appQ (fun ρ w=>b28 R C13 C23 (ρ 7) (ρ 12) (ρ 129) (ρ 131) w) 1 ((b24_eq R C13 C23 ρ w).mp h) (fun ρ w h=>k25_ok R C13 C23 ρ w h)

def l23 (C13:VP) (x4 x7 x12 x117 x129 x130 x131:Value) (w:World) (_r:Tok R:=tok R) (_C13:Tok C13:=tok C13):Prop :=
 ∃(J:VP) (μ:Value→World→Nat),J x131 w∧∀y131 w0,J y131 w0→b24 R C13 (fun z131 w1=>J z131 w1∧μ z131 w1<μ y131 w0) x4 x7 x12 x117 x129 x130 y131 w0
abbrev q10 (C13:VP):XP:=QX (fun ρ w=>b20 R C13 (ρ 4) (ρ 12) (ρ 117) w) (fun ρ w=>LD prog (Instr.loadAt 28 (ρ 2)) w fun r0=>R (.returned (.tuple #[r0,(ρ 3)])) w) [(12,(fun ρ w=>b20 R C13 (ρ 4) (ρ 12) (ρ 117) w)),(10,(fun ρ w=>b16 R C13 (ρ 117) w)),(8,(fun ρ w=>b9 R (ρ 0) (ρ 2) (ρ 4) (ρ 7) w))]
theorem l23_ok (R:EP) (C13:VP) (ρ:Env) (w:World) (h:l23 R C13 (ρ 4) (ρ 7) (ρ 12) (ρ 117) (ρ 129) (ρ 130) (ρ 131) w):cP8 R (blkC p11) (q10 R C13) ρ w:=by
 unfold l23 at h
 obtain ⟨J,μ,h0,hr⟩:=h
 have e:Code.loop (loopC (blkC p11))=(blkC p11):=by kernel_rfl
 rw [←e]
 refine loopQ (fun ρ' w'=>J (ρ' 131) w') (fun ρ' w'=>μ (ρ' 131) w') h0 fun ρ' w' hA hI=>?_
 have e4:ρ' 4=ρ 4:=Agree.at hA 4 (by kernel_rfl)
 have e7:ρ' 7=ρ 7:=Agree.at hA 7 (by kernel_rfl)
 have e12:ρ' 12=ρ 12:=Agree.at hA 12 (by kernel_rfl)
 have e117:ρ' 117=ρ 117:=Agree.at hA 117 (by kernel_rfl)
 have e129:ρ' 129=ρ 129:=Agree.at hA 129 (by kernel_rfl)
 have e130:ρ' 130=ρ 130:=Agree.at hA 130 (by kernel_rfl)
 have h1:=hr (ρ' 131) w' hI
 rw [←e4,←e7,←e12,←e117,←e129,←e130] at h1
 exact b24_ok R C13 (fun z131 w1=>J z131 w1∧μ z131 w1<μ (ρ' 131) w') ρ' w' h1
theorem l23_intro (R:EP) (C13:VP) (x4 x7 x12 x117 x129 x130 x131:Value) (w:World) (J:VP) (μ:Value→World→Nat) (h0:J x131 w)
  (hr:∀y131 w0,J y131 w0→∀C23:VP,(∀z131 w1,J z131 w1→μ z131 w1<μ y131 w0→C23 z131 w1)→b24 R C13 C23 x4 x7 x12 x117 x129 x130 y131 w0):l23 R C13 x4 x7 x12 x117 x129 x130 x131 w:=by
 unfold l23
 exact ⟨J,μ,h0,fun y131 w0 hJ=>hr y131 w0 hJ _ (fun z131 w1 h1 h2=>⟨h1,h2⟩)⟩
abbrev q11 (C13:VP):XP:=QX (fun ρ w=>b20 R C13 (ρ 4) (ρ 12) (ρ 117) w) (fun ρ w=>LD prog (Instr.loadAt 28 (ρ 2)) w fun r0=>R (.returned (.tuple #[r0,(ρ 3)])) w) [(10,(fun ρ w=>b16 R C13 (ρ 117) w)),(8,(fun ρ w=>b9 R (ρ 0) (ρ 2) (ρ 4) (ρ 7) w))]
theorem k22_ok (R:EP) (C13:VP) (ρ:Env) (w:World) (h:l23 R C13 (ρ 4) (ρ 7) (ρ 12) (ρ 117) (ρ 129) (ρ 130) (ρ 131) w):cP8 R p11 (q11 R C13) ρ w:=by
 have e:Code.block 6 (blkC p11)=p11:=by kernel_rfl
 rw [←e]
 exact blockQ (l23_ok R C13 ρ w h)

def b21 (C13:VP) (x4 x7 x11 x12 x117:Value) (w:World) (_r:Tok R:=tok R) (_C13:Tok C13:=tok C13):Prop :=
 RUN prog (pan R) (Instr.fieldAt 118 x11 1) w fun v1 w2 =>
 RUN prog (pan R) (Instr.loadAt 25 v1) w2 fun v3 w4 =>
 RUN prog (pan R) (Builtin.len_ #[25] 3 #[v3]) w4 fun v5 w6 =>
 l23 R C13 x4 x7 x12 x117 v3 v5 (.int .i64 0) w6
abbrev q12 (C13:VP):XP:=QX (fun ρ w=>l23 R C13 (ρ 4) (ρ 7) (ρ 12) (ρ 117) (ρ 129) (ρ 130) (ρ 131) w) (fun ρ w=>LD prog (Instr.loadAt 28 (ρ 2)) w fun r0=>R (.returned (.tuple #[r0,(ρ 3)])) w) [(10,(fun ρ w=>b16 R C13 (ρ 117) w)),(8,(fun ρ w=>b9 R (ρ 0) (ρ 2) (ρ 4) (ρ 7) w))]
theorem b21_eq (R:EP) (C13:VP) (ρ:Env) (w:World):(b21 R C13 (ρ 4) (ρ 7) (ρ 11) (ρ 12) (ρ 117) w)=cP8 R (preC 0 (fstC p10)) (q12 R C13) ρ w:=by kernel_rfl
theorem b21_ok (R:EP) (C13:VP) (ρ:Env) (w:World) (h:b21 R C13 (ρ 4) (ρ 7) (ρ 11) (ρ 12) (ρ 117) w):cP8 R (fstC p10) (q11 R C13) ρ w:=by
 have e:appC 0 (preC 0 (fstC p10)) (dropC 1 (fstC p10))=(fstC p10):=by kernel_rfl
 rw [←e]
 exact appQ (fun ρ w=>l23 R C13 (ρ 4) (ρ 7) (ρ 12) (ρ 117) (ρ 129) (ρ 130) (ρ 131) w) 0 ((b21_eq R C13 ρ w).mp h) (fun ρ w h=>k22_ok R C13 ρ w h)
theorem k19_ok (R:EP) (C13:VP) (ρ:Env) (w:World) (h:b21 R C13 (ρ 4) (ρ 7) (ρ 11) (ρ 12) (ρ 117) w):cP8 R p10 (q4 R C13) ρ w:=by
 have e:Code.seq (fstC p10) (sndC p10)=p10:=by kernel_rfl
 rw [←e]
 exact seqQ (fun ρ w=>b20 R C13 (ρ 4) (ρ 12) (ρ 117) w) (b21_ok R C13 ρ w h) (fun ρ w h=>b20_ok R C13 ρ w h)

def b18 (C13:VP) (x4 x7 x115 x117:Value) (w:World) (_r:Tok R:=tok R) (_C13:Tok C13:=tok C13):Prop :=
 RUN prog (pan R) (Instr.indexAt 101 x115 x117) w fun v1 w2 =>
 RUN prog (pan R) (Instr.loadAt 118 v1) w2 fun v3 w4 =>
 RUN prog (pan R) (Instr.alloc 118 true (.tuple #[])) w4 fun v5 w6 =>
 RUNU prog (pan R) (Instr.storeAt 118 v5 v3) w6 fun w7 =>
 RUN prog (pan R) (Instr.fieldAt 118 v5 0) w7 fun v8 w9 =>
 RUN prog (pan R) (Instr.loadAt 3 v8) w9 fun v10 w11 =>
 RUN prog (pan R) (Instr.lookup 104 x7 v10 false) w11 fun v12 w13 =>
 RUN prog (pan R) (Instr.fieldAt 118 v5 2) w13 fun v14 w15 =>
 RUN prog (pan R) (Instr.loadAt 3 v14) w15 fun v16 w17 =>
 RUN prog (pan R) (Instr.build 37 #[(0,v12),(2,v16)]) w17 fun v18 w19 =>
 RUN prog (pan R) (Instr.alloc 37 true (.tuple #[])) w19 fun v20 w21 =>
 RUNU prog (pan R) (Instr.storeAt 37 v20 v18) w21 fun w22 =>
 b21 R C13 x4 x7 v5 v20 x117 w22
abbrev q13 (C13:VP):XP:=QX (fun ρ w=>b21 R C13 (ρ 4) (ρ 7) (ρ 11) (ρ 12) (ρ 117) w) (fun ρ w=>LD prog (Instr.loadAt 28 (ρ 2)) w fun r0=>R (.returned (.tuple #[r0,(ρ 3)])) w) [(10,(fun ρ w=>b16 R C13 (ρ 117) w)),(8,(fun ρ w=>b9 R (ρ 0) (ρ 2) (ρ 4) (ρ 7) w))]
theorem b18_eq (R:EP) (C13:VP) (ρ:Env) (w:World):(b18 R C13 (ρ 4) (ρ 7) (ρ 115) (ρ 117) w)=cP8 R (preC 1 p9) (q13 R C13) ρ w:=by kernel_rfl
theorem b18_ok (R:EP) (C13:VP) (ρ:Env) (w:World) (h:b18 R C13 (ρ 4) (ρ 7) (ρ 115) (ρ 117) w):cP8 R p9 (q4 R C13) ρ w:=by
 have e:appC 1 (preC 1 p9) (dropC 2 p9)=p9:=by kernel_rfl
 rw [←e]
 exact appQ (fun ρ w=>b21 R C13 (ρ 4) (ρ 7) (ρ 11) (ρ 12) (ρ 117) w) 1 ((b18_eq R C13 ρ w).mp h) (fun ρ w h=>k19_ok R C13 ρ w h)
abbrev q14 (C13:VP):XP:=QX (fun ρ w=>b16 R C13 (ρ 117) w) (fun ρ w=>LD prog (Instr.loadAt 28 (ρ 2)) w fun r0=>R (.returned (.tuple #[r0,(ρ 3)])) w) [(8,(fun ρ w=>b9 R (ρ 0) (ρ 2) (ρ 4) (ρ 7) w))]
theorem k17_ok (R:EP) (C13:VP) (ρ:Env) (w:World) (h:b18 R C13 (ρ 4) (ρ 7) (ρ 115) (ρ 117) w):cP8 R (fstC p8) (q14 R C13) ρ w:=by
 have e:Code.block 5 (blkC (fstC p8))=(fstC p8):=by kernel_rfl
 rw [←e]
 exact blockQ (b18_ok R C13 ρ w h)
theorem k15_ok (R:EP) (C13:VP) (ρ:Env) (w:World) (h:b18 R C13 (ρ 4) (ρ 7) (ρ 115) (ρ 117) w):cP8 R p8 (q3 R C13) ρ w:=by
 have e:Code.seq (fstC p8) (sndC p8)=p8:=by kernel_rfl
 rw [←e]
 exact seqQ (fun ρ w=>b16 R C13 (ρ 117) w) (k17_ok R C13 ρ w h) (fun ρ w h=>b16_ok R C13 ρ w h)

def b14 (C13:VP) (x0 x2 x4 x7 x115 x116 x117:Value) (w:World) (_r:Tok R:=tok R) (_C13:Tok C13:=tok C13):Prop :=
 RUN prog (pan R) (bins .lss 3 (.tmp 117) (.tmp 116) x117 x116) w fun v1 w2 =>
 SPL v1
 (b18 R C13 x4 x7 x115 x117 w2)
 (b9 R x0 x2 x4 x7 w2)
abbrev q15 (C13:VP):XP:=QX (fun ρ w=>b18 R C13 (ρ 4) (ρ 7) (ρ 115) (ρ 117) w) (fun ρ w=>LD prog (Instr.loadAt 28 (ρ 2)) w fun r0=>R (.returned (.tuple #[r0,(ρ 3)])) w) [(8,(fun ρ w=>b9 R (ρ 0) (ρ 2) (ρ 4) (ρ 7) w))]
theorem b14_eq (R:EP) (C13:VP) (ρ:Env) (w:World):(b14 R C13 (ρ 0) (ρ 2) (ρ 4) (ρ 7) (ρ 115) (ρ 116) (ρ 117) w)=cP8 R (preC 1 p7) (q15 R C13) ρ w:=by kernel_rfl
theorem b14_ok (R:EP) (C13:VP) (ρ:Env) (w:World) (h:b14 R C13 (ρ 0) (ρ 2) (ρ 4) (ρ 7) (ρ 115) (ρ 116) (ρ 117) w):cP8 R p7 (q3 R C13) ρ w:=by
 have e:appC 1 (preC 1 p7) (dropC 2 p7)=p7:=by kernel_rfl
 rw [←e]
 exact appQ (fun ρ w=>b18 R C13 (ρ 4) (ρ 7) (ρ 115) (ρ 117) w) 1 ((b14_eq R C13 ρ w).mp h) (fun ρ w h=>k15_ok R C13 ρ w h)

def l13 (x0 x2 x4 x7 x115 x116 x117:Value) (w:World) (_r:Tok R:=tok R):Prop :=
 ∃(J:VP) (μ:Value→World→Nat),J x117 w∧∀y117 w0,J y117 w0→b14 R (fun z117 w1=>J z117 w1∧μ z117 w1<μ y117 w0) x0 x2 x4 x7 x115 x116 y117 w0
abbrev q16:XP:=QX (fun ρ w=>b9 R (ρ 0) (ρ 2) (ρ 4) (ρ 7) w) (fun ρ w=>LD prog (Instr.loadAt 28 (ρ 2)) w fun r0=>R (.returned (.tuple #[r0,(ρ 3)])) w) [(8,(fun ρ w=>b9 R (ρ 0) (ρ 2) (ρ 4) (ρ 7) w))]
theorem l13_ok (h:l13 R (ρ 0) (ρ 2) (ρ 4) (ρ 7) (ρ 115) (ρ 116) (ρ 117) w):cP8 R (blkC p6) (q16 R) ρ w:=by
 unfold l13 at h
 obtain ⟨J,μ,h0,hr⟩:=h
 have e:Code.loop (loopC (blkC p6))=(blkC p6):=by kernel_rfl
 rw [←e]
 refine loopQ (fun ρ' w'=>J (ρ' 117) w') (fun ρ' w'=>μ (ρ' 117) w') h0 fun ρ' w' hA hI=>?_
 have e0:ρ' 0=ρ 0:=Agree.at hA 0 (by kernel_rfl)
 have e2:ρ' 2=ρ 2:=Agree.at hA 2 (by kernel_rfl)
 have e4:ρ' 4=ρ 4:=Agree.at hA 4 (by kernel_rfl)
 have e7:ρ' 7=ρ 7:=Agree.at hA 7 (by kernel_rfl)
 have e115:ρ' 115=ρ 115:=Agree.at hA 115 (by kernel_rfl)
 have e116:ρ' 116=ρ 116:=Agree.at hA 116 (by kernel_rfl)
 have h1:=hr (ρ' 117) w' hI
 rw [←e0,←e2,←e4,←e7,←e115,←e116] at h1
 exact b14_ok R (fun z117 w1=>J z117 w1∧μ z117 w1<μ (ρ' 117) w') ρ' w' h1
theorem l13_intro (R:EP) (x0 x2 x4 x7 x115 x116 x117:Value) (w:World) (J:VP) (μ:Value→World→Nat) (h0:J x117 w)
  (hr:∀y117 w0,J y117 w0→∀C13:VP,(∀z117 w1,J z117 w1→μ z117 w1<μ y117 w0→C13 z117 w1)→b14 R C13 x0 x2 x4 x7 x115 x116 y117 w0):l13 R x0 x2 x4 x7 x115 x116 x117 w:=by
 unfold l13
 exact ⟨J,μ,h0,fun y117 w0 hJ=>hr y117 w0 hJ _ (fun z117 w1 h1 h2=>⟨h1,h2⟩)⟩
abbrev q17:XP:=QX (fun ρ w=>b9 R (ρ 0) (ρ 2) (ρ 4) (ρ 7) w) (fun ρ w=>LD prog (Instr.loadAt 28 (ρ 2)) w fun r0=>R (.returned (.tuple #[r0,(ρ 3)])) w) []
theorem k12_ok (h:l13 R (ρ 0) (ρ 2) (ρ 4) (ρ 7) (ρ 115) (ρ 116) (ρ 117) w):cP8 R p6 (q17 R) ρ w:=by
 have e:Code.block 4 (blkC p6)=p6:=by kernel_rfl
 rw [←e]
 exact blockQ (l13_ok R ρ w h)

def b11 (x0 x2 x4 x7:Value) (w:World) (_r:Tok R:=tok R):Prop :=
 NILC x0 fun v1 =>
 RUN prog (pan R) (Instr.fieldAt 103 v1 4) w fun v2 w3 =>
 RUN prog (pan R) (Instr.loadAt 101 v2) w3 fun v4 w5 =>
 RUN prog (pan R) (Builtin.len_ #[101] 3 #[v4]) w5 fun v6 w7 =>
 l13 R x0 x2 x4 x7 v4 v6 (.int .i64 0) w7
abbrev q18:XP:=QX (fun ρ w=>l13 R (ρ 0) (ρ 2) (ρ 4) (ρ 7) (ρ 115) (ρ 116) (ρ 117) w) (fun ρ w=>LD prog (Instr.loadAt 28 (ρ 2)) w fun r0=>R (.returned (.tuple #[r0,(ρ 3)])) w) []
theorem b11_eq:(b11 R (ρ 0) (ρ 2) (ρ 4) (ρ 7) w)=cP8 R (preC 0 (fstC p4)) (q18 R) ρ w:=by kernel_rfl
theorem b11_ok (h:b11 R (ρ 0) (ρ 2) (ρ 4) (ρ 7) w):cP8 R (fstC p4) (q17 R) ρ w:=by
 have e:appC 0 (preC 0 (fstC p4)) (dropC 1 (fstC p4))=(fstC p4):=by kernel_rfl
 rw [←e]
 exact appQ (fun ρ w=>l13 R (ρ 0) (ρ 2) (ρ 4) (ρ 7) (ρ 115) (ρ 116) (ρ 117) w) 0 ((b11_eq R ρ w).mp h) (fun ρ w h=>k12_ok R ρ w h)
theorem k8_ok (h:b11 R (ρ 0) (ρ 2) (ρ 4) (ρ 7) w):cP8 R p4 (q1 R) ρ w:=by
 have e:Code.seq (fstC p4) (sndC p4)=p4:=by kernel_rfl
 rw [←e]
 exact seqQ (fun ρ w=>b9 R (ρ 0) (ρ 2) (ρ 4) (ρ 7) w) (b11_ok R ρ w h) (fun ρ w h=>b9_ok R ρ w h)
def b7_1 (x2:Value) (w8:World) (_r:Tok R:=tok R):Prop :=
 RUN prog (pan R) (Instr.build 28 #[]) w8 fun v10 w11 =>
 RUNU prog (pan R) (Instr.storeAt 28 x2 v10) w11 fun w12 =>
 LD prog (Instr.loadAt 28 x2) w12 fun r0=>R (.returned (.tuple #[r0,(.int .i64 1)])) w12

def b7 (x0 x2 x4 x7:Value) (w:World) (_r:Tok R:=tok R):Prop :=
 PUR prog (Instr.fieldAt 28 x4 1) fun v1 =>
 LD prog (Instr.loadAt 24 v1) (World.drew w) fun v2 =>
 LD prog (Builtin.len_ #[24] 3 #[v2]) (World.drew w) fun v3 =>
 NILC x0 fun v4 =>
 PUR prog (Instr.fieldAt 103 v4 1) fun v5 =>
 PUR prog (Instr.fieldAt 100 v5 0) fun v6 =>
 CALL prog (pan R) gram_names_size.id #[v6] (World.drew w) fun v7 w8 =>
 Sem.run prog (Builtin.len_ #[24] 3 #[v2]) w8 = .ok v3 w8∧(Sem.run prog (Instr.loadAt 24 v1) w8 = .ok v2 w8∧(PUR prog (bins .lss 3 (.tmp 104) (.tmp 109) v3 v7) fun v9 =>
 SPL v9
 (b7_1 R x2 w8)
 (b11 R x0 x2 x4 x7 w8)))
abbrev q19:XP:=QX (fun ρ w=>b11 R (ρ 0) (ρ 2) (ρ 4) (ρ 7) w) (fun ρ w=>LD prog (Instr.loadAt 28 (ρ 2)) w fun r0=>R (.returned (.tuple #[r0,(ρ 3)])) w) []
theorem b7_eq:(b7 R (ρ 0) (ρ 2) (ρ 4) (ρ 7) w)=cP8 R (preC 0 (sndC p3)) (q19 R) ρ w:=by kernel_rfl
theorem b7_ok (h:b7 R (ρ 0) (ρ 2) (ρ 4) (ρ 7) w):cP8 R (sndC p3) (q1 R) ρ w:=by
 have e:appC 0 (preC 0 (sndC p3)) (dropC 1 (sndC p3))=(sndC p3):=by kernel_rfl
 rw [←e]
 exact appQ (fun ρ w=>b11 R (ρ 0) (ρ 2) (ρ 4) (ρ 7) w) 0 ((b7_eq R ρ w).mp h) (fun ρ w h=>k8_ok R ρ w h)
noncomputable abbrev p16:Code:=dropC 1 (fstC p3)
noncomputable abbrev p17:Code:=loopC (blkC p16)
noncomputable abbrev p18:Code:=dropC 3 p17

def b34 (C32:VP) (x66:Value) (w:World) (_r:Tok R:=tok R) (_C32:Tok C32:=tok C32):Prop :=
 RUN prog (pan R) (bins .add 3 (.tmp 66) (.const (.int .i64 1)) x66 (.int .i64 1)) w fun v1 w2 =>
 C32 v1 w2
abbrev q20 (C32:VP):XP:=QX (fun ρ w=>C32 (ρ 66) w) (fun ρ w=>LD prog (Instr.loadAt 28 (ρ 2)) w fun r0=>R (.returned (.tuple #[r0,(ρ 3)])) w) [(4,(fun ρ w=>b7 R (ρ 0) (ρ 2) (ρ 4) (ρ 7) w))]
theorem b34_ok (R:EP) (C32:VP) (ρ:Env) (w:World) (h:b34 R C32 (ρ 66) w):cP8 R p18 (q20 R C32) ρ w:=cast (by kernel_rfl) h
def b33_1 (C32:VP) (x0 x4 x7 x66 v7:Value) (w17:World) (_r:Tok R:=tok R) (_C32:Tok C32:=tok C32):Prop :=
 RUN prog (pan R) (Instr.fieldAt 118 v7 0) w17 fun v18 w19 =>
 RUN prog (pan R) (Instr.loadAt 3 v18) w19 fun v20 w21 =>
 RUN prog (pan R) (Instr.fieldAt 28 x4 0) w21 fun v22 w23 =>
 RUN prog (pan R) (Instr.loadAt 23 v22) w23 fun v24 w25 =>
 RUN prog (pan R) (Builtin.len_ #[23] 3 #[v24]) w25 fun v26 w27 =>
 RUN prog (pan R) (Instr.fieldAt 28 x4 1) w27 fun v28 w29 =>
 RUN prog (pan R) (Instr.loadAt 24 v28) w29 fun v30 w31 =>
 RUN prog (pan R) (Builtin.len_ #[24] 3 #[v30]) w31 fun v32 w33 =>
 RUN prog (pan R) (bins .add 3 (.tmp 80) (.tmp 83) v26 v32) w33 fun v34 w35 =>
 RUNU prog (pan R) (Instr.mapUpdate 104 x7 v20 v34) w35 fun w36 =>
 PUR prog (Instr.fieldAt 28 x4 1) fun v37 =>
 LD prog (Instr.loadAt 24 v37) (World.drew w36) fun v38 =>
 NILC x0 fun v39 =>
 PUR prog (Instr.fieldAt 103 v39 1) fun v40 =>
 PUR prog (Instr.fieldAt 100 v40 0) fun v41 =>
 PUR prog (Instr.fieldAt 98 v41 0) fun v42 =>
 LD prog (Instr.loadAt 24 v42) (World.drew w36) fun v43 =>
 PUR prog (Instr.fieldAt 118 v7 0) fun v44 =>
 LD prog (Instr.loadAt 3 v44) (World.drew w36) fun v45 =>
 PUR prog (bins .sub 3 (.const (.int .i64 (-1))) (.tmp 94) (.int .i64 (-1)) v45) fun v46 =>
 PUR prog (Instr.indexAt 24 v43 v46) fun v47 =>
 LD prog (Instr.loadAt 9 v47) (World.drew w36) fun v48 =>
 RUN prog (pan R) (Instr.buildSlice 24 1 #[(0,v48)]) (World.drew w36) fun v49 w50 =>
 Sem.run prog (Instr.loadAt 24 v37) w50 = .ok v38 w50∧(RUN prog (pan R) (Builtin.append_ #[24,24] 24 #[v38,v49]) w50 fun v51 w52 =>
 PUR prog (Instr.fieldAt 28 x4 1) fun v53 =>
 RUNU prog (pan R) (Instr.storeAt 24 v53 v51) w52 fun w54 =>
 b34 R C32 x66 w54)
def b33_2 (C32:VP) (x0 x4 x7 x64 x66:Value) (w2:World) (_r:Tok R:=tok R) (_C32:Tok C32:=tok C32):Prop :=
 RUN prog (pan R) (Instr.indexAt 101 x64 x66) w2 fun v3 w4 =>
 RUN prog (pan R) (Instr.loadAt 118 v3) w4 fun v5 w6 =>
 RUN prog (pan R) (Instr.alloc 118 true (.tuple #[])) w6 fun v7 w8 =>
 RUNU prog (pan R) (Instr.storeAt 118 v7 v5) w8 fun w9 =>
 RUN prog (pan R) (Instr.fieldAt 118 v7 0) w9 fun v10 w11 =>
 RUN prog (pan R) (Instr.loadAt 3 v10) w11 fun v12 w13 =>
 RUN prog (pan R) (Instr.lookup 104 x7 v12 false) w13 fun v14 w15 =>
 RUN prog (pan R) (bins .eql 3 (.tmp 73) (.const (.int .i64 0)) v14 (.int .i64 0)) w15 fun v16 w17 =>
 SPL v16
 (b33_1 R C32 x0 x4 x7 x66 v7 w17)
 (b34 R C32 x66 w17)

def b33 (C32:VP) (x0 x2 x4 x7 x64 x65 x66:Value) (w:World) (_r:Tok R:=tok R) (_C32:Tok C32:=tok C32):Prop :=
 RUN prog (pan R) (bins .lss 3 (.tmp 66) (.tmp 65) x66 x65) w fun v1 w2 =>
 SPL v1
 (b33_2 R C32 x0 x4 x7 x64 x66 w2)
 (b7 R x0 x2 x4 x7 w2)
abbrev q21 (C32:VP):XP:=QX (fun ρ w=>b34 R C32 (ρ 66) w) (fun ρ w=>LD prog (Instr.loadAt 28 (ρ 2)) w fun r0=>R (.returned (.tuple #[r0,(ρ 3)])) w) [(4,(fun ρ w=>b7 R (ρ 0) (ρ 2) (ρ 4) (ρ 7) w))]
theorem b33_eq (R:EP) (C32:VP) (ρ:Env) (w:World):(b33 R C32 (ρ 0) (ρ 2) (ρ 4) (ρ 7) (ρ 64) (ρ 65) (ρ 66) w)=cP8 R (preC 2 p17) (q21 R C32) ρ w:=by kernel_rfl
theorem b33_ok (R:EP) (C32:VP) (ρ:Env) (w:World) (h:b33 R C32 (ρ 0) (ρ 2) (ρ 4) (ρ 7) (ρ 64) (ρ 65) (ρ 66) w):cP8 R p17 (q20 R C32) ρ w:=by
 have e:appC 2 (preC 2 p17) (dropC 3 p17)=p17:=by kernel_rfl
 rw [←e]
 exact appQ (fun ρ w=>b34 R C32 (ρ 66) w) 2 ((b33_eq R C32 ρ w).mp h) (fun ρ w h=>b34_ok R C32 ρ w h)

def l32 (x0 x2 x4 x7 x64 x65 x66:Value) (w:World) (_r:Tok R:=tok R):Prop :=
 ∃(J:VP) (μ:Value→World→Nat),J x66 w∧∀y66 w0,J y66 w0→b33 R (fun z66 w1=>J z66 w1∧μ z66 w1<μ y66 w0) x0 x2 x4 x7 x64 x65 y66 w0
abbrev q22:XP:=QX (fun ρ w=>b7 R (ρ 0) (ρ 2) (ρ 4) (ρ 7) w) (fun ρ w=>LD prog (Instr.loadAt 28 (ρ 2)) w fun r0=>R (.returned (.tuple #[r0,(ρ 3)])) w) [(4,(fun ρ w=>b7 R (ρ 0) (ρ 2) (ρ 4) (ρ 7) w))]
theorem l32_ok (h:l32 R (ρ 0) (ρ 2) (ρ 4) (ρ 7) (ρ 64) (ρ 65) (ρ 66) w):cP8 R (blkC p16) (q22 R) ρ w:=by
 unfold l32 at h
 obtain ⟨J,μ,h0,hr⟩:=h
 have e:Code.loop (loopC (blkC p16))=(blkC p16):=by kernel_rfl
 rw [←e]
 refine loopQ (fun ρ' w'=>J (ρ' 66) w') (fun ρ' w'=>μ (ρ' 66) w') h0 fun ρ' w' hA hI=>?_
 have e0:ρ' 0=ρ 0:=Agree.at hA 0 (by kernel_rfl)
 have e2:ρ' 2=ρ 2:=Agree.at hA 2 (by kernel_rfl)
 have e4:ρ' 4=ρ 4:=Agree.at hA 4 (by kernel_rfl)
 have e7:ρ' 7=ρ 7:=Agree.at hA 7 (by kernel_rfl)
 have e64:ρ' 64=ρ 64:=Agree.at hA 64 (by kernel_rfl)
 have e65:ρ' 65=ρ 65:=Agree.at hA 65 (by kernel_rfl)
 have h1:=hr (ρ' 66) w' hI
 rw [←e0,←e2,←e4,←e7,←e64,←e65] at h1
 exact b33_ok R (fun z66 w1=>J z66 w1∧μ z66 w1<μ (ρ' 66) w') ρ' w' h1
theorem l32_intro (R:EP) (x0 x2 x4 x7 x64 x65 x66:Value) (w:World) (J:VP) (μ:Value→World→Nat) (h0:J x66 w)
  (hr:∀y66 w0,J y66 w0→∀C32:VP,(∀z66 w1,J z66 w1→μ z66 w1<μ y66 w0→C32 z66 w1)→b33 R C32 x0 x2 x4 x7 x64 x65 y66 w0):l32 R x0 x2 x4 x7 x64 x65 x66 w:=by
 unfold l32
 exact ⟨J,μ,h0,fun y66 w0 hJ=>hr y66 w0 hJ _ (fun z66 w1 h1 h2=>⟨h1,h2⟩)⟩
abbrev q23:XP:=QX (fun ρ w=>b7 R (ρ 0) (ρ 2) (ρ 4) (ρ 7) w) (fun ρ w=>LD prog (Instr.loadAt 28 (ρ 2)) w fun r0=>R (.returned (.tuple #[r0,(ρ 3)])) w) []
theorem k31_ok (h:l32 R (ρ 0) (ρ 2) (ρ 4) (ρ 7) (ρ 64) (ρ 65) (ρ 66) w):cP8 R p16 (q23 R) ρ w:=by
 have e:Code.block 2 (blkC p16)=p16:=by kernel_rfl
 rw [←e]
 exact blockQ (l32_ok R ρ w h)

def b30 (x0 x2 x4 x7:Value) (w:World) (_r:Tok R:=tok R):Prop :=
 NILC x0 fun v1 =>
 RUN prog (pan R) (Instr.fieldAt 103 v1 4) w fun v2 w3 =>
 RUN prog (pan R) (Instr.loadAt 101 v2) w3 fun v4 w5 =>
 RUN prog (pan R) (Builtin.len_ #[101] 3 #[v4]) w5 fun v6 w7 =>
 l32 R x0 x2 x4 x7 v4 v6 (.int .i64 0) w7
abbrev q24:XP:=QX (fun ρ w=>l32 R (ρ 0) (ρ 2) (ρ 4) (ρ 7) (ρ 64) (ρ 65) (ρ 66) w) (fun ρ w=>LD prog (Instr.loadAt 28 (ρ 2)) w fun r0=>R (.returned (.tuple #[r0,(ρ 3)])) w) []
theorem b30_eq:(b30 R (ρ 0) (ρ 2) (ρ 4) (ρ 7) w)=cP8 R (preC 0 (fstC p3)) (q24 R) ρ w:=by kernel_rfl
theorem b30_ok (h:b30 R (ρ 0) (ρ 2) (ρ 4) (ρ 7) w):cP8 R (fstC p3) (q23 R) ρ w:=by
 have e:appC 0 (preC 0 (fstC p3)) (dropC 1 (fstC p3))=(fstC p3):=by kernel_rfl
 rw [←e]
 exact appQ (fun ρ w=>l32 R (ρ 0) (ρ 2) (ρ 4) (ρ 7) (ρ 64) (ρ 65) (ρ 66) w) 0 ((b30_eq R ρ w).mp h) (fun ρ w h=>k31_ok R ρ w h)
theorem k6_ok (h:b30 R (ρ 0) (ρ 2) (ρ 4) (ρ 7) w):cP8 R p3 (q1 R) ρ w:=by
 have e:Code.seq (fstC p3) (sndC p3)=p3:=by kernel_rfl
 rw [←e]
 exact seqQ (fun ρ w=>b7 R (ρ 0) (ρ 2) (ρ 4) (ρ 7) w) (b30_ok R ρ w h) (fun ρ w h=>b7_ok R ρ w h)

def b5 (x0 x2 x4:Value) (w:World) (_r:Tok R:=tok R):Prop :=
 RUN prog (pan R) (Instr.makeMap 104 none) w fun v1 w2 =>
 b30 R x0 x2 x4 v1 w2
abbrev q25:XP:=QX (fun ρ w=>b30 R (ρ 0) (ρ 2) (ρ 4) (ρ 7) w) (fun ρ w=>LD prog (Instr.loadAt 28 (ρ 2)) w fun r0=>R (.returned (.tuple #[r0,(ρ 3)])) w) []
theorem b5_eq:(b5 R (ρ 0) (ρ 2) (ρ 4) w)=cP8 R (preC 0 (sndC p2)) (q25 R) ρ w:=by kernel_rfl
theorem b5_ok (h:b5 R (ρ 0) (ρ 2) (ρ 4) w):cP8 R (sndC p2) (q1 R) ρ w:=by
 have e:appC 0 (preC 0 (sndC p2)) (dropC 1 (sndC p2))=(sndC p2):=by kernel_rfl
 rw [←e]
 exact appQ (fun ρ w=>b30 R (ρ 0) (ρ 2) (ρ 4) (ρ 7) w) 0 ((b5_eq R ρ w).mp h) (fun ρ w h=>k6_ok R ρ w h)
noncomputable abbrev p19:Code:=dropC 1 (fstC p2)
noncomputable abbrev p20:Code:=loopC (blkC p19)
def b38_1 (C37:VP) (x0 x4 x38 x40:Value) (w2:World) (_r:Tok R:=tok R) (_C37:Tok C37:=tok C37):Prop :=
 RUN prog (pan R) (Instr.indexAt 24 x38 x40) w2 fun v3 w4 =>
 RUN prog (pan R) (Instr.loadAt 9 v3) w4 fun v5 w6 =>
 PUR prog (Instr.fieldAt 28 x4 0) fun v7 =>
 LD prog (Instr.loadAt 23 v7) (World.drew w6) fun v8 =>
 NILC x0 fun v9 =>
 PUR prog (Instr.fieldAt 103 v9 2) fun v10 =>
 LD prog (Instr.loadAt 25 v10) (World.drew w6) fun v11 =>
 PUR prog (Instr.indexAt 25 v11 x40) fun v12 =>
 LD prog (Instr.loadAt 3 v12) (World.drew w6) fun v13 =>
 PUR prog (Instr.build 39 #[(0,v5),(1,v13)]) fun v14 =>
 RUN prog (pan R) (Instr.buildSlice 23 1 #[(0,v14)]) (World.drew w6) fun v15 w16 =>
 Sem.run prog (Instr.loadAt 23 v7) w16 = .ok v8 w16∧(RUN prog (pan R) (Builtin.append_ #[23,23] 23 #[v8,v15]) w16 fun v17 w18 =>
 PUR prog (Instr.fieldAt 28 x4 0) fun v19 =>
 RUNU prog (pan R) (Instr.storeAt 23 v19 v17) w18 fun w20 =>
 RUN prog (pan R) (bins .add 3 (.tmp 40) (.const (.int .i64 1)) x40 (.int .i64 1)) w20 fun v21 w22 =>
 C37 v21 w22)

def b38 (C37:VP) (x0 x2 x4 x38 x39 x40:Value) (w:World) (_r:Tok R:=tok R) (_C37:Tok C37:=tok C37):Prop :=
 RUN prog (pan R) (bins .lss 3 (.tmp 40) (.tmp 39) x40 x39) w fun v1 w2 =>
 SPL v1
 (b38_1 R C37 x0 x4 x38 x40 w2)
 (b5 R x0 x2 x4 w2)
abbrev q26 (C37:VP):XP:=QX (fun ρ w=>C37 (ρ 40) w) (fun ρ w=>LD prog (Instr.loadAt 28 (ρ 2)) w fun r0=>R (.returned (.tuple #[r0,(ρ 3)])) w) [(0,(fun ρ w=>b5 R (ρ 0) (ρ 2) (ρ 4) w))]
theorem b38_ok (R:EP) (C37:VP) (ρ:Env) (w:World) (h:b38 R C37 (ρ 0) (ρ 2) (ρ 4) (ρ 38) (ρ 39) (ρ 40) w):cP8 R p20 (q26 R C37) ρ w:=cast (by kernel_rfl) h

def l37 (x0 x2 x4 x38 x39 x40:Value) (w:World) (_r:Tok R:=tok R):Prop :=
 ∃(J:VP) (μ:Value→World→Nat),J x40 w∧∀y40 w0,J y40 w0→b38 R (fun z40 w1=>J z40 w1∧μ z40 w1<μ y40 w0) x0 x2 x4 x38 x39 y40 w0
abbrev q27:XP:=QX (fun ρ w=>b5 R (ρ 0) (ρ 2) (ρ 4) w) (fun ρ w=>LD prog (Instr.loadAt 28 (ρ 2)) w fun r0=>R (.returned (.tuple #[r0,(ρ 3)])) w) [(0,(fun ρ w=>b5 R (ρ 0) (ρ 2) (ρ 4) w))]
theorem l37_ok (h:l37 R (ρ 0) (ρ 2) (ρ 4) (ρ 38) (ρ 39) (ρ 40) w):cP8 R (blkC p19) (q27 R) ρ w:=by
 unfold l37 at h
 obtain ⟨J,μ,h0,hr⟩:=h
 have e:Code.loop (loopC (blkC p19))=(blkC p19):=by kernel_rfl
 rw [←e]
 refine loopQ (fun ρ' w'=>J (ρ' 40) w') (fun ρ' w'=>μ (ρ' 40) w') h0 fun ρ' w' hA hI=>?_
 have e0:ρ' 0=ρ 0:=Agree.at hA 0 (by kernel_rfl)
 have e2:ρ' 2=ρ 2:=Agree.at hA 2 (by kernel_rfl)
 have e4:ρ' 4=ρ 4:=Agree.at hA 4 (by kernel_rfl)
 have e38:ρ' 38=ρ 38:=Agree.at hA 38 (by kernel_rfl)
 have e39:ρ' 39=ρ 39:=Agree.at hA 39 (by kernel_rfl)
 have h1:=hr (ρ' 40) w' hI
 rw [←e0,←e2,←e4,←e38,←e39] at h1
 exact b38_ok R (fun z40 w1=>J z40 w1∧μ z40 w1<μ (ρ' 40) w') ρ' w' h1
theorem l37_intro (R:EP) (x0 x2 x4 x38 x39 x40:Value) (w:World) (J:VP) (μ:Value→World→Nat) (h0:J x40 w)
  (hr:∀y40 w0,J y40 w0→∀C37:VP,(∀z40 w1,J z40 w1→μ z40 w1<μ y40 w0→C37 z40 w1)→b38 R C37 x0 x2 x4 x38 x39 y40 w0):l37 R x0 x2 x4 x38 x39 x40 w:=by
 unfold l37
 exact ⟨J,μ,h0,fun y40 w0 hJ=>hr y40 w0 hJ _ (fun z40 w1 h1 h2=>⟨h1,h2⟩)⟩
abbrev q28:XP:=QX (fun ρ w=>b5 R (ρ 0) (ρ 2) (ρ 4) w) (fun ρ w=>LD prog (Instr.loadAt 28 (ρ 2)) w fun r0=>R (.returned (.tuple #[r0,(ρ 3)])) w) []
theorem k36_ok (h:l37 R (ρ 0) (ρ 2) (ρ 4) (ρ 38) (ρ 39) (ρ 40) w):cP8 R p19 (q28 R) ρ w:=by
 have e:Code.block 0 (blkC p19)=p19:=by kernel_rfl
 rw [←e]
 exact blockQ (l37_ok R ρ w h)

def b35 (x0 x2 x4:Value) (w:World) (_r:Tok R:=tok R):Prop :=
 NILC x0 fun v1 =>
 RUN prog (pan R) (Instr.fieldAt 103 v1 0) w fun v2 w3 =>
 RUN prog (pan R) (Instr.fieldAt 98 v2 0) w3 fun v4 w5 =>
 RUN prog (pan R) (Instr.loadAt 24 v4) w5 fun v6 w7 =>
 RUN prog (pan R) (Builtin.len_ #[24] 3 #[v6]) w7 fun v8 w9 =>
 l37 R x0 x2 x4 v6 v8 (.int .i64 0) w9
abbrev q29:XP:=QX (fun ρ w=>l37 R (ρ 0) (ρ 2) (ρ 4) (ρ 38) (ρ 39) (ρ 40) w) (fun ρ w=>LD prog (Instr.loadAt 28 (ρ 2)) w fun r0=>R (.returned (.tuple #[r0,(ρ 3)])) w) []
theorem b35_eq:(b35 R (ρ 0) (ρ 2) (ρ 4) w)=cP8 R (preC 0 (fstC p2)) (q29 R) ρ w:=by kernel_rfl
theorem b35_ok (h:b35 R (ρ 0) (ρ 2) (ρ 4) w):cP8 R (fstC p2) (q28 R) ρ w:=by
 have e:appC 0 (preC 0 (fstC p2)) (dropC 1 (fstC p2))=(fstC p2):=by kernel_rfl
 rw [←e]
 exact appQ (fun ρ w=>l37 R (ρ 0) (ρ 2) (ρ 4) (ρ 38) (ρ 39) (ρ 40) w) 0 ((b35_eq R ρ w).mp h) (fun ρ w h=>k36_ok R ρ w h)
theorem k4_ok (h:b35 R (ρ 0) (ρ 2) (ρ 4) w):cP8 R p2 (q1 R) ρ w:=by
 have e:Code.seq (fstC p2) (sndC p2)=p2:=by kernel_rfl
 rw [←e]
 exact seqQ (fun ρ w=>b5 R (ρ 0) (ρ 2) (ρ 4) w) (b35_ok R ρ w h) (fun ρ w h=>b5_ok R ρ w h)
def b3_1 (x0 x2 v3 v10:Value) (w11:World) (_r:Tok R:=tok R):Prop :=
 RUN prog (pan R) (Instr.build 28 #[(0,v3),(2,v10)]) w11 fun v12 w13 =>
 RUN prog (pan R) (Instr.alloc 28 true (.tuple #[])) w13 fun v14 w15 =>
 RUNU prog (pan R) (Instr.storeAt 28 v14 v12) w15 fun w16 =>
 b35 R x0 x2 v14 w16

def b3 (x0 x2:Value) (w:World) (_r:Tok R:=tok R):Prop :=
 RUN prog (pan R) (Instr.build 39 #[]) w fun v1 w2 =>
 RUN prog (pan R) (Instr.buildSlice 23 1 #[(0,v1)]) w2 fun v3 w4 =>
 NILC x0 fun v5 =>
 RUN prog (pan R) (Instr.fieldAt 103 v5 3) w4 fun v6 w7 =>
 RUN prog (pan R) (Instr.loadAt 25 v6) w7 fun v8 w9 =>
 CALL prog (pan R) slices_Clone_int_int.id #[v8] w9 fun v10 w11 =>
 b3_1 R x0 x2 v3 v10 w11
abbrev q30:XP:=QX (fun ρ w=>b35 R (ρ 0) (ρ 2) (ρ 4) w) (fun ρ w=>LD prog (Instr.loadAt 28 (ρ 2)) w fun r0=>R (.returned (.tuple #[r0,(ρ 3)])) w) []
theorem b3_eq:(b3 R (ρ 0) (ρ 2) w)=cP8 R (preC 0 (sndC p1)) (q30 R) ρ w:=by kernel_rfl
theorem b3_ok (h:b3 R (ρ 0) (ρ 2) w):cP8 R (sndC p1) (q1 R) ρ w:=by
 have e:appC 0 (preC 0 (sndC p1)) (dropC 1 (sndC p1))=(sndC p1):=by kernel_rfl
 rw [←e]
 exact appQ (fun ρ w=>b35 R (ρ 0) (ρ 2) (ρ 4) w) 0 ((b3_eq R ρ w).mp h) (fun ρ w h=>k4_ok R ρ w h)
noncomputable abbrev p21:Code:=dropC 1 (fstC p1)
def b40_1 (x2:Value) (w:World) (_r:Tok R:=tok R):Prop :=
 RUN prog (pan R) (Instr.build 28 #[]) w fun v1 w2 =>
 RUNU prog (pan R) (Instr.storeAt 28 x2 v1) w2 fun w3 =>
 LD prog (Instr.loadAt 28 x2) w3 fun r0=>R (.returned (.tuple #[r0,(.int .i64 1)])) w3

def b40 (x0 x2 x24:Value) (w:World) (_r:Tok R:=tok R):Prop :=
 SPL x24
 (b40_1 R x2 w)
 (b3 R x0 x2 w)
abbrev q31:XP:=QX (fun ρ w=>b3 R (ρ 0) (ρ 2) w) (fun ρ w=>LD prog (Instr.loadAt 28 (ρ 2)) w fun r0=>R (.returned (.tuple #[r0,(ρ 3)])) w) []
theorem b40_ok (h:b40 R (ρ 0) (ρ 2) (ρ 24) w):cP8 R p21 (q31 R) ρ w:=cast (by kernel_rfl) h
def b39_1 (x0 x2:Value) (w2:World) (_r:Tok R:=tok R):Prop :=
 NILC x0 fun v3 =>
 RUN prog (pan R) (Instr.fieldAt 103 v3 4) w2 fun v4 w5 =>
 RUN prog (pan R) (Instr.loadAt 101 v4) w5 fun v6 w7 =>
 RUN prog (pan R) (Builtin.len_ #[101] 3 #[v6]) w7 fun v8 w9 =>
 RUN prog (pan R) (bins .eql 3 (.tmp 22) (.const (.int .i64 0)) v8 (.int .i64 0)) w9 fun v10 w11 =>
 b40 R x0 x2 v10 w11

def b39 (x0 x2:Value) (w:World) (_r:Tok R:=tok R):Prop :=
 RUN prog (pan R) (bins .eql 61 (.tmp 15) (.const (.pointer Option.none)) x0 (.pointer Option.none)) w fun v1 w2 =>
 SPL v1
 (b40 R x0 x2 (.bool Bool.true) w2)
 (b39_1 R x0 x2 w2)
abbrev q32:XP:=QX (fun ρ w=>b40 R (ρ 0) (ρ 2) (ρ 24) w) (fun ρ w=>LD prog (Instr.loadAt 28 (ρ 2)) w fun r0=>R (.returned (.tuple #[r0,(ρ 3)])) w) []
theorem b39_eq:(b39 R (ρ 0) (ρ 2) w)=cP8 R (preC 0 (fstC p1)) (q32 R) ρ w:=by kernel_rfl
theorem b39_ok (h:b39 R (ρ 0) (ρ 2) w):cP8 R (fstC p1) (q31 R) ρ w:=by
 have e:appC 0 (preC 0 (fstC p1)) (dropC 1 (fstC p1))=(fstC p1):=by kernel_rfl
 rw [←e]
 exact appQ (fun ρ w=>b40 R (ρ 0) (ρ 2) (ρ 24) w) 0 ((b39_eq R ρ w).mp h) (fun ρ w h=>b40_ok R ρ w h)
theorem k2_ok (h:b39 R (ρ 0) (ρ 2) w):cP8 R p1 (q1 R) ρ w:=by
 have e:Code.seq (fstC p1) (sndC p1)=p1:=by kernel_rfl
 rw [←e]
 exact seqQ (fun ρ w=>b3 R (ρ 0) (ρ 2) w) (b39_ok R ρ w h) (fun ρ w h=>b3_ok R ρ w h)

def b1 (x0:Value) (w:World) (_r:Tok R:=tok R):Prop :=
 RUN prog (pan R) (Instr.alloc 28 true (.tuple #[])) w fun v1 w2 =>
 b39 R x0 v1 w2
abbrev q33:XP:=QX (fun ρ w=>b39 R (ρ 0) (ρ 2) w) (fun ρ w=>LD prog (Instr.loadAt 28 (ρ 2)) w fun r0=>R (.returned (.tuple #[r0,(ρ 3)])) w) []
theorem b1_eq:(b1 R (ρ 0) w)=cP8 R (preC 0 code) (q33 R) ρ w:=by kernel_rfl
theorem b1_ok (h:b1 R (ρ 0) w):cP8 R code (q1 R) ρ w:=by
 have e:appC 0 (preC 0 code) (dropC 1 code)=code:=by kernel_rfl
 rw [←e]
 exact appQ (fun ρ w=>b39 R (ρ 0) (ρ 2) w) 0 ((b1_eq R ρ w).mp h) (fun ρ w h=>k2_ok R ρ w h)
/-- What is owed for a call. -/
def run (a0:Value) (w:World):Prop:=b1 R a0 w
theorem calls (R:EP) (a0:Value) (w:World) (h:run R a0 w):Calls prog id #[a0] w R :=
 calls_of_ct (f:=id) (fn:=f29) (c:=code) (by kernel_rfl) func29 (by kernel_rfl) (by kernel_rfl) (args:=[a0]) (Nat.le_of_ble_eq_true rfl) rfl (b1_ok R (envOf [a0]) w h)
theorem enters:Enters prog id:=fun args w=>call29 args w
theorem ct {a0:Value} {w:World} {S:VP} (h:∀R:EP,(∀v w,S v w→R (.returned v) w)→run R a0 w):Ct prog id #[a0] w S :=
 Ct.intro enters fun R hR=>calls R a0 w (h R hR)
attribute [irreducible] b10 b9_1 b9 b16 b20 b26 b29 b28 b24 l23 b21 b18 b14 l13 b11 b7_1 b7 b34 b33_1 b33_2 b33 l32 b30 b5 b38_1 b38 l37 b35 b3_1 b3 b40_1 b40 b39_1 b39 b1 run
attribute [go_sem] b10 b9_1 b9 b16 b20 b26 b29 b28 b24 b21 b18 b14 b11 b7_1 b7 b34 b33_1 b33_2 b33 b30 b5 b38_1 b38 b35 b3_1 b3 b40_1 b40 b39_1 b39 b1 run
end gram_Builder_Grammar

/-! ### (*presage/gram.Builder).Level -/
namespace gram_Builder_Level
noncomputable def code:Code:=bodyOf f46
noncomputable abbrev p1:Code:=dropC 1 code
noncomputable abbrev p2:Code:=dropC 1 (sndC p1)
noncomputable abbrev p3:Code:=dropC 1 (sndC p2)

def b7 (x0:Value) (w:World) (_r:Tok R:=tok R):Prop :=
 NILC x0 fun v1 =>
 RUN prog (pan R) (Instr.fieldAt 103 v1 3) w fun v2 w3 =>
 RUN prog (pan R) (Instr.loadAt 25 v2) w3 fun v4 w5 =>
 RUN prog (pan R) (Builtin.len_ #[25] 3 #[v4]) w5 fun v6 w7 =>
 R (.returned (.tuple #[v6,(.int .i64 0)])) w7
abbrev q1:XP:=QX (fun ρ w=>R (.returned (.tuple #[(ρ 6),(ρ 7)])) w) (fun ρ w=>R (.returned (.tuple #[(ρ 6),(ρ 7)])) w) []
theorem b7_ok (h:b7 R (ρ 0) w):cP8 R (sndC p3) (q1 R) ρ w:=cast (by kernel_rfl) h
noncomputable abbrev p4:Code:=dropC 1 (fstC p3)
noncomputable abbrev p5:Code:=loopC (blkC p4)
def b11_1 (C10:VP) (x0 x71 x73:Value) (w2:World) (_r:Tok R:=tok R) (_C10:Tok C10:=tok C10):Prop :=
 RUN prog (pan R) (Instr.indexAt 25 x71 x73) w2 fun v3 w4 =>
 RUN prog (pan R) (Instr.loadAt 3 v3) w4 fun v5 w6 =>
 NILC x0 fun v7 =>
 PUR prog (Instr.fieldAt 103 v7 2) fun v8 =>
 LD prog (Instr.loadAt 25 v8) (World.drew w6) fun v9 =>
 PUR prog (bins .sub 3 (.tmp 81) (.const (.int .i64 1)) v5 (.int .i64 1)) fun v10 =>
 NILC x0 fun v11 =>
 PUR prog (Instr.fieldAt 103 v11 3) fun v12 =>
 LD prog (Instr.loadAt 25 v12) (World.drew w6) fun v13 =>
 LD prog (Builtin.len_ #[25] 3 #[v13]) (World.drew w6) fun v14 =>
 PUR prog (Instr.indexAt 25 v9 v10) fun v15 =>
 RUNU prog (pan R) (Instr.storeAt 3 v15 v14) (World.drew w6) fun w16 =>
 RUN prog (pan R) (bins .add 3 (.tmp 73) (.const (.int .i64 1)) x73 (.int .i64 1)) w16 fun v17 w18 =>
 C10 v17 w18

def b11 (C10:VP) (x0 x71 x72 x73:Value) (w:World) (_r:Tok R:=tok R) (_C10:Tok C10:=tok C10):Prop :=
 RUN prog (pan R) (bins .lss 3 (.tmp 73) (.tmp 72) x73 x72) w fun v1 w2 =>
 SPL v1
 (b11_1 R C10 x0 x71 x73 w2)
 (b7 R x0 w2)
abbrev q2 (C10:VP):XP:=QX (fun ρ w=>C10 (ρ 73) w) (fun ρ w=>R (.returned (.tuple #[(ρ 6),(ρ 7)])) w) [(4,(fun ρ w=>b7 R (ρ 0) w))]
theorem b11_ok (R:EP) (C10:VP) (ρ:Env) (w:World) (h:b11 R C10 (ρ 0) (ρ 71) (ρ 72) (ρ 73) w):cP8 R p5 (q2 R C10) ρ w:=cast (by kernel_rfl) h

def l10 (x0 x71 x72 x73:Value) (w:World) (_r:Tok R:=tok R):Prop :=
 ∃(J:VP) (μ:Value→World→Nat),J x73 w∧∀y73 w0,J y73 w0→b11 R (fun z73 w1=>J z73 w1∧μ z73 w1<μ y73 w0) x0 x71 x72 y73 w0
abbrev q3:XP:=QX (fun ρ w=>b7 R (ρ 0) w) (fun ρ w=>R (.returned (.tuple #[(ρ 6),(ρ 7)])) w) [(4,(fun ρ w=>b7 R (ρ 0) w))]
theorem l10_ok (h:l10 R (ρ 0) (ρ 71) (ρ 72) (ρ 73) w):cP8 R (blkC p4) (q3 R) ρ w:=by
 unfold l10 at h
 obtain ⟨J,μ,h0,hr⟩:=h
 have e:Code.loop (loopC (blkC p4))=(blkC p4):=by kernel_rfl
 rw [←e]
 refine loopQ (fun ρ' w'=>J (ρ' 73) w') (fun ρ' w'=>μ (ρ' 73) w') h0 fun ρ' w' hA hI=>?_
 have e0:ρ' 0=ρ 0:=Agree.at hA 0 (by kernel_rfl)
 have e71:ρ' 71=ρ 71:=Agree.at hA 71 (by kernel_rfl)
 have e72:ρ' 72=ρ 72:=Agree.at hA 72 (by kernel_rfl)
 have h1:=hr (ρ' 73) w' hI
 rw [←e0,←e71,←e72] at h1
 exact b11_ok R (fun z73 w1=>J z73 w1∧μ z73 w1<μ (ρ' 73) w') ρ' w' h1
theorem l10_intro (R:EP) (x0 x71 x72 x73:Value) (w:World) (J:VP) (μ:Value→World→Nat) (h0:J x73 w)
  (hr:∀y73 w0,J y73 w0→∀C10:VP,(∀z73 w1,J z73 w1→μ z73 w1<μ y73 w0→C10 z73 w1)→b11 R C10 x0 x71 x72 y73 w0):l10 R x0 x71 x72 x73 w:=by
 unfold l10
 exact ⟨J,μ,h0,fun y73 w0 hJ=>hr y73 w0 hJ _ (fun z73 w1 h1 h2=>⟨h1,h2⟩)⟩
abbrev q4:XP:=QX (fun ρ w=>b7 R (ρ 0) w) (fun ρ w=>R (.returned (.tuple #[(ρ 6),(ρ 7)])) w) []
theorem k9_ok (h:l10 R (ρ 0) (ρ 71) (ρ 72) (ρ 73) w):cP8 R p4 (q4 R) ρ w:=by
 have e:Code.block 2 (blkC p4)=p4:=by kernel_rfl
 rw [←e]
 exact blockQ (l10_ok R ρ w h)

def b8 (x0 x2:Value) (w:World) (_r:Tok R:=tok R):Prop :=
 RUN prog (pan R) (Builtin.len_ #[25] 3 #[x2]) w fun v1 w2 =>
 l10 R x0 x2 v1 (.int .i64 0) w2
abbrev q5:XP:=QX (fun ρ w=>l10 R (ρ 0) (ρ 71) (ρ 72) (ρ 73) w) (fun ρ w=>R (.returned (.tuple #[(ρ 6),(ρ 7)])) w) []
theorem b8_eq:(b8 R (ρ 0) (ρ 2) w)=cP8 R (preC 0 (fstC p3)) (q5 R) ρ w:=by kernel_rfl
theorem b8_ok (h:b8 R (ρ 0) (ρ 2) w):cP8 R (fstC p3) (q4 R) ρ w:=by
 have e:appC 0 (preC 0 (fstC p3)) (dropC 1 (fstC p3))=(fstC p3):=by kernel_rfl
 rw [←e]
 exact appQ (fun ρ w=>l10 R (ρ 0) (ρ 71) (ρ 72) (ρ 73) w) 0 ((b8_eq R ρ w).mp h) (fun ρ w h=>k9_ok R ρ w h)
theorem k6_ok (h:b8 R (ρ 0) (ρ 2) w):cP8 R p3 (q1 R) ρ w:=by
 have e:Code.seq (fstC p3) (sndC p3)=p3:=by kernel_rfl
 rw [←e]
 exact seqQ (fun ρ w=>b7 R (ρ 0) w) (b8_ok R ρ w h) (fun ρ w h=>b7_ok R ρ w h)

def b5 (x0 x1 x2:Value) (w:World) (_r:Tok R:=tok R):Prop :=
 NILC x0 fun v1 =>
 RUN prog (pan R) (Instr.fieldAt 103 v1 3) w fun v2 w3 =>
 RUN prog (pan R) (Instr.loadAt 25 v2) w3 fun v4 w5 =>
 RUN prog (pan R) (Instr.buildSlice 25 1 #[(0,x1)]) w5 fun v6 w7 =>
 RUN prog (pan R) (Builtin.append_ #[25,25] 25 #[v4,v6]) w7 fun v8 w9 =>
 NILC x0 fun v10 =>
 RUN prog (pan R) (Instr.fieldAt 103 v10 3) w9 fun v11 w12 =>
 RUNU prog (pan R) (Instr.storeAt 25 v11 v8) w12 fun w13 =>
 b8 R x0 x2 w13
abbrev q6:XP:=QX (fun ρ w=>b8 R (ρ 0) (ρ 2) w) (fun ρ w=>R (.returned (.tuple #[(ρ 6),(ρ 7)])) w) []
theorem b5_eq:(b5 R (ρ 0) (ρ 1) (ρ 2) w)=cP8 R (preC 0 (sndC p2)) (q6 R) ρ w:=by kernel_rfl
theorem b5_ok (h:b5 R (ρ 0) (ρ 1) (ρ 2) w):cP8 R (sndC p2) (q1 R) ρ w:=by
 have e:appC 0 (preC 0 (sndC p2)) (dropC 1 (sndC p2))=(sndC p2):=by kernel_rfl
 rw [←e]
 exact appQ (fun ρ w=>b8 R (ρ 0) (ρ 2) w) 0 ((b5_eq R ρ w).mp h) (fun ρ w h=>k6_ok R ρ w h)
noncomputable abbrev p6:Code:=dropC 1 (fstC p2)
noncomputable abbrev p7:Code:=loopC (blkC p6)
noncomputable abbrev p8:Code:=dropC 2 p7

def b17 (C14:VP) (x31:Value) (w:World) (_r:Tok R:=tok R) (_C14:Tok C14:=tok C14):Prop :=
 RUN prog (pan R) (bins .add 3 (.tmp 31) (.const (.int .i64 1)) x31 (.int .i64 1)) w fun v1 w2 =>
 C14 v1 w2
abbrev q7 (C14:VP):XP:=QX (fun ρ w=>C14 (ρ 31) w) (fun ρ w=>R (.returned (.tuple #[(ρ 6),(ρ 7)])) w) [(0,(fun ρ w=>b5 R (ρ 0) (ρ 1) (ρ 2) w))]
theorem b17_ok (R:EP) (C14:VP) (ρ:Env) (w:World) (h:b17 R C14 (ρ 31) w):cP8 R (sndC p8) (q7 R C14) ρ w:=cast (by kernel_rfl) h
noncomputable abbrev p9:Code:=blkC (fstC p8)
noncomputable abbrev p10:Code:=dropC 1 p9

def b21 (C14:VP) (x8 x10 x31:Value) (w:World) (_r:Tok R:=tok R) (_C14:Tok C14:=tok C14):Prop :=
 RUN prog (pan R) (Instr.lookup 104 x8 x10 false) w fun v1 w2 =>
 RUN prog (pan R) (bins .add 3 (.tmp 58) (.const (.int .i64 1)) v1 (.int .i64 1)) w2 fun v3 w4 =>
 RUNU prog (pan R) (Instr.mapUpdate 104 x8 x10 v3) w4 fun w5 =>
 b17 R C14 x31 w5
abbrev q8 (C14:VP):XP:=QX (fun ρ w=>b17 R C14 (ρ 31) w) (fun ρ w=>R (.returned (.tuple #[(ρ 6),(ρ 7)])) w) [(2,(fun ρ w=>b17 R C14 (ρ 31) w)),(0,(fun ρ w=>b5 R (ρ 0) (ρ 1) (ρ 2) w))]
theorem b21_ok (R:EP) (C14:VP) (ρ:Env) (w:World) (h:b21 R C14 (ρ 8) (ρ 10) (ρ 31) w):cP8 R (sndC p10) (q8 R C14) ρ w:=cast (by kernel_rfl) h
noncomputable abbrev p11:Code:=dropC 1 (fstC p10)

def b23 (C14:VP) (x8 x10 x31 x55:Value) (w:World) (_r:Tok R:=tok R) (_C14:Tok C14:=tok C14):Prop :=
 SPL x55
 (R (.returned (.tuple #[(.int .i64 0),(.int .i64 1)])) w)
 (b21 R C14 x8 x10 x31 w)
abbrev q9 (C14:VP):XP:=QX (fun ρ w=>b21 R C14 (ρ 8) (ρ 10) (ρ 31) w) (fun ρ w=>R (.returned (.tuple #[(ρ 6),(ρ 7)])) w) [(2,(fun ρ w=>b17 R C14 (ρ 31) w)),(0,(fun ρ w=>b5 R (ρ 0) (ρ 1) (ρ 2) w))]
theorem b23_ok (R:EP) (C14:VP) (ρ:Env) (w:World) (h:b23 R C14 (ρ 8) (ρ 10) (ρ 31) (ρ 55) w):cP8 R p11 (q9 R C14) ρ w:=cast (by kernel_rfl) h
def b22_1 (C14:VP) (x8 x10 x31:Value) (w17:World) (_r:Tok R:=tok R) (_C14:Tok C14:=tok C14):Prop :=
 RUN prog (pan R) (Instr.lookup 104 x8 x10 false) w17 fun v18 w19 =>
 RUN prog (pan R) (bins .gtr 3 (.tmp 53) (.const (.int .i64 0)) v18 (.int .i64 0)) w19 fun v20 w21 =>
 b23 R C14 x8 x10 x31 v20 w21
def b22_2 (C14:VP) (x0 x8 x10 x31:Value) (w4:World) (_r:Tok R:=tok R) (_C14:Tok C14:=tok C14):Prop :=
 NILC x0 fun v5 =>
 RUN prog (pan R) (Instr.fieldAt 103 v5 2) w4 fun v6 w7 =>
 RUN prog (pan R) (Instr.loadAt 25 v6) w7 fun v8 w9 =>
 RUN prog (pan R) (bins .sub 3 (.tmp 44) (.const (.int .i64 1)) x10 (.int .i64 1)) w9 fun v10 w11 =>
 RUN prog (pan R) (Instr.indexAt 25 v8 v10) w11 fun v12 w13 =>
 RUN prog (pan R) (Instr.loadAt 3 v12) w13 fun v14 w15 =>
 RUN prog (pan R) (bins .gtr 3 (.tmp 47) (.const (.int .i64 0)) v14 (.int .i64 0)) w15 fun v16 w17 =>
 SPL v16
 (b23 R C14 x8 x10 x31 (.bool Bool.true) w17)
 (b22_1 R C14 x8 x10 x31 w17)

def b22 (C14:VP) (x0 x8 x10 x31:Value) (w:World) (_r:Tok R:=tok R) (_C14:Tok C14:=tok C14):Prop :=
 CALL prog (pan R) gram_Builder_isTermHandle.id #[x0,x10] w fun v1 w2 =>
 RUN prog (pan R) (Op.unary .not v1) w2 fun v3 w4 =>
 SPL v3
 (b23 R C14 x8 x10 x31 (.bool Bool.true) w4)
 (b22_2 R C14 x0 x8 x10 x31 w4)
abbrev q10 (C14:VP):XP:=QX (fun ρ w=>b23 R C14 (ρ 8) (ρ 10) (ρ 31) (ρ 55) w) (fun ρ w=>R (.returned (.tuple #[(ρ 6),(ρ 7)])) w) [(2,(fun ρ w=>b17 R C14 (ρ 31) w)),(0,(fun ρ w=>b5 R (ρ 0) (ρ 1) (ρ 2) w))]
theorem b22_eq (R:EP) (C14:VP) (ρ:Env) (w:World):(b22 R C14 (ρ 0) (ρ 8) (ρ 10) (ρ 31) w)=cP8 R (preC 0 (fstC p10)) (q10 R C14) ρ w:=by kernel_rfl
theorem b22_ok (R:EP) (C14:VP) (ρ:Env) (w:World) (h:b22 R C14 (ρ 0) (ρ 8) (ρ 10) (ρ 31) w):cP8 R (fstC p10) (q9 R C14) ρ w:=by
 have e:appC 0 (preC 0 (fstC p10)) (dropC 1 (fstC p10))=(fstC p10):=by kernel_rfl
 rw [←e]
 exact appQ (fun ρ w=>b23 R C14 (ρ 8) (ρ 10) (ρ 31) (ρ 55) w) 0 ((b22_eq R C14 ρ w).mp h) (fun ρ w h=>b23_ok R C14 ρ w h)
theorem k20_ok (R:EP) (C14:VP) (ρ:Env) (w:World) (h:b22 R C14 (ρ 0) (ρ 8) (ρ 10) (ρ 31) w):cP8 R p10 (q8 R C14) ρ w:=by
 have e:Code.seq (fstC p10) (sndC p10)=p10:=by kernel_rfl
 rw [←e]
 exact seqQ (fun ρ w=>b21 R C14 (ρ 8) (ρ 10) (ρ 31) w) (b22_ok R C14 ρ w h) (fun ρ w h=>b21_ok R C14 ρ w h)

def b19 (C14:VP) (x0 x8 x29 x31:Value) (w:World) (_r:Tok R:=tok R) (_C14:Tok C14:=tok C14):Prop :=
 RUN prog (pan R) (Instr.indexAt 25 x29 x31) w fun v1 w2 =>
 RUN prog (pan R) (Instr.loadAt 3 v1) w2 fun v3 w4 =>
 b22 R C14 x0 x8 v3 x31 w4
abbrev q11 (C14:VP):XP:=QX (fun ρ w=>b22 R C14 (ρ 0) (ρ 8) (ρ 10) (ρ 31) w) (fun ρ w=>R (.returned (.tuple #[(ρ 6),(ρ 7)])) w) [(2,(fun ρ w=>b17 R C14 (ρ 31) w)),(0,(fun ρ w=>b5 R (ρ 0) (ρ 1) (ρ 2) w))]
theorem b19_eq (R:EP) (C14:VP) (ρ:Env) (w:World):(b19 R C14 (ρ 0) (ρ 8) (ρ 29) (ρ 31) w)=cP8 R (preC 0 p9) (q11 R C14) ρ w:=by kernel_rfl
theorem b19_ok (R:EP) (C14:VP) (ρ:Env) (w:World) (h:b19 R C14 (ρ 0) (ρ 8) (ρ 29) (ρ 31) w):cP8 R p9 (q8 R C14) ρ w:=by
 have e:appC 0 (preC 0 p9) (dropC 1 p9)=p9:=by kernel_rfl
 rw [←e]
 exact appQ (fun ρ w=>b22 R C14 (ρ 0) (ρ 8) (ρ 10) (ρ 31) w) 0 ((b19_eq R C14 ρ w).mp h) (fun ρ w h=>k20_ok R C14 ρ w h)
abbrev q12 (C14:VP):XP:=QX (fun ρ w=>b17 R C14 (ρ 31) w) (fun ρ w=>R (.returned (.tuple #[(ρ 6),(ρ 7)])) w) [(0,(fun ρ w=>b5 R (ρ 0) (ρ 1) (ρ 2) w))]
theorem k18_ok (R:EP) (C14:VP) (ρ:Env) (w:World) (h:b19 R C14 (ρ 0) (ρ 8) (ρ 29) (ρ 31) w):cP8 R (fstC p8) (q12 R C14) ρ w:=by
 have e:Code.block 1 (blkC (fstC p8))=(fstC p8):=by kernel_rfl
 rw [←e]
 exact blockQ (b19_ok R C14 ρ w h)
theorem k16_ok (R:EP) (C14:VP) (ρ:Env) (w:World) (h:b19 R C14 (ρ 0) (ρ 8) (ρ 29) (ρ 31) w):cP8 R p8 (q7 R C14) ρ w:=by
 have e:Code.seq (fstC p8) (sndC p8)=p8:=by kernel_rfl
 rw [←e]
 exact seqQ (fun ρ w=>b17 R C14 (ρ 31) w) (k18_ok R C14 ρ w h) (fun ρ w h=>b17_ok R C14 ρ w h)

def b15 (C14:VP) (x0 x1 x2 x8 x29 x30 x31:Value) (w:World) (_r:Tok R:=tok R) (_C14:Tok C14:=tok C14):Prop :=
 RUN prog (pan R) (bins .lss 3 (.tmp 31) (.tmp 30) x31 x30) w fun v1 w2 =>
 SPL v1
 (b19 R C14 x0 x8 x29 x31 w2)
 (b5 R x0 x1 x2 w2)
abbrev q13 (C14:VP):XP:=QX (fun ρ w=>b19 R C14 (ρ 0) (ρ 8) (ρ 29) (ρ 31) w) (fun ρ w=>R (.returned (.tuple #[(ρ 6),(ρ 7)])) w) [(0,(fun ρ w=>b5 R (ρ 0) (ρ 1) (ρ 2) w))]
theorem b15_eq (R:EP) (C14:VP) (ρ:Env) (w:World):(b15 R C14 (ρ 0) (ρ 1) (ρ 2) (ρ 8) (ρ 29) (ρ 30) (ρ 31) w)=cP8 R (preC 1 p7) (q13 R C14) ρ w:=by kernel_rfl
theorem b15_ok (R:EP) (C14:VP) (ρ:Env) (w:World) (h:b15 R C14 (ρ 0) (ρ 1) (ρ 2) (ρ 8) (ρ 29) (ρ 30) (ρ 31) w):cP8 R p7 (q7 R C14) ρ w:=by
 have e:appC 1 (preC 1 p7) (dropC 2 p7)=p7:=by kernel_rfl
 rw [←e]
 exact appQ (fun ρ w=>b19 R C14 (ρ 0) (ρ 8) (ρ 29) (ρ 31) w) 1 ((b15_eq R C14 ρ w).mp h) (fun ρ w h=>k16_ok R C14 ρ w h)

def l14 (x0 x1 x2 x8 x29 x30 x31:Value) (w:World) (_r:Tok R:=tok R):Prop :=
 ∃(J:VP) (μ:Value→World→Nat),J x31 w∧∀y31 w0,J y31 w0→b15 R (fun z31 w1=>J z31 w1∧μ z31 w1<μ y31 w0) x0 x1 x2 x8 x29 x30 y31 w0
abbrev q14:XP:=QX (fun ρ w=>b5 R (ρ 0) (ρ 1) (ρ 2) w) (fun ρ w=>R (.returned (.tuple #[(ρ 6),(ρ 7)])) w) [(0,(fun ρ w=>b5 R (ρ 0) (ρ 1) (ρ 2) w))]
theorem l14_ok (h:l14 R (ρ 0) (ρ 1) (ρ 2) (ρ 8) (ρ 29) (ρ 30) (ρ 31) w):cP8 R (blkC p6) (q14 R) ρ w:=by
 unfold l14 at h
 obtain ⟨J,μ,h0,hr⟩:=h
 have e:Code.loop (loopC (blkC p6))=(blkC p6):=by kernel_rfl
 rw [←e]
 refine loopQ (fun ρ' w'=>J (ρ' 31) w') (fun ρ' w'=>μ (ρ' 31) w') h0 fun ρ' w' hA hI=>?_
 have e0:ρ' 0=ρ 0:=Agree.at hA 0 (by kernel_rfl)
 have e1:ρ' 1=ρ 1:=Agree.at hA 1 (by kernel_rfl)
 have e2:ρ' 2=ρ 2:=Agree.at hA 2 (by kernel_rfl)
 have e8:ρ' 8=ρ 8:=Agree.at hA 8 (by kernel_rfl)
 have e29:ρ' 29=ρ 29:=Agree.at hA 29 (by kernel_rfl)
 have e30:ρ' 30=ρ 30:=Agree.at hA 30 (by kernel_rfl)
 have h1:=hr (ρ' 31) w' hI
 rw [←e0,←e1,←e2,←e8,←e29,←e30] at h1
 exact b15_ok R (fun z31 w1=>J z31 w1∧μ z31 w1<μ (ρ' 31) w') ρ' w' h1
theorem l14_intro (R:EP) (x0 x1 x2 x8 x29 x30 x31:Value) (w:World) (J:VP) (μ:Value→World→Nat) (h0:J x31 w)
  (hr:∀y31 w0,J y31 w0→∀C14:VP,(∀z31 w1,J z31 w1→μ z31 w1<μ y31 w0→C14 z31 w1)→b15 R C14 x0 x1 x2 x8 x29 x30 y31 w0):l14 R x0 x1 x2 x8 x29 x30 x31 w:=by
 unfold l14
 exact ⟨J,μ,h0,fun y31 w0 hJ=>hr y31 w0 hJ _ (fun z31 w1 h1 h2=>⟨h1,h2⟩)⟩
abbrev q15:XP:=QX (fun ρ w=>b5 R (ρ 0) (ρ 1) (ρ 2) w) (fun ρ w=>R (.returned (.tuple #[(ρ 6),(ρ 7)])) w) []
theorem k13_ok (h:l14 R (ρ 0) (ρ 1) (ρ 2) (ρ 8) (ρ 29) (ρ 30) (ρ 31) w):cP8 R p6 (q15 R) ρ w:=by
 have e:Code.block 0 (blkC p6)=p6:=by kernel_rfl
 rw [←e]
 exact blockQ (l14_ok R ρ w h)

def b12 (x0 x1 x2 x8:Value) (w:World) (_r:Tok R:=tok R):Prop :=
 RUN prog (pan R) (Builtin.len_ #[25] 3 #[x2]) w fun v1 w2 =>
 l14 R x0 x1 x2 x8 x2 v1 (.int .i64 0) w2
abbrev q16:XP:=QX (fun ρ w=>l14 R (ρ 0) (ρ 1) (ρ 2) (ρ 8) (ρ 29) (ρ 30) (ρ 31) w) (fun ρ w=>R (.returned (.tuple #[(ρ 6),(ρ 7)])) w) []
theorem b12_eq:(b12 R (ρ 0) (ρ 1) (ρ 2) (ρ 8) w)=cP8 R (preC 0 (fstC p2)) (q16 R) ρ w:=by kernel_rfl
theorem b12_ok (h:b12 R (ρ 0) (ρ 1) (ρ 2) (ρ 8) w):cP8 R (fstC p2) (q15 R) ρ w:=by
 have e:appC 0 (preC 0 (fstC p2)) (dropC 1 (fstC p2))=(fstC p2):=by kernel_rfl
 rw [←e]
 exact appQ (fun ρ w=>l14 R (ρ 0) (ρ 1) (ρ 2) (ρ 8) (ρ 29) (ρ 30) (ρ 31) w) 0 ((b12_eq R ρ w).mp h) (fun ρ w h=>k13_ok R ρ w h)
theorem k4_ok (h:b12 R (ρ 0) (ρ 1) (ρ 2) (ρ 8) w):cP8 R p2 (q1 R) ρ w:=by
 have e:Code.seq (fstC p2) (sndC p2)=p2:=by kernel_rfl
 rw [←e]
 exact seqQ (fun ρ w=>b5 R (ρ 0) (ρ 1) (ρ 2) w) (b12_ok R ρ w h) (fun ρ w h=>b5_ok R ρ w h)

def b3 (x0 x1 x2:Value) (w:World) (_r:Tok R:=tok R):Prop :=
 RUN prog (pan R) (Instr.makeMap 104 none) w fun v1 w2 =>
 b12 R x0 x1 x2 v1 w2
abbrev q17:XP:=QX (fun ρ w=>b12 R (ρ 0) (ρ 1) (ρ 2) (ρ 8) w) (fun ρ w=>R (.returned (.tuple #[(ρ 6),(ρ 7)])) w) []
theorem b3_eq:(b3 R (ρ 0) (ρ 1) (ρ 2) w)=cP8 R (preC 0 (sndC p1)) (q17 R) ρ w:=by kernel_rfl
theorem b3_ok (h:b3 R (ρ 0) (ρ 1) (ρ 2) w):cP8 R (sndC p1) (q1 R) ρ w:=by
 have e:appC 0 (preC 0 (sndC p1)) (dropC 1 (sndC p1))=(sndC p1):=by kernel_rfl
 rw [←e]
 exact appQ (fun ρ w=>b12 R (ρ 0) (ρ 1) (ρ 2) (ρ 8) w) 0 ((b3_eq R ρ w).mp h) (fun ρ w h=>k4_ok R ρ w h)
noncomputable abbrev p12:Code:=dropC 1 (fstC p1)

def b25 (x0 x1 x2 x27:Value) (w:World) (_r:Tok R:=tok R):Prop :=
 SPL x27
 (R (.returned (.tuple #[(.int .i64 0),(.int .i64 1)])) w)
 (b3 R x0 x1 x2 w)
abbrev q18:XP:=QX (fun ρ w=>b3 R (ρ 0) (ρ 1) (ρ 2) w) (fun ρ w=>R (.returned (.tuple #[(ρ 6),(ρ 7)])) w) []
theorem b25_ok (h:b25 R (ρ 0) (ρ 1) (ρ 2) (ρ 27) w):cP8 R p12 (q18 R) ρ w:=cast (by kernel_rfl) h
def b24_1 (x0 x1 x2:Value) (w6:World) (_r:Tok R:=tok R):Prop :=
 RUN prog (pan R) (Builtin.len_ #[25] 3 #[x2]) w6 fun v7 w8 =>
 RUN prog (pan R) (bins .eql 3 (.tmp 25) (.const (.int .i64 0)) v7 (.int .i64 0)) w8 fun v9 w10 =>
 b25 R x0 x1 x2 v9 w10
def b24_2 (x0 x1 x2:Value) (w2:World) (_r:Tok R:=tok R):Prop :=
 RUN prog (pan R) (bins .lss 3 (.tmp 16) (.const (.int .i64 1)) x1 (.int .i64 1)) w2 fun v3 w4 =>
 SPL v3
 (b25 R x0 x1 x2 (.bool Bool.true) w4)
 (RUN prog (pan R) (bins .gtr 3 (.tmp 20) (.const (.int .i64 3)) x1 (.int .i64 3)) w4 fun v5 w6 =>
 SPL v5
 (b25 R x0 x1 x2 (.bool Bool.true) w6)
 (b24_1 R x0 x1 x2 w6))

def b24 (x0 x1 x2:Value) (w:World) (_r:Tok R:=tok R):Prop :=
 RUN prog (pan R) (bins .eql 61 (.tmp 13) (.const (.pointer Option.none)) x0 (.pointer Option.none)) w fun v1 w2 =>
 SPL v1
 (b25 R x0 x1 x2 (.bool Bool.true) w2)
 (b24_2 R x0 x1 x2 w2)
abbrev q19:XP:=QX (fun ρ w=>b25 R (ρ 0) (ρ 1) (ρ 2) (ρ 27) w) (fun ρ w=>R (.returned (.tuple #[(ρ 6),(ρ 7)])) w) []
theorem b24_eq:(b24 R (ρ 0) (ρ 1) (ρ 2) w)=cP8 R (preC 0 (fstC p1)) (q19 R) ρ w:=by kernel_rfl
theorem b24_ok (h:b24 R (ρ 0) (ρ 1) (ρ 2) w):cP8 R (fstC p1) (q18 R) ρ w:=by
 have e:appC 0 (preC 0 (fstC p1)) (dropC 1 (fstC p1))=(fstC p1):=by kernel_rfl
 rw [←e]
 exact appQ (fun ρ w=>b25 R (ρ 0) (ρ 1) (ρ 2) (ρ 27) w) 0 ((b24_eq R ρ w).mp h) (fun ρ w h=>b25_ok R ρ w h)
theorem k2_ok (h:b24 R (ρ 0) (ρ 1) (ρ 2) w):cP8 R p1 (q1 R) ρ w:=by
 have e:Code.seq (fstC p1) (sndC p1)=p1:=by kernel_rfl
 rw [←e]
 exact seqQ (fun ρ w=>b3 R (ρ 0) (ρ 1) (ρ 2) w) (b24_ok R ρ w h) (fun ρ w h=>b3_ok R ρ w h)

def b1 (x0 x1 x2:Value) (w:World) (_r:Tok R:=tok R):Prop :=
 b24 R x0 x1 x2 w
abbrev q20:XP:=QX (fun ρ w=>b24 R (ρ 0) (ρ 1) (ρ 2) w) (fun ρ w=>R (.returned (.tuple #[(ρ 6),(ρ 7)])) w) []
theorem b1_eq:(b1 R (ρ 0) (ρ 1) (ρ 2) w)=cP8 R (preC 0 code) (q20 R) ρ w:=by kernel_rfl
theorem b1_ok (h:b1 R (ρ 0) (ρ 1) (ρ 2) w):cP8 R code (q1 R) ρ w:=by
 have e:appC 0 (preC 0 code) (dropC 1 code)=code:=by kernel_rfl
 rw [←e]
 exact appQ (fun ρ w=>b24 R (ρ 0) (ρ 1) (ρ 2) w) 0 ((b1_eq R ρ w).mp h) (fun ρ w h=>k2_ok R ρ w h)
/-- What is owed for a call. -/
def run (a0 a1 a2:Value) (w:World):Prop:=b1 R a0 a1 a2 w
theorem calls (R:EP) (a0 a1 a2:Value) (w:World) (h:run R a0 a1 a2 w):Calls prog id #[a0,a1,a2] w R :=
 calls_of_tt (f:=id) (fn:=f46) (c:=code) (by kernel_rfl) func46 (by kernel_rfl) (by kernel_rfl) (args:=[a0,a1,a2]) (Nat.le_of_ble_eq_true rfl) rfl (b1_ok R (envOf [a0,a1,a2]) w h)
theorem enters:Enters prog id:=fun args w=>call46 args w
theorem ct {a0 a1 a2:Value} {w:World} {S:VP} (h:∀R:EP,(∀v w,S v w→R (.returned v) w)→run R a0 a1 a2 w):Ct prog id #[a0,a1,a2] w S :=
 Ct.intro enters fun R hR=>calls R a0 a1 a2 w (h R hR)
attribute [irreducible] b7 b11_1 b11 l10 b8 b5 b17 b21 b23 b22_1 b22_2 b22 b19 b15 l14 b12 b3 b25 b24_1 b24_2 b24 b1 run
attribute [go_sem] b7 b11_1 b11 b8 b5 b17 b21 b23 b22_1 b22_2 b22 b19 b15 b12 b3 b25 b24_1 b24_2 b24 b1 run
end gram_Builder_Level

/-! ### (*presage/gram.Builder).Grade -/
namespace gram_Builder_Grade
noncomputable def code:Code:=bodyOf f50
noncomputable abbrev p1:Code:=dropC 1 code
noncomputable abbrev p2:Code:=sndC (sndC p1)

def b4 (w:World) (_r:Tok R:=tok R):Prop :=
 R (.returned (.int .i64 0)) w
abbrev q1:XP:=QX (fun ρ w=>R (.returned (ρ 6)) w) (fun ρ w=>R (.returned (ρ 6)) w) []
theorem b4_ok (h:b4 R w):cP8 R p2 (q1 R) ρ w:=cast (by kernel_rfl) h
noncomputable abbrev p3:Code:=fstC (sndC p1)
noncomputable abbrev p4:Code:=dropC 1 p3
noncomputable abbrev p5:Code:=loopC (blkC p4)
def b8_1 (C7:VP) (x1 x3 x29 x31:Value) (w2:World) (_r:Tok R:=tok R) (_C7:Tok C7:=tok C7):Prop :=
 RUN prog (pan R) (Instr.indexAt 25 x29 x31) w2 fun v3 w4 =>
 RUN prog (pan R) (Instr.loadAt 3 v3) w4 fun v5 w6 =>
 RUN prog (pan R) (Instr.loadAt 61 x3) w6 fun v7 w8 =>
 NILC v7 fun v9 =>
 RUN prog (pan R) (Instr.fieldAt 103 v9 4) w8 fun v10 w11 =>
 RUN prog (pan R) (Instr.loadAt 101 v10) w11 fun v12 w13 =>
 RUN prog (pan R) (Instr.indexAt 101 v12 v5) w13 fun v14 w15 =>
 RUN prog (pan R) (Instr.fieldAt 118 v14 2) w15 fun v16 w17 =>
 RUNU prog (pan R) (Instr.storeAt 3 v16 x1) w17 fun w18 =>
 RUN prog (pan R) (bins .add 3 (.tmp 31) (.const (.int .i64 1)) x31 (.int .i64 1)) w18 fun v19 w20 =>
 C7 v19 w20
def b8 (C7:VP) (x1 x3 x29 x30 x31:Value) (w:World) (_r:Tok R:=tok R) (_C7:Tok C7:=tok C7):Prop :=
 RUN prog (pan R) (bins .lss 3 (.tmp 31) (.tmp 30) x31 x30) w fun v1 w2 =>
 SPL v1
 (b8_1 R C7 x1 x3 x29 x31 w2)
 (b4 R w2)
abbrev q2 (C7:VP):XP:=QX (fun ρ w=>C7 (ρ 31) w) (fun ρ w=>R (.returned (ρ 6)) w) [(0,(fun ρ w=>b4 R  w))]
theorem b8_ok (R:EP) (C7:VP) (ρ:Env) (w:World) (h:b8 R C7 (ρ 1) (ρ 3) (ρ 29) (ρ 30) (ρ 31) w):cP8 R p5 (q2 R C7) ρ w:=cast (by kernel_rfl) h
def l7 (x1 x3 x29 x30 x31:Value) (w:World) (_r:Tok R:=tok R):Prop :=
 ∃(J:VP) (μ:Value→World→Nat),J x31 w∧∀y31 w0,J y31 w0→b8 R (fun z31 w1=>J z31 w1∧μ z31 w1<μ y31 w0) x1 x3 x29 x30 y31 w0
abbrev q3:XP:=QX (fun ρ w=>b4 R  w) (fun ρ w=>R (.returned (ρ 6)) w) [(0,(fun ρ w=>b4 R  w))]
theorem l7_ok (h:l7 R (ρ 1) (ρ 3) (ρ 29) (ρ 30) (ρ 31) w):cP8 R (blkC p4) (q3 R) ρ w:=by
 unfold l7 at h
 obtain ⟨J,μ,h0,hr⟩:=h
 have e:Code.loop (loopC (blkC p4))=(blkC p4):=by kernel_rfl
 rw [←e]
 refine loopQ (fun ρ' w'=>J (ρ' 31) w') (fun ρ' w'=>μ (ρ' 31) w') h0 fun ρ' w' hA hI=>?_
 have e1:ρ' 1=ρ 1:=Agree.at hA 1 (by kernel_rfl)
 have e3:ρ' 3=ρ 3:=Agree.at hA 3 (by kernel_rfl)
 have e29:ρ' 29=ρ 29:=Agree.at hA 29 (by kernel_rfl)
 have e30:ρ' 30=ρ 30:=Agree.at hA 30 (by kernel_rfl)
 have h1:=hr (ρ' 31) w' hI
 rw [←e1,←e3,←e29,←e30] at h1
 exact b8_ok R (fun z31 w1=>J z31 w1∧μ z31 w1<μ (ρ' 31) w') ρ' w' h1
theorem l7_intro (R:EP) (x1 x3 x29 x30 x31:Value) (w:World) (J:VP) (μ:Value→World→Nat) (h0:J x31 w)
  (hr:∀y31 w0,J y31 w0→∀C7:VP,(∀z31 w1,J z31 w1→μ z31 w1<μ y31 w0→C7 z31 w1)→b8 R C7 x1 x3 x29 x30 y31 w0):l7 R x1 x3 x29 x30 x31 w:=by
 unfold l7
 exact ⟨J,μ,h0,fun y31 w0 hJ=>hr y31 w0 hJ _ (fun z31 w1 h1 h2=>⟨h1,h2⟩)⟩
abbrev q4:XP:=QX (fun ρ w=>b4 R  w) (fun ρ w=>R (.returned (ρ 6)) w) []
theorem k6_ok (h:l7 R (ρ 1) (ρ 3) (ρ 29) (ρ 30) (ρ 31) w):cP8 R p4 (q4 R) ρ w:=by
 have e:Code.block 0 (blkC p4)=p4:=by kernel_rfl
 rw [←e]
 exact blockQ (l7_ok R ρ w h)
def b5 (x1 x2 x3:Value) (w:World) (_r:Tok R:=tok R):Prop :=
 RUN prog (pan R) (Builtin.len_ #[25] 3 #[x2]) w fun v1 w2 =>
 l7 R x1 x3 x2 v1 (.int .i64 0) w2
abbrev q5:XP:=QX (fun ρ w=>l7 R (ρ 1) (ρ 3) (ρ 29) (ρ 30) (ρ 31) w) (fun ρ w=>R (.returned (ρ 6)) w) []
theorem b5_eq:(b5 R (ρ 1) (ρ 2) (ρ 3) w)=cP8 R (preC 0 p3) (q5 R) ρ w:=by kernel_rfl
theorem b5_ok (h:b5 R (ρ 1) (ρ 2) (ρ 3) w):cP8 R p3 (q4 R) ρ w:=by
 have e:appC 0 (preC 0 p3) (dropC 1 p3)=p3:=by kernel_rfl
 rw [←e]
 exact appQ (fun ρ w=>l7 R (ρ 1) (ρ 3) (ρ 29) (ρ 30) (ρ 31) w) 0 ((b5_eq R ρ w).mp h) (fun ρ w h=>k6_ok R ρ w h)
theorem k3_ok (h:b5 R (ρ 1) (ρ 2) (ρ 3) w):cP8 R (sndC p1) (q1 R) ρ w:=by
 have e:Code.seq (fstC (sndC p1)) (sndC (sndC p1))=(sndC p1):=by kernel_rfl
 rw [←e]
 exact seqQ (fun ρ w=>b4 R  w) (b5_ok R ρ w h) (fun ρ w h=>b4_ok R ρ w h)
noncomputable abbrev p6:Code:=dropC 1 (fstC p1)
def b10 (x1 x2 x3 x28:Value) (w:World) (_r:Tok R:=tok R):Prop :=
 SPL x28
 (R (.returned (.int .i64 1)) w)
 (b5 R x1 x2 x3 w)
abbrev q6:XP:=QX (fun ρ w=>b5 R (ρ 1) (ρ 2) (ρ 3) w) (fun ρ w=>R (.returned (ρ 6)) w) []
theorem b10_ok (h:b10 R (ρ 1) (ρ 2) (ρ 3) (ρ 28) w):cP8 R p6 (q6 R) ρ w:=cast (by kernel_rfl) h
def b9_1 (x1 x2 x3:Value) (w17:World) (_r:Tok R:=tok R):Prop :=
 RUN prog (pan R) (Instr.makeFunc (.func gram_Builder_Grade_1.id) #[] #[x3]) w17 fun v18 w19 =>
 CALL prog (pan R) slices_ContainsFunc_int_int.id #[x2,v18] w19 fun v20 w21 =>
 b10 R x1 x2 x3 v20 w21
def b9_2 (x1 x2 x3:Value) (w6:World) (_r:Tok R:=tok R):Prop :=
 RUN prog (pan R) (Instr.loadAt 61 x3) w6 fun v7 w8 =>
 NILC v7 fun v9 =>
 RUN prog (pan R) (Instr.fieldAt 103 v9 3) w8 fun v10 w11 =>
 RUN prog (pan R) (Instr.loadAt 25 v10) w11 fun v12 w13 =>
 RUN prog (pan R) (Builtin.len_ #[25] 3 #[v12]) w13 fun v14 w15 =>
 RUN prog (pan R) (bins .gtr 3 (.tmp 16) (.tmp 21) x1 v14) w15 fun v16 w17 =>
 SPL v16
 (b10 R x1 x2 x3 (.bool Bool.true) w17)
 (b9_1 R x1 x2 x3 w17)
def b9 (x1 x2 x3:Value) (w:World) (_r:Tok R:=tok R):Prop :=
 RUN prog (pan R) (Instr.loadAt 61 x3) w fun v1 w2 =>
 RUN prog (pan R) (bins .eql 61 (.tmp 9) (.const (.pointer Option.none)) v1 (.pointer Option.none)) w2 fun v3 w4 =>
 SPL v3
 (b10 R x1 x2 x3 (.bool Bool.true) w4)
 (RUN prog (pan R) (bins .lss 3 (.tmp 12) (.const (.int .i64 0)) x1 (.int .i64 0)) w4 fun v5 w6 =>
 SPL v5
 (b10 R x1 x2 x3 (.bool Bool.true) w6)
 (b9_2 R x1 x2 x3 w6))
abbrev q7:XP:=QX (fun ρ w=>b10 R (ρ 1) (ρ 2) (ρ 3) (ρ 28) w) (fun ρ w=>R (.returned (ρ 6)) w) []
theorem b9_eq:(b9 R (ρ 1) (ρ 2) (ρ 3) w)=cP8 R (preC 0 (fstC p1)) (q7 R) ρ w:=by kernel_rfl
theorem b9_ok (h:b9 R (ρ 1) (ρ 2) (ρ 3) w):cP8 R (fstC p1) (q6 R) ρ w:=by
 have e:appC 0 (preC 0 (fstC p1)) (dropC 1 (fstC p1))=(fstC p1):=by kernel_rfl
 rw [←e]
 exact appQ (fun ρ w=>b10 R (ρ 1) (ρ 2) (ρ 3) (ρ 28) w) 0 ((b9_eq R ρ w).mp h) (fun ρ w h=>b10_ok R ρ w h)
theorem k2_ok (h:b9 R (ρ 1) (ρ 2) (ρ 3) w):cP8 R p1 (q1 R) ρ w:=by
 have e:Code.seq (fstC p1) (sndC p1)=p1:=by kernel_rfl
 rw [←e]
 exact seqQ (fun ρ w=>b5 R (ρ 1) (ρ 2) (ρ 3) w) (b9_ok R ρ w h) (fun ρ w h=>k3_ok R ρ w h)
def b1 (x0 x1 x2:Value) (w:World) (_r:Tok R:=tok R):Prop :=
 RUN prog (pan R) (Instr.box 61 x0) w fun v1 w2 =>
 b9 R x1 x2 v1 w2
abbrev q8:XP:=QX (fun ρ w=>b9 R (ρ 1) (ρ 2) (ρ 3) w) (fun ρ w=>R (.returned (ρ 6)) w) []
theorem b1_eq:(b1 R (ρ 0) (ρ 1) (ρ 2) w)=cP8 R (preC 0 code) (q8 R) ρ w:=by kernel_rfl
theorem b1_ok (h:b1 R (ρ 0) (ρ 1) (ρ 2) w):cP8 R code (q1 R) ρ w:=by
 have e:appC 0 (preC 0 code) (dropC 1 code)=code:=by kernel_rfl
 rw [←e]
 exact appQ (fun ρ w=>b9 R (ρ 1) (ρ 2) (ρ 3) w) 0 ((b1_eq R ρ w).mp h) (fun ρ w h=>k2_ok R ρ w h)
/-- What is owed for a call. -/
def run (a0 a1 a2:Value) (w:World):Prop:=b1 R a0 a1 a2 w
theorem calls (R:EP) (a0 a1 a2:Value) (w:World) (h:run R a0 a1 a2 w):Calls prog id #[a0,a1,a2] w R :=
 calls_of_t (f:=id) (fn:=f50) (c:=code) (by kernel_rfl) func50 (by kernel_rfl) (by kernel_rfl) (args:=[a0,a1,a2]) (Nat.le_of_ble_eq_true rfl) rfl (b1_ok R (envOf [a0,a1,a2]) w h)
theorem enters:Enters prog id:=fun args w=>call50 args w
theorem ct {a0 a1 a2:Value} {w:World} {S:VP} (h:∀R:EP,(∀v w,S v w→R (.returned v) w)→run R a0 a1 a2 w):Ct prog id #[a0,a1,a2] w S :=
 Ct.intro enters fun R hR=>calls R a0 a1 a2 w (h R hR)
attribute [irreducible] b4 b8_1 b8 l7 b5 b10 b9_1 b9_2 b9 b1 run
attribute [go_sem] b4 b8_1 b8 b5 b10 b9_1 b9_2 b9 b1 run
end gram_Builder_Grade

/-! ### (*presage/gram.Builder).Grade$1 -/
namespace gram_Builder_Grade_1
noncomputable def code:Code:=bodyOf f83
def b1_1 (x0 x1:Value) (w2:World) (_r:Tok R:=tok R):Prop :=
 RUN prog (pan R) (Instr.loadAt 61 x1) w2 fun v3 w4 =>
 NILC v3 fun v5 =>
 RUN prog (pan R) (Instr.fieldAt 103 v5 4) w4 fun v6 w7 =>
 RUN prog (pan R) (Instr.loadAt 101 v6) w7 fun v8 w9 =>
 RUN prog (pan R) (Builtin.len_ #[101] 3 #[v8]) w9 fun v10 w11 =>
 RUN prog (pan R) (bins .geq 3 (.tmp 7) (.tmp 12) x0 v10) w11 fun v12 w13 =>
 R (.returned v12) w13
def b1 (x0 x1:Value) (w:World) (_r:Tok R:=tok R):Prop :=
 RUN prog (pan R) (bins .lss 3 (.tmp 4) (.const (.int .i64 0)) x0 (.int .i64 0)) w fun v1 w2 =>
 SPL v1
 (R (.returned (.bool Bool.true)) w2)
 (b1_1 R x0 x1 w2)
abbrev q1:XP:=QX (fun ρ w=>R (.returned (ρ 3)) w) (fun ρ w=>R (.returned (ρ 3)) w) []
theorem b1_ok (h:b1 R (ρ 0) (ρ 1) w):cP8 R code (q1 R) ρ w:=cast (by kernel_rfl) h
/-- What is owed for a call. -/
def run (a0 a1:Value) (w:World):Prop:=b1 R a0 a1 w
theorem calls (R:EP) (a0 a1:Value) (w:World) (h:run R a0 a1 w):Calls prog id #[a0,a1] w R :=
 calls_of_t (f:=id) (fn:=f83) (c:=code) (by kernel_rfl) func83 (by kernel_rfl) (by kernel_rfl) (args:=[a0,a1]) (Nat.le_of_ble_eq_true rfl) rfl (b1_ok R (envOf [a0,a1]) w h)
theorem enters:Enters prog id:=fun args w=>call83 args w
theorem ct {a0 a1:Value} {w:World} {S:VP} (h:∀R:EP,(∀v w,S v w→R (.returned v) w)→run R a0 a1 w):Ct prog id #[a0,a1] w S :=
 Ct.intro enters fun R hR=>calls R a0 a1 w (h R hR)
attribute [irreducible] b1_1 b1 run
attribute [go_sem] b1_1 b1 run
end gram_Builder_Grade_1
end Go.Proofs.YtckbgeedlobfaaaDoor

/- Shallow programs, written by a program of ours (gen.py) off the translation; each is tied to the code by the kernel. -/
namespace Go.Proofs.YtckbgeedlobfaaaDoor
open Go.Px Tryd
abbrev cP9 (R:EP):=codeP prog (pan R)
variable (R:EP) (ρ:Env) (w:World)

/-! ### a part of presage/spec.read$1 -/
namespace Rec1
noncomputable def code:Code:=sndC (bodyOf f42)
noncomputable abbrev p1:Code:=dropC 3 code
def b2 (x0 x2:Value) (w:World) (_r:Tok R:=tok R):Prop :=
 RUN prog (pan R) (Instr.fieldAt 95 x2 0) w fun v1 w2 =>
 RUN prog (pan R) (Instr.loadAt 3 v1) w2 fun v3 w4 =>
 RUNU prog (pan R) (Instr.storeAt 3 x0 v3) w4 fun w5 =>
 R (.returned (.tuple #[x0])) w5
abbrev q1:XP:=QX (fun ρ w=>R (.returned (.tuple #[ρ 0])) w) (fun ρ w=>R (.returned (.agg #[ρ 0])) w) []
theorem b2_ok (h:b2 R (ρ 0) (ρ 2) w):cP9 R p1 (q1 R) ρ w:=cast (by kernel_rfl) h
def b1_1 (x0 x1:Value) (w2:World) (_r:Tok R:=tok R):Prop :=
 RUN prog (pan R) (Instr.typeAssert x1 20 95 true) w2 fun v3 w4 =>
 RUN prog (pan R) (Instr.extract v3 0) w4 fun v5 w6 =>
 RUN prog (pan R) (Instr.extract v3 1) w6 fun v7 w8 =>
 RUN prog (pan R) (Instr.alloc 95 true (.tuple #[])) w8 fun v9 w10 =>
 RUNU prog (pan R) (Instr.storeAt 95 v9 v5) w10 fun w11 =>
 RUN prog (pan R) (Op.unary .not v7) w11 fun v12 w13 =>
 SPL v12
 (RUN prog (pan R) (Instr.panic x1) w13 fun v14 w15 =>
 b2 R x0 v9 w15)
 (b2 R x0 v9 w13)
def b1 (x0 x1:Value) (w:World) (_r:Tok R:=tok R):Prop :=
 RUN prog (pan R) (bins .eql 20 (.tmp 5) (.const (.nilIface)) x1 .nilIface) w fun v1 w2 =>
 SPL v1
 (R (.returned (.agg #[x0])) w2)
 (b1_1 R x0 x1 w2)
abbrev q2:XP:=QX (fun ρ w=>b2 R (ρ 0) (ρ 2) w) (fun ρ w=>R (.returned (.agg #[ρ 0])) w) []
theorem b1_eq:(b1 R (ρ 0) (ρ 1) w)=cP9 R (preC 2 code) (q2 R) ρ w:=by kernel_rfl
theorem b1_ok (h:b1 R (ρ 0) (ρ 1) w):cP9 R code (q1 R) ρ w:=by
 have e:appC 2 (preC 2 code) (dropC 3 code)=code:=by kernel_rfl
 rw [←e]
 exact appQ (fun ρ w=>b2 R (ρ 0) (ρ 2) w) 2 ((b1_eq R ρ w).mp h) (fun ρ w h=>b2_ok R ρ w h)
/-- What the part owes. -/
abbrev run (x0 x1:Value) (w:World):Prop:=b1 R x0 x1 w
theorem part_wp {R:EP} {ρ:Env} {a:Act} {D:List Deferred} {w:World} (hr:Rel f42.ntmps a ρ D) (h:run R (ρ 0) (ρ 1) w):code.wp prog (post (pan R) f42.ntmps (q1 R) D) a w :=
 codeP_sound (by kernel_rfl) code (q1 R) ρ a w (by kernel_rfl) hr (b1_ok R ρ w h)
attribute [irreducible] b2 b1_1 b1
attribute [go_sem] b2 b1_1 b1
end Rec1
end Go.Proofs.YtckbgeedlobfaaaDoor

/- Shallow programs, written by a program of ours (gen.py) off the translation; each is tied to the code by the kernel. -/
namespace Go.Proofs.YtckbgeedlobfaaaDoor
open Go.Px Tryd
abbrev cP10 (R:EP):=codeP prog (pan R)
variable (R:EP) (ρ:Env) (w:World)

/-! ### a part of presage/spec.read -/
namespace RdF
noncomputable def code:Code:=sndC (sndC (sndC (sndC (sndC (sndC (sndC (bodyOf f25)))))))
def b1_1 (x2 x3 x6:Value) (w6:World) (_r:Tok R:=tok R):Prop :=
 LD prog (Instr.loadAt 56 x2) (World.drew w6) fun v7 =>
 PUR prog (Instr.fieldAt 31 x6 1) fun v8 =>
 LD prog (Instr.loadAt 3 v8) (World.drew w6) fun v9 =>
 RUNU prog (pan R) (Instr.storeAt 56 x2 v7) (World.drew w6) fun w10 =>
 Sem.run prog (Instr.loadAt 3 v8) w10 = .ok v9 w10∧(RUNU prog (pan R) (Instr.storeAt 3 x3 v9) w10 fun w11 =>
 R (.returned (.agg #[x2,x3])) w11)
def b1_2 (x2 x3:Value) (w6:World) (_r:Tok R:=tok R):Prop :=
 RUN prog (pan R) (Instr.loadAt 56 x2) w6 fun v12 w13 =>
 RUNU prog (pan R) (Instr.storeAt 56 x2 v12) w13 fun w14 =>
 RUNU prog (pan R) (Instr.storeAt 3 x3 (.int .i64 (-1))) w14 fun w15 =>
 R (.returned (.agg #[x2,x3])) w15
def b1 (x2 x3 x6:Value) (w:World) (_r:Tok R:=tok R):Prop :=
 RUN prog (pan R) (Instr.fieldAt 31 x6 0) w fun v1 w2 =>
 RUN prog (pan R) (Instr.loadAt 29 v1) w2 fun v3 w4 =>
 RUN prog (pan R) (bins .neq 29 (.tmp 43) (.const (.int .i64 0)) v3 (.int .i64 0)) w4 fun v5 w6 =>
 SPL v5
 (b1_1 R x2 x3 x6 w6)
 (b1_2 R x2 x3 w6)
abbrev q1:XP:=QX (fun ρ w=>R (.returned (.tuple #[ρ 2,ρ 3])) w) (fun ρ w=>R (.returned (.agg #[ρ 2,ρ 3])) w) []
theorem b1_ok (h:b1 R (ρ 2) (ρ 3) (ρ 6) w):cP10 R code (q1 R) ρ w:=cast (by kernel_rfl) h
/-- What the part owes. -/
abbrev run (x2 x3 x6:Value) (w:World):Prop:=b1 R x2 x3 x6 w
theorem part_wp {R:EP} {ρ:Env} {a:Act} {D:List Deferred} {w:World} (hr:Rel f25.ntmps a ρ D) (h:run R (ρ 2) (ρ 3) (ρ 6) w):code.wp prog (post (pan R) f25.ntmps (q1 R) D) a w :=
 codeP_sound (by kernel_rfl) code (q1 R) ρ a w (by kernel_rfl) hr (b1_ok R ρ w h)
attribute [irreducible] b1_1 b1_2 b1
attribute [go_sem] b1_1 b1_2 b1
end RdF
end Go.Proofs.YtckbgeedlobfaaaDoor

/- Shallow programs, written by a program of ours (gen.py) off the translation; each is tied to the code by the kernel. -/
namespace Go.Proofs.YtckbgeedlobfaaaDoor
open Go.Px Tryd
abbrev cP11 (R:EP):=codeP prog (pan R)
variable (R:EP) (ρ:Env) (w:World)

/-! ### a part of presage/spec.read -/
namespace RdA
noncomputable def code:Code:=fstC (bodyOf f25)
def b1 (x0:Value) (w:World) (_r:Tok R:=tok R):Prop :=
 RUN prog (pan R) (Instr.alloc 56 true (.tuple #[])) w fun v1 w2 =>
 RUN prog (pan R) (Instr.alloc 3 true (.tuple #[])) w2 fun v3 w4 =>
 R (.returned (.tuple #[x0,v1,v3])) w4
abbrev q1:XP:=QX (fun ρ w=>R (.returned (.tuple #[ρ 0,ρ 2,ρ 3])) w) (fun ρ w=>R (.returned (.agg #[ρ 0])) w) []
theorem b1_ok (h:b1 R (ρ 0) w):cP11 R code (q1 R) ρ w:=cast (by kernel_rfl) h
/-- What the part owes. -/
abbrev run (x0:Value) (w:World):Prop:=b1 R x0 w
theorem part_wp {R:EP} {ρ:Env} {a:Act} {D:List Deferred} {w:World} (hr:Rel f25.ntmps a ρ D) (h:run R (ρ 0) w):code.wp prog (post (pan R) f25.ntmps (q1 R) D) a w :=
 codeP_sound (by kernel_rfl) code (q1 R) ρ a w (by kernel_rfl) hr (b1_ok R ρ w h)
attribute [irreducible] b1
attribute [go_sem] b1
end RdA
end Go.Proofs.YtckbgeedlobfaaaDoor

/- Shallow programs, written by a program of ours (gen.py) off the translation; each is tied to the code by the kernel. -/
namespace Go.Proofs.YtckbgeedlobfaaaDoor
open Go.Px Tryd
abbrev cP12 (R:EP):=codeP prog (pan R)
variable (R:EP) (ρ:Env) (w:World)

/-! ### a part of presage/spec.read -/
namespace RdB
noncomputable def code:Code:=fstC (sndC (bodyOf f25))
def b1 (x0 x2 x3:Value) (w:World) (_r:Tok R:=tok R):Prop :=
 RUN prog (pan R) (Instr.makeMap 82 none) w fun v1 w2 =>
 RUN prog (pan R) (Instr.makeMap 82 none) w2 fun v3 w4 =>
 RUN prog (pan R) (Builtin.len_ #[9] 3 #[x0]) w4 fun v5 w6 =>
 RUN prog (pan R) (Instr.build 87 #[(3,v1),(6,v3),(2,v5)]) w6 fun v7 w8 =>
 RUN prog (pan R) (Instr.box 87 v7) w8 fun v9 w10 =>
 RUNU prog (pan R) (Instr.storeAt 56 x2 v9) w10 fun w11 =>
 R (.returned (.tuple #[x0,x2,x3])) w11
abbrev q1:XP:=QX (fun ρ w=>R (.returned (.tuple #[ρ 0,ρ 2,ρ 3])) w) (fun ρ w=>R (.returned (.agg #[ρ 0])) w) []
theorem b1_ok (h:b1 R (ρ 0) (ρ 2) (ρ 3) w):cP12 R code (q1 R) ρ w:=cast (by kernel_rfl) h
/-- What the part owes. -/
abbrev run (x0 x2 x3:Value) (w:World):Prop:=b1 R x0 x2 x3 w
theorem part_wp {R:EP} {ρ:Env} {a:Act} {D:List Deferred} {w:World} (hr:Rel f25.ntmps a ρ D) (h:run R (ρ 0) (ρ 2) (ρ 3) w):code.wp prog (post (pan R) f25.ntmps (q1 R) D) a w :=
 codeP_sound (by kernel_rfl) code (q1 R) ρ a w (by kernel_rfl) hr (b1_ok R ρ w h)
attribute [irreducible] b1
attribute [go_sem] b1
end RdB
end Go.Proofs.YtckbgeedlobfaaaDoor

/- Shallow programs, written by a program of ours (gen.py) off the translation; each is tied to the code by the kernel. -/
namespace Go.Proofs.YtckbgeedlobfaaaDoor
open Go.Px Tryd
abbrev cP13 (R:EP):=codeP prog (pan R)
variable (R:EP) (ρ:Env) (w:World)

/-! ### a part of presage/spec.read -/
namespace RdC
noncomputable def code:Code:=fstC (fstC (sndC (sndC (bodyOf f25))))
def b1 (x0 x2 x3:Value) (w:World) (_r:Tok R:=tok R):Prop :=
 CALL prog (pan R) scan_Each.id #[x0] w fun v1 w2 =>
 R (.returned (.tuple #[x0,x2,x3,v1])) w2
abbrev q1:XP:=QX (fun ρ w=>R (.returned (.tuple #[ρ 0,ρ 2,ρ 3,ρ 14])) w) (fun ρ w=>R (.returned (.agg #[ρ 0])) w) []
theorem b1_ok (h:b1 R (ρ 0) (ρ 2) (ρ 3) w):cP13 R code (q1 R) ρ w:=cast (by kernel_rfl) h
/-- What the part owes. -/
abbrev run (x0 x2 x3:Value) (w:World):Prop:=b1 R x0 x2 x3 w
theorem part_wp {R:EP} {ρ:Env} {a:Act} {D:List Deferred} {w:World} (hr:Rel f25.ntmps a ρ D) (h:run R (ρ 0) (ρ 2) (ρ 3) w):code.wp prog (post (pan R) f25.ntmps (q1 R) D) a w :=
 codeP_sound (by kernel_rfl) code (q1 R) ρ a w (by kernel_rfl) hr (b1_ok R ρ w h)
attribute [irreducible] b1
attribute [go_sem] b1
end RdC
end Go.Proofs.YtckbgeedlobfaaaDoor

/- Shallow programs, written by a program of ours (gen.py) off the translation; each is tied to the code by the kernel. -/
namespace Go.Proofs.YtckbgeedlobfaaaDoor
open Go.Px Tryd
abbrev cP14 (R:EP):=codeP prog (pan R)
variable (R:EP) (ρ:Env) (w:World)

/-! ### a part of presage/spec.read -/
namespace RdD
noncomputable def code:Code:=fstC (sndC (sndC (sndC (bodyOf f25))))
def b1_1 (x2 x3 v1:Value) (w2:World) (_r:Tok R:=tok R):Prop :=
 RUN prog (pan R) (Instr.extract v1 0) w2 fun v3 w4 =>
 RUN prog (pan R) (Instr.extract v1 1) w4 fun v5 w6 =>
 RUN prog (pan R) (Instr.alloc 31 true (.tuple #[])) w6 fun v7 w8 =>
 RUNU prog (pan R) (Instr.storeAt 31 v7 v5) w8 fun w9 =>
 R (.returned (.tuple #[x2,x3,v7])) w9
def b1 (x0 x2 x3:Value) (w:World) (_r:Tok R:=tok R):Prop :=
 CALL prog (pan R) scan_Words.id #[x0] w fun v1 w2 =>
 b1_1 R x2 x3 v1 w2
abbrev q1:XP:=QX (fun ρ w=>R (.returned (.tuple #[ρ 2,ρ 3,ρ 6])) w) (fun ρ w=>R (.returned (.agg #[ρ 0])) w) []
theorem b1_ok (h:b1 R (ρ 0) (ρ 2) (ρ 3) w):cP14 R code (q1 R) ρ w:=cast (by kernel_rfl) h
/-- What the part owes. -/
abbrev run (x0 x2 x3:Value) (w:World):Prop:=b1 R x0 x2 x3 w
theorem part_wp {R:EP} {ρ:Env} {a:Act} {D:List Deferred} {w:World} (hr:Rel f25.ntmps a ρ D) (h:run R (ρ 0) (ρ 2) (ρ 3) w):code.wp prog (post (pan R) f25.ntmps (q1 R) D) a w :=
 codeP_sound (by kernel_rfl) code (q1 R) ρ a w (by kernel_rfl) hr (b1_ok R ρ w h)
attribute [irreducible] b1_1 b1
attribute [go_sem] b1_1 b1
end RdD
end Go.Proofs.YtckbgeedlobfaaaDoor

/- Shallow programs, written by a program of ours (gen.py) off the translation; each is tied to the code by the kernel. -/
namespace Go.Proofs.YtckbgeedlobfaaaDoor
open Go.Px Tryd
abbrev cP15 (R:EP):=codeP prog (pan R)
variable (R:EP) (ρ:Env) (w:World)

/-! ### a part of presage/spec.read -/
namespace RdE
noncomputable def code:Code:=fstC (sndC (sndC (sndC (sndC (bodyOf f25)))))
def b1_1 (x2 x3 x6:Value) (w6:World) (_r:Tok R:=tok R):Prop :=
 RUN prog (pan R) (Instr.loadAt 56 x2) w6 fun v7 w8 =>
 RUN prog (pan R) (Instr.fieldAt 31 x6 1) w8 fun v9 w10 =>
 RUN prog (pan R) (Instr.loadAt 3 v9) w10 fun v11 w12 =>
 NILC v7 fun v13 =>
 RUN prog (pan R) (Instr.fieldAt 87 v13 2) w12 fun v14 w15 =>
 RUNU prog (pan R) (Instr.storeAt 3 v14 v11) w15 fun w16 =>
 R (.returned (.tuple #[x2,x3,x6])) w16
def b1 (x2 x3 x6:Value) (w:World) (_r:Tok R:=tok R):Prop :=
 RUN prog (pan R) (Instr.fieldAt 31 x6 0) w fun v1 w2 =>
 RUN prog (pan R) (Instr.loadAt 29 v1) w2 fun v3 w4 =>
 RUN prog (pan R) (bins .neq 29 (.tmp 32) (.const (.int .i64 0)) v3 (.int .i64 0)) w4 fun v5 w6 =>
 SPL v5
 (b1_1 R x2 x3 x6 w6)
 (R (.returned (.tuple #[x2,x3,x6])) w6)
abbrev q1:XP:=QX (fun ρ w=>R (.returned (.tuple #[ρ 2,ρ 3,ρ 6])) w) (fun ρ w=>R (.returned (.agg #[ρ 0])) w) []
theorem b1_ok (h:b1 R (ρ 2) (ρ 3) (ρ 6) w):cP15 R code (q1 R) ρ w:=cast (by kernel_rfl) h
/-- What the part owes. -/
abbrev run (x2 x3 x6:Value) (w:World):Prop:=b1 R x2 x3 x6 w
theorem part_wp {R:EP} {ρ:Env} {a:Act} {D:List Deferred} {w:World} (hr:Rel f25.ntmps a ρ D) (h:run R (ρ 2) (ρ 3) (ρ 6) w):code.wp prog (post (pan R) f25.ntmps (q1 R) D) a w :=
 codeP_sound (by kernel_rfl) code (q1 R) ρ a w (by kernel_rfl) hr (b1_ok R ρ w h)
attribute [irreducible] b1_1 b1
attribute [go_sem] b1_1 b1
end RdE
end Go.Proofs.YtckbgeedlobfaaaDoor
