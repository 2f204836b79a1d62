/-
  Texts of this claim: T02H2, TBP3, TBPF, TBPA, TBPB, TBPC, TBPD, TBPE, TBPY, TBPZ, TBR, TBQA, TBQB, TBQC, TBQD, TBQE, TBP4, TBL.
-/
import Derived.Test.YtckbgeedlobfaaaGreatDoorY04
import Derived.Test.YtckbgeedlobfaaaGreatDoorY02
set_option linter.unusedVariables false
set_option maxRecDepth 100000
namespace Go.Proofs.YtckbgeedlobfaaaGreatDoor
open Go.Px Tryz Instr
namespace Zd
noncomputable def code:Code:=Zm f30
noncomputable abbrev p1:Code:=Zi 1 code
noncomputable abbrev p2:Code:=Zi 1 (sndC p1)
noncomputable abbrev p3:Code:=Zi 1 (sndC p2)
noncomputable abbrev p4:Code:=Zi 1 (sndC p3)
noncomputable abbrev p5:Code:=Zi 2 (sndC p4)
def b10 (R:EP)(x2 x4:Value)(w:World)(_r:Tok R:=tok R):Prop :=
 RUN prog R (loadAt 27 x4) w fun v1 w2=>
 RUNU prog R (storeAt 27 x2 v1) w2 fun w3=>
 LD prog (loadAt 27 x2) w3 fun r0=>R (.returned (.tuple #[r0,(Value.int .i64 0)])) w3
abbrev r0 (R:EP)(z:Env)(w:World):Prop:=LD prog (loadAt 27 (z 2)) w fun r0=>R (.returned (.tuple #[r0,(z 3)])) w
abbrev q1 (R:EP):XP:=QX (r0 R) (r0 R) []
theorem Zef (R:EP):TI prog R p5 (q1 R) fun z w=>b10 R (z 2) (z 4) w:=ofT
def b9_1 (R:EP)(x0 x2 x4 x7:Value)(w20:World)(_r:Tok R:=tok R):Prop :=
 NILC x0 fun v21=>
 RUN prog R (fieldAt 115 v21 5) w20 fun v22 w23=>
 RUN prog R (loadAt 3 v22) w23 fun v24 w25=>
 RUN prog R (lookup 116 x7 v24 false) w25 fun v26 w27=>
 RUN prog R (fieldAt 27 x4 3) w27 fun v28 w29=>
 RUNU prog R (storeAt 3 v28 v26) w29 fun w30=>
 b10 R x2 x4 w30
def b9 (R:EP)(x0 x2 x4 x7:Value)(w:World)(_r:Tok R:=tok R):Prop :=
 RUN prog R (fieldAt 27 x4 4) w fun v1 w2=>
 RUN prog R (loadAt 25 v1) w2 fun v3 w4=>
 RUN prog R (indexAt 25 v3 (Value.int .i64 0)) w4 fun v5 w6=>
 RUN prog R (fieldAt 50 v5 0) w6 fun v7 w8=>
 RUN prog R (loadAt 3 v7) w8 fun v9 w10=>
 RUN prog R (fieldAt 27 x4 3) w10 fun v11 w12=>
 RUNU prog R (storeAt 3 v11 v9) w12 fun w13=>
 NILC x0 fun v14=>
 RUN prog R (fieldAt 115 v14 5) w13 fun v15 w16=>
 RUN prog R (loadAt 3 v15) w16 fun v17 w18=>
 RUN prog R (bins .neq 3 (.tmp 163) (.const (Value.int .i64 0)) v17 (Value.int .i64 0)) w18 fun v19 w20=>
 SPL v19
 (b9_1 R x0 x2 x4 x7 w20)
 (b10 R x2 x4 w20)
theorem Zei (R:EP):TI prog R (sndC p4) (q1 R) fun z w=>b9 R (z 0) (z 2) (z 4) (z 7) w:=appT 1 (Zef R)
noncomputable abbrev p6:Code:=Zi 1 (fstC p4)
noncomputable abbrev p7:Code:=Zby (blkC p6)
noncomputable abbrev p8:Code:=Zi 2 p7
def b16 (R:EP)(C13:VP)(x117:Value)(w:World)(_r:Tok R:=tok R)(_C13:Tok C13:=tok C13):Prop :=
 RUN prog R (bins .add 3 (.tmp 117) (.const (Value.int .i64 1)) x117 (Value.int .i64 1)) w fun v1 w2=>
 C13 v1 w2
abbrev q2 (R:EP)(C13:VP):XP:=QX (fun z w=>C13 (z 117) w) (r0 R) [(8,(fun z w=>b9 R (z 0) (z 2) (z 4) (z 7) w))]
theorem Zex (R:EP)(C13:VP):TI prog R (sndC p8) (q2 R C13) fun z w=>b16 R C13 (z 117) w:=ofT
noncomputable abbrev p9:Code:=blkC (fstC p8)
noncomputable abbrev p10:Code:=Zi 2 p9
def b20 (R:EP)(C13:VP)(x4 x12 x117:Value)(w:World)(_r:Tok R:=tok R)(_C13:Tok C13:=tok C13):Prop :=
 RUN prog R (fieldAt 27 x4 4) w fun v1 w2=>
 RUN prog R (loadAt 25 v1) w2 fun v3 w4=>
 RUN prog R (loadAt 50 x12) w4 fun v5 w6=>
 RUN prog R (buildSlice 25 1 #[(0,v5)]) w6 fun v7 w8=>
 RUN prog R (Builtin.append_ #[25,25] 25 #[v3,v7]) w8 fun v9 w10=>
 RUN prog R (fieldAt 27 x4 4) w10 fun v11 w12=>
 RUNU prog R (storeAt 25 v11 v9) w12 fun w13=>
 b16 R C13 x117 w13
abbrev q3 (R:EP)(C13:VP):XP:=QX (fun z w=>b16 R C13 (z 117) w) (r0 R) [(10,(fun z w=>b16 R C13 (z 117) w)),(8,(fun z w=>b9 R (z 0) (z 2) (z 4) (z 7) w))]
theorem Zh5 (R:EP)(C13:VP):TI prog R (sndC p10) (q3 R C13) fun z w=>b20 R C13 (z 4) (z 12) (z 117) w:=ofT
noncomputable abbrev p11:Code:=Zi 1 (fstC p10)
noncomputable abbrev p12:Code:=Zby (blkC p11)
noncomputable abbrev p13:Code:=Zi 2 p12
def b26 (R:EP)(C13:VP)(C23:VP)(x131:Value)(w:World)(_r:Tok R:=tok R)(_C13:Tok C13:=tok C13)(_C23:Tok C23:=tok C23):Prop :=
 RUN prog R (bins .add 3 (.tmp 131) (.const (Value.int .i64 1)) x131 (Value.int .i64 1)) w fun v1 w2=>
 C23 v1 w2
abbrev q4 (R:EP)(C13:VP)(C23:VP):XP:=QX (fun z w=>C23 (z 131) w) (r0 R) [(12,(fun z w=>b20 R C13 (z 4) (z 12) (z 117) w)),(10,(fun z w=>b16 R C13 (z 117) w)),(8,(fun z w=>b9 R (z 0) (z 2) (z 4) (z 7) w))]
theorem Zrs (R:EP)(C13:VP)(C23:VP):TI prog R (sndC p13) (q4 R C13 C23) fun z w=>b26 R C13 C23 (z 131) w:=ofT
noncomputable abbrev p14:Code:=blkC (fstC p13)
noncomputable abbrev p15:Code:=Zi 2 p14
def b29 (R:EP)(C13:VP)(C23:VP)(x12 x14 x131:Value)(w:World)(_r:Tok R:=tok R)(_C13:Tok C13:=tok C13)(_C23:Tok C23:=tok C23):Prop :=
 RUN prog R (fieldAt 50 x12 1) w fun v1 w2=>
 RUN prog R (loadAt 24 v1) w2 fun v3 w4=>
 RUN prog R (buildSlice 24 1 #[(0,x14)]) w4 fun v5 w6=>
 RUN prog R (Builtin.append_ #[24,24] 24 #[v3,v5]) w6 fun v7 w8=>
 RUN prog R (fieldAt 50 x12 1) w8 fun v9 w10=>
 RUNU prog R (storeAt 24 v9 v7) w10 fun w11=>
 b26 R C13 C23 x131 w11
abbrev q5 (R:EP)(C13:VP)(C23:VP):XP:=QX (fun z w=>b26 R C13 C23 (z 131) w) (r0 R) [(14,(fun z w=>b26 R C13 C23 (z 131) w)),(12,(fun z w=>b20 R C13 (z 4) (z 12) (z 117) w)),(10,(fun z w=>b16 R C13 (z 117) w)),(8,(fun z w=>b9 R (z 0) (z 2) (z 4) (z 7) w))]
theorem Zoh (R:EP)(C13:VP)(C23:VP):TI prog R p15 (q5 R C13 C23) fun z w=>b29 R C13 C23 (z 12) (z 14) (z 131) w:=ofT
def b28 (R:EP)(C13:VP)(C23:VP)(x7 x12 x129 x131:Value)(w:World)(_r:Tok R:=tok R)(_C13:Tok C13:=tok C13)(_C23:Tok C23:=tok C23):Prop :=
 RUN prog R (indexAt 24 x129 x131) w fun v1 w2=>
 RUN prog R (loadAt 3 v1) w2 fun v3 w4=>
 RUN prog R (bins .lss 3 (.tmp 135) (.const (Value.int .i64 0)) v3 (Value.int .i64 0)) w4 fun v5 w6=>
 SPL v5
 (RUN prog R (lookup 116 x7 v3 false) w6 fun v7 w8=>
 b29 R C13 C23 x12 v7 x131 w8)
 (b29 R C13 C23 x12 v3 x131 w6)
theorem Zrx (R:EP)(C13:VP)(C23:VP):TI prog R p14 (q5 R C13 C23) fun z w=>b28 R C13 C23 (z 7) (z 12) (z 129) (z 131) w:=appT 1 (Zoh R C13 C23)
abbrev q6 (R:EP)(C13:VP)(C23:VP):XP:=QX (fun z w=>b26 R C13 C23 (z 131) w) (r0 R) [(12,(fun z w=>b20 R C13 (z 4) (z 12) (z 117) w)),(10,(fun z w=>b16 R C13 (z 117) w)),(8,(fun z w=>b9 R (z 0) (z 2) (z 4) (z 7) w))]
theorem ZZ316 (R:EP)(C13:VP)(C23:VP):TI prog R (fstC p13) (q6 R C13 C23) fun z w=>b28 R C13 C23 (z 7) (z 12) (z 129) (z 131) w:=Zac 7 (Zrx R C13 C23)
theorem ZZ349 (R:EP)(C13:VP)(C23:VP):TI prog R p13 (q4 R C13 C23) fun z w=>b28 R C13 C23 (z 7) (z 12) (z 129) (z 131) w:=seqT (ZZ316 R C13 C23) (Zrs R C13 C23)
def b24 (R:EP)(C13:VP)(C23:VP)(x4 x7 x12 x117 x129 x130 x131:Value)(w:World)(_r:Tok R:=tok R)(_C13:Tok C13:=tok C13)(_C23:Tok C23:=tok C23):Prop :=
 RUN prog R (bins .lss 3 (.tmp 131) (.tmp 130) x131 x130) w fun v1 w2=>
 SPL v1
 (b28 R C13 C23 x7 x12 x129 x131 w2)
 (b20 R C13 x4 x12 x117 w2)
theorem Zoj (R:EP)(C13:VP)(C23:VP):TI prog R p12 (q4 R C13 C23) fun z w=>b24 R C13 C23 (z 4) (z 7) (z 12) (z 117) (z 129) (z 130) (z 131) w:=appT 1 (ZZ349 R C13 C23)
def l23 (R:EP)(C13:VP)(x4 x7 x12 x117 x129 x130 x131:Value)(w:World)(_r:Tok R:=tok R)(_C13:Tok C13:=tok C13):Prop :=
 ∃(J:VP) (μ:Value→World→Nat),J x131 w∧∀y131 w0,J y131 w0→b24 R C13 (fun z131 w1=>J z131 w1∧μ z131 w1<μ y131 w0) x4 x7 x12 x117 x129 x130 y131 w0
abbrev q7 (R:EP)(C13:VP):XP:=QX (fun z w=>b20 R C13 (z 4) (z 12) (z 117) w) (r0 R) [(12,(fun z w=>b20 R C13 (z 4) (z 12) (z 117) w)),(10,(fun z w=>b16 R C13 (z 117) w)),(8,(fun z w=>b9 R (z 0) (z 2) (z 4) (z 7) w))]
theorem ZZ327 (R:EP)(C13:VP):TI prog R (blkC p11) (q7 R C13) fun z w=>l23 R C13 (z 4) (z 7) (z 12) (z 117) (z 129) (z 130) (z 131) w:=fun z w h=>by
 unfold l23 at h
 obtain ⟨J,μ,h0,hr⟩:=h
 refine Zcg (fun z' w'=>J (z' 131) w') (fun z' w'=>μ (z' 131) w') h0 fun z' w' hA hI=>Zoj R C13 (fun z131 w1=>J z131 w1∧μ z131 w1<μ (z' 131) w') z' w' ?_
 have h1:=hr (z' 131) w' hI
 rwa [←hA.on 4,←hA.on 7,←hA.on 12,←hA.on 117,←hA.on 129,←hA.on 130]at h1
theorem l23_intro (R:EP)(C13:VP)(x4 x7 x12 x117 x129 x130 x131:Value)(w:World)(J:VP)(μ:Value→World→Nat)(h0:J x131 w)
   (hr:∀y131 w0,J y131 w0→∀C23:VP,(∀z131 w1,J z131 w1→μ z131 w1<μ y131 w0→C23 z131 w1)→b24 R C13 C23 x4 x7 x12 x117 x129 x130 y131 w0):l23 R C13 x4 x7 x12 x117 x129 x130 x131 w:=by
 unfold l23
 exact ⟨J,μ,h0,fun y131 w0 hJ=>hr y131 w0 hJ _ (fun z131 w1 h1 h2=>⟨h1,h2⟩)⟩
abbrev q8 (R:EP)(C13:VP):XP:=QX (fun z w=>b20 R C13 (z 4) (z 12) (z 117) w) (r0 R) [(10,(fun z w=>b16 R C13 (z 117) w)),(8,(fun z w=>b9 R (z 0) (z 2) (z 4) (z 7) w))]
theorem ZZ3 (R:EP)(C13:VP):TI prog R p11 (q8 R C13) fun z w=>l23 R C13 (z 4) (z 7) (z 12) (z 117) (z 129) (z 130) (z 131) w:=Zac 6 (ZZ327 R C13)
def b21 (R:EP)(C13:VP)(x4 x7 x11 x12 x117:Value)(w:World)(_r:Tok R:=tok R)(_C13:Tok C13:=tok C13):Prop :=
 RUN prog R (fieldAt 130 x11 1) w fun v1 w2=>
 RUN prog R (loadAt 24 v1) w2 fun v3 w4=>
 RUN prog R (Builtin.len_ #[24] 3 #[v3]) w4 fun v5 w6=>
 l23 R C13 x4 x7 x12 x117 v3 v5 (Value.int .i64 0) w6
theorem Zh9 (R:EP)(C13:VP):TI prog R (fstC p10) (q8 R C13) fun z w=>b21 R C13 (z 4) (z 7) (z 11) (z 12) (z 117) w:=appT 0 (ZZ3 R C13)
theorem Zta (R:EP)(C13:VP):TI prog R p10 (q3 R C13) fun z w=>b21 R C13 (z 4) (z 7) (z 11) (z 12) (z 117) w:=seqT (Zh9 R C13) (Zh5 R C13)
def b18 (R:EP)(C13:VP)(x4 x7 x115 x117:Value)(w:World)(_r:Tok R:=tok R)(_C13:Tok C13:=tok C13):Prop :=
 RUN prog R (indexAt 113 x115 x117) w fun v1 w2=>
 RUN prog R (loadAt 130 v1) w2 fun v3 w4=>
 RUN prog R (alloc 130 true (.tuple #[])) w4 fun v5 w6=>
 RUNU prog R (storeAt 130 v5 v3) w6 fun w7=>
 RUN prog R (fieldAt 130 v5 0) w7 fun v8 w9=>
 RUN prog R (loadAt 3 v8) w9 fun v10 w11=>
 RUN prog R (lookup 116 x7 v10 false) w11 fun v12 w13=>
 RUN prog R (fieldAt 130 v5 2) w13 fun v14 w15=>
 RUN prog R (loadAt 3 v14) w15 fun v16 w17=>
 RUN prog R (build 50 #[(0,v12),(2,v16)]) w17 fun v18 w19=>
 RUN prog R (alloc 50 true (.tuple #[])) w19 fun v20 w21=>
 RUNU prog R (storeAt 50 v20 v18) w21 fun w22=>
 b21 R C13 x4 x7 v5 v20 x117 w22
theorem Zfe (R:EP)(C13:VP):TI prog R p9 (q3 R C13) fun z w=>b18 R C13 (z 4) (z 7) (z 115) (z 117) w:=appT 1 (Zta R C13)
abbrev q9 (R:EP)(C13:VP):XP:=QX (fun z w=>b16 R C13 (z 117) w) (r0 R) [(8,(fun z w=>b9 R (z 0) (z 2) (z 4) (z 7) w))]
theorem Zih (R:EP)(C13:VP):TI prog R (fstC p8) (q9 R C13) fun z w=>b18 R C13 (z 4) (z 7) (z 115) (z 117) w:=Zac 5 (Zfe R C13)
theorem Zkq (R:EP)(C13:VP):TI prog R p8 (q2 R C13) fun z w=>b18 R C13 (z 4) (z 7) (z 115) (z 117) w:=seqT (Zih R C13) (Zex R C13)
def b14 (R:EP)(C13:VP)(x0 x2 x4 x7 x115 x116 x117:Value)(w:World)(_r:Tok R:=tok R)(_C13:Tok C13:=tok C13):Prop :=
 RUN prog R (bins .lss 3 (.tmp 117) (.tmp 116) x117 x116) w fun v1 w2=>
 SPL v1
 (b18 R C13 x4 x7 x115 x117 w2)
 (b9 R x0 x2 x4 x7 w2)
theorem Zdq (R:EP)(C13:VP):TI prog R p7 (q2 R C13) fun z w=>b14 R C13 (z 0) (z 2) (z 4) (z 7) (z 115) (z 116) (z 117) w:=appT 1 (Zkq R C13)
def l13 (R:EP)(x0 x2 x4 x7 x115 x116 x117:Value)(w:World)(_r:Tok R:=tok R):Prop :=
 ∃(J:VP) (μ:Value→World→Nat),J x117 w∧∀y117 w0,J y117 w0→b14 R (fun z117 w1=>J z117 w1∧μ z117 w1<μ y117 w0) x0 x2 x4 x7 x115 x116 y117 w0
abbrev q10 (R:EP):XP:=QX (fun z w=>b9 R (z 0) (z 2) (z 4) (z 7) w) (r0 R) [(8,(fun z w=>b9 R (z 0) (z 2) (z 4) (z 7) w))]
theorem Zq6 (R:EP):TI prog R (blkC p6) (q10 R) fun z w=>l13 R (z 0) (z 2) (z 4) (z 7) (z 115) (z 116) (z 117) w:=fun z w h=>by
 unfold l13 at h
 obtain ⟨J,μ,h0,hr⟩:=h
 refine Zcg (fun z' w'=>J (z' 117) w') (fun z' w'=>μ (z' 117) w') h0 fun z' w' hA hI=>Zdq R (fun z117 w1=>J z117 w1∧μ z117 w1<μ (z' 117) w') z' w' ?_
 have h1:=hr (z' 117) w' hI
 rwa [←hA.on 0,←hA.on 2,←hA.on 4,←hA.on 7,←hA.on 115,←hA.on 116]at h1
theorem l13_intro (R:EP)(x0 x2 x4 x7 x115 x116 x117:Value)(w:World)(J:VP)(μ:Value→World→Nat)(h0:J x117 w)
   (hr:∀y117 w0,J y117 w0→∀C13:VP,(∀z117 w1,J z117 w1→μ z117 w1<μ y117 w0→C13 z117 w1)→b14 R C13 x0 x2 x4 x7 x115 x116 y117 w0):l13 R x0 x2 x4 x7 x115 x116 x117 w:=by
 unfold l13
 exact ⟨J,μ,h0,fun y117 w0 hJ=>hr y117 w0 hJ _ (fun z117 w1 h1 h2=>⟨h1,h2⟩)⟩
abbrev q11 (R:EP):XP:=QX (fun z w=>b9 R (z 0) (z 2) (z 4) (z 7) w) (r0 R) []
theorem Zf7 (R:EP):TI prog R p6 (q11 R) fun z w=>l13 R (z 0) (z 2) (z 4) (z 7) (z 115) (z 116) (z 117) w:=Zac 4 (Zq6 R)
def b11 (R:EP)(x0 x2 x4 x7:Value)(w:World)(_r:Tok R:=tok R):Prop :=
 NILC x0 fun v1=>
 RUN prog R (fieldAt 115 v1 4) w fun v2 w3=>
 RUN prog R (loadAt 113 v2) w3 fun v4 w5=>
 RUN prog R (Builtin.len_ #[113] 3 #[v4]) w5 fun v6 w7=>
 l13 R x0 x2 x4 x7 v4 v6 (Value.int .i64 0) w7
theorem Zdb (R:EP):TI prog R (fstC p4) (q11 R) fun z w=>b11 R (z 0) (z 2) (z 4) (z 7) w:=appT 0 (Zf7 R)
theorem Zgq (R:EP):TI prog R p4 (q1 R) fun z w=>b11 R (z 0) (z 2) (z 4) (z 7) w:=seqT (Zdb R) (Zei R)
def b7_1 (R:EP)(x2:Value)(w8:World)(_r:Tok R:=tok R):Prop :=
 RUN prog R (build 27 #[]) w8 fun v10 w11=>
 RUNU prog R (storeAt 27 x2 v10) w11 fun w12=>
 LD prog (loadAt 27 x2) w12 fun r0=>R (.returned (.tuple #[r0,(Value.int .i64 1)])) w12
def b7 (R:EP)(x0 x2 x4 x7:Value)(w:World)(_r:Tok R:=tok R):Prop :=
 PUR prog (fieldAt 27 x4 1) fun v1=>
 LD prog (loadAt 23 v1) (World.drew w) fun v2=>
 LD prog (Builtin.len_ #[23] 3 #[v2]) (World.drew w) fun v3=>
 NILC x0 fun v4=>
 PUR prog (fieldAt 115 v4 1) fun v5=>
 PUR prog (fieldAt 112 v5 0) fun v6=>
 CALL prog R Zao.id #[v6] (World.drew w) fun v7 w8=>
 Sem.run prog (Builtin.len_ #[23] 3 #[v2]) w8 = .ok v3 w8∧(Sem.run prog (loadAt 23 v1) w8 = .ok v2 w8∧(PUR prog (bins .lss 3 (.tmp 104) (.tmp 109) v3 v7) fun v9=>
 SPL v9
 (b7_1 R x2 w8)
 (b11 R x0 x2 x4 x7 w8)))
theorem Zch (R:EP):TI prog R (sndC p3) (q1 R) fun z w=>b7 R (z 0) (z 2) (z 4) (z 7) w:=appT 0 (Zgq R)
noncomputable abbrev p16:Code:=Zi 1 (fstC p3)
noncomputable abbrev p17:Code:=Zby (blkC p16)
noncomputable abbrev p18:Code:=Zi 3 p17
def b34 (R:EP)(C32:VP)(x66:Value)(w:World)(_r:Tok R:=tok R)(_C32:Tok C32:=tok C32):Prop :=
 RUN prog R (bins .add 3 (.tmp 66) (.const (Value.int .i64 1)) x66 (Value.int .i64 1)) w fun v1 w2=>
 C32 v1 w2
abbrev q12 (R:EP)(C32:VP):XP:=QX (fun z w=>C32 (z 66) w) (r0 R) [(4,(fun z w=>b7 R (z 0) (z 2) (z 4) (z 7) w))]
theorem Zxu (R:EP)(C32:VP):TI prog R p18 (q12 R C32) fun z w=>b34 R C32 (z 66) w:=ofT
def b33_1 (R:EP)(C32:VP)(x0 x4 x7 x66 v7:Value)(w17:World)(_r:Tok R:=tok R)(_C32:Tok C32:=tok C32):Prop :=
 RUN prog R (fieldAt 130 v7 0) w17 fun v18 w19=>
 RUN prog R (loadAt 3 v18) w19 fun v20 w21=>
 RUN prog R (fieldAt 27 x4 0) w21 fun v22 w23=>
 RUN prog R (loadAt 22 v22) w23 fun v24 w25=>
 RUN prog R (Builtin.len_ #[22] 3 #[v24]) w25 fun v26 w27=>
 RUN prog R (fieldAt 27 x4 1) w27 fun v28 w29=>
 RUN prog R (loadAt 23 v28) w29 fun v30 w31=>
 RUN prog R (Builtin.len_ #[23] 3 #[v30]) w31 fun v32 w33=>
 RUN prog R (bins .add 3 (.tmp 80) (.tmp 83) v26 v32) w33 fun v34 w35=>
 RUNU prog R (mapUpdate 116 x7 v20 v34) w35 fun w36=>
 PUR prog (fieldAt 27 x4 1) fun v37=>
 LD prog (loadAt 23 v37) (World.drew w36) fun v38=>
 NILC x0 fun v39=>
 PUR prog (fieldAt 115 v39 1) fun v40=>
 PUR prog (fieldAt 112 v40 0) fun v41=>
 PUR prog (fieldAt 110 v41 0) fun v42=>
 LD prog (loadAt 23 v42) (World.drew w36) fun v43=>
 PUR prog (fieldAt 130 v7 0) fun v44=>
 LD prog (loadAt 3 v44) (World.drew w36) fun v45=>
 PUR prog (bins .sub 3 (.const (Value.int .i64 (-1))) (.tmp 94) (Value.int .i64 (-1)) v45) fun v46=>
 PUR prog (indexAt 23 v43 v46) fun v47=>
 LD prog (loadAt 9 v47) (World.drew w36) fun v48=>
 RUN prog R (buildSlice 23 1 #[(0,v48)]) (World.drew w36) fun v49 w50=>
 Sem.run prog (loadAt 23 v37) w50 = .ok v38 w50∧(RUN prog R (Builtin.append_ #[23,23] 23 #[v38,v49]) w50 fun v51 w52=>
 PUR prog (fieldAt 27 x4 1) fun v53=>
 RUNU prog R (storeAt 23 v53 v51) w52 fun w54=>
 b34 R C32 x66 w54)
def b33_2 (R:EP)(C32:VP)(x0 x4 x7 x64 x66:Value)(w2:World)(_r:Tok R:=tok R)(_C32:Tok C32:=tok C32):Prop :=
 RUN prog R (indexAt 113 x64 x66) w2 fun v3 w4=>
 RUN prog R (loadAt 130 v3) w4 fun v5 w6=>
 RUN prog R (alloc 130 true (.tuple #[])) w6 fun v7 w8=>
 RUNU prog R (storeAt 130 v7 v5) w8 fun w9=>
 RUN prog R (fieldAt 130 v7 0) w9 fun v10 w11=>
 RUN prog R (loadAt 3 v10) w11 fun v12 w13=>
 RUN prog R (lookup 116 x7 v12 false) w13 fun v14 w15=>
 RUN prog R (bins .eql 3 (.tmp 73) (.const (Value.int .i64 0)) v14 (Value.int .i64 0)) w15 fun v16 w17=>
 SPL v16
 (b33_1 R C32 x0 x4 x7 x66 v7 w17)
 (b34 R C32 x66 w17)
def b33 (R:EP)(C32:VP)(x0 x2 x4 x7 x64 x65 x66:Value)(w:World)(_r:Tok R:=tok R)(_C32:Tok C32:=tok C32):Prop :=
 RUN prog R (bins .lss 3 (.tmp 66) (.tmp 65) x66 x65) w fun v1 w2=>
 SPL v1
 (b33_2 R C32 x0 x4 x7 x64 x66 w2)
 (b7 R x0 x2 x4 x7 w2)
theorem ZZ285 (R:EP)(C32:VP):TI prog R p17 (q12 R C32) fun z w=>b33 R C32 (z 0) (z 2) (z 4) (z 7) (z 64) (z 65) (z 66) w:=appT 2 (Zxu R C32)
def l32 (R:EP)(x0 x2 x4 x7 x64 x65 x66:Value)(w:World)(_r:Tok R:=tok R):Prop :=
 ∃(J:VP) (μ:Value→World→Nat),J x66 w∧∀y66 w0,J y66 w0→b33 R (fun z66 w1=>J z66 w1∧μ z66 w1<μ y66 w0) x0 x2 x4 x7 x64 x65 y66 w0
abbrev q13 (R:EP):XP:=QX (fun z w=>b7 R (z 0) (z 2) (z 4) (z 7) w) (r0 R) [(4,(fun z w=>b7 R (z 0) (z 2) (z 4) (z 7) w))]
theorem ZZ328 (R:EP):TI prog R (blkC p16) (q13 R) fun z w=>l32 R (z 0) (z 2) (z 4) (z 7) (z 64) (z 65) (z 66) w:=fun z w h=>by
 unfold l32 at h
 obtain ⟨J,μ,h0,hr⟩:=h
 refine Zcg (fun z' w'=>J (z' 66) w') (fun z' w'=>μ (z' 66) w') h0 fun z' w' hA hI=>ZZ285 R (fun z66 w1=>J z66 w1∧μ z66 w1<μ (z' 66) w') z' w' ?_
 have h1:=hr (z' 66) w' hI
 rwa [←hA.on 0,←hA.on 2,←hA.on 4,←hA.on 7,←hA.on 64,←hA.on 65]at h1
theorem l32_intro (R:EP)(x0 x2 x4 x7 x64 x65 x66:Value)(w:World)(J:VP)(μ:Value→World→Nat)(h0:J x66 w)
   (hr:∀y66 w0,J y66 w0→∀C32:VP,(∀z66 w1,J z66 w1→μ z66 w1<μ y66 w0→C32 z66 w1)→b33 R C32 x0 x2 x4 x7 x64 x65 y66 w0):l32 R x0 x2 x4 x7 x64 x65 x66 w:=by
 unfold l32
 exact ⟨J,μ,h0,fun y66 w0 hJ=>hr y66 w0 hJ _ (fun z66 w1 h1 h2=>⟨h1,h2⟩)⟩
abbrev q14 (R:EP):XP:=QX (fun z w=>b7 R (z 0) (z 2) (z 4) (z 7) w) (r0 R) []
theorem ZZ363 (R:EP):TI prog R p16 (q14 R) fun z w=>l32 R (z 0) (z 2) (z 4) (z 7) (z 64) (z 65) (z 66) w:=Zac 2 (ZZ328 R)
def b30 (R:EP)(x0 x2 x4 x7:Value)(w:World)(_r:Tok R:=tok R):Prop :=
 NILC x0 fun v1=>
 RUN prog R (fieldAt 115 v1 4) w fun v2 w3=>
 RUN prog R (loadAt 113 v2) w3 fun v4 w5=>
 RUN prog R (Builtin.len_ #[113] 3 #[v4]) w5 fun v6 w7=>
 l32 R x0 x2 x4 x7 v4 v6 (Value.int .i64 0) w7
theorem ZZ36 (R:EP):TI prog R (fstC p3) (q14 R) fun z w=>b30 R (z 0) (z 2) (z 4) (z 7) w:=appT 0 (ZZ363 R)
theorem Zjt (R:EP):TI prog R p3 (q1 R) fun z w=>b30 R (z 0) (z 2) (z 4) (z 7) w:=seqT (ZZ36 R) (Zch R)
def b5 (R:EP)(x0 x2 x4:Value)(w:World)(_r:Tok R:=tok R):Prop :=
 RUN prog R (makeMap 116 none) w fun v1 w2=>
 b30 R x0 x2 x4 v1 w2
theorem Zeb (R:EP):TI prog R (sndC p2) (q1 R) fun z w=>b5 R (z 0) (z 2) (z 4) w:=appT 0 (Zjt R)
noncomputable abbrev p19:Code:=Zi 1 (fstC p2)
noncomputable abbrev p20:Code:=Zby (blkC p19)
def b38_1 (R:EP)(C37:VP)(x0 x4 x38 x40:Value)(w2:World)(_r:Tok R:=tok R)(_C37:Tok C37:=tok C37):Prop :=
 RUN prog R (indexAt 23 x38 x40) w2 fun v3 w4=>
 RUN prog R (loadAt 9 v3) w4 fun v5 w6=>
 PUR prog (fieldAt 27 x4 0) fun v7=>
 LD prog (loadAt 22 v7) (World.drew w6) fun v8=>
 NILC x0 fun v9=>
 PUR prog (fieldAt 115 v9 2) fun v10=>
 LD prog (loadAt 24 v10) (World.drew w6) fun v11=>
 PUR prog (indexAt 24 v11 x40) fun v12=>
 LD prog (loadAt 3 v12) (World.drew w6) fun v13=>
 PUR prog (build 64 #[(0,v5),(1,v13)]) fun v14=>
 RUN prog R (buildSlice 22 1 #[(0,v14)]) (World.drew w6) fun v15 w16=>
 Sem.run prog (loadAt 22 v7) w16 = .ok v8 w16∧(RUN prog R (Builtin.append_ #[22,22] 22 #[v8,v15]) w16 fun v17 w18=>
 PUR prog (fieldAt 27 x4 0) fun v19=>
 RUNU prog R (storeAt 22 v19 v17) w18 fun w20=>
 RUN prog R (bins .add 3 (.tmp 40) (.const (Value.int .i64 1)) x40 (Value.int .i64 1)) w20 fun v21 w22=>
 C37 v21 w22)
def b38 (R:EP)(C37:VP)(x0 x2 x4 x38 x39 x40:Value)(w:World)(_r:Tok R:=tok R)(_C37:Tok C37:=tok C37):Prop :=
 RUN prog R (bins .lss 3 (.tmp 40) (.tmp 39) x40 x39) w fun v1 w2=>
 SPL v1
 (b38_1 R C37 x0 x4 x38 x40 w2)
 (b5 R x0 x2 x4 w2)
abbrev q15 (R:EP)(C37:VP):XP:=QX (fun z w=>C37 (z 40) w) (r0 R) [(0,(fun z w=>b5 R (z 0) (z 2) (z 4) w))]
theorem ZZ341 (R:EP)(C37:VP):TI prog R p20 (q15 R C37) fun z w=>b38 R C37 (z 0) (z 2) (z 4) (z 38) (z 39) (z 40) w:=ofT
def l37 (R:EP)(x0 x2 x4 x38 x39 x40:Value)(w:World)(_r:Tok R:=tok R):Prop :=
 ∃(J:VP) (μ:Value→World→Nat),J x40 w∧∀y40 w0,J y40 w0→b38 R (fun z40 w1=>J z40 w1∧μ z40 w1<μ y40 w0) x0 x2 x4 x38 x39 y40 w0
abbrev q16 (R:EP):XP:=QX (fun z w=>b5 R (z 0) (z 2) (z 4) w) (r0 R) [(0,(fun z w=>b5 R (z 0) (z 2) (z 4) w))]
theorem ZZ320 (R:EP):TI prog R (blkC p19) (q16 R) fun z w=>l37 R (z 0) (z 2) (z 4) (z 38) (z 39) (z 40) w:=fun z w h=>by
 unfold l37 at h
 obtain ⟨J,μ,h0,hr⟩:=h
 refine Zcg (fun z' w'=>J (z' 40) w') (fun z' w'=>μ (z' 40) w') h0 fun z' w' hA hI=>ZZ341 R (fun z40 w1=>J z40 w1∧μ z40 w1<μ (z' 40) w') z' w' ?_
 have h1:=hr (z' 40) w' hI
 rwa [←hA.on 0,←hA.on 2,←hA.on 4,←hA.on 38,←hA.on 39]at h1
theorem l37_intro (R:EP)(x0 x2 x4 x38 x39 x40:Value)(w:World)(J:VP)(μ:Value→World→Nat)(h0:J x40 w)
   (hr:∀y40 w0,J y40 w0→∀C37:VP,(∀z40 w1,J z40 w1→μ z40 w1<μ y40 w0→C37 z40 w1)→b38 R C37 x0 x2 x4 x38 x39 y40 w0):l37 R x0 x2 x4 x38 x39 x40 w:=by
 unfold l37
 exact ⟨J,μ,h0,fun y40 w0 hJ=>hr y40 w0 hJ _ (fun z40 w1 h1 h2=>⟨h1,h2⟩)⟩
abbrev q17 (R:EP):XP:=QX (fun z w=>b5 R (z 0) (z 2) (z 4) w) (r0 R) []
theorem ZZ286 (R:EP):TI prog R p19 (q17 R) fun z w=>l37 R (z 0) (z 2) (z 4) (z 38) (z 39) (z 40) w:=Zac 0 (ZZ320 R)
def b35 (R:EP)(x0 x2 x4:Value)(w:World)(_r:Tok R:=tok R):Prop :=
 NILC x0 fun v1=>
 RUN prog R (fieldAt 115 v1 0) w fun v2 w3=>
 RUN prog R (fieldAt 110 v2 0) w3 fun v4 w5=>
 RUN prog R (loadAt 23 v4) w5 fun v6 w7=>
 RUN prog R (Builtin.len_ #[23] 3 #[v6]) w7 fun v8 w9=>
 l37 R x0 x2 x4 v6 v8 (Value.int .i64 0) w9
theorem Zzf (R:EP):TI prog R (fstC p2) (q17 R) fun z w=>b35 R (z 0) (z 2) (z 4) w:=appT 0 (ZZ286 R)
theorem Zgr (R:EP):TI prog R p2 (q1 R) fun z w=>b35 R (z 0) (z 2) (z 4) w:=seqT (Zzf R) (Zeb R)
def b3_1 (R:EP)(x0 x2 v3 v10:Value)(w11:World)(_r:Tok R:=tok R):Prop :=
 RUN prog R (build 27 #[(0,v3),(2,v10)]) w11 fun v12 w13=>
 RUN prog R (alloc 27 true (.tuple #[])) w13 fun v14 w15=>
 RUNU prog R (storeAt 27 v14 v12) w15 fun w16=>
 b35 R x0 x2 v14 w16
def b3 (R:EP)(x0 x2:Value)(w:World)(_r:Tok R:=tok R):Prop :=
 RUN prog R (build 64 #[]) w fun v1 w2=>
 RUN prog R (buildSlice 22 1 #[(0,v1)]) w2 fun v3 w4=>
 NILC x0 fun v5=>
 RUN prog R (fieldAt 115 v5 3) w4 fun v6 w7=>
 RUN prog R (loadAt 24 v6) w7 fun v8 w9=>
 CALL prog R Zbg.id #[v8] w9 fun v10 w11=>
 b3_1 R x0 x2 v3 v10 w11
theorem Zbi (R:EP):TI prog R (sndC p1) (q1 R) fun z w=>b3 R (z 0) (z 2) w:=appT 0 (Zgr R)
noncomputable abbrev p21:Code:=Zi 1 (fstC p1)
def b40_1 (R:EP)(x2:Value)(w:World)(_r:Tok R:=tok R):Prop :=
 RUN prog R (build 27 #[]) w fun v1 w2=>
 RUNU prog R (storeAt 27 x2 v1) w2 fun w3=>
 LD prog (loadAt 27 x2) w3 fun r0=>R (.returned (.tuple #[r0,(Value.int .i64 1)])) w3
def b40 (R:EP)(x0 x2 x24:Value)(w:World)(_r:Tok R:=tok R):Prop :=
 SPL x24
 (b40_1 R x2 w)
 (b3 R x0 x2 w)
abbrev q18 (R:EP):XP:=QX (fun z w=>b3 R (z 0) (z 2) w) (r0 R) []
theorem ZZ301 (R:EP):TI prog R p21 (q18 R) fun z w=>b40 R (z 0) (z 2) (z 24) w:=ofT
def b39_1 (R:EP)(x0 x2:Value)(w2:World)(_r:Tok R:=tok R):Prop :=
 NILC x0 fun v3=>
 RUN prog R (fieldAt 115 v3 4) w2 fun v4 w5=>
 RUN prog R (loadAt 113 v4) w5 fun v6 w7=>
 RUN prog R (Builtin.len_ #[113] 3 #[v6]) w7 fun v8 w9=>
 RUN prog R (bins .eql 3 (.tmp 22) (.const (Value.int .i64 0)) v8 (Value.int .i64 0)) w9 fun v10 w11=>
 b40 R x0 x2 v10 w11
def b39 (R:EP)(x0 x2:Value)(w:World)(_r:Tok R:=tok R):Prop :=
 RUN prog R (bins .eql 80 (.tmp 15) (.const (Value.pointer Option.none)) x0 (Value.pointer Option.none)) w fun v1 w2=>
 SPL v1
 (b40 R x0 x2 (Value.bool true) w2)
 (b39_1 R x0 x2 w2)
theorem ZZ64 (R:EP):TI prog R (fstC p1) (q18 R) fun z w=>b39 R (z 0) (z 2) w:=appT 0 (ZZ301 R)
theorem Za6 (R:EP):TI prog R p1 (q1 R) fun z w=>b39 R (z 0) (z 2) w:=seqT (ZZ64 R) (Zbi R)
def b1 (R:EP)(x0:Value)(w:World)(_r:Tok R:=tok R):Prop :=
 RUN prog R (alloc 27 true (.tuple #[])) w fun v1 w2=>
 b39 R x0 v1 w2
theorem Zg (R:EP):TI prog R code (q1 R) fun z w=>b1 R (z 0) w:=appT 0 (Za6 R)
def run (R:EP)(a0:Value)(w:World):Prop:=b1 R a0 w
theorem calls (R:EP)(a0:Value)(w:World)(h:run R a0 w):Calls prog id #[a0] w R :=
 Zop (f:=id) (fn:=f30) (c:=code) (by kernel_rfl) func30 (by kernel_rfl) (by kernel_rfl) (args:=[a0]) (Nat.le_of_ble_eq_true rfl) rfl (Zg R (Zfn [a0]) w h)
theorem enters:Enters prog id:=fun args w=>call30 args w
theorem ct {a0:Value}{w:World}{S:VP}(h:∀R:EP,(∀v w,S v w→R (.returned v) w)→run R a0 w):Ct prog id #[a0] w S :=
 Ct.intro enters fun R hR=>calls R a0 w (h R hR)
attribute [irreducible] l23 l13 l32 l37
attribute [irreducible,go_sem] b10 b9_1 b9 b16 b20 b26 b29 b28 b24 b21 b18 b14 b11 b7_1 b7 b34 b33_1 b33_2 b33 b30 b5 b38_1 b38 b35 b3_1 b3 b40_1 b40 b39_1 b39 b1 run
end Zd
namespace Zag
noncomputable def code:Code:=Zm f50
noncomputable abbrev p1:Code:=Zi 1 code
noncomputable abbrev p2:Code:=Zi 1 (sndC p1)
noncomputable abbrev p3:Code:=Zi 1 (sndC p2)
def b7 (R:EP)(x0:Value)(w:World)(_r:Tok R:=tok R):Prop :=
 NILC x0 fun v1=>
 RUN prog R (fieldAt 115 v1 3) w fun v2 w3=>
 RUN prog R (loadAt 24 v2) w3 fun v4 w5=>
 RUN prog R (Builtin.len_ #[24] 3 #[v4]) w5 fun v6 w7=>
 R (.returned (.tuple #[v6,(Value.int .i64 0)])) w7
abbrev r0 (R:EP)(z:Env)(w:World):Prop:=R (.returned (.tuple #[(z 6),(z 7)])) w
abbrev q1 (R:EP):XP:=QX (r0 R) (r0 R) []
theorem Zch (R:EP):TI prog R (sndC p3) (q1 R) fun z w=>b7 R (z 0) w:=ofT
noncomputable abbrev p4:Code:=Zi 1 (fstC p3)
noncomputable abbrev p5:Code:=Zby (blkC p4)
def b11_1 (R:EP)(C10:VP)(x0 x71 x73:Value)(w2:World)(_r:Tok R:=tok R)(_C10:Tok C10:=tok C10):Prop :=
 RUN prog R (indexAt 24 x71 x73) w2 fun v3 w4=>
 RUN prog R (loadAt 3 v3) w4 fun v5 w6=>
 NILC x0 fun v7=>
 PUR prog (fieldAt 115 v7 2) fun v8=>
 LD prog (loadAt 24 v8) (World.drew w6) fun v9=>
 PUR prog (bins .sub 3 (.tmp 81) (.const (Value.int .i64 1)) v5 (Value.int .i64 1)) fun v10=>
 NILC x0 fun v11=>
 PUR prog (fieldAt 115 v11 3) fun v12=>
 LD prog (loadAt 24 v12) (World.drew w6) fun v13=>
 LD prog (Builtin.len_ #[24] 3 #[v13]) (World.drew w6) fun v14=>
 PUR prog (indexAt 24 v9 v10) fun v15=>
 RUNU prog R (storeAt 3 v15 v14) (World.drew w6) fun w16=>
 RUN prog R (bins .add 3 (.tmp 73) (.const (Value.int .i64 1)) x73 (Value.int .i64 1)) w16 fun v17 w18=>
 C10 v17 w18
def b11 (R:EP)(C10:VP)(x0 x71 x72 x73:Value)(w:World)(_r:Tok R:=tok R)(_C10:Tok C10:=tok C10):Prop :=
 RUN prog R (bins .lss 3 (.tmp 73) (.tmp 72) x73 x72) w fun v1 w2=>
 SPL v1
 (b11_1 R C10 x0 x71 x73 w2)
 (b7 R x0 w2)
abbrev q2 (R:EP)(C10:VP):XP:=QX (fun z w=>C10 (z 73) w) (r0 R) [(4,(fun z w=>b7 R (z 0) w))]
theorem Zdb (R:EP)(C10:VP):TI prog R p5 (q2 R C10) fun z w=>b11 R C10 (z 0) (z 71) (z 72) (z 73) w:=ofT
def l10 (R:EP)(x0 x71 x72 x73:Value)(w:World)(_r:Tok R:=tok R):Prop :=
 ∃(J:VP) (μ:Value→World→Nat),J x73 w∧∀y73 w0,J y73 w0→b11 R (fun z73 w1=>J z73 w1∧μ z73 w1<μ y73 w0) x0 x71 x72 y73 w0
abbrev q3 (R:EP):XP:=QX (fun z w=>b7 R (z 0) w) (r0 R) [(4,(fun z w=>b7 R (z 0) w))]
theorem ZZ38 (R:EP):TI prog R (blkC p4) (q3 R) fun z w=>l10 R (z 0) (z 71) (z 72) (z 73) w:=fun z w h=>by
 unfold l10 at h
 obtain ⟨J,μ,h0,hr⟩:=h
 refine Zcg (fun z' w'=>J (z' 73) w') (fun z' w'=>μ (z' 73) w') h0 fun z' w' hA hI=>Zdb R (fun z73 w1=>J z73 w1∧μ z73 w1<μ (z' 73) w') z' w' ?_
 have h1:=hr (z' 73) w' hI
 rwa [←hA.on 0,←hA.on 71,←hA.on 72]at h1
theorem l10_intro (R:EP)(x0 x71 x72 x73:Value)(w:World)(J:VP)(μ:Value→World→Nat)(h0:J x73 w)
   (hr:∀y73 w0,J y73 w0→∀C10:VP,(∀z73 w1,J z73 w1→μ z73 w1<μ y73 w0→C10 z73 w1)→b11 R C10 x0 x71 x72 y73 w0):l10 R x0 x71 x72 x73 w:=by
 unfold l10
 exact ⟨J,μ,h0,fun y73 w0 hJ=>hr y73 w0 hJ _ (fun z73 w1 h1 h2=>⟨h1,h2⟩)⟩
abbrev q4 (R:EP):XP:=QX (fun z w=>b7 R (z 0) w) (r0 R) []
theorem Zqm (R:EP):TI prog R p4 (q4 R) fun z w=>l10 R (z 0) (z 71) (z 72) (z 73) w:=Zac 2 (ZZ38 R)
def b8 (R:EP)(x0 x2:Value)(w:World)(_r:Tok R:=tok R):Prop :=
 RUN prog R (Builtin.len_ #[24] 3 #[x2]) w fun v1 w2=>
 l10 R x0 x2 v1 (Value.int .i64 0) w2
theorem Zhr (R:EP):TI prog R (fstC p3) (q4 R) fun z w=>b8 R (z 0) (z 2) w:=appT 0 (Zqm R)
theorem Zjt (R:EP):TI prog R p3 (q1 R) fun z w=>b8 R (z 0) (z 2) w:=seqT (Zhr R) (Zch R)
def b5 (R:EP)(x0 x1 x2:Value)(w:World)(_r:Tok R:=tok R):Prop :=
 NILC x0 fun v1=>
 RUN prog R (fieldAt 115 v1 3) w fun v2 w3=>
 RUN prog R (loadAt 24 v2) w3 fun v4 w5=>
 RUN prog R (buildSlice 24 1 #[(0,x1)]) w5 fun v6 w7=>
 RUN prog R (Builtin.append_ #[24,24] 24 #[v4,v6]) w7 fun v8 w9=>
 NILC x0 fun v10=>
 RUN prog R (fieldAt 115 v10 3) w9 fun v11 w12=>
 RUNU prog R (storeAt 24 v11 v8) w12 fun w13=>
 b8 R x0 x2 w13
theorem Zeb (R:EP):TI prog R (sndC p2) (q1 R) fun z w=>b5 R (z 0) (z 1) (z 2) w:=appT 0 (Zjt R)
noncomputable abbrev p6:Code:=Zi 1 (fstC p2)
noncomputable abbrev p7:Code:=Zby (blkC p6)
noncomputable abbrev p8:Code:=Zi 2 p7
def b17 (R:EP)(C14:VP)(x31:Value)(w:World)(_r:Tok R:=tok R)(_C14:Tok C14:=tok C14):Prop :=
 RUN prog R (bins .add 3 (.tmp 31) (.const (Value.int .i64 1)) x31 (Value.int .i64 1)) w fun v1 w2=>
 C14 v1 w2
abbrev q5 (R:EP)(C14:VP):XP:=QX (fun z w=>C14 (z 31) w) (r0 R) [(0,(fun z w=>b5 R (z 0) (z 1) (z 2) w))]
theorem Zgx (R:EP)(C14:VP):TI prog R (sndC p8) (q5 R C14) fun z w=>b17 R C14 (z 31) w:=ofT
noncomputable abbrev p9:Code:=blkC (fstC p8)
noncomputable abbrev p10:Code:=Zi 1 p9
def b21 (R:EP)(C14:VP)(x8 x10 x31:Value)(w:World)(_r:Tok R:=tok R)(_C14:Tok C14:=tok C14):Prop :=
 RUN prog R (lookup 116 x8 x10 false) w fun v1 w2=>
 RUN prog R (bins .add 3 (.tmp 58) (.const (Value.int .i64 1)) v1 (Value.int .i64 1)) w2 fun v3 w4=>
 RUNU prog R (mapUpdate 116 x8 x10 v3) w4 fun w5=>
 b17 R C14 x31 w5
abbrev q6 (R:EP)(C14:VP):XP:=QX (fun z w=>b17 R C14 (z 31) w) (r0 R) [(2,(fun z w=>b17 R C14 (z 31) w)),(0,(fun z w=>b5 R (z 0) (z 1) (z 2) w))]
theorem Zh9 (R:EP)(C14:VP):TI prog R (sndC p10) (q6 R C14) fun z w=>b21 R C14 (z 8) (z 10) (z 31) w:=ofT
noncomputable abbrev p11:Code:=Zi 1 (fstC p10)
def b23 (R:EP)(C14:VP)(x8 x10 x31 x55:Value)(w:World)(_r:Tok R:=tok R)(_C14:Tok C14:=tok C14):Prop :=
 SPL x55
 (R (.returned (.tuple #[(Value.int .i64 0),(Value.int .i64 1)])) w)
 (b21 R C14 x8 x10 x31 w)
abbrev q7 (R:EP)(C14:VP):XP:=QX (fun z w=>b21 R C14 (z 8) (z 10) (z 31) w) (r0 R) [(2,(fun z w=>b17 R C14 (z 31) w)),(0,(fun z w=>b5 R (z 0) (z 1) (z 2) w))]
theorem Zj6 (R:EP)(C14:VP):TI prog R p11 (q7 R C14) fun z w=>b23 R C14 (z 8) (z 10) (z 31) (z 55) w:=ofT
def Zyf (R:EP)(C14:VP)(x8 x10 x31:Value)(w17:World)(_r:Tok R:=tok R)(_C14:Tok C14:=tok C14):Prop :=
 RUN prog R (lookup 116 x8 x10 false) w17 fun v18 w19=>
 RUN prog R (bins .gtr 3 (.tmp 53) (.const (Value.int .i64 0)) v18 (Value.int .i64 0)) w19 fun v20 w21=>
 b23 R C14 x8 x10 x31 v20 w21
def Zzd (R:EP)(C14:VP)(x0 x8 x10 x31:Value)(w4:World)(_r:Tok R:=tok R)(_C14:Tok C14:=tok C14):Prop :=
 NILC x0 fun v5=>
 RUN prog R (fieldAt 115 v5 2) w4 fun v6 w7=>
 RUN prog R (loadAt 24 v6) w7 fun v8 w9=>
 RUN prog R (bins .sub 3 (.tmp 44) (.const (Value.int .i64 1)) x10 (Value.int .i64 1)) w9 fun v10 w11=>
 RUN prog R (indexAt 24 v8 v10) w11 fun v12 w13=>
 RUN prog R (loadAt 3 v12) w13 fun v14 w15=>
 RUN prog R (bins .gtr 3 (.tmp 47) (.const (Value.int .i64 0)) v14 (Value.int .i64 0)) w15 fun v16 w17=>
 SPL v16
 (b23 R C14 x8 x10 x31 (Value.bool true) w17)
 (Zyf R C14 x8 x10 x31 w17)
def b22 (R:EP)(C14:VP)(x0 x8 x10 x31:Value)(w:World)(_r:Tok R:=tok R)(_C14:Tok C14:=tok C14):Prop :=
 CALL prog R Zaw.id #[x0,x10] w fun v1 w2=>
 RUN prog R (Op.unary .not v1) w2 fun v3 w4=>
 SPL v3
 (b23 R C14 x8 x10 x31 (Value.bool true) w4)
 (Zzd R C14 x0 x8 x10 x31 w4)
theorem Zrw (R:EP)(C14:VP):TI prog R (fstC p10) (q7 R C14) fun z w=>b22 R C14 (z 0) (z 8) (z 10) (z 31) w:=appT 0 (Zj6 R C14)
theorem Zz3 (R:EP)(C14:VP):TI prog R p10 (q6 R C14) fun z w=>b22 R C14 (z 0) (z 8) (z 10) (z 31) w:=seqT (Zrw R C14) (Zh9 R C14)
def b19 (R:EP)(C14:VP)(x0 x8 x29 x31:Value)(w:World)(_r:Tok R:=tok R)(_C14:Tok C14:=tok C14):Prop :=
 RUN prog R (indexAt 24 x29 x31) w fun v1 w2=>
 RUN prog R (loadAt 3 v1) w2 fun v3 w4=>
 b22 R C14 x0 x8 v3 x31 w4
theorem Zgy (R:EP)(C14:VP):TI prog R p9 (q6 R C14) fun z w=>b19 R C14 (z 0) (z 8) (z 29) (z 31) w:=appT 0 (Zz3 R C14)
abbrev q8 (R:EP)(C14:VP):XP:=QX (fun z w=>b17 R C14 (z 31) w) (r0 R) [(0,(fun z w=>b5 R (z 0) (z 1) (z 2) w))]
theorem Zyj (R:EP)(C14:VP):TI prog R (fstC p8) (q8 R C14) fun z w=>b19 R C14 (z 0) (z 8) (z 29) (z 31) w:=Zac 1 (Zgy R C14)
theorem Zsk (R:EP)(C14:VP):TI prog R p8 (q5 R C14) fun z w=>b19 R C14 (z 0) (z 8) (z 29) (z 31) w:=seqT (Zyj R C14) (Zgx R C14)
def b15 (R:EP)(C14:VP)(x0 x1 x2 x8 x29 x30 x31:Value)(w:World)(_r:Tok R:=tok R)(_C14:Tok C14:=tok C14):Prop :=
 RUN prog R (bins .lss 3 (.tmp 31) (.tmp 30) x31 x30) w fun v1 w2=>
 SPL v1
 (b19 R C14 x0 x8 x29 x31 w2)
 (b5 R x0 x1 x2 w2)
theorem Zfl (R:EP)(C14:VP):TI prog R p7 (q5 R C14) fun z w=>b15 R C14 (z 0) (z 1) (z 2) (z 8) (z 29) (z 30) (z 31) w:=appT 1 (Zsk R C14)
def l14 (R:EP)(x0 x1 x2 x8 x29 x30 x31:Value)(w:World)(_r:Tok R:=tok R):Prop :=
 ∃(J:VP) (μ:Value→World→Nat),J x31 w∧∀y31 w0,J y31 w0→b15 R (fun z31 w1=>J z31 w1∧μ z31 w1<μ y31 w0) x0 x1 x2 x8 x29 x30 y31 w0
abbrev q9 (R:EP):XP:=QX (fun z w=>b5 R (z 0) (z 1) (z 2) w) (r0 R) [(0,(fun z w=>b5 R (z 0) (z 1) (z 2) w))]
theorem ZZ281 (R:EP):TI prog R (blkC p6) (q9 R) fun z w=>l14 R (z 0) (z 1) (z 2) (z 8) (z 29) (z 30) (z 31) w:=fun z w h=>by
 unfold l14 at h
 obtain ⟨J,μ,h0,hr⟩:=h
 refine Zcg (fun z' w'=>J (z' 31) w') (fun z' w'=>μ (z' 31) w') h0 fun z' w' hA hI=>Zfl R (fun z31 w1=>J z31 w1∧μ z31 w1<μ (z' 31) w') z' w' ?_
 have h1:=hr (z' 31) w' hI
 rwa [←hA.on 0,←hA.on 1,←hA.on 2,←hA.on 8,←hA.on 29,←hA.on 30]at h1
theorem l14_intro (R:EP)(x0 x1 x2 x8 x29 x30 x31:Value)(w:World)(J:VP)(μ:Value→World→Nat)(h0:J x31 w)
   (hr:∀y31 w0,J y31 w0→∀C14:VP,(∀z31 w1,J z31 w1→μ z31 w1<μ y31 w0→C14 z31 w1)→b15 R C14 x0 x1 x2 x8 x29 x30 y31 w0):l14 R x0 x1 x2 x8 x29 x30 x31 w:=by
 unfold l14
 exact ⟨J,μ,h0,fun y31 w0 hJ=>hr y31 w0 hJ _ (fun z31 w1 h1 h2=>⟨h1,h2⟩)⟩
abbrev q10 (R:EP):XP:=QX (fun z w=>b5 R (z 0) (z 1) (z 2) w) (r0 R) []
theorem Zia (R:EP):TI prog R p6 (q10 R) fun z w=>l14 R (z 0) (z 1) (z 2) (z 8) (z 29) (z 30) (z 31) w:=Zac 0 (ZZ281 R)
def b12 (R:EP)(x0 x1 x2 x8:Value)(w:World)(_r:Tok R:=tok R):Prop :=
 RUN prog R (Builtin.len_ #[24] 3 #[x2]) w fun v1 w2=>
 l14 R x0 x1 x2 x8 x2 v1 (Value.int .i64 0) w2
theorem Zed (R:EP):TI prog R (fstC p2) (q10 R) fun z w=>b12 R (z 0) (z 1) (z 2) (z 8) w:=appT 0 (Zia R)
theorem Zgr (R:EP):TI prog R p2 (q1 R) fun z w=>b12 R (z 0) (z 1) (z 2) (z 8) w:=seqT (Zed R) (Zeb R)
def b3 (R:EP)(x0 x1 x2:Value)(w:World)(_r:Tok R:=tok R):Prop :=
 RUN prog R (makeMap 116 none) w fun v1 w2=>
 b12 R x0 x1 x2 v1 w2
theorem Zbi (R:EP):TI prog R (sndC p1) (q1 R) fun z w=>b3 R (z 0) (z 1) (z 2) w:=appT 0 (Zgr R)
noncomputable abbrev p12:Code:=Zi 1 (fstC p1)
def b25 (R:EP)(x0 x1 x2 x27:Value)(w:World)(_r:Tok R:=tok R):Prop :=
 SPL x27
 (R (.returned (.tuple #[(Value.int .i64 0),(Value.int .i64 1)])) w)
 (b3 R x0 x1 x2 w)
abbrev q11 (R:EP):XP:=QX (fun z w=>b3 R (z 0) (z 1) (z 2) w) (r0 R) []
theorem Zkv (R:EP):TI prog R p12 (q11 R) fun z w=>b25 R (z 0) (z 1) (z 2) (z 27) w:=ofT
def Zs5 (R:EP)(x0 x1 x2:Value)(w6:World)(_r:Tok R:=tok R):Prop :=
 RUN prog R (Builtin.len_ #[24] 3 #[x2]) w6 fun v7 w8=>
 RUN prog R (bins .eql 3 (.tmp 25) (.const (Value.int .i64 0)) v7 (Value.int .i64 0)) w8 fun v9 w10=>
 b25 R x0 x1 x2 v9 w10
def Zy0 (R:EP)(x0 x1 x2:Value)(w2:World)(_r:Tok R:=tok R):Prop :=
 RUN prog R (bins .lss 3 (.tmp 16) (.const (Value.int .i64 1)) x1 (Value.int .i64 1)) w2 fun v3 w4=>
 SPL v3
 (b25 R x0 x1 x2 (Value.bool true) w4)
 (RUN prog R (bins .gtr 3 (.tmp 20) (.const (Value.int .i64 3)) x1 (Value.int .i64 3)) w4 fun v5 w6=>
 SPL v5
 (b25 R x0 x1 x2 (Value.bool true) w6)
 (Zs5 R x0 x1 x2 w6))
def b24 (R:EP)(x0 x1 x2:Value)(w:World)(_r:Tok R:=tok R):Prop :=
 RUN prog R (bins .eql 80 (.tmp 13) (.const (Value.pointer Option.none)) x0 (Value.pointer Option.none)) w fun v1 w2=>
 SPL v1
 (b25 R x0 x1 x2 (Value.bool true) w2)
 (Zy0 R x0 x1 x2 w2)
theorem Zoj (R:EP):TI prog R (fstC p1) (q11 R) fun z w=>b24 R (z 0) (z 1) (z 2) w:=appT 0 (Zkv R)
theorem Za6 (R:EP):TI prog R p1 (q1 R) fun z w=>b24 R (z 0) (z 1) (z 2) w:=seqT (Zoj R) (Zbi R)
def b1 (R:EP)(x0 x1 x2:Value)(w:World)(_r:Tok R:=tok R):Prop :=
 b24 R x0 x1 x2 w
theorem Zg (R:EP):TI prog R code (q1 R) fun z w=>b1 R (z 0) (z 1) (z 2) w:=appT 0 (Za6 R)
def run (R:EP)(a0 a1 a2:Value)(w:World):Prop:=b1 R a0 a1 a2 w
theorem calls (R:EP)(a0 a1 a2:Value)(w:World)(h:run R a0 a1 a2 w):Calls prog id #[a0,a1,a2] w R :=
 Zdl (f:=id) (fn:=f50) (c:=code) (by kernel_rfl) func50 (by kernel_rfl) (by kernel_rfl) (args:=[a0,a1,a2]) (Nat.le_of_ble_eq_true rfl) rfl (Zg R (Zfn [a0,a1,a2]) w h)
theorem enters:Enters prog id:=fun args w=>call50 args w
theorem ct {a0 a1 a2:Value}{w:World}{S:VP}(h:∀R:EP,(∀v w,S v w→R (.returned v) w)→run R a0 a1 a2 w):Ct prog id #[a0,a1,a2] w S :=
 Ct.intro enters fun R hR=>calls R a0 a1 a2 w (h R hR)
attribute [irreducible] l10 l14
attribute [irreducible,go_sem] b7 b11_1 b11 b8 b5 b17 b21 b23 Zyf Zzd b22 b19 b15 b12 b3 b25 Zs5 Zy0 b24 b1 run
end Zag
namespace Zaf
noncomputable def code:Code:=Zm f54
noncomputable abbrev p1:Code:=Zi 1 code
noncomputable abbrev p2:Code:=sndC (sndC p1)
def b4 (R:EP)(w:World)(_r:Tok R:=tok R):Prop :=
 R (.returned (Value.int .i64 0)) w
abbrev r0 (R:EP)(z:Env)(w:World):Prop:=R (.returned (z 6)) w
abbrev q1 (R:EP):XP:=QX (r0 R) (r0 R) []
theorem Zbs (R:EP):TI prog R p2 (q1 R) fun z w=>b4 R w:=ofT
noncomputable abbrev p3:Code:=fstC (sndC p1)
noncomputable abbrev p4:Code:=Zi 1 p3
noncomputable abbrev p5:Code:=Zby (blkC p4)
def b8_1 (R:EP)(C7:VP)(x1 x3 x29 x31:Value)(w2:World)(_r:Tok R:=tok R)(_C7:Tok C7:=tok C7):Prop :=
 RUN prog R (indexAt 24 x29 x31) w2 fun v3 w4=>
 RUN prog R (loadAt 3 v3) w4 fun v5 w6=>
 RUN prog R (loadAt 80 x3) w6 fun v7 w8=>
 NILC v7 fun v9=>
 RUN prog R (fieldAt 115 v9 4) w8 fun v10 w11=>
 RUN prog R (loadAt 113 v10) w11 fun v12 w13=>
 RUN prog R (indexAt 113 v12 v5) w13 fun v14 w15=>
 RUN prog R (fieldAt 130 v14 2) w15 fun v16 w17=>
 RUNU prog R (storeAt 3 v16 x1) w17 fun w18=>
 RUN prog R (bins .add 3 (.tmp 31) (.const (Value.int .i64 1)) x31 (Value.int .i64 1)) w18 fun v19 w20=>
 C7 v19 w20
def b8 (R:EP)(C7:VP)(x1 x3 x29 x30 x31:Value)(w:World)(_r:Tok R:=tok R)(_C7:Tok C7:=tok C7):Prop :=
 RUN prog R (bins .lss 3 (.tmp 31) (.tmp 30) x31 x30) w fun v1 w2=>
 SPL v1
 (b8_1 R C7 x1 x3 x29 x31 w2)
 (b4 R w2)
abbrev q2 (R:EP)(C7:VP):XP:=QX (fun z w=>C7 (z 31) w) (r0 R) [(0,(fun z w=>b4 R  w))]
theorem Zhr (R:EP)(C7:VP):TI prog R p5 (q2 R C7) fun z w=>b8 R C7 (z 1) (z 3) (z 29) (z 30) (z 31) w:=ofT
def l7 (R:EP)(x1 x3 x29 x30 x31:Value)(w:World)(_r:Tok R:=tok R):Prop :=
 ∃(J:VP) (μ:Value→World→Nat),J x31 w∧∀y31 w0,J y31 w0→b8 R (fun z31 w1=>J z31 w1∧μ z31 w1<μ y31 w0) x1 x3 x29 x30 y31 w0
abbrev q3 (R:EP):XP:=QX (fun z w=>b4 R  w) (r0 R) [(0,(fun z w=>b4 R  w))]
theorem Zuf (R:EP):TI prog R (blkC p4) (q3 R) fun z w=>l7 R (z 1) (z 3) (z 29) (z 30) (z 31) w:=fun z w h=>by
 unfold l7 at h
 obtain ⟨J,μ,h0,hr⟩:=h
 refine Zcg (fun z' w'=>J (z' 31) w') (fun z' w'=>μ (z' 31) w') h0 fun z' w' hA hI=>Zhr R (fun z31 w1=>J z31 w1∧μ z31 w1<μ (z' 31) w') z' w' ?_
 have h1:=hr (z' 31) w' hI
 rwa [←hA.on 1,←hA.on 3,←hA.on 29,←hA.on 30]at h1
theorem l7_intro (R:EP)(x1 x3 x29 x30 x31:Value)(w:World)(J:VP)(μ:Value→World→Nat)(h0:J x31 w)
   (hr:∀y31 w0,J y31 w0→∀C7:VP,(∀z31 w1,J z31 w1→μ z31 w1<μ y31 w0→C7 z31 w1)→b8 R C7 x1 x3 x29 x30 y31 w0):l7 R x1 x3 x29 x30 x31 w:=by
 unfold l7
 exact ⟨J,μ,h0,fun y31 w0 hJ=>hr y31 w0 hJ _ (fun z31 w1 h1 h2=>⟨h1,h2⟩)⟩
abbrev q4 (R:EP):XP:=QX (fun z w=>b4 R  w) (r0 R) []
theorem Zjt (R:EP):TI prog R p4 (q4 R) fun z w=>l7 R (z 1) (z 3) (z 29) (z 30) (z 31) w:=Zac 0 (Zuf R)
def b5 (R:EP)(x1 x2 x3:Value)(w:World)(_r:Tok R:=tok R):Prop :=
 RUN prog R (Builtin.len_ #[24] 3 #[x2]) w fun v1 w2=>
 l7 R x1 x3 x2 v1 (Value.int .i64 0) w2
theorem Zeb (R:EP):TI prog R p3 (q4 R) fun z w=>b5 R (z 1) (z 2) (z 3) w:=appT 0 (Zjt R)
theorem Zn1 (R:EP):TI prog R (sndC p1) (q1 R) fun z w=>b5 R (z 1) (z 2) (z 3) w:=seqT (Zeb R) (Zbs R)
noncomputable abbrev p6:Code:=Zi 1 (fstC p1)
def b10 (R:EP)(x1 x2 x3 x28:Value)(w:World)(_r:Tok R:=tok R):Prop :=
 SPL x28
 (R (.returned (Value.int .i64 1)) w)
 (b5 R x1 x2 x3 w)
abbrev q5 (R:EP):XP:=QX (fun z w=>b5 R (z 1) (z 2) (z 3) w) (r0 R) []
theorem Zef (R:EP):TI prog R p6 (q5 R) fun z w=>b10 R (z 1) (z 2) (z 3) (z 28) w:=ofT
def b9_1 (R:EP)(x1 x2 x3:Value)(w17:World)(_r:Tok R:=tok R):Prop :=
 RUN prog R (makeFunc (.func Zc1.id) #[] #[x3]) w17 fun v18 w19=>
 CALL prog R Zal.id #[x2,v18] w19 fun v20 w21=>
 b10 R x1 x2 x3 v20 w21
def b9_2 (R:EP)(x1 x2 x3:Value)(w6:World)(_r:Tok R:=tok R):Prop :=
 RUN prog R (loadAt 80 x3) w6 fun v7 w8=>
 NILC v7 fun v9=>
 RUN prog R (fieldAt 115 v9 3) w8 fun v10 w11=>
 RUN prog R (loadAt 24 v10) w11 fun v12 w13=>
 RUN prog R (Builtin.len_ #[24] 3 #[v12]) w13 fun v14 w15=>
 RUN prog R (bins .gtr 3 (.tmp 16) (.tmp 21) x1 v14) w15 fun v16 w17=>
 SPL v16
 (b10 R x1 x2 x3 (Value.bool true) w17)
 (b9_1 R x1 x2 x3 w17)
def b9 (R:EP)(x1 x2 x3:Value)(w:World)(_r:Tok R:=tok R):Prop :=
 RUN prog R (loadAt 80 x3) w fun v1 w2=>
 RUN prog R (bins .eql 80 (.tmp 9) (.const (Value.pointer Option.none)) v1 (Value.pointer Option.none)) w2 fun v3 w4=>
 SPL v3
 (b10 R x1 x2 x3 (Value.bool true) w4)
 (RUN prog R (bins .lss 3 (.tmp 12) (.const (Value.int .i64 0)) x1 (Value.int .i64 0)) w4 fun v5 w6=>
 SPL v5
 (b10 R x1 x2 x3 (Value.bool true) w6)
 (b9_2 R x1 x2 x3 w6))
theorem Zei (R:EP):TI prog R (fstC p1) (q5 R) fun z w=>b9 R (z 1) (z 2) (z 3) w:=appT 0 (Zef R)
theorem Za6 (R:EP):TI prog R p1 (q1 R) fun z w=>b9 R (z 1) (z 2) (z 3) w:=seqT (Zei R) (Zn1 R)
def b1 (R:EP)(x0 x1 x2:Value)(w:World)(_r:Tok R:=tok R):Prop :=
 RUN prog R (box 80 x0) w fun v1 w2=>
 b9 R x1 x2 v1 w2
theorem Zg (R:EP):TI prog R code (q1 R) fun z w=>b1 R (z 0) (z 1) (z 2) w:=appT 0 (Za6 R)
def run (R:EP)(a0 a1 a2:Value)(w:World):Prop:=b1 R a0 a1 a2 w
theorem calls (R:EP)(a0 a1 a2:Value)(w:World)(h:run R a0 a1 a2 w):Calls prog id #[a0,a1,a2] w R:=Zbd func54 [a0,a1,a2] (Zg R _ w h)
theorem enters:Enters prog id:=fun args w=>call54 args w
theorem ct {a0 a1 a2:Value}{w:World}{S:VP}(h:∀R:EP,(∀v w,S v w→R (.returned v) w)→run R a0 a1 a2 w):Ct prog id #[a0,a1,a2] w S :=
 Ct.intro enters fun R hR=>calls R a0 a1 a2 w (h R hR)
attribute [irreducible] l7
attribute [irreducible,go_sem] b4 b8_1 b8 b5 b10 b9_1 b9_2 b9 b1 run
end Zaf
namespace Zc1
noncomputable def code:Code:=Zm f86
def b1_1 (R:EP)(x0 x1:Value)(w2:World)(_r:Tok R:=tok R):Prop :=
 RUN prog R (loadAt 80 x1) w2 fun v3 w4=>
 NILC v3 fun v5=>
 RUN prog R (fieldAt 115 v5 4) w4 fun v6 w7=>
 RUN prog R (loadAt 113 v6) w7 fun v8 w9=>
 RUN prog R (Builtin.len_ #[113] 3 #[v8]) w9 fun v10 w11=>
 RUN prog R (bins .geq 3 (.tmp 7) (.tmp 12) x0 v10) w11 fun v12 w13=>
 R (.returned v12) w13
def b1 (R:EP)(x0 x1:Value)(w:World)(_r:Tok R:=tok R):Prop :=
 RUN prog R (bins .lss 3 (.tmp 4) (.const (Value.int .i64 0)) x0 (Value.int .i64 0)) w fun v1 w2=>
 SPL v1
 (R (.returned (Value.bool true)) w2)
 (b1_1 R x0 x1 w2)
abbrev r0 (R:EP)(z:Env)(w:World):Prop:=R (.returned (z 3)) w
abbrev q1 (R:EP):XP:=QX (r0 R) (r0 R) []
theorem Zg (R:EP):TI prog R code (q1 R) fun z w=>b1 R (z 0) (z 1) w:=ofT
def run (R:EP)(a0 a1:Value)(w:World):Prop:=b1 R a0 a1 w
theorem calls (R:EP)(a0 a1:Value)(w:World)(h:run R a0 a1 w):Calls prog id #[a0,a1] w R:=Zbd func86 [a0,a1] (Zg R _ w h)
theorem enters:Enters prog id:=fun args w=>call86 args w
theorem ct {a0 a1:Value}{w:World}{S:VP}(h:∀R:EP,(∀v w,S v w→R (.returned v) w)→run R a0 a1 w):Ct prog id #[a0,a1] w S :=
 Ct.intro enters fun R hR=>calls R a0 a1 w (h R hR)
attribute [irreducible,go_sem] b1_1 b1 run
end Zc1
end Go.Proofs.YtckbgeedlobfaaaGreatDoor
namespace Go.Proofs.YtckbgeedlobfaaaGreatDoor
open Go.Px Tryz Instr
namespace Rec1
noncomputable def code:Code:=sndC (Zm f46)
noncomputable abbrev p1:Code:=Zi 3 code
def b2 (R:EP)(x0 x2:Value)(w:World)(_r:Tok R:=tok R):Prop :=
 RUN prog R (fieldAt 107 x2 0) w fun v1 w2=>
 RUN prog R (loadAt 3 v1) w2 fun v3 w4=>
 RUNU prog R (storeAt 3 x0 v3) w4 fun w5=>
 R (.returned (.tuple #[x0])) w5
abbrev q1 (R:EP):XP:=QX (fun z w=>R (.returned (.tuple #[z 0])) w) (fun z w=>R (.returned (.agg #[z 0])) w) []
theorem Zj1 (R:EP):TI prog R p1 (q1 R) fun z w=>b2 R (z 0) (z 2) w:=ofT
def b1_1 (R:EP)(x0 x1:Value)(w2:World)(_r:Tok R:=tok R):Prop :=
 RUN prog R (typeAssert x1 20 107 true) w2 fun v3 w4=>
 RUN prog R (extract v3 0) w4 fun v5 w6=>
 RUN prog R (extract v3 1) w6 fun v7 w8=>
 RUN prog R (alloc 107 true (.tuple #[])) w8 fun v9 w10=>
 RUNU prog R (storeAt 107 v9 v5) w10 fun w11=>
 RUN prog R (Op.unary .not v7) w11 fun v12 w13=>
 SPL v12
 (RUN prog R (panic x1) w13 fun v14 w15=>
 b2 R x0 v9 w15)
 (b2 R x0 v9 w13)
def b1 (R:EP)(x0 x1:Value)(w:World)(_r:Tok R:=tok R):Prop :=
 RUN prog R (bins .eql 20 (.tmp 5) (.const (Value.nilIface)) x1 Value.nilIface) w fun v1 w2=>
 SPL v1
 (R (.returned (.agg #[x0])) w2)
 (b1_1 R x0 x1 w2)
theorem Zg (R:EP):TI prog R code (q1 R) fun z w=>b1 R (z 0) (z 1) w:=appT 2 (Zj1 R)
abbrev run (R:EP)(x0 x1:Value)(w:World):Prop:=b1 R x0 x1 w
theorem part_wp {R:EP}{ρ:Env}{a:Act}{D:List Deferred}{w:World}(hr:Rel f46.ntmps a ρ D)(h:run R (ρ 0) (ρ 1) w):code.wp prog (post R f46.ntmps (q1 R) D) a w :=
 Zce (by kernel_rfl) code (q1 R) ρ a w (by kernel_rfl) hr (Zg R ρ w h)
attribute [irreducible,go_sem] b2 b1_1 b1
end Rec1
end Go.Proofs.YtckbgeedlobfaaaGreatDoor
namespace Go.Proofs.YtckbgeedlobfaaaGreatDoor
open Go.Px Tryz Instr
namespace RdF
noncomputable def code:Code:=sndC (sndC (sndC (sndC (sndC (sndC (sndC (Zm f26)))))))
def b1_1 (R:EP)(x2 x3 x6:Value)(w6:World)(_r:Tok R:=tok R):Prop :=
 LD prog (loadAt 75 x2) (World.drew w6) fun v7=>
 PUR prog (fieldAt 36 x6 1) fun v8=>
 LD prog (loadAt 3 v8) (World.drew w6) fun v9=>
 RUNU prog R (storeAt 75 x2 v7) (World.drew w6) fun w10=>
 Sem.run prog (loadAt 3 v8) w10 = .ok v9 w10∧(RUNU prog R (storeAt 3 x3 v9) w10 fun w11=>
 R (.returned (.agg #[x2,x3])) w11)
def b1_2 (R:EP)(x2 x3:Value)(w6:World)(_r:Tok R:=tok R):Prop :=
 RUN prog R (loadAt 75 x2) w6 fun v12 w13=>
 RUNU prog R (storeAt 75 x2 v12) w13 fun w14=>
 RUNU prog R (storeAt 3 x3 (Value.int .i64 (-1))) w14 fun w15=>
 R (.returned (.agg #[x2,x3])) w15
def b1 (R:EP)(x2 x3 x6:Value)(w:World)(_r:Tok R:=tok R):Prop :=
 RUN prog R (fieldAt 36 x6 0) w fun v1 w2=>
 RUN prog R (loadAt 28 v1) w2 fun v3 w4=>
 RUN prog R (bins .neq 28 (.tmp 43) (.const (Value.int .i64 0)) v3 (Value.int .i64 0)) w4 fun v5 w6=>
 SPL v5
 (b1_1 R x2 x3 x6 w6)
 (b1_2 R x2 x3 w6)
abbrev q1 (R:EP):XP:=QX (fun z w=>R (.returned (.tuple #[z 2,z 3])) w) (fun z w=>R (.returned (.agg #[z 2,z 3])) w) []
theorem Zg (R:EP):TI prog R code (q1 R) fun z w=>b1 R (z 2) (z 3) (z 6) w:=ofT
abbrev run (R:EP)(x2 x3 x6:Value)(w:World):Prop:=b1 R x2 x3 x6 w
theorem part_wp {R:EP}{ρ:Env}{a:Act}{D:List Deferred}{w:World}(hr:Rel f26.ntmps a ρ D)(h:run R (ρ 2) (ρ 3) (ρ 6) w):code.wp prog (post R f26.ntmps (q1 R) D) a w :=
 Zce (by kernel_rfl) code (q1 R) ρ a w (by kernel_rfl) hr (Zg R ρ w h)
attribute [irreducible,go_sem] b1_1 b1_2 b1
end RdF
end Go.Proofs.YtckbgeedlobfaaaGreatDoor
namespace Go.Proofs.YtckbgeedlobfaaaGreatDoor
open Go.Px Tryz Instr
namespace RdA
noncomputable def code:Code:=fstC (Zm f26)
def b1 (R:EP)(x0:Value)(w:World)(_r:Tok R:=tok R):Prop :=
 RUN prog R (alloc 75 true (.tuple #[])) w fun v1 w2=>
 RUN prog R (alloc 3 true (.tuple #[])) w2 fun v3 w4=>
 R (.returned (.tuple #[x0,v1,v3])) w4
abbrev q1 (R:EP):XP:=QX (fun z w=>R (.returned (.tuple #[z 0,z 2,z 3])) w) (fun z w=>R (.returned (.agg #[z 0])) w) []
theorem Zg (R:EP):TI prog R code (q1 R) fun z w=>b1 R (z 0) w:=ofT
abbrev run (R:EP)(x0:Value)(w:World):Prop:=b1 R x0 w
theorem part_wp {R:EP}{ρ:Env}{a:Act}{D:List Deferred}{w:World}(hr:Rel f26.ntmps a ρ D)(h:run R (ρ 0) w):code.wp prog (post R f26.ntmps (q1 R) D) a w :=
 Zce (by kernel_rfl) code (q1 R) ρ a w (by kernel_rfl) hr (Zg R ρ w h)
attribute [irreducible,go_sem] b1
end RdA
end Go.Proofs.YtckbgeedlobfaaaGreatDoor
namespace Go.Proofs.YtckbgeedlobfaaaGreatDoor
open Go.Px Tryz Instr
namespace RdB
noncomputable def code:Code:=fstC (sndC (Zm f26))
def b1 (R:EP)(x0 x2 x3:Value)(w:World)(_r:Tok R:=tok R):Prop :=
 RUN prog R (makeMap 98 none) w fun v1 w2=>
 RUN prog R (makeMap 98 none) w2 fun v3 w4=>
 RUN prog R (Builtin.len_ #[9] 3 #[x0]) w4 fun v5 w6=>
 RUN prog R (build 102 #[(3,v1),(6,v3),(2,v5)]) w6 fun v7 w8=>
 RUN prog R (box 102 v7) w8 fun v9 w10=>
 RUNU prog R (storeAt 75 x2 v9) w10 fun w11=>
 R (.returned (.tuple #[x0,x2,x3])) w11
abbrev q1 (R:EP):XP:=QX (fun z w=>R (.returned (.tuple #[z 0,z 2,z 3])) w) (fun z w=>R (.returned (.agg #[z 0])) w) []
theorem Zg (R:EP):TI prog R code (q1 R) fun z w=>b1 R (z 0) (z 2) (z 3) w:=ofT
abbrev run (R:EP)(x0 x2 x3:Value)(w:World):Prop:=b1 R x0 x2 x3 w
theorem part_wp {R:EP}{ρ:Env}{a:Act}{D:List Deferred}{w:World}(hr:Rel f26.ntmps a ρ D)(h:run R (ρ 0) (ρ 2) (ρ 3) w):code.wp prog (post R f26.ntmps (q1 R) D) a w :=
 Zce (by kernel_rfl) code (q1 R) ρ a w (by kernel_rfl) hr (Zg R ρ w h)
attribute [irreducible,go_sem] b1
end RdB
end Go.Proofs.YtckbgeedlobfaaaGreatDoor
namespace Go.Proofs.YtckbgeedlobfaaaGreatDoor
open Go.Px Tryz Instr
namespace RdC
noncomputable def code:Code:=fstC (fstC (sndC (sndC (Zm f26))))
def b1 (R:EP)(x0 x2 x3:Value)(w:World)(_r:Tok R:=tok R):Prop :=
 CALL prog R Zey.id #[x0] w fun v1 w2=>
 R (.returned (.tuple #[x0,x2,x3,v1])) w2
abbrev q1 (R:EP):XP:=QX (fun z w=>R (.returned (.tuple #[z 0,z 2,z 3,z 14])) w) (fun z w=>R (.returned (.agg #[z 0])) w) []
theorem Zg (R:EP):TI prog R code (q1 R) fun z w=>b1 R (z 0) (z 2) (z 3) w:=ofT
abbrev run (R:EP)(x0 x2 x3:Value)(w:World):Prop:=b1 R x0 x2 x3 w
theorem part_wp {R:EP}{ρ:Env}{a:Act}{D:List Deferred}{w:World}(hr:Rel f26.ntmps a ρ D)(h:run R (ρ 0) (ρ 2) (ρ 3) w):code.wp prog (post R f26.ntmps (q1 R) D) a w :=
 Zce (by kernel_rfl) code (q1 R) ρ a w (by kernel_rfl) hr (Zg R ρ w h)
attribute [irreducible,go_sem] b1
end RdC
end Go.Proofs.YtckbgeedlobfaaaGreatDoor
namespace Go.Proofs.YtckbgeedlobfaaaGreatDoor
open Go.Px Tryz Instr
namespace RdD
noncomputable def code:Code:=fstC (sndC (sndC (sndC (Zm f26))))
def b1_1 (R:EP)(x2 x3 v1:Value)(w2:World)(_r:Tok R:=tok R):Prop :=
 RUN prog R (extract v1 0) w2 fun v3 w4=>
 RUN prog R (extract v1 1) w4 fun v5 w6=>
 RUN prog R (alloc 36 true (.tuple #[])) w6 fun v7 w8=>
 RUNU prog R (storeAt 36 v7 v5) w8 fun w9=>
 R (.returned (.tuple #[x2,x3,v7])) w9
def b1 (R:EP)(x0 x2 x3:Value)(w:World)(_r:Tok R:=tok R):Prop :=
 CALL prog R Zeq.id #[x0] w fun v1 w2=>
 b1_1 R x2 x3 v1 w2
abbrev q1 (R:EP):XP:=QX (fun z w=>R (.returned (.tuple #[z 2,z 3,z 6])) w) (fun z w=>R (.returned (.agg #[z 0])) w) []
theorem Zg (R:EP):TI prog R code (q1 R) fun z w=>b1 R (z 0) (z 2) (z 3) w:=ofT
abbrev run (R:EP)(x0 x2 x3:Value)(w:World):Prop:=b1 R x0 x2 x3 w
theorem part_wp {R:EP}{ρ:Env}{a:Act}{D:List Deferred}{w:World}(hr:Rel f26.ntmps a ρ D)(h:run R (ρ 0) (ρ 2) (ρ 3) w):code.wp prog (post R f26.ntmps (q1 R) D) a w :=
 Zce (by kernel_rfl) code (q1 R) ρ a w (by kernel_rfl) hr (Zg R ρ w h)
attribute [irreducible,go_sem] b1_1 b1
end RdD
end Go.Proofs.YtckbgeedlobfaaaGreatDoor
namespace Go.Proofs.YtckbgeedlobfaaaGreatDoor
open Go.Px Tryz Instr
namespace RdE
noncomputable def code:Code:=fstC (sndC (sndC (sndC (sndC (Zm f26)))))
def b1_1 (R:EP)(x2 x3 x6:Value)(w6:World)(_r:Tok R:=tok R):Prop :=
 RUN prog R (loadAt 75 x2) w6 fun v7 w8=>
 RUN prog R (fieldAt 36 x6 1) w8 fun v9 w10=>
 RUN prog R (loadAt 3 v9) w10 fun v11 w12=>
 NILC v7 fun v13=>
 RUN prog R (fieldAt 102 v13 2) w12 fun v14 w15=>
 RUNU prog R (storeAt 3 v14 v11) w15 fun w16=>
 R (.returned (.tuple #[x2,x3,x6])) w16
def b1 (R:EP)(x2 x3 x6:Value)(w:World)(_r:Tok R:=tok R):Prop :=
 RUN prog R (fieldAt 36 x6 0) w fun v1 w2=>
 RUN prog R (loadAt 28 v1) w2 fun v3 w4=>
 RUN prog R (bins .neq 28 (.tmp 32) (.const (Value.int .i64 0)) v3 (Value.int .i64 0)) w4 fun v5 w6=>
 SPL v5
 (b1_1 R x2 x3 x6 w6)
 (R (.returned (.tuple #[x2,x3,x6])) w6)
abbrev q1 (R:EP):XP:=QX (fun z w=>R (.returned (.tuple #[z 2,z 3,z 6])) w) (fun z w=>R (.returned (.agg #[z 0])) w) []
theorem Zg (R:EP):TI prog R code (q1 R) fun z w=>b1 R (z 2) (z 3) (z 6) w:=ofT
abbrev run (R:EP)(x2 x3 x6:Value)(w:World):Prop:=b1 R x2 x3 x6 w
theorem part_wp {R:EP}{ρ:Env}{a:Act}{D:List Deferred}{w:World}(hr:Rel f26.ntmps a ρ D)(h:run R (ρ 2) (ρ 3) (ρ 6) w):code.wp prog (post R f26.ntmps (q1 R) D) a w :=
 Zce (by kernel_rfl) code (q1 R) ρ a w (by kernel_rfl) hr (Zg R ρ w h)
attribute [irreducible,go_sem] b1_1 b1
end RdE
end Go.Proofs.YtckbgeedlobfaaaGreatDoor
namespace Go.Proofs.YtckbgeedlobfaaaGreatDoor
open Go.Px Tryz Instr
namespace RdBody
noncomputable def code:Code:=rngB (blkC (sndC (fstC (sndC (sndC (Zm f26))))))
def b1 (R:EP)(x2 x4:Value)(w:World)(_r:Tok R:=tok R):Prop :=
 LD prog (loadAt 75 x2) (World.drew w) fun v1=>
 LD prog (loadAt 75 x2) (World.drew w) fun v2=>
 NILC v2 fun v3=>
 PUR prog (fieldAt 102 v3 0) fun v4=>
 LD prog (loadAt 34 v4) (World.drew w) fun v5=>
 LD prog (loadAt 73 x4) (World.drew w) fun v6=>
 RUN prog R (buildSlice 34 1 #[(0,v6)]) (World.drew w) fun v7 w8=>
 Sem.run prog (loadAt 34 v4) w8 = .ok v5 w8∧(Sem.run prog (loadAt 75 x2) w8 = .ok v2 w8∧(Sem.run prog (loadAt 75 x2) w8 = .ok v1 w8∧(RUN prog R (Builtin.append_ #[34,34] 34 #[v5,v7]) w8 fun v9 w10=>
 Sem.run prog (loadAt 75 x2) w10 = .ok v1 w10∧(NILC v1 fun v11=>
 PUR prog (fieldAt 102 v11 0) fun v12=>
 RUNU prog R (storeAt 34 v12 v9) w10 fun w13=>
 R (.returned (.bool true)) w13))))
abbrev q1 (R:EP):XP:=QX (fun z w=>R (.returned (.bool true)) w) (fun z w=>R (.returned (.bool false)) w) []
theorem Zg (R:EP):TI prog R code (q1 R) fun z w=>b1 R (z 2) (z 4) w:=ofT
abbrev run (R:EP)(x2 x4:Value)(w:World):Prop:=b1 R x2 x4 w
theorem body_wp {R:EP}{l:Nat}{ρ:Env}{a:Act}{w:World}(hr:Rel f26.ntmps a ρ)(h:run R (ρ 2) (ρ 4) w):code.wpIn (Fence.wide.inRound l) 0 prog (post R f26.ntmps (q1 R)) a w :=
 Zoo (by kernel_rfl) code (q1 R) ρ a w (fun _ _ h=>h) (by kernel_rfl) (by kernel_rfl) hr (Zg R ρ w h)
attribute [irreducible,go_sem] b1
end RdBody
end Go.Proofs.YtckbgeedlobfaaaGreatDoor
namespace Go.Proofs.YtckbgeedlobfaaaGreatDoor
open Go.Px Tryz Instr
namespace RdAsg
noncomputable def code:Code:=rngA (blkC (sndC (fstC (sndC (sndC (Zm f26))))))
def b1 (R:EP)(x2 x15:Value)(w:World)(_r:Tok R:=tok R):Prop :=
 RUN prog R (alloc 73 true (.tuple #[])) w fun v1 w2=>
 RUNU prog R (storeAt 73 v1 x15) w2 fun w3=>
 R (.returned (.tuple #[x2,v1])) w3
abbrev q1 (R:EP):XP:=QX (fun z w=>R (.returned (.tuple #[z 2,z 4])) w) (fun z w=>R (.returned (.bool false)) w) []
theorem Zg (R:EP):TI prog R code (q1 R) fun z w=>b1 R (z 2) (z 15) w:=ofT
abbrev run (R:EP)(x2 x15:Value)(w:World):Prop:=b1 R x2 x15 w
theorem body_wp {R:EP}{l:Nat}{ρ:Env}{a:Act}{w:World}(hr:Rel f26.ntmps a ρ)(h:run R (ρ 2) (ρ 15) w):code.wpIn (Fence.wide.inRound l) 0 prog (post R f26.ntmps (q1 R)) a w :=
 Zoo (by kernel_rfl) code (q1 R) ρ a w (fun _ _ h=>h) (by kernel_rfl) (by kernel_rfl) hr (Zg R ρ w h)
attribute [irreducible,go_sem] b1
end RdAsg
end Go.Proofs.YtckbgeedlobfaaaGreatDoor
namespace Go.Proofs.YtckbgeedlobfaaaGreatDoor
open Go.Px Tryz Instr
namespace RqA
noncomputable def code:Code:=fstC (Zm f9)
def b1 (R:EP)(x0:Value)(w:World)(_r:Tok R:=tok R):Prop :=
 RUN prog R (alloc 27 true (.tuple #[])) w fun v1 w2=>
 RUN prog R (alloc 36 true (.tuple #[])) w2 fun v3 w4=>
 R (.returned (.tuple #[x0,v1,v3])) w4
abbrev q1 (R:EP):XP:=QX (fun z w=>R (.returned (.tuple #[z 0,z 2,z 3])) w) (fun z w=>R (.returned (.agg #[z 0])) w) []
theorem Zg (R:EP):TI prog R code (q1 R) fun z w=>b1 R (z 0) w:=ofT
abbrev run (R:EP)(x0:Value)(w:World):Prop:=b1 R x0 w
theorem part_wp {R:EP}{ρ:Env}{a:Act}{D:List Deferred}{w:World}(hr:Rel f9.ntmps a ρ D)(h:run R (ρ 0) w):code.wp prog (post R f9.ntmps (q1 R) D) a w :=
 Zce (by kernel_rfl) code (q1 R) ρ a w (by kernel_rfl) hr (Zg R ρ w h)
attribute [irreducible,go_sem] b1
end RqA
end Go.Proofs.YtckbgeedlobfaaaGreatDoor
namespace Go.Proofs.YtckbgeedlobfaaaGreatDoor
open Go.Px Tryz Instr
namespace RqB
noncomputable def code:Code:=fstC (sndC (Zm f9))
def b1_1 (R:EP)(x2 x3 v1:Value)(w2:World)(_r:Tok R:=tok R):Prop :=
 RUN prog R (extract v1 0) w2 fun v3 w4=>
 RUN prog R (extract v1 1) w4 fun v5 w6=>
 R (.returned (.tuple #[x2,x3,v3,v5])) w6
def b1 (R:EP)(x0 x2 x3:Value)(w:World)(_r:Tok R:=tok R):Prop :=
 CALL prog R Zok.id #[x0] w fun v1 w2=>
 b1_1 R x2 x3 v1 w2
abbrev q1 (R:EP):XP:=QX (fun z w=>R (.returned (.tuple #[z 2,z 3,z 4,z 5])) w) (fun z w=>R (.returned (.agg #[z 0])) w) []
theorem Zg (R:EP):TI prog R code (q1 R) fun z w=>b1 R (z 0) (z 2) (z 3) w:=ofT
abbrev run (R:EP)(x0 x2 x3:Value)(w:World):Prop:=b1 R x0 x2 x3 w
theorem part_wp {R:EP}{ρ:Env}{a:Act}{D:List Deferred}{w:World}(hr:Rel f9.ntmps a ρ D)(h:run R (ρ 0) (ρ 2) (ρ 3) w):code.wp prog (post R f9.ntmps (q1 R) D) a w :=
 Zce (by kernel_rfl) code (q1 R) ρ a w (by kernel_rfl) hr (Zg R ρ w h)
attribute [irreducible,go_sem] b1_1 b1
end RqB
end Go.Proofs.YtckbgeedlobfaaaGreatDoor
namespace Go.Proofs.YtckbgeedlobfaaaGreatDoor
open Go.Px Tryz Instr
namespace RqC
noncomputable def code:Code:=fstC (sndC (sndC (Zm f9)))
def b1_1 (R:EP)(x2 x3 x5:Value)(w2:World)(_r:Tok R:=tok R):Prop :=
 RUN prog R (build 27 #[]) w2 fun v3 w4=>
 RUN prog R (build 36 #[(0,(Value.int .i64 10)),(1,x5)]) w4 fun v5 w6=>
 RUNU prog R (storeAt 27 x2 v3) w6 fun w7=>
 RUNU prog R (storeAt 36 x3 v5) w7 fun w8=>
 R (.returned (.agg #[x2,x3])) w8
def b1 (R:EP)(x2 x3 x4 x5:Value)(w:World)(_r:Tok R:=tok R):Prop :=
 RUN prog R (bins .geq 3 (.tmp 13) (.const (Value.int .i64 0)) x5 (Value.int .i64 0)) w fun v1 w2=>
 SPL v1
 (b1_1 R x2 x3 x5 w2)
 (R (.returned (.tuple #[x2,x3,x4,x5])) w2)
abbrev q1 (R:EP):XP:=QX (fun z w=>R (.returned (.tuple #[z 2,z 3,z 4,z 5])) w) (fun z w=>R (.returned (.agg #[z 2,z 3])) w) []
theorem Zg (R:EP):TI prog R code (q1 R) fun z w=>b1 R (z 2) (z 3) (z 4) (z 5) w:=ofT
abbrev run (R:EP)(x2 x3 x4 x5:Value)(w:World):Prop:=b1 R x2 x3 x4 x5 w
theorem part_wp {R:EP}{ρ:Env}{a:Act}{D:List Deferred}{w:World}(hr:Rel f9.ntmps a ρ D)(h:run R (ρ 2) (ρ 3) (ρ 4) (ρ 5) w):code.wp prog (post R f9.ntmps (q1 R) D) a w :=
 Zce (by kernel_rfl) code (q1 R) ρ a w (by kernel_rfl) hr (Zg R ρ w h)
attribute [irreducible,go_sem] b1_1 b1
end RqC
end Go.Proofs.YtckbgeedlobfaaaGreatDoor
namespace Go.Proofs.YtckbgeedlobfaaaGreatDoor
open Go.Px Tryz Instr
namespace RqD
noncomputable def code:Code:=fstC (sndC (sndC (sndC (sndC (Zm f9)))))
def b1_1 (R:EP)(x2 x3 x4 v1:Value)(w2:World)(_r:Tok R:=tok R):Prop :=
 RUN prog R (build 83 #[(0,v1),(1,x4)]) w2 fun v3 w4=>
 RUN prog R (box 83 v3) w4 fun v5 w6=>
 R (.returned (.tuple #[x2,x3,v5])) w6
def b1 (R:EP)(x2 x3 x4:Value)(w:World)(_r:Tok R:=tok R):Prop :=
 CALL prog R Zgh.id #[] w fun v1 w2=>
 b1_1 R x2 x3 x4 v1 w2
abbrev q1 (R:EP):XP:=QX (fun z w=>R (.returned (.tuple #[z 2,z 3,z 6])) w) (fun z w=>R (.returned (.agg #[z 0])) w) []
theorem Zg (R:EP):TI prog R code (q1 R) fun z w=>b1 R (z 2) (z 3) (z 4) w:=ofT
abbrev run (R:EP)(x2 x3 x4:Value)(w:World):Prop:=b1 R x2 x3 x4 w
theorem part_wp {R:EP}{ρ:Env}{a:Act}{D:List Deferred}{w:World}(hr:Rel f9.ntmps a ρ D)(h:run R (ρ 2) (ρ 3) (ρ 4) w):code.wp prog (post R f9.ntmps (q1 R) D) a w :=
 Zce (by kernel_rfl) code (q1 R) ρ a w (by kernel_rfl) hr (Zg R ρ w h)
attribute [irreducible,go_sem] b1_1 b1
end RqD
end Go.Proofs.YtckbgeedlobfaaaGreatDoor
namespace Go.Proofs.YtckbgeedlobfaaaGreatDoor
open Go.Px Tryz Instr
namespace RqE
noncomputable def code:Code:=sndC (sndC (sndC (sndC (sndC (sndC (Zm f9))))))
def b1_1 (R:EP)(x2 x3 v6:Value)(w7:World)(_r:Tok R:=tok R):Prop :=
 RUN prog R (extract v6 0) w7 fun v8 w9=>
 RUN prog R (extract v6 1) w9 fun v10 w11=>
 RUNU prog R (storeAt 27 x2 v8) w11 fun w12=>
 RUN prog R (loadAt 27 x2) w12 fun v13 w14=>
 RUN prog R (build 36 #[(0,v10)]) w14 fun v15 w16=>
 RUNU prog R (storeAt 27 x2 v13) w16 fun w17=>
 RUNU prog R (storeAt 36 x3 v15) w17 fun w18=>
 R (.returned (.agg #[x2,x3])) w18
def b1 (R:EP)(x2 x3 x6:Value)(w:World)(_r:Tok R:=tok R):Prop :=
 NILC x6 fun v1=>
 RUN prog R (fieldAt 83 v1 0) w fun v2 w3=>
 RUN prog R (loadAt 80 v2) w3 fun v4 w5=>
 CALL prog R Zd.id #[v4] w5 fun v6 w7=>
 b1_1 R x2 x3 v6 w7
abbrev q1 (R:EP):XP:=QX (fun z w=>R (.returned (.tuple #[z 2,z 3])) w) (fun z w=>R (.returned (.agg #[z 2,z 3])) w) []
theorem Zg (R:EP):TI prog R code (q1 R) fun z w=>b1 R (z 2) (z 3) (z 6) w:=ofT
abbrev run (R:EP)(x2 x3 x6:Value)(w:World):Prop:=b1 R x2 x3 x6 w
theorem part_wp {R:EP}{ρ:Env}{a:Act}{D:List Deferred}{w:World}(hr:Rel f9.ntmps a ρ D)(h:run R (ρ 2) (ρ 3) (ρ 6) w):code.wp prog (post R f9.ntmps (q1 R) D) a w :=
 Zce (by kernel_rfl) code (q1 R) ρ a w (by kernel_rfl) hr (Zg R ρ w h)
attribute [irreducible,go_sem] b1_1 b1
end RqE
end Go.Proofs.YtckbgeedlobfaaaGreatDoor
namespace Go.Proofs.YtckbgeedlobfaaaGreatDoor
open Go.Px Tryz Instr
namespace Rec2
noncomputable def code:Code:=sndC (Zm f27)
noncomputable abbrev p1:Code:=Zi 3 code
def b2 (R:EP)(x0 x1 x3:Value)(w:World)(_r:Tok R:=tok R):Prop :=
 RUN prog R (build 27 #[]) w fun v1 w2=>
 RUN prog R (build 36 #[(0,x3)]) w2 fun v3 w4=>
 RUNU prog R (storeAt 27 x0 v1) w4 fun w5=>
 RUNU prog R (storeAt 36 x1 v3) w5 fun w6=>
 R (.returned (.tuple #[x0])) w6
abbrev q1 (R:EP):XP:=QX (fun z w=>R (.returned (.tuple #[z 0])) w) (fun z w=>R (.returned (.agg #[z 0])) w) []
theorem Zj1 (R:EP):TI prog R p1 (q1 R) fun z w=>b2 R (z 0) (z 1) (z 3) w:=ofT
def b1_1 (R:EP)(x0 x1 x2:Value)(w2:World)(_r:Tok R:=tok R):Prop :=
 RUN prog R (typeAssert x2 20 28 true) w2 fun v3 w4=>
 RUN prog R (extract v3 0) w4 fun v5 w6=>
 RUN prog R (extract v3 1) w6 fun v7 w8=>
 RUN prog R (Op.unary .not v7) w8 fun v9 w10=>
 SPL v9
 (RUN prog R (panic x2) w10 fun v11 w12=>
 b2 R x0 x1 v5 w12)
 (b2 R x0 x1 v5 w10)
def b1 (R:EP)(x0 x1 x2:Value)(w:World)(_r:Tok R:=tok R):Prop :=
 RUN prog R (bins .eql 20 (.tmp 6) (.const (Value.nilIface)) x2 Value.nilIface) w fun v1 w2=>
 SPL v1
 (R (.returned (.agg #[x0])) w2)
 (b1_1 R x0 x1 x2 w2)
theorem Zg (R:EP):TI prog R code (q1 R) fun z w=>b1 R (z 0) (z 1) (z 2) w:=appT 2 (Zj1 R)
abbrev run (R:EP)(x0 x1 x2:Value)(w:World):Prop:=b1 R x0 x1 x2 w
theorem part_wp {R:EP}{ρ:Env}{a:Act}{D:List Deferred}{w:World}(hr:Rel f27.ntmps a ρ D)(h:run R (ρ 0) (ρ 1) (ρ 2) w):code.wp prog (post R f27.ntmps (q1 R) D) a w :=
 Zce (by kernel_rfl) code (q1 R) ρ a w (by kernel_rfl) hr (Zg R ρ w h)
attribute [irreducible,go_sem] b2 b1_1 b1
end Rec2
end Go.Proofs.YtckbgeedlobfaaaGreatDoor
