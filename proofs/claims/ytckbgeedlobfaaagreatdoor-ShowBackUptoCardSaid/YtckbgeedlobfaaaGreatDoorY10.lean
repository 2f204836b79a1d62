/-
  Texts of this claim: TAS, TAL5.
-/
import Derived.Test.YtckbgeedlobfaaaGreatDoorY04
set_option linter.unusedVariables false
set_option maxRecDepth 100000
namespace Go.Proofs.YtckbgeedlobfaaaGreatDoor
open Go.Px Tryz Instr
namespace Zt
noncomputable def code:Code:=Zm f4
noncomputable abbrev p1:Code:=Zi 4 code
noncomputable abbrev p2:Code:=Zi 2 (sndC p1)
def b5 (R:EP)(x4:Value)(w:World)(_r:Tok R:=tok R):Prop :=
 NILC x4 fun v1=>
 RUN prog R (fieldAt 59 v1 0) w fun v2 w3=>
 CALL prog R Zbj.id #[v2] w3 fun v4 w5=>
 R (.returned (.tuple #[v4,(Value.int .i64 0)])) w5
abbrev r0 (R:EP)(z:Env)(w:World):Prop:=R (.returned (.tuple #[(z 2),(z 3)])) w
abbrev q1 (R:EP):XP:=QX (r0 R) (r0 R) []
theorem Zeb (R:EP):TI prog R (sndC p2) (q1 R) fun z w=>b5 R (z 4) w:=ofT
noncomputable abbrev p3:Code:=Zi 1 (fstC p2)
noncomputable abbrev p4:Code:=Zby (blkC p3)
noncomputable abbrev p5:Code:=Zi 3 p4
def b10 (R:EP)(C8:VP)(x61:Value)(w:World)(_r:Tok R:=tok R)(_C8:Tok C8:=tok C8):Prop :=
 RUN prog R (bins .add 3 (.tmp 61) (.const (Value.int .i64 1)) x61 (Value.int .i64 1)) w fun v1 w2=>
 C8 v1 w2
abbrev q2 (R:EP)(C8:VP):XP:=QX (fun z w=>C8 (z 61) w) (r0 R) [(4,(fun z w=>b5 R (z 4) w))]
theorem Zef (R:EP)(C8:VP):TI prog R p5 (q2 R C8) fun z w=>b10 R C8 (z 61) w:=ofT
def b9_1 (R:EP)(C8:VP)(x4 x61:Value)(w34:World)(_r:Tok R:=tok R)(_C8:Tok C8:=tok C8):Prop :=
 NILC x4 fun v35=>
 RUN prog R (fieldAt 59 v35 0) w34 fun v36 w37=>
 CALL prog R Zcr.id #[v36] w37 fun v38 w39=>
 RUN prog R (bins .gtr 3 (.tmp 88) (.const (Value.int .i64 8192)) v38 (Value.int .i64 8192)) w39 fun v40 w41=>
 SPL v40
 (R (.returned (.tuple #[(Value.string ⟨#[]⟩),(Value.int .i64 11)])) w41)
 (b10 R C8 x61 w41)
def b9_2 (R:EP)(C8:VP)(x4 x61:Value)(w30:World)(_r:Tok R:=tok R)(_C8:Tok C8:=tok C8):Prop :=
 RUN prog R (buildSlice 23 1 #[(0,(Value.string ⟨#[59,10]⟩))]) w30 fun v31 w32=>
 CALL prog R Zan.id #[x4,v31] w32 fun v33 w34=>
 b9_1 R C8 x4 x61 w34
def b9_3 (R:EP)(C8:VP)(x4 x61 v7:Value)(w26:World)(_r:Tok R:=tok R)(_C8:Tok C8:=tok C8):Prop :=
 RUN prog R (loadAt 50 v7) w26 fun v27 w28=>
 CALL prog R Zaq.id #[x4,v27] w28 fun v29 w30=>
 b9_2 R C8 x4 x61 w30
def b9_4 (R:EP)(C8:VP)(x4 x61 v7 v20 v21 v22:Value)(w23:World)(_r:Tok R:=tok R)(_C8:Tok C8:=tok C8):Prop :=
 Sem.run prog (loadAt 24 v20) w23 = .ok v21 w23∧(PUR prog (bins .add 9 (.tmp 74) (.const (Value.string ⟨#[32,58]⟩)) v22 (Value.string ⟨#[32,58]⟩)) fun v24=>
 CALL prog R Za7.id #[x4,v24,v21] w23 fun v25 w26=>
 b9_3 R C8 x4 x61 v7 w26)
def b9_5 (R:EP)(C8:VP)(x4 x61 v7:Value)(w17:World)(_r:Tok R:=tok R)(_C8:Tok C8:=tok C8):Prop :=
 PUR prog (fieldAt 50 v7 0) fun v18=>
 LD prog (loadAt 3 v18) (World.drew w17) fun v19=>
 PUR prog (fieldAt 50 v7 1) fun v20=>
 LD prog (loadAt 24 v20) (World.drew w17) fun v21=>
 CALL prog R Zca.id #[x4,v19] (World.drew w17) fun v22 w23=>
 b9_4 R C8 x4 x61 v7 v20 v21 v22 w23
def b9_6 (R:EP)(C8:VP)(x4 x59 x61:Value)(w2:World)(_r:Tok R:=tok R)(_C8:Tok C8:=tok C8):Prop :=
 RUN prog R (indexAt 25 x59 x61) w2 fun v3 w4=>
 RUN prog R (loadAt 50 v3) w4 fun v5 w6=>
 RUN prog R (alloc 50 true (.tuple #[])) w6 fun v7 w8=>
 RUNU prog R (storeAt 50 v7 v5) w8 fun w9=>
 RUN prog R (fieldAt 50 v7 0) w9 fun v10 w11=>
 RUN prog R (loadAt 3 v10) w11 fun v12 w13=>
 CALL prog R Zca.id #[x4,v12] w13 fun v14 w15=>
 RUN prog R (bins .eql 9 (.tmp 68) (.const (Value.string ⟨#[36,115,116,97,114,116]⟩)) v14 (Value.string ⟨#[36,115,116,97,114,116]⟩)) w15 fun v16 w17=>
 SPL v16
 (b10 R C8 x61 w17)
 (b9_5 R C8 x4 x61 v7 w17)
def b9 (R:EP)(C8:VP)(x4 x59 x60 x61:Value)(w:World)(_r:Tok R:=tok R)(_C8:Tok C8:=tok C8):Prop :=
 RUN prog R (bins .lss 3 (.tmp 61) (.tmp 60) x61 x60) w fun v1 w2=>
 SPL v1
 (b9_6 R C8 x4 x59 x61 w2)
 (b5 R x4 w2)
theorem Zei (R:EP)(C8:VP):TI prog R p4 (q2 R C8) fun z w=>b9 R C8 (z 4) (z 59) (z 60) (z 61) w:=appT 2 (Zef R C8)
def l8 (R:EP)(x4 x59 x60 x61:Value)(w:World)(_r:Tok R:=tok R):Prop :=
 ∃(J:VP) (μ:Value→World→Nat),J x61 w∧∀y61 w0,J y61 w0→b9 R (fun z61 w1=>J z61 w1∧μ z61 w1<μ y61 w0) x4 x59 x60 y61 w0
abbrev q3 (R:EP):XP:=QX (fun z w=>b5 R (z 4) w) (r0 R) [(4,(fun z w=>b5 R (z 4) w))]
theorem Zut (R:EP):TI prog R (blkC p3) (q3 R) fun z w=>l8 R (z 4) (z 59) (z 60) (z 61) w:=fun z w h=>by
 unfold l8 at h
 obtain ⟨J,μ,h0,hr⟩:=h
 refine Zcg (fun z' w'=>J (z' 61) w') (fun z' w'=>μ (z' 61) w') h0 fun z' w' hA hI=>Zei R (fun z61 w1=>J z61 w1∧μ z61 w1<μ (z' 61) w') z' w' ?_
 have h1:=hr (z' 61) w' hI
 rwa [←hA.on 4,←hA.on 59,←hA.on 60]at h1
theorem l8_intro (R:EP)(x4 x59 x60 x61:Value)(w:World)(J:VP)(μ:Value→World→Nat)(h0:J x61 w)
   (hr:∀y61 w0,J y61 w0→∀C8:VP,(∀z61 w1,J z61 w1→μ z61 w1<μ y61 w0→C8 z61 w1)→b9 R C8 x4 x59 x60 y61 w0):l8 R x4 x59 x60 x61 w:=by
 unfold l8
 exact ⟨J,μ,h0,fun y61 w0 hJ=>hr y61 w0 hJ _ (fun z61 w1 h1 h2=>⟨h1,h2⟩)⟩
abbrev q4 (R:EP):XP:=QX (fun z w=>b5 R (z 4) w) (r0 R) []
theorem Zt9 (R:EP):TI prog R p3 (q4 R) fun z w=>l8 R (z 4) (z 59) (z 60) (z 61) w:=Zac 2 (Zut R)
def b6 (R:EP)(x1 x4:Value)(w:World)(_r:Tok R:=tok R):Prop :=
 RUN prog R (fieldAt 27 x1 4) w fun v1 w2=>
 RUN prog R (loadAt 25 v1) w2 fun v3 w4=>
 RUN prog R (Builtin.len_ #[25] 3 #[v3]) w4 fun v5 w6=>
 l8 R x4 v3 v5 (Value.int .i64 0) w6
theorem Zha (R:EP):TI prog R (fstC p2) (q4 R) fun z w=>b6 R (z 1) (z 4) w:=appT 0 (Zt9 R)
theorem Zgr (R:EP):TI prog R p2 (q1 R) fun z w=>b6 R (z 1) (z 4) w:=seqT (Zha R) (Zeb R)
def b3_1 (R:EP)(x1 x4:Value)(w8:World)(_r:Tok R:=tok R):Prop :=
 RUN prog R (buildSlice 23 1 #[(0,(Value.string ⟨#[59,10]⟩))]) w8 fun v9 w10=>
 CALL prog R Zan.id #[x4,v9] w10 fun v11 w12=>
 b6 R x1 x4 w12
def b3 (R:EP)(x1 x4:Value)(w:World)(_r:Tok R:=tok R):Prop :=
 RUN prog R (fieldAt 27 x1 3) w fun v1 w2=>
 RUN prog R (loadAt 3 v1) w2 fun v3 w4=>
 RUN prog R (buildSlice 24 1 #[(0,v3)]) w4 fun v5 w6=>
 CALL prog R Za7.id #[x4,(Value.string ⟨#[37,115,116,97,114,116]⟩),v5] w6 fun v7 w8=>
 b3_1 R x1 x4 w8
theorem Zbi (R:EP):TI prog R (sndC p1) (q1 R) fun z w=>b3 R (z 1) (z 4) w:=appT 1 (Zgr R)
noncomputable abbrev p6:Code:=Zi 1 (fstC p1)
noncomputable abbrev p7:Code:=Zby (blkC p6)
noncomputable abbrev p8:Code:=Zi 2 p7
def b16 (R:EP)(C13:VP)(x31:Value)(w:World)(_r:Tok R:=tok R)(_C13:Tok C13:=tok C13):Prop :=
 RUN prog R (bins .add 3 (.tmp 31) (.const (Value.int .i64 1)) x31 (Value.int .i64 1)) w fun v1 w2=>
 C13 v1 w2
abbrev q5 (R:EP)(C13:VP):XP:=QX (fun z w=>C13 (z 31) w) (r0 R) [(0,(fun z w=>b3 R (z 1) (z 4) w))]
theorem Zex (R:EP)(C13:VP):TI prog R (sndC p8) (q5 R C13) fun z w=>b16 R C13 (z 31) w:=ofT
noncomputable abbrev p9:Code:=blkC (fstC p8)
noncomputable abbrev p10:Code:=Zi 2 p9
def b19 (R:EP)(C13:VP)(x4 x31:Value)(w:World)(_r:Tok R:=tok R)(_C13:Tok C13:=tok C13):Prop :=
 RUN prog R (buildSlice 23 1 #[(0,(Value.string ⟨#[59,10]⟩))]) w fun v1 w2=>
 CALL prog R Zan.id #[x4,v1] w2 fun v3 w4=>
 b16 R C13 x31 w4
abbrev q6 (R:EP)(C13:VP):XP:=QX (fun z w=>b16 R C13 (z 31) w) (r0 R) [(2,(fun z w=>b16 R C13 (z 31) w)),(0,(fun z w=>b3 R (z 1) (z 4) w))]
theorem Zgy (R:EP)(C13:VP):TI prog R p10 (q6 R C13) fun z w=>b19 R C13 (z 4) (z 31) w:=ofT
def b18_1 (R:EP)(C13:VP)(x4 x31 v8 v18:Value)(w19:World)(_r:Tok R:=tok R)(_C13:Tok C13:=tok C13):Prop :=
 RUN prog R (buildSlice 23 3 #[(0,(Value.string ⟨#[37,108,101,102,116]⟩)),(1,(Value.string ⟨#[37,114,105,103,104,116]⟩)),(2,(Value.string ⟨#[37,110,111,110,97,115,115,111,99]⟩))]) w19 fun v20 w21=>
 PUR prog (indexAt 23 v20 v8) fun v22=>
 LD prog (loadAt 9 v22) w21 fun v23=>
 CALL prog R Za7.id #[x4,v23,v18] w21 fun v24 w25=>
 b19 R C13 x4 x31 w25
def b18 (R:EP)(C13:VP)(x4 x29 x31:Value)(w:World)(_r:Tok R:=tok R)(_C13:Tok C13:=tok C13):Prop :=
 RUN prog R (indexAt 24 x29 x31) w fun v1 w2=>
 RUN prog R (loadAt 3 v1) w2 fun v3 w4=>
 RUN prog R (alloc 3 true (.tuple #[])) w4 fun v5 w6=>
 RUNU prog R (storeAt 3 v5 x31) w6 fun w7=>
 PUR prog (bins .sub 3 (.tmp 38) (.const (Value.int .i64 1)) v3 (Value.int .i64 1)) fun v8=>
 PUR prog (makeFunc (.func Ze2.id) #[] #[v5]) fun v9=>
 (RUN prog R (buildSlice 23 3 #[(0,(Value.string ⟨#[37,108,101,102,116]⟩)),(1,(Value.string ⟨#[37,114,105,103,104,116]⟩)),(2,(Value.string ⟨#[37,110,111,110,97,115,115,111,99]⟩))]) (World.drew w7) fun v10 w11=>
 PUR prog (indexAt 23 v10 v8) fun v12=>
 LD prog (loadAt 9 v12) w11 fun v13=>
 CALL prog R Zaa.id #[x4,v9] w11 fun v14 w15=>
 Sem.run prog (loadAt 9 v12) w15 = .ok v13 w15∧(CALL prog R Za7.id #[x4,v13,v14] w15 fun v16 w17=>
 b19 R C13 x4 x31 w17)) ∧
 (CALL prog R Zaa.id #[x4,v9] (World.drew w7) fun v18 w19=>
 b18_1 R C13 x4 x31 v8 v18 w19)
theorem Zfe (R:EP)(C13:VP):TI prog R p9 (q6 R C13) fun z w=>b18 R C13 (z 4) (z 29) (z 31) w:=appT 1 (Zgy R C13)
abbrev q7 (R:EP)(C13:VP):XP:=QX (fun z w=>b16 R C13 (z 31) w) (r0 R) [(0,(fun z w=>b3 R (z 1) (z 4) w))]
theorem Zih (R:EP)(C13:VP):TI prog R (fstC p8) (q7 R C13) fun z w=>b18 R C13 (z 4) (z 29) (z 31) w:=Zac 1 (Zfe R C13)
theorem Zkq (R:EP)(C13:VP):TI prog R p8 (q5 R C13) fun z w=>b18 R C13 (z 4) (z 29) (z 31) w:=seqT (Zih R C13) (Zex R C13)
def b14 (R:EP)(C13:VP)(x1 x4 x29 x30 x31:Value)(w:World)(_r:Tok R:=tok R)(_C13:Tok C13:=tok C13):Prop :=
 RUN prog R (bins .lss 3 (.tmp 31) (.tmp 30) x31 x30) w fun v1 w2=>
 SPL v1
 (b18 R C13 x4 x29 x31 w2)
 (b3 R x1 x4 w2)
theorem Zdq (R:EP)(C13:VP):TI prog R p7 (q5 R C13) fun z w=>b14 R C13 (z 1) (z 4) (z 29) (z 30) (z 31) w:=appT 1 (Zkq R C13)
def l13 (R:EP)(x1 x4 x29 x30 x31:Value)(w:World)(_r:Tok R:=tok R):Prop :=
 ∃(J:VP) (μ:Value→World→Nat),J x31 w∧∀y31 w0,J y31 w0→b14 R (fun z31 w1=>J z31 w1∧μ z31 w1<μ y31 w0) x1 x4 x29 x30 y31 w0
abbrev q8 (R:EP):XP:=QX (fun z w=>b3 R (z 1) (z 4) w) (r0 R) [(0,(fun z w=>b3 R (z 1) (z 4) w))]
theorem Zq6 (R:EP):TI prog R (blkC p6) (q8 R) fun z w=>l13 R (z 1) (z 4) (z 29) (z 30) (z 31) w:=fun z w h=>by
 unfold l13 at h
 obtain ⟨J,μ,h0,hr⟩:=h
 refine Zcg (fun z' w'=>J (z' 31) w') (fun z' w'=>μ (z' 31) w') h0 fun z' w' hA hI=>Zdq R (fun z31 w1=>J z31 w1∧μ z31 w1<μ (z' 31) w') z' w' ?_
 have h1:=hr (z' 31) w' hI
 rwa [←hA.on 1,←hA.on 4,←hA.on 29,←hA.on 30]at h1
theorem l13_intro (R:EP)(x1 x4 x29 x30 x31:Value)(w:World)(J:VP)(μ:Value→World→Nat)(h0:J x31 w)
   (hr:∀y31 w0,J y31 w0→∀C13:VP,(∀z31 w1,J z31 w1→μ z31 w1<μ y31 w0→C13 z31 w1)→b14 R C13 x1 x4 x29 x30 y31 w0):l13 R x1 x4 x29 x30 x31 w:=by
 unfold l13
 exact ⟨J,μ,h0,fun y31 w0 hJ=>hr y31 w0 hJ _ (fun z31 w1 h1 h2=>⟨h1,h2⟩)⟩
abbrev q9 (R:EP):XP:=QX (fun z w=>b3 R (z 1) (z 4) w) (r0 R) []
theorem Zf7 (R:EP):TI prog R p6 (q9 R) fun z w=>l13 R (z 1) (z 4) (z 29) (z 30) (z 31) w:=Zac 0 (Zq6 R)
def b11 (R:EP)(x1 x4:Value)(w:World)(_r:Tok R:=tok R):Prop :=
 RUN prog R (fieldAt 27 x1 2) w fun v1 w2=>
 RUN prog R (loadAt 24 v1) w2 fun v3 w4=>
 RUN prog R (Builtin.len_ #[24] 3 #[v3]) w4 fun v5 w6=>
 l13 R x1 x4 v3 v5 (Value.int .i64 0) w6
theorem Zdb (R:EP):TI prog R (fstC p1) (q9 R) fun z w=>b11 R (z 1) (z 4) w:=appT 0 (Zf7 R)
theorem Za6 (R:EP):TI prog R p1 (q1 R) fun z w=>b11 R (z 1) (z 4) w:=seqT (Zdb R) (Zbi R)
def b1_1 (R:EP)(v1 v7:Value)(w24:World)(_r:Tok R:=tok R):Prop :=
 RUN prog R (buildSlice 23 1 #[(0,(Value.string ⟨#[59,10]⟩))]) w24 fun v25 w26=>
 CALL prog R Zan.id #[v7,v25] w26 fun v27 w28=>
 b11 R v1 v7 w28
def b1_2 (R:EP)(v1 v7:Value)(w20:World)(_r:Tok R:=tok R):Prop :=
 CALL prog R Zaa.id #[v7,(Value.func (.func Zfb.id) #[] #[])] w20 fun v21 w22=>
 CALL prog R Za7.id #[v7,(Value.string ⟨#[37,116,111,107,101,110]⟩),v21] w22 fun v23 w24=>
 b1_1 R v1 v7 w24
def b1_3 (R:EP)(v1 v7:Value)(w12:World)(_r:Tok R:=tok R):Prop :=
 RUN prog R (fieldAt 27 v1 0) w12 fun v13 w14=>
 RUN prog R (loadAt 22 v13) w14 fun v15 w16=>
 RUN prog R (Builtin.len_ #[22] 3 #[v15]) w16 fun v17 w18=>
 RUN prog R (bins .gtr 3 (.tmp 19) (.const (Value.int .i64 1)) v17 (Value.int .i64 1)) w18 fun v19 w20=>
 SPL v19
 (b1_2 R v1 v7 w20)
 (b11 R v1 v7 w20)
def b1_4 (R:EP)(v1 v5:Value)(w6:World)(_r:Tok R:=tok R):Prop :=
 RUN prog R (extract v5 0) w6 fun v7 w8=>
 RUN prog R (extract v5 1) w8 fun v9 w10=>
 RUN prog R (Op.unary .not v9) w10 fun v11 w12=>
 SPL v11
 (R (.returned (.tuple #[(Value.string ⟨#[]⟩),(Value.int .i64 1)])) w12)
 (b1_3 R v1 v7 w12)
def b1 (R:EP)(x0:Value)(w:World)(_r:Tok R:=tok R):Prop :=
 RUN prog R (box 27 x0) w fun v1 w2=>
 RUN prog R (loadAt 27 v1) w2 fun v3 w4=>
 CALL prog R Zga.id #[v3] w4 fun v5 w6=>
 b1_4 R v1 v5 w6
theorem Zg (R:EP):TI prog R code (q1 R) fun z w=>b1 R (z 0) w:=appT 3 (Za6 R)
def run (R:EP)(a0:Value)(w:World):Prop:=b1 R a0 w
theorem calls (R:EP)(a0:Value)(w:World)(h:run R a0 w):Calls prog id #[a0] w R :=
 Zdl (f:=id) (fn:=f4) (c:=code) (by kernel_rfl) func4 (by kernel_rfl) (by kernel_rfl) (args:=[a0]) (Nat.le_of_ble_eq_true rfl) rfl (Zg R (Zfn [a0]) w h)
theorem enters:Enters prog id:=fun args w=>call4 args w
theorem ct {a0:Value}{w:World}{S:VP}(h:∀R:EP,(∀v w,S v w→R (.returned v) w)→run R a0 w):Ct prog id #[a0] w S :=
 Ct.intro enters fun R hR=>calls R a0 w (h R hR)
attribute [irreducible] l8 l13
attribute [irreducible,go_sem] b5 b10 b9_1 b9_2 b9_3 b9_4 b9_5 b9_6 b9 b6 b3_1 b3 b16 b19 b18_1 b18 b14 b11 b1_1 b1_2 b1_3 b1_4 b1 run
end Zt
namespace Zga
noncomputable def code:Code:=Zm f11
def b1_1 (R:EP)(v1 v6:Value)(w9:World)(_r:Tok R:=tok R):Prop :=
 LD prog (loadAt 27 v1) w9 fun v10=>
 CALL prog R Zd5.id #[v10] w9 fun v11 w12=>
 R (.returned (.tuple #[v6,v11])) w12
def b1_2 (R:EP)(v4:Value)(w14:World)(_r:Tok R:=tok R):Prop :=
 (RUN prog R (box 59 v4) w14 fun v15 w16=>
 R (.returned (.tuple #[v15,(Value.bool true)])) w16) ∧
 (RUN prog R (box 59 v4) w14 fun v17 w18=>
 R (.returned (.tuple #[v17,(Value.bool true)])) w18)
def b1_3 (R:EP)(v1 v3 v4:Value)(w14:World)(_r:Tok R:=tok R):Prop :=
 LD prog (loadAt 27 v1) w14 fun v19=>
 (RUN prog R (box 59 v4) w14 fun v20 w21=>
 Sem.run prog (loadAt 27 v1) w21 = .ok v19 w21∧(CALL prog R Zd5.id #[v19] w21 fun v22 w23=>
 R (.returned (.tuple #[v20,v22])) w23)) ∧
 (CALL prog R Zd5.id #[v19] w14 fun v24 w25=>
 Sem.run prog (loadAt 27 v1) w25 = .ok v3 w25∧(RUN prog R (box 59 v4) w25 fun v26 w27=>
 R (.returned (.tuple #[v26,v24])) w27))
def b1 (R:EP)(x0:Value)(w:World)(_r:Tok R:=tok R):Prop :=
 RUN prog R (box 27 x0) w fun v1 w2=>
 LD prog (loadAt 27 v1) (World.drew w2) fun v3=>
 PUR prog (build 59 #[(1,v3)]) fun v4=>
 LD prog (loadAt 27 v1) (World.drew w2) fun v5=>
 (RUN prog R (box 59 v4) (World.drew w2) fun v6 w7=>
 Sem.run prog (loadAt 27 v1) w7 = .ok v5 w7∧(CALL prog R Ze7.id #[v5] w7 fun v8 w9=>
 SPL v8
 (R (.returned (.tuple #[v6,(Value.bool true)])) w9)
 (b1_1 R v1 v6 w9))) ∧
 (CALL prog R Ze7.id #[v5] (World.drew w2) fun v13 w14=>
 Sem.run prog (loadAt 27 v1) w14 = .ok v3 w14∧(SPL v13
 (b1_2 R v4 w14)
 (b1_3 R v1 v3 v4 w14)))
abbrev r0 (R:EP)(z:Env)(w:World):Prop:=R (.returned (.tuple #[(z 2),(z 3)])) w
abbrev q1 (R:EP):XP:=QX (r0 R) (r0 R) []
theorem Zg (R:EP):TI prog R code (q1 R) fun z w=>b1 R (z 0) w:=ofT
def run (R:EP)(a0:Value)(w:World):Prop:=b1 R a0 w
theorem calls (R:EP)(a0:Value)(w:World)(h:run R a0 w):Calls prog id #[a0] w R :=
 Zdl (f:=id) (fn:=f11) (c:=code) (by kernel_rfl) func11 (by kernel_rfl) (by kernel_rfl) (args:=[a0]) (Nat.le_of_ble_eq_true rfl) rfl (Zg R (Zfn [a0]) w h)
theorem enters:Enters prog id:=fun args w=>call11 args w
theorem ct {a0:Value}{w:World}{S:VP}(h:∀R:EP,(∀v w,S v w→R (.returned v) w)→run R a0 w):Ct prog id #[a0] w S :=
 Ct.intro enters fun R hR=>calls R a0 w (h R hR)
attribute [irreducible,go_sem] b1_1 b1_2 b1_3 b1 run
end Zga
namespace Za7
noncomputable def code:Code:=Zm f12
def b1 (R:EP)(x0 x1 x2:Value)(w:World)(_r:Tok R:=tok R):Prop :=
 NILC x0 fun v1=>
 RUN prog R (fieldAt 59 v1 0) w fun v2 w3=>
 CALL prog R Zam.id #[v2,x1] w3 fun v4 w5=>
 CALL prog R Zbm.id #[x0,x2] w5 fun v6 w7=>
 R (.returned (.tuple #[])) w7
abbrev r0 (R:EP)(z:Env)(w:World):Prop:=R (.returned (.tuple #[])) w
abbrev q1 (R:EP):XP:=QX (r0 R) (r0 R) []
theorem Zg (R:EP):TI prog R code (q1 R) fun z w=>b1 R (z 0) (z 1) (z 2) w:=ofT
def run (R:EP)(a0 a1 a2:Value)(w:World):Prop:=b1 R a0 a1 a2 w
theorem calls (R:EP)(a0 a1 a2:Value)(w:World)(h:run R a0 a1 a2 w):Calls prog id #[a0,a1,a2] w R:=Zlz func12 [a0,a1,a2] (Zg R _ w h)
theorem enters:Enters prog id:=fun args w=>call12 args w
theorem ct {a0 a1 a2:Value}{w:World}{S:VP}(h:∀R:EP,(∀v w,S v w→R (.returned v) w)→run R a0 a1 a2 w):Ct prog id #[a0,a1,a2] w S :=
 Ct.intro enters fun R hR=>calls R a0 a1 a2 w (h R hR)
attribute [irreducible,go_sem] b1 run
end Za7
namespace Zaa
noncomputable def code:Code:=Zm f13
noncomputable abbrev p1:Code:=Zi 2 code
def b3 (R:EP)(x5:Value)(w:World)(_r:Tok R:=tok R):Prop :=
 R (.returned x5) w
abbrev r0 (R:EP)(z:Env)(w:World):Prop:=R (.returned (z 4)) w
abbrev q1 (R:EP):XP:=QX (r0 R) (r0 R) []
theorem Zbi (R:EP):TI prog R (sndC p1) (q1 R) fun z w=>b3 R (z 5) w:=ofT
noncomputable abbrev p2:Code:=Zi 1 (fstC p1)
noncomputable abbrev p3:Code:=Zby (blkC p2)
noncomputable abbrev p4:Code:=Zi 3 p3
def b8 (R:EP)(C6:Value→VP)(x5 x15:Value)(w:World)(_r:Tok R:=tok R)(_C6:Tok C6:=tok C6):Prop :=
 RUN prog R (bins .add 3 (.tmp 15) (.const (Value.int .i64 1)) x15 (Value.int .i64 1)) w fun v1 w2=>
 C6 x5 v1 w2
abbrev q2 (R:EP)(C6:Value→VP):XP:=QX (fun z w=>C6 (z 5) (z 15) w) (r0 R) [(0,(fun z w=>b3 R (z 5) w))]
theorem Zhr (R:EP)(C6:Value→VP):TI prog R p4 (q2 R C6) fun z w=>b8 R C6 (z 5) (z 15) w:=ofT
def b7_1 (R:EP)(C6:Value→VP)(x5 x15:Value)(w15:World)(_r:Tok R:=tok R)(_C6:Tok C6:=tok C6):Prop :=
 RUN prog R (bins .add 3 (.tmp 25) (.const (Value.int .i64 1)) x15 (Value.int .i64 1)) w15 fun v16 w17=>
 RUN prog R (buildSlice 24 1 #[(0,v16)]) w17 fun v18 w19=>
 RUN prog R (Builtin.append_ #[24,24] 24 #[x5,v18]) w19 fun v20 w21=>
 b8 R C6 v20 x15 w21
def b7_2 (R:EP)(C6:Value→VP)(x1 x5 x13 x15:Value)(w2:World)(_r:Tok R:=tok R)(_C6:Tok C6:=tok C6):Prop :=
 RUN prog R (indexAt 22 x13 x15) w2 fun v3 w4=>
 RUN prog R (loadAt 64 v3) w4 fun v5 w6=>
 RUN prog R (alloc 64 true (.tuple #[])) w6 fun v7 w8=>
 RUNU prog R (storeAt 64 v7 v5) w8 fun w9=>
 RUN prog R (fieldAt 64 v7 1) w9 fun v10 w11=>
 RUN prog R (loadAt 3 v10) w11 fun v12 w13=>
 Zl6 prog R x1 [v12] w13 fun v14 w15=>
 SPL v14
 (b7_1 R C6 x5 x15 w15)
 (b8 R C6 x5 x15 w15)
def b7 (R:EP)(C6:Value→VP)(x1 x5 x13 x14 x15:Value)(w:World)(_r:Tok R:=tok R)(_C6:Tok C6:=tok C6):Prop :=
 RUN prog R (bins .lss 3 (.tmp 15) (.tmp 14) x15 x14) w fun v1 w2=>
 SPL v1
 (b7_2 R C6 x1 x5 x13 x15 w2)
 (b3 R x5 w2)
theorem Zch (R:EP)(C6:Value→VP):TI prog R p3 (q2 R C6) fun z w=>b7 R C6 (z 1) (z 5) (z 13) (z 14) (z 15) w:=appT 2 (Zhr R C6)
def l6 (R:EP)(x1 x5 x13 x14 x15:Value)(w:World)(_r:Tok R:=tok R):Prop :=
 ∃(J:Value→VP) (μ:Value→Value→World→Nat),J x5 x15 w∧∀y5 y15 w0,J y5 y15 w0→b7 R (fun z5 z15 w1=>J z5 z15 w1∧μ z5 z15 w1<μ y5 y15 w0) x1 y5 x13 x14 y15 w0
abbrev q3 (R:EP):XP:=QX (fun z w=>b3 R (z 5) w) (r0 R) [(0,(fun z w=>b3 R (z 5) w))]
theorem Zdz (R:EP):TI prog R (blkC p2) (q3 R) fun z w=>l6 R (z 1) (z 5) (z 13) (z 14) (z 15) w:=fun z w h=>by
 unfold l6 at h
 obtain ⟨J,μ,h0,hr⟩:=h
 refine Zcg (fun z' w'=>J (z' 5) (z' 15) w') (fun z' w'=>μ (z' 5) (z' 15) w') h0 fun z' w' hA hI=>Zch R (fun z5 z15 w1=>J z5 z15 w1∧μ z5 z15 w1<μ (z' 5) (z' 15) w') z' w' ?_
 have h1:=hr (z' 5) (z' 15) w' hI
 rwa [←hA.on 1,←hA.on 13,←hA.on 14]at h1
theorem l6_intro (R:EP)(x1 x5 x13 x14 x15:Value)(w:World)(J:Value→VP)(μ:Value→Value→World→Nat)(h0:J x5 x15 w)
   (hr:∀y5 y15 w0,J y5 y15 w0→∀C6:Value→VP,(∀z5 z15 w1,J z5 z15 w1→μ z5 z15 w1<μ y5 y15 w0→C6 z5 z15 w1)→b7 R C6 x1 y5 x13 x14 y15 w0):l6 R x1 x5 x13 x14 x15 w:=by
 unfold l6
 exact ⟨J,μ,h0,fun y5 y15 w0 hJ=>hr y5 y15 w0 hJ _ (fun z5 z15 w1 h1 h2=>⟨h1,h2⟩)⟩
abbrev q4 (R:EP):XP:=QX (fun z w=>b3 R (z 5) w) (r0 R) []
theorem Zda (R:EP):TI prog R p2 (q4 R) fun z w=>l6 R (z 1) (z 5) (z 13) (z 14) (z 15) w:=Zac 0 (Zdz R)
def b4 (R:EP)(x0 x1 x5:Value)(w:World)(_r:Tok R:=tok R):Prop :=
 NILC x0 fun v1=>
 RUN prog R (fieldAt 59 v1 1) w fun v2 w3=>
 RUN prog R (fieldAt 27 v2 0) w3 fun v4 w5=>
 RUN prog R (loadAt 22 v4) w5 fun v6 w7=>
 RUN prog R (sliceAt 22 v6 (some (Value.int .i64 1)) none none) w7 fun v8 w9=>
 RUN prog R (Builtin.len_ #[22] 3 #[v8]) w9 fun v10 w11=>
 l6 R x1 x5 v8 v10 (Value.int .i64 0) w11
theorem Zbs (R:EP):TI prog R (fstC p1) (q4 R) fun z w=>b4 R (z 0) (z 1) (z 5) w:=appT 0 (Zda R)
theorem Za6 (R:EP):TI prog R p1 (q1 R) fun z w=>b4 R (z 0) (z 1) (z 5) w:=seqT (Zbs R) (Zbi R)
def b1 (R:EP)(x0 x1:Value)(w:World)(_r:Tok R:=tok R):Prop :=
 b4 R x0 x1 (Value.slice Option.none 0 0) w
theorem Zg (R:EP):TI prog R code (q1 R) fun z w=>b1 R (z 0) (z 1) w:=appT 1 (Za6 R)
def run (R:EP)(a0 a1:Value)(w:World):Prop:=b1 R a0 a1 w
theorem calls (R:EP)(a0 a1:Value)(w:World)(h:run R a0 a1 w):Calls prog id #[a0,a1] w R:=Zbd func13 [a0,a1] (Zg R _ w h)
theorem enters:Enters prog id:=fun args w=>call13 args w
theorem ct {a0 a1:Value}{w:World}{S:VP}(h:∀R:EP,(∀v w,S v w→R (.returned v) w)→run R a0 a1 w):Ct prog id #[a0,a1] w S :=
 Ct.intro enters fun R hR=>calls R a0 a1 w (h R hR)
attribute [irreducible] l6
attribute [irreducible,go_sem] b3 b8 b7_1 b7_2 b7 b4 b1 run
end Zaa
namespace Zfb
noncomputable def code:Code:=Zm f14
def b1 (R:EP)(w:World)(_r:Tok R:=tok R):Prop :=
 R (.returned (Value.bool true)) w
abbrev r0 (R:EP)(z:Env)(w:World):Prop:=R (.returned (z 2)) w
abbrev q1 (R:EP):XP:=QX (r0 R) (r0 R) []
theorem Zg (R:EP):TI prog R code (q1 R) fun z w=>b1 R w:=ofT
def run (R:EP)(a0:Value)(w:World):Prop:=b1 R w
theorem calls (R:EP)(a0:Value)(w:World)(h:run R a0 w):Calls prog id #[a0] w R:=Zbd func14 [a0] (Zg R _ w h)
theorem enters:Enters prog id:=fun args w=>call14 args w
theorem ct {a0:Value}{w:World}{S:VP}(h:∀R:EP,(∀v w,S v w→R (.returned v) w)→run R a0 w):Ct prog id #[a0] w S :=
 Ct.intro enters fun R hR=>calls R a0 w (h R hR)
attribute [irreducible,go_sem] b1 run
end Zfb
namespace Zan
noncomputable def code:Code:=Zm f15
noncomputable abbrev p1:Code:=Zi 1 code
noncomputable abbrev p2:Code:=Zby (blkC p1)
def b4_1 (R:EP)(C3:VP)(x0 x8 v5:Value)(w11:World)(_r:Tok R:=tok R)(_C3:Tok C3:=tok C3):Prop :=
 NILC x0 fun v12=>
 RUN prog R (fieldAt 59 v12 0) w11 fun v13 w14=>
 CALL prog R Zam.id #[v13,v5] w14 fun v15 w16=>
 RUN prog R (bins .add 3 (.tmp 8) (.const (Value.int .i64 1)) x8 (Value.int .i64 1)) w16 fun v17 w18=>
 C3 v17 w18
def b4_2 (R:EP)(C3:VP)(x0 x6 x8:Value)(w2:World)(_r:Tok R:=tok R)(_C3:Tok C3:=tok C3):Prop :=
 RUN prog R (indexAt 23 x6 x8) w2 fun v3 w4=>
 RUN prog R (loadAt 9 v3) w4 fun v5 w6=>
 NILC x0 fun v7=>
 RUN prog R (fieldAt 59 v7 0) w6 fun v8 w9=>
 CALL prog R Zam.id #[v8,(Value.string ⟨#[32]⟩)] w9 fun v10 w11=>
 b4_1 R C3 x0 x8 v5 w11
def b4 (R:EP)(C3:VP)(x0 x6 x7 x8:Value)(w:World)(_r:Tok R:=tok R)(_C3:Tok C3:=tok C3):Prop :=
 RUN prog R (bins .lss 3 (.tmp 8) (.tmp 7) x8 x7) w fun v1 w2=>
 SPL v1
 (b4_2 R C3 x0 x6 x8 w2)
 (R (.returned (.tuple #[])) w2)
abbrev r0 (R:EP)(z:Env)(w:World):Prop:=R (.returned (.tuple #[])) w
abbrev q1 (R:EP)(C3:VP):XP:=QX (fun z w=>C3 (z 8) w) (r0 R) [(0,(r0 R))]
theorem Zbs (R:EP)(C3:VP):TI prog R p2 (q1 R C3) fun z w=>b4 R C3 (z 0) (z 6) (z 7) (z 8) w:=ofT
def l3 (R:EP)(x0 x6 x7 x8:Value)(w:World)(_r:Tok R:=tok R):Prop :=
 ∃(J:VP) (μ:Value→World→Nat),J x8 w∧∀y8 w0,J y8 w0→b4 R (fun z8 w1=>J z8 w1∧μ z8 w1<μ y8 w0) x0 x6 x7 y8 w0
abbrev q2 (R:EP):XP:=QX (r0 R) (r0 R) [(0,(r0 R))]
theorem l3_ok (R:EP):TI prog R (blkC p1) (q2 R) fun z w=>l3 R (z 0) (z 6) (z 7) (z 8) w:=fun z w h=>by
 unfold l3 at h
 obtain ⟨J,μ,h0,hr⟩:=h
 refine Zcg (fun z' w'=>J (z' 8) w') (fun z' w'=>μ (z' 8) w') h0 fun z' w' hA hI=>Zbs R (fun z8 w1=>J z8 w1∧μ z8 w1<μ (z' 8) w') z' w' ?_
 have h1:=hr (z' 8) w' hI
 rwa [←hA.on 0,←hA.on 6,←hA.on 7]at h1
theorem l3_intro (R:EP)(x0 x6 x7 x8:Value)(w:World)(J:VP)(μ:Value→World→Nat)(h0:J x8 w)
   (hr:∀y8 w0,J y8 w0→∀C3:VP,(∀z8 w1,J z8 w1→μ z8 w1<μ y8 w0→C3 z8 w1)→b4 R C3 x0 x6 x7 y8 w0):l3 R x0 x6 x7 x8 w:=by
 unfold l3
 exact ⟨J,μ,h0,fun y8 w0 hJ=>hr y8 w0 hJ _ (fun z8 w1 h1 h2=>⟨h1,h2⟩)⟩
abbrev q3 (R:EP):XP:=QX (r0 R) (r0 R) []
theorem Za6 (R:EP):TI prog R p1 (q3 R) fun z w=>l3 R (z 0) (z 6) (z 7) (z 8) w:=Zac 0 (l3_ok R)
def b1 (R:EP)(x0 x1:Value)(w:World)(_r:Tok R:=tok R):Prop :=
 RUN prog R (Builtin.len_ #[23] 3 #[x1]) w fun v1 w2=>
 l3 R x0 x1 v1 (Value.int .i64 0) w2
theorem Zg (R:EP):TI prog R code (q3 R) fun z w=>b1 R (z 0) (z 1) w:=appT 0 (Za6 R)
def run (R:EP)(a0 a1:Value)(w:World):Prop:=b1 R a0 a1 w
theorem calls (R:EP)(a0 a1:Value)(w:World)(h:run R a0 a1 w):Calls prog id #[a0,a1] w R:=Zlz func15 [a0,a1] (Zg R _ w h)
theorem enters:Enters prog id:=fun args w=>call15 args w
theorem ct {a0 a1:Value}{w:World}{S:VP}(h:∀R:EP,(∀v w,S v w→R (.returned v) w)→run R a0 a1 w):Ct prog id #[a0,a1] w S :=
 Ct.intro enters fun R hR=>calls R a0 a1 w (h R hR)
attribute [irreducible] l3
attribute [irreducible,go_sem] b4_1 b4_2 b4 b1 run
end Zan
namespace Ze2
noncomputable def code:Code:=Zm f16
def b1 (R:EP)(x0 x1:Value)(w:World)(_r:Tok R:=tok R):Prop :=
 RUN prog R (loadAt 3 x1) w fun v1 w2=>
 RUN prog R (bins .add 3 (.tmp 5) (.const (Value.int .i64 1)) v1 (Value.int .i64 1)) w2 fun v3 w4=>
 RUN prog R (bins .eql 3 (.tmp 4) (.tmp 6) x0 v3) w4 fun v5 w6=>
 R (.returned v5) w6
abbrev r0 (R:EP)(z:Env)(w:World):Prop:=R (.returned (z 3)) w
abbrev q1 (R:EP):XP:=QX (r0 R) (r0 R) []
theorem Zg (R:EP):TI prog R code (q1 R) fun z w=>b1 R (z 0) (z 1) w:=ofT
def run (R:EP)(a0 a1:Value)(w:World):Prop:=b1 R a0 a1 w
theorem calls (R:EP)(a0 a1:Value)(w:World)(h:run R a0 a1 w):Calls prog id #[a0,a1] w R:=Zbd func16 [a0,a1] (Zg R _ w h)
theorem enters:Enters prog id:=fun args w=>call16 args w
theorem ct {a0 a1:Value}{w:World}{S:VP}(h:∀R:EP,(∀v w,S v w→R (.returned v) w)→run R a0 a1 w):Ct prog id #[a0,a1] w S :=
 Ct.intro enters fun R hR=>calls R a0 a1 w (h R hR)
attribute [irreducible,go_sem] b1 run
end Ze2
namespace Zca
noncomputable def code:Code:=Zm f17
def b1_1 (R:EP)(x0 x1:Value)(w13:World)(_r:Tok R:=tok R):Prop :=
 NILC x0 fun v14=>
 RUN prog R (fieldAt 59 v14 1) w13 fun v15 w16=>
 RUN prog R (fieldAt 27 v15 0) w16 fun v17 w18=>
 RUN prog R (loadAt 22 v17) w18 fun v19 w20=>
 RUN prog R (indexAt 22 v19 x1) w20 fun v21 w22=>
 RUN prog R (fieldAt 64 v21 0) w22 fun v23 w24=>
 RUN prog R (loadAt 9 v23) w24 fun v25 w26=>
 RUN prog R (bins .add 9 (.const (Value.string ⟨#[39]⟩)) (.tmp 27) (Value.string ⟨#[39]⟩) v25) w26 fun v27 w28=>
 RUN prog R (bins .add 9 (.tmp 28) (.const (Value.string ⟨#[39]⟩)) v27 (Value.string ⟨#[39]⟩)) w28 fun v29 w30=>
 R (.returned v29) w30
def b1_2 (R:EP)(x0 x1 v8:Value)(w45:World)(_r:Tok R:=tok R):Prop :=
 NILC x0 fun v46=>
 RUN prog R (fieldAt 59 v46 1) w45 fun v47 w48=>
 RUN prog R (fieldAt 27 v47 1) w48 fun v49 w50=>
 RUN prog R (loadAt 23 v49) w50 fun v51 w52=>
 RUN prog R (bins .sub 3 (.tmp 47) (.tmp 48) x1 v8) w52 fun v53 w54=>
 RUN prog R (indexAt 23 v51 v53) w54 fun v55 w56=>
 RUN prog R (loadAt 9 v55) w56 fun v57 w58=>
 R (.returned v57) w58
def b1_3 (R:EP)(x0 x1 v8:Value)(w13:World)(_r:Tok R:=tok R):Prop :=
 NILC x0 fun v31=>
 RUN prog R (fieldAt 59 v31 1) w13 fun v32 w33=>
 RUN prog R (fieldAt 27 v32 1) w33 fun v34 w35=>
 RUN prog R (loadAt 23 v34) w35 fun v36 w37=>
 RUN prog R (bins .sub 3 (.tmp 36) (.tmp 37) x1 v8) w37 fun v38 w39=>
 RUN prog R (indexAt 23 v36 v38) w39 fun v40 w41=>
 RUN prog R (loadAt 9 v40) w41 fun v42 w43=>
 RUN prog R (bins .eql 9 (.tmp 40) (.const (Value.string ⟨#[]⟩)) v42 (Value.string ⟨#[]⟩)) w43 fun v44 w45=>
 SPL v44
 (R (.returned (Value.string ⟨#[36,115,116,97,114,116]⟩)) w45)
 (b1_2 R x0 x1 v8 w45)
def b1 (R:EP)(x0 x1:Value)(w:World)(_r:Tok R:=tok R):Prop :=
 NILC x0 fun v1=>
 RUN prog R (fieldAt 59 v1 1) w fun v2 w3=>
 RUN prog R (fieldAt 27 v2 0) w3 fun v4 w5=>
 RUN prog R (loadAt 22 v4) w5 fun v6 w7=>
 RUN prog R (Builtin.len_ #[22] 3 #[v6]) w7 fun v8 w9=>
 RUN prog R (bins .eql 3 (.tmp 13) (.const (Value.int .i64 0)) x1 (Value.int .i64 0)) w9 fun v10 w11=>
 SPL v10
 (R (.returned (Value.string ⟨#[36,101,110,100]⟩)) w11)
 (RUN prog R (bins .lss 3 (.tmp 16) (.tmp 17) x1 v8) w11 fun v12 w13=>
 SPL v12
 (b1_1 R x0 x1 w13)
 (b1_3 R x0 x1 v8 w13))
abbrev r0 (R:EP)(z:Env)(w:World):Prop:=R (.returned (z 4)) w
abbrev q1 (R:EP):XP:=QX (r0 R) (r0 R) []
theorem Zg (R:EP):TI prog R code (q1 R) fun z w=>b1 R (z 0) (z 1) w:=ofT
def run (R:EP)(a0 a1:Value)(w:World):Prop:=b1 R a0 a1 w
theorem calls (R:EP)(a0 a1:Value)(w:World)(h:run R a0 a1 w):Calls prog id #[a0,a1] w R:=Zbd func17 [a0,a1] (Zg R _ w h)
theorem enters:Enters prog id:=fun args w=>call17 args w
theorem ct {a0 a1:Value}{w:World}{S:VP}(h:∀R:EP,(∀v w,S v w→R (.returned v) w)→run R a0 a1 w):Ct prog id #[a0,a1] w S :=
 Ct.intro enters fun R hR=>calls R a0 a1 w (h R hR)
attribute [irreducible,go_sem] b1_1 b1_2 b1_3 b1 run
end Zca
namespace Zaq
noncomputable def code:Code:=Zm f18
noncomputable abbrev p1:Code:=Zi 2 code
def b3_1 (R:EP)(x0:Value)(w8:World)(_r:Tok R:=tok R):Prop :=
 RUN prog R (buildSlice 23 1 #[(0,(Value.string ⟨#[37,110,111,110,101]⟩))]) w8 fun v9 w10=>
 CALL prog R Zan.id #[x0,v9] w10 fun v11 w12=>
 R (.returned (.tuple #[])) w12
def b3_2 (R:EP)(x0 v19:Value)(w20:World)(_r:Tok R:=tok R):Prop :=
 RUN prog R (indexAt 24 v19 (Value.int .i64 0)) w20 fun v21 w22=>
 RUN prog R (loadAt 3 v21) w22 fun v23 w24=>
 RUN prog R (buildSlice 24 1 #[(0,v23)]) w24 fun v25 w26=>
 CALL prog R Zbm.id #[x0,v25] w26 fun v27 w28=>
 R (.returned (.tuple #[])) w28
def b3_3 (R:EP)(x0 x3:Value)(w16:World)(_r:Tok R:=tok R):Prop :=
 RUN prog R (makeFunc (.func Zc9.id) #[] #[x3]) w16 fun v17 w18=>
 CALL prog R Zaa.id #[x0,v17] w18 fun v19 w20=>
 b3_2 R x0 v19 w20
def b3_4 (R:EP)(x0 x3:Value)(w8:World)(_r:Tok R:=tok R):Prop :=
 RUN prog R (buildSlice 23 1 #[(0,(Value.string ⟨#[37,112,114,101,99]⟩))]) w8 fun v13 w14=>
 CALL prog R Zan.id #[x0,v13] w14 fun v15 w16=>
 b3_3 R x0 x3 w16
def b3 (R:EP)(x0 x3 x4:Value)(w:World)(_r:Tok R:=tok R):Prop :=
 RUN prog R (fieldAt 50 x3 2) w fun v1 w2=>
 RUN prog R (loadAt 3 v1) w2 fun v3 w4=>
 RUN prog R (bins .eql 3 (.tmp 33) (.tmp 46) v3 x4) w4 fun v5 w6=>
 SPL v5
 (R (.returned (.tuple #[])) w6)
 (RUN prog R (bins .eql 3 (.tmp 33) (.const (Value.int .i64 0)) v3 (Value.int .i64 0)) w6 fun v7 w8=>
 SPL v7
 (b3_1 R x0 w8)
 (b3_4 R x0 x3 w8))
abbrev r0 (R:EP)(z:Env)(w:World):Prop:=R (.returned (.tuple #[])) w
abbrev q1 (R:EP):XP:=QX (r0 R) (r0 R) []
theorem Zbi (R:EP):TI prog R (sndC p1) (q1 R) fun z w=>b3 R (z 0) (z 3) (z 4) w:=ofT
noncomputable abbrev p2:Code:=Zi 1 (fstC p1)
noncomputable abbrev p3:Code:=Zby (blkC p2)
noncomputable abbrev p4:Code:=Zi 3 p3
def b8 (R:EP)(C6:Value→VP)(x4 x10:Value)(w:World)(_r:Tok R:=tok R)(_C6:Tok C6:=tok C6):Prop :=
 RUN prog R (bins .add 3 (.tmp 10) (.const (Value.int .i64 1)) x10 (Value.int .i64 1)) w fun v1 w2=>
 C6 x4 v1 w2
abbrev q2 (R:EP)(C6:Value→VP):XP:=QX (fun z w=>C6 (z 4) (z 10) w) (r0 R) [(0,(fun z w=>b3 R (z 0) (z 3) (z 4) w))]
theorem Zhr (R:EP)(C6:Value→VP):TI prog R p4 (q2 R C6) fun z w=>b8 R C6 (z 4) (z 10) w:=ofT
def b7_1 (R:EP)(C6:Value→VP)(x0 x10 v5:Value)(w17:World)(_r:Tok R:=tok R)(_C6:Tok C6:=tok C6):Prop :=
 NILC x0 fun v18=>
 RUN prog R (fieldAt 59 v18 1) w17 fun v19 w20=>
 RUN prog R (fieldAt 27 v19 0) w20 fun v21 w22=>
 RUN prog R (loadAt 22 v21) w22 fun v23 w24=>
 RUN prog R (indexAt 22 v23 v5) w24 fun v25 w26=>
 RUN prog R (fieldAt 64 v25 1) w26 fun v27 w28=>
 RUN prog R (loadAt 3 v27) w28 fun v29 w30=>
 b8 R C6 v29 x10 w30
def b7_2 (R:EP)(C6:Value→VP)(x0 x4 x8 x10:Value)(w2:World)(_r:Tok R:=tok R)(_C6:Tok C6:=tok C6):Prop :=
 RUN prog R (indexAt 24 x8 x10) w2 fun v3 w4=>
 RUN prog R (loadAt 3 v3) w4 fun v5 w6=>
 NILC x0 fun v7=>
 RUN prog R (fieldAt 59 v7 1) w6 fun v8 w9=>
 RUN prog R (fieldAt 27 v8 0) w9 fun v10 w11=>
 RUN prog R (loadAt 22 v10) w11 fun v12 w13=>
 RUN prog R (Builtin.len_ #[22] 3 #[v12]) w13 fun v14 w15=>
 RUN prog R (bins .lss 3 (.tmp 14) (.tmp 20) v5 v14) w15 fun v16 w17=>
 SPL v16
 (b7_1 R C6 x0 x10 v5 w17)
 (b8 R C6 x4 x10 w17)
def b7 (R:EP)(C6:Value→VP)(x0 x3 x4 x8 x9 x10:Value)(w:World)(_r:Tok R:=tok R)(_C6:Tok C6:=tok C6):Prop :=
 RUN prog R (bins .lss 3 (.tmp 10) (.tmp 9) x10 x9) w fun v1 w2=>
 SPL v1
 (b7_2 R C6 x0 x4 x8 x10 w2)
 (b3 R x0 x3 x4 w2)
theorem Zch (R:EP)(C6:Value→VP):TI prog R p3 (q2 R C6) fun z w=>b7 R C6 (z 0) (z 3) (z 4) (z 8) (z 9) (z 10) w:=appT 2 (Zhr R C6)
def l6 (R:EP)(x0 x3 x4 x8 x9 x10:Value)(w:World)(_r:Tok R:=tok R):Prop :=
 ∃(J:Value→VP) (μ:Value→Value→World→Nat),J x4 x10 w∧∀y4 y10 w0,J y4 y10 w0→b7 R (fun z4 z10 w1=>J z4 z10 w1∧μ z4 z10 w1<μ y4 y10 w0) x0 x3 y4 x8 x9 y10 w0
abbrev q3 (R:EP):XP:=QX (fun z w=>b3 R (z 0) (z 3) (z 4) w) (r0 R) [(0,(fun z w=>b3 R (z 0) (z 3) (z 4) w))]
theorem Zdz (R:EP):TI prog R (blkC p2) (q3 R) fun z w=>l6 R (z 0) (z 3) (z 4) (z 8) (z 9) (z 10) w:=fun z w h=>by
 unfold l6 at h
 obtain ⟨J,μ,h0,hr⟩:=h
 refine Zcg (fun z' w'=>J (z' 4) (z' 10) w') (fun z' w'=>μ (z' 4) (z' 10) w') h0 fun z' w' hA hI=>Zch R (fun z4 z10 w1=>J z4 z10 w1∧μ z4 z10 w1<μ (z' 4) (z' 10) w') z' w' ?_
 have h1:=hr (z' 4) (z' 10) w' hI
 rwa [←hA.on 0,←hA.on 3,←hA.on 8,←hA.on 9]at h1
theorem l6_intro (R:EP)(x0 x3 x4 x8 x9 x10:Value)(w:World)(J:Value→VP)(μ:Value→Value→World→Nat)(h0:J x4 x10 w)
   (hr:∀y4 y10 w0,J y4 y10 w0→∀C6:Value→VP,(∀z4 z10 w1,J z4 z10 w1→μ z4 z10 w1<μ y4 y10 w0→C6 z4 z10 w1)→b7 R C6 x0 x3 y4 x8 x9 y10 w0):l6 R x0 x3 x4 x8 x9 x10 w:=by
 unfold l6
 exact ⟨J,μ,h0,fun y4 y10 w0 hJ=>hr y4 y10 w0 hJ _ (fun z4 z10 w1 h1 h2=>⟨h1,h2⟩)⟩
abbrev q4 (R:EP):XP:=QX (fun z w=>b3 R (z 0) (z 3) (z 4) w) (r0 R) []
theorem Zda (R:EP):TI prog R p2 (q4 R) fun z w=>l6 R (z 0) (z 3) (z 4) (z 8) (z 9) (z 10) w:=Zac 0 (Zdz R)
def b4 (R:EP)(x0 x3 x4:Value)(w:World)(_r:Tok R:=tok R):Prop :=
 RUN prog R (fieldAt 50 x3 1) w fun v1 w2=>
 RUN prog R (loadAt 24 v1) w2 fun v3 w4=>
 RUN prog R (Builtin.len_ #[24] 3 #[v3]) w4 fun v5 w6=>
 l6 R x0 x3 x4 v3 v5 (Value.int .i64 0) w6
theorem Zbs (R:EP):TI prog R (fstC p1) (q4 R) fun z w=>b4 R (z 0) (z 3) (z 4) w:=appT 0 (Zda R)
theorem Za6 (R:EP):TI prog R p1 (q1 R) fun z w=>b4 R (z 0) (z 3) (z 4) w:=seqT (Zbs R) (Zbi R)
def b1 (R:EP)(x0 x1:Value)(w:World)(_r:Tok R:=tok R):Prop :=
 RUN prog R (box 50 x1) w fun v1 w2=>
 b4 R x0 v1 (Value.int .i64 0) w2
theorem Zg (R:EP):TI prog R code (q1 R) fun z w=>b1 R (z 0) (z 1) w:=appT 1 (Za6 R)
def run (R:EP)(a0 a1:Value)(w:World):Prop:=b1 R a0 a1 w
theorem calls (R:EP)(a0 a1:Value)(w:World)(h:run R a0 a1 w):Calls prog id #[a0,a1] w R:=Zlz func18 [a0,a1] (Zg R _ w h)
theorem enters:Enters prog id:=fun args w=>call18 args w
theorem ct {a0 a1:Value}{w:World}{S:VP}(h:∀R:EP,(∀v w,S v w→R (.returned v) w)→run R a0 a1 w):Ct prog id #[a0,a1] w S :=
 Ct.intro enters fun R hR=>calls R a0 a1 w (h R hR)
attribute [irreducible] l6
attribute [irreducible,go_sem] b3_1 b3_2 b3_3 b3_4 b3 b8 b7_1 b7_2 b7 b4 b1 run
end Zaq
namespace Zcr
noncomputable def code:Code:=Zm f19
def b1 (R:EP)(x0:Value)(w:World)(_r:Tok R:=tok R):Prop :=
 NILC x0 fun v1=>
 RUN prog R (fieldAt 57 v1 1) w fun v2 w3=>
 RUN prog R (loadAt 55 v2) w3 fun v4 w5=>
 RUN prog R (Builtin.len_ #[55] 3 #[v4]) w5 fun v6 w7=>
 R (.returned v6) w7
abbrev r0 (R:EP)(z:Env)(w:World):Prop:=R (.returned (z 2)) w
abbrev q1 (R:EP):XP:=QX (r0 R) (r0 R) []
theorem Zg (R:EP):TI prog R code (q1 R) fun z w=>b1 R (z 0) w:=ofT
def run (R:EP)(a0:Value)(w:World):Prop:=b1 R a0 w
theorem calls (R:EP)(a0:Value)(w:World)(h:run R a0 w):Calls prog id #[a0] w R:=Zbd func19 [a0] (Zg R _ w h)
theorem enters:Enters prog id:=fun args w=>call19 args w
theorem ct {a0:Value}{w:World}{S:VP}(h:∀R:EP,(∀v w,S v w→R (.returned v) w)→run R a0 w):Ct prog id #[a0] w S :=
 Ct.intro enters fun R hR=>calls R a0 w (h R hR)
attribute [irreducible,go_sem] b1 run
end Zcr
namespace Zbj
noncomputable def code:Code:=Zm f20
def b1 (R:EP)(x0:Value)(w:World)(_r:Tok R:=tok R):Prop :=
 NILC x0 fun v1=>
 PUR prog (fieldAt 57 v1 1) fun v2=>
 LD prog (loadAt 55 v2) (World.drew w) fun v3=>
 NILC x0 fun v4=>
 PUR prog (fieldAt 57 v4 1) fun v5=>
 LD prog (loadAt 55 v5) (World.drew w) fun v6=>
 LD prog (Builtin.len_ #[55] 3 #[v6]) (World.drew w) fun v7=>
 RUN prog R (Builtin.unsafeSliceData_ #[55] 92 #[v3]) (World.drew w) fun v8 w9=>
 Sem.run prog (Builtin.len_ #[55] 3 #[v6]) w9 = .ok v7 w9∧(Sem.run prog (loadAt 55 v5) w9 = .ok v6 w9∧(RUN prog R (Builtin.unsafeString_ #[92,3] 9 #[v8,v7]) w9 fun v10 w11=>
 R (.returned v10) w11))
abbrev r0 (R:EP)(z:Env)(w:World):Prop:=R (.returned (z 2)) w
abbrev q1 (R:EP):XP:=QX (r0 R) (r0 R) []
theorem Zg (R:EP):TI prog R code (q1 R) fun z w=>b1 R (z 0) w:=ofT
def run (R:EP)(a0:Value)(w:World):Prop:=b1 R a0 w
theorem calls (R:EP)(a0:Value)(w:World)(h:run R a0 w):Calls prog id #[a0] w R:=Zbd func20 [a0] (Zg R _ w h)
theorem enters:Enters prog id:=fun args w=>call20 args w
theorem ct {a0:Value}{w:World}{S:VP}(h:∀R:EP,(∀v w,S v w→R (.returned v) w)→run R a0 w):Ct prog id #[a0] w S :=
 Ct.intro enters fun R hR=>calls R a0 w (h R hR)
attribute [irreducible,go_sem] b1 run
end Zbj
namespace Zgz
noncomputable def code:Code:=Zm f23
def b1_1 (R:EP)(v21:Value)(w22:World)(_r:Tok R:=tok R):Prop :=
 RUN prog R (extract v21 0) w22 fun v23 w24=>
 RUN prog R (extract v21 1) w24 fun v25 w26=>
 R (.returned (.tuple #[v23,v25])) w26
def b1_2 (R:EP)(v1 v3:Value)(w10:World)(_r:Tok R:=tok R):Prop :=
 RUN prog R (loadAt 27 v1) w10 fun v11 w12=>
 RUN prog R (fieldAt 67 v3 0) w12 fun v13 w14=>
 RUN prog R (loadAt 3 v13) w14 fun v15 w16=>
 RUN prog R (fieldAt 67 v3 1) w16 fun v17 w18=>
 RUN prog R (loadAt 3 v17) w18 fun v19 w20=>
 CALL prog R Zcl.id #[v11,v15,v19] w20 fun v21 w22=>
 b1_1 R v21 w22
def b1 (R:EP)(x0 x1:Value)(w:World)(_r:Tok R:=tok R):Prop :=
 RUN prog R (box 27 x0) w fun v1 w2=>
 RUN prog R (box 67 x1) w2 fun v3 w4=>
 RUN prog R (fieldAt 67 v3 1) w4 fun v5 w6=>
 RUN prog R (loadAt 3 v5) w6 fun v7 w8=>
 RUN prog R (bins .lss 3 (.tmp 7) (.const (Value.int .i64 0)) v7 (Value.int .i64 0)) w8 fun v9 w10=>
 SPL v9
 (R (.returned (.tuple #[(Value.string ⟨#[]⟩),(Value.int .i64 1)])) w10)
 (b1_2 R v1 v3 w10)
abbrev r0 (R:EP)(z:Env)(w:World):Prop:=R (.returned (.tuple #[(z 4),(z 5)])) w
abbrev q1 (R:EP):XP:=QX (r0 R) (r0 R) []
theorem Zg (R:EP):TI prog R code (q1 R) fun z w=>b1 R (z 0) (z 1) w:=ofT
def run (R:EP)(a0 a1:Value)(w:World):Prop:=b1 R a0 a1 w
theorem calls (R:EP)(a0 a1:Value)(w:World)(h:run R a0 a1 w):Calls prog id #[a0,a1] w R :=
 Zdl (f:=id) (fn:=f23) (c:=code) (by kernel_rfl) func23 (by kernel_rfl) (by kernel_rfl) (args:=[a0,a1]) (Nat.le_of_ble_eq_true rfl) rfl (Zg R (Zfn [a0,a1]) w h)
theorem enters:Enters prog id:=fun args w=>call23 args w
theorem ct {a0 a1:Value}{w:World}{S:VP}(h:∀R:EP,(∀v w,S v w→R (.returned v) w)→run R a0 a1 w):Ct prog id #[a0,a1] w S :=
 Ct.intro enters fun R hR=>calls R a0 a1 w (h R hR)
attribute [irreducible,go_sem] b1_1 b1_2 b1 run
end Zgz
namespace Zam
noncomputable def code:Code:=Zm f34
def b1_1 (R:EP)(x0 x1:Value)(w2:World)(_r:Tok R:=tok R):Prop :=
 NILC x0 fun v3=>
 RUN prog R (fieldAt 57 v3 1) w2 fun v4 w5=>
 RUN prog R (loadAt 55 v4) w5 fun v6 w7=>
 RUN prog R (Builtin.append_ #[55,9] 55 #[v6,x1]) w7 fun v8 w9=>
 NILC x0 fun v10=>
 RUN prog R (fieldAt 57 v10 1) w9 fun v11 w12=>
 RUNU prog R (storeAt 55 v11 v8) w12 fun w13=>
 RUN prog R (Builtin.len_ #[9] 3 #[x1]) w13 fun v14 w15=>
 R (.returned (.tuple #[v14,Value.nilIface])) w15
def b1 (R:EP)(x0 x1:Value)(w:World)(_r:Tok R:=tok R):Prop :=
 CALL prog R Zbe.id #[x0] w fun v1 w2=>
 b1_1 R x0 x1 w2
abbrev r0 (R:EP)(z:Env)(w:World):Prop:=R (.returned (.tuple #[(z 4),(z 5)])) w
abbrev q1 (R:EP):XP:=QX (r0 R) (r0 R) []
theorem Zg (R:EP):TI prog R code (q1 R) fun z w=>b1 R (z 0) (z 1) w:=ofT
def run (R:EP)(a0 a1:Value)(w:World):Prop:=b1 R a0 a1 w
theorem calls (R:EP)(a0 a1:Value)(w:World)(h:run R a0 a1 w):Calls prog id #[a0,a1] w R :=
 Zdl (f:=id) (fn:=f34) (c:=code) (by kernel_rfl) func34 (by kernel_rfl) (by kernel_rfl) (args:=[a0,a1]) (Nat.le_of_ble_eq_true rfl) rfl (Zg R (Zfn [a0,a1]) w h)
theorem enters:Enters prog id:=fun args w=>call34 args w
theorem ct {a0 a1:Value}{w:World}{S:VP}(h:∀R:EP,(∀v w,S v w→R (.returned v) w)→run R a0 a1 w):Ct prog id #[a0,a1] w S :=
 Ct.intro enters fun R hR=>calls R a0 a1 w (h R hR)
attribute [irreducible,go_sem] b1_1 b1 run
end Zam
namespace Zbm
noncomputable def code:Code:=Zm f35
noncomputable abbrev p1:Code:=Zi 1 code
noncomputable abbrev p2:Code:=Zby (blkC p1)
def b4_1 (R:EP)(C3:VP)(x0 x8 v7:Value)(w8:World)(_r:Tok R:=tok R)(_C3:Tok C3:=tok C3):Prop :=
 RUN prog R (buildSlice 23 1 #[(0,v7)]) w8 fun v9 w10=>
 CALL prog R Zan.id #[x0,v9] w10 fun v11 w12=>
 RUN prog R (bins .add 3 (.tmp 8) (.const (Value.int .i64 1)) x8 (Value.int .i64 1)) w12 fun v13 w14=>
 C3 v13 w14
def b4_2 (R:EP)(C3:VP)(x0 x6 x8:Value)(w2:World)(_r:Tok R:=tok R)(_C3:Tok C3:=tok C3):Prop :=
 RUN prog R (indexAt 24 x6 x8) w2 fun v3 w4=>
 RUN prog R (loadAt 3 v3) w4 fun v5 w6=>
 CALL prog R Zca.id #[x0,v5] w6 fun v7 w8=>
 b4_1 R C3 x0 x8 v7 w8
def b4 (R:EP)(C3:VP)(x0 x6 x7 x8:Value)(w:World)(_r:Tok R:=tok R)(_C3:Tok C3:=tok C3):Prop :=
 RUN prog R (bins .lss 3 (.tmp 8) (.tmp 7) x8 x7) w fun v1 w2=>
 SPL v1
 (b4_2 R C3 x0 x6 x8 w2)
 (R (.returned (.tuple #[])) w2)
abbrev r0 (R:EP)(z:Env)(w:World):Prop:=R (.returned (.tuple #[])) w
abbrev q1 (R:EP)(C3:VP):XP:=QX (fun z w=>C3 (z 8) w) (r0 R) [(0,(r0 R))]
theorem Zbs (R:EP)(C3:VP):TI prog R p2 (q1 R C3) fun z w=>b4 R C3 (z 0) (z 6) (z 7) (z 8) w:=ofT
def l3 (R:EP)(x0 x6 x7 x8:Value)(w:World)(_r:Tok R:=tok R):Prop :=
 ∃(J:VP) (μ:Value→World→Nat),J x8 w∧∀y8 w0,J y8 w0→b4 R (fun z8 w1=>J z8 w1∧μ z8 w1<μ y8 w0) x0 x6 x7 y8 w0
abbrev q2 (R:EP):XP:=QX (r0 R) (r0 R) [(0,(r0 R))]
theorem l3_ok (R:EP):TI prog R (blkC p1) (q2 R) fun z w=>l3 R (z 0) (z 6) (z 7) (z 8) w:=fun z w h=>by
 unfold l3 at h
 obtain ⟨J,μ,h0,hr⟩:=h
 refine Zcg (fun z' w'=>J (z' 8) w') (fun z' w'=>μ (z' 8) w') h0 fun z' w' hA hI=>Zbs R (fun z8 w1=>J z8 w1∧μ z8 w1<μ (z' 8) w') z' w' ?_
 have h1:=hr (z' 8) w' hI
 rwa [←hA.on 0,←hA.on 6,←hA.on 7]at h1
theorem l3_intro (R:EP)(x0 x6 x7 x8:Value)(w:World)(J:VP)(μ:Value→World→Nat)(h0:J x8 w)
   (hr:∀y8 w0,J y8 w0→∀C3:VP,(∀z8 w1,J z8 w1→μ z8 w1<μ y8 w0→C3 z8 w1)→b4 R C3 x0 x6 x7 y8 w0):l3 R x0 x6 x7 x8 w:=by
 unfold l3
 exact ⟨J,μ,h0,fun y8 w0 hJ=>hr y8 w0 hJ _ (fun z8 w1 h1 h2=>⟨h1,h2⟩)⟩
abbrev q3 (R:EP):XP:=QX (r0 R) (r0 R) []
theorem Za6 (R:EP):TI prog R p1 (q3 R) fun z w=>l3 R (z 0) (z 6) (z 7) (z 8) w:=Zac 0 (l3_ok R)
def b1 (R:EP)(x0 x1:Value)(w:World)(_r:Tok R:=tok R):Prop :=
 RUN prog R (Builtin.len_ #[24] 3 #[x1]) w fun v1 w2=>
 l3 R x0 x1 v1 (Value.int .i64 0) w2
theorem Zg (R:EP):TI prog R code (q3 R) fun z w=>b1 R (z 0) (z 1) w:=appT 0 (Za6 R)
def run (R:EP)(a0 a1:Value)(w:World):Prop:=b1 R a0 a1 w
theorem calls (R:EP)(a0 a1:Value)(w:World)(h:run R a0 a1 w):Calls prog id #[a0,a1] w R:=Zlz func35 [a0,a1] (Zg R _ w h)
theorem enters:Enters prog id:=fun args w=>call35 args w
theorem ct {a0 a1:Value}{w:World}{S:VP}(h:∀R:EP,(∀v w,S v w→R (.returned v) w)→run R a0 a1 w):Ct prog id #[a0,a1] w S :=
 Ct.intro enters fun R hR=>calls R a0 a1 w (h R hR)
attribute [irreducible] l3
attribute [irreducible,go_sem] b4_1 b4_2 b4 b1 run
end Zbm
namespace Zc9
noncomputable def code:Code:=Zm f36
def b1 (R:EP)(x0 x1:Value)(w:World)(_r:Tok R:=tok R):Prop :=
 RUN prog R (fieldAt 50 x1 2) w fun v1 w2=>
 RUN prog R (loadAt 3 v1) w2 fun v3 w4=>
 RUN prog R (bins .eql 3 (.tmp 4) (.tmp 6) x0 v3) w4 fun v5 w6=>
 R (.returned v5) w6
abbrev r0 (R:EP)(z:Env)(w:World):Prop:=R (.returned (z 3)) w
abbrev q1 (R:EP):XP:=QX (r0 R) (r0 R) []
theorem Zg (R:EP):TI prog R code (q1 R) fun z w=>b1 R (z 0) (z 1) w:=ofT
def run (R:EP)(a0 a1:Value)(w:World):Prop:=b1 R a0 a1 w
theorem calls (R:EP)(a0 a1:Value)(w:World)(h:run R a0 a1 w):Calls prog id #[a0,a1] w R:=Zbd func36 [a0,a1] (Zg R _ w h)
theorem enters:Enters prog id:=fun args w=>call36 args w
theorem ct {a0 a1:Value}{w:World}{S:VP}(h:∀R:EP,(∀v w,S v w→R (.returned v) w)→run R a0 a1 w):Ct prog id #[a0,a1] w S :=
 Ct.intro enters fun R hR=>calls R a0 a1 w (h R hR)
attribute [irreducible,go_sem] b1 run
end Zc9
namespace Zcl
noncomputable def code:Code:=Zm f42
noncomputable abbrev p1:Code:=Zi 2 code
noncomputable abbrev p2:Code:=Zi 2 (sndC p1)
noncomputable abbrev p3:Code:=Zi 1 p2
def b5_1 (R:EP)(x8:Value)(w10:World)(_r:Tok R:=tok R):Prop :=
 NILC x8 fun v11=>
 RUN prog R (fieldAt 59 v11 0) w10 fun v12 w13=>
 CALL prog R Zbj.id #[v12] w13 fun v14 w15=>
 R (.returned (.tuple #[v14,(Value.int .i64 0)])) w15
def b5 (R:EP)(x2 x8 x10:Value)(w:World)(_r:Tok R:=tok R):Prop :=
 RUN prog R (fieldAt 50 x10 1) w fun v1 w2=>
 RUN prog R (loadAt 24 v1) w2 fun v3 w4=>
 RUN prog R (Builtin.max_ #[3,3] 3 #[x2,(Value.int .i64 0)]) w4 fun v5 w6=>
 RUN prog R (sliceAt 24 v3 (some v5) none none) w6 fun v7 w8=>
 CALL prog R Zbm.id #[x8,v7] w8 fun v9 w10=>
 b5_1 R x8 w10
abbrev r0 (R:EP)(z:Env)(w:World):Prop:=R (.returned (.tuple #[(z 6),(z 7)])) w
abbrev q1 (R:EP):XP:=QX (r0 R) (r0 R) []
theorem Zeb (R:EP):TI prog R p3 (q1 R) fun z w=>b5 R (z 2) (z 8) (z 10) w:=ofT
def b4_1 (R:EP)(x2 x8 x10:Value)(w2:World)(_r:Tok R:=tok R):Prop :=
 RUN prog R (buildSlice 23 1 #[(0,(Value.string ⟨#[46]⟩))]) w2 fun v3 w4=>
 CALL prog R Zan.id #[x8,v3] w4 fun v5 w6=>
 b5 R x2 x8 x10 w6
def b4 (R:EP)(x2 x8 x10:Value)(w:World)(_r:Tok R:=tok R):Prop :=
 RUN prog R (bins .geq 3 (.tmp 57) (.const (Value.int .i64 0)) x2 (Value.int .i64 0)) w fun v1 w2=>
 SPL v1
 (b4_1 R x2 x8 x10 w2)
 (b5 R x2 x8 x10 w2)
theorem Zbs (R:EP):TI prog R p2 (q1 R) fun z w=>b4 R (z 2) (z 8) (z 10) w:=appT 0 (Zeb R)
def b3_1 (R:EP)(x2 x8 v9 v14 v15 v16:Value)(w17:World)(_r:Tok R:=tok R):Prop :=
 Sem.run prog (loadAt 24 v14) w17 = .ok v15 w17∧(PUR prog (bins .add 9 (.tmp 49) (.const (Value.string ⟨#[32,45,62]⟩)) v16 (Value.string ⟨#[32,45,62]⟩)) fun v18=>
 RUN prog R (Builtin.max_ #[3,3] 3 #[x2,(Value.int .i64 0)]) w17 fun v19 w20=>
 Sem.run prog (loadAt 24 v14) w20 = .ok v15 w20∧(PUR prog (sliceAt 24 v15 none (some v19) none) fun v21=>
 CALL prog R Za7.id #[x8,v18,v21] w20 fun v22 w23=>
 b4 R x2 x8 v9 w23))
def b3_2 (R:EP)(x2 x8 v9 v14 v15 v26 v27:Value)(w28:World)(_r:Tok R:=tok R):Prop :=
 Sem.run prog (loadAt 24 v14) w28 = .ok v15 w28∧(PUR prog (bins .add 9 (.tmp 49) (.const (Value.string ⟨#[32,45,62]⟩)) v27 (Value.string ⟨#[32,45,62]⟩)) fun v29=>
 CALL prog R Za7.id #[x8,v29,v26] w28 fun v30 w31=>
 b4 R x2 x8 v9 w31)
def b3 (R:EP)(x1 x2 x3 x8:Value)(w:World)(_r:Tok R:=tok R):Prop :=
 RUN prog R (fieldAt 27 x3 4) w fun v1 w2=>
 RUN prog R (loadAt 25 v1) w2 fun v3 w4=>
 RUN prog R (indexAt 25 v3 x1) w4 fun v5 w6=>
 RUN prog R (loadAt 50 v5) w6 fun v7 w8=>
 RUN prog R (alloc 50 true (.tuple #[])) w8 fun v9 w10=>
 RUNU prog R (storeAt 50 v9 v7) w10 fun w11=>
 PUR prog (fieldAt 50 v9 0) fun v12=>
 LD prog (loadAt 3 v12) (World.drew w11) fun v13=>
 PUR prog (fieldAt 50 v9 1) fun v14=>
 LD prog (loadAt 24 v14) (World.drew w11) fun v15=>
 (CALL prog R Zca.id #[x8,v13] (World.drew w11) fun v16 w17=>
 b3_1 R x2 x8 v9 v14 v15 v16 w17) ∧
 (RUN prog R (Builtin.max_ #[3,3] 3 #[x2,(Value.int .i64 0)]) (World.drew w11) fun v24 w25=>
 Sem.run prog (loadAt 24 v14) w25 = .ok v15 w25∧(Sem.run prog (loadAt 3 v12) w25 = .ok v13 w25∧(PUR prog (sliceAt 24 v15 none (some v24) none) fun v26=>
 CALL prog R Zca.id #[x8,v13] w25 fun v27 w28=>
 b3_2 R x2 x8 v9 v14 v15 v26 v27 w28)))
theorem Zbi (R:EP):TI prog R (sndC p1) (q1 R) fun z w=>b3 R (z 1) (z 2) (z 3) (z 8) w:=appT 1 (Zbs R)
noncomputable abbrev p4:Code:=Zi 1 (fstC p1)
def b7 (R:EP)(x1 x2 x3 x8 x39:Value)(w:World)(_r:Tok R:=tok R):Prop :=
 SPL x39
 (R (.returned (.tuple #[(Value.string ⟨#[]⟩),(Value.int .i64 1)])) w)
 (b3 R x1 x2 x3 x8 w)
abbrev q2 (R:EP):XP:=QX (fun z w=>b3 R (z 1) (z 2) (z 3) (z 8) w) (r0 R) []
theorem Zch (R:EP):TI prog R p4 (q2 R) fun z w=>b7 R (z 1) (z 2) (z 3) (z 8) (z 39) w:=ofT
def b6_1 (R:EP)(x1 x2 x3 x8:Value)(w12:World)(_r:Tok R:=tok R):Prop :=
 RUN prog R (fieldAt 27 x3 4) w12 fun v13 w14=>
 RUN prog R (loadAt 25 v13) w14 fun v15 w16=>
 RUN prog R (indexAt 25 v15 x1) w16 fun v17 w18=>
 RUN prog R (fieldAt 50 v17 1) w18 fun v19 w20=>
 RUN prog R (loadAt 24 v19) w20 fun v21 w22=>
 RUN prog R (Builtin.len_ #[24] 3 #[v21]) w22 fun v23 w24=>
 RUN prog R (bins .gtr 3 (.tmp 30) (.tmp 37) x2 v23) w24 fun v25 w26=>
 b7 R x1 x2 x3 x8 v25 w26
def b6_2 (R:EP)(x1 x2 x3 x8:Value)(w4:World)(_r:Tok R:=tok R):Prop :=
 RUN prog R (fieldAt 27 x3 4) w4 fun v5 w6=>
 RUN prog R (loadAt 25 v5) w6 fun v7 w8=>
 RUN prog R (Builtin.len_ #[25] 3 #[v7]) w8 fun v9 w10=>
 RUN prog R (bins .geq 3 (.tmp 23) (.tmp 26) x1 v9) w10 fun v11 w12=>
 SPL v11
 (b7 R x1 x2 x3 x8 (Value.bool true) w12)
 (b6_1 R x1 x2 x3 x8 w12)
def b6 (R:EP)(x1 x2 x3 x8 x9:Value)(w:World)(_r:Tok R:=tok R):Prop :=
 RUN prog R (Op.unary .not x9) w fun v1 w2=>
 SPL v1
 (b7 R x1 x2 x3 x8 (Value.bool true) w2)
 (RUN prog R (bins .lss 3 (.tmp 19) (.const (Value.int .i64 0)) x1 (Value.int .i64 0)) w2 fun v3 w4=>
 SPL v3
 (b7 R x1 x2 x3 x8 (Value.bool true) w4)
 (b6_2 R x1 x2 x3 x8 w4))
theorem Zha (R:EP):TI prog R (fstC p1) (q2 R) fun z w=>b6 R (z 1) (z 2) (z 3) (z 8) (z 9) w:=appT 0 (Zch R)
theorem Za6 (R:EP):TI prog R p1 (q1 R) fun z w=>b6 R (z 1) (z 2) (z 3) (z 8) (z 9) w:=seqT (Zha R) (Zbi R)
def b1_1 (R:EP)(x1 x2 v1 v5:Value)(w6:World)(_r:Tok R:=tok R):Prop :=
 RUN prog R (extract v5 0) w6 fun v7 w8=>
 RUN prog R (extract v5 1) w8 fun v9 w10=>
 b6 R x1 x2 v1 v7 v9 w10
def b1 (R:EP)(x0 x1 x2:Value)(w:World)(_r:Tok R:=tok R):Prop :=
 RUN prog R (box 27 x0) w fun v1 w2=>
 RUN prog R (loadAt 27 v1) w2 fun v3 w4=>
 CALL prog R Zga.id #[v3] w4 fun v5 w6=>
 b1_1 R x1 x2 v1 v5 w6
theorem Zg (R:EP):TI prog R code (q1 R) fun z w=>b1 R (z 0) (z 1) (z 2) w:=appT 1 (Za6 R)
def run (R:EP)(a0 a1 a2:Value)(w:World):Prop:=b1 R a0 a1 a2 w
theorem calls (R:EP)(a0 a1 a2:Value)(w:World)(h:run R a0 a1 a2 w):Calls prog id #[a0,a1,a2] w R :=
 Zdl (f:=id) (fn:=f42) (c:=code) (by kernel_rfl) func42 (by kernel_rfl) (by kernel_rfl) (args:=[a0,a1,a2]) (Nat.le_of_ble_eq_true rfl) rfl (Zg R (Zfn [a0,a1,a2]) w h)
theorem enters:Enters prog id:=fun args w=>call42 args w
theorem ct {a0 a1 a2:Value}{w:World}{S:VP}(h:∀R:EP,(∀v w,S v w→R (.returned v) w)→run R a0 a1 a2 w):Ct prog id #[a0,a1,a2] w S :=
 Ct.intro enters fun R hR=>calls R a0 a1 a2 w (h R hR)
attribute [irreducible,go_sem] b5_1 b5 b4_1 b4 b3_1 b3_2 b3 b7 b6_1 b6_2 b6 b1_1 b1 run
end Zcl
namespace Zbe
noncomputable def code:Code:=Zm f61
def b1_1 (R:EP)(x0 v10:Value)(w11:World)(_r:Tok R:=tok R):Prop :=
 RUN prog R (convert 148 54 v10) w11 fun v12 w13=>
 NILC x0 fun v14=>
 RUN prog R (fieldAt 57 v14 0) w13 fun v15 w16=>
 RUNU prog R (storeAt 54 v15 v12) w16 fun w17=>
 R (.returned (.tuple #[])) w17
def b1_2 (R:EP)(x0:Value)(w7:World)(_r:Tok R:=tok R):Prop :=
 RUN prog R (convert 54 148 x0) w7 fun v8 w9=>
 CALL prog R Zfh.id #[v8] w9 fun v10 w11=>
 b1_1 R x0 v10 w11
def b1_3 (R:EP)(x0:Value)(w7:World)(_r:Tok R:=tok R):Prop :=
 NILC x0 fun v18=>
 RUN prog R (fieldAt 57 v18 0) w7 fun v19 w20=>
 RUN prog R (loadAt 54 v19) w20 fun v21 w22=>
 RUN prog R (bins .neq 54 (.tmp 17) (.tmp 18) v21 x0) w22 fun v23 w24=>
 SPL v23
 (False)
 (R (.returned (.tuple #[])) w24)
def b1 (R:EP)(x0:Value)(w:World)(_r:Tok R:=tok R):Prop :=
 NILC x0 fun v1=>
 RUN prog R (fieldAt 57 v1 0) w fun v2 w3=>
 RUN prog R (loadAt 54 v2) w3 fun v4 w5=>
 RUN prog R (bins .eql 54 (.tmp 5) (.const (Value.pointer Option.none)) v4 (Value.pointer Option.none)) w5 fun v6 w7=>
 SPL v6
 (b1_2 R x0 w7)
 (b1_3 R x0 w7)
abbrev r0 (R:EP)(z:Env)(w:World):Prop:=R (.returned (.tuple #[])) w
abbrev q1 (R:EP):XP:=QX (r0 R) (r0 R) []
theorem Zg (R:EP):TI prog R code (q1 R) fun z w=>b1 R (z 0) w:=ofT
def run (R:EP)(a0:Value)(w:World):Prop:=b1 R a0 w
theorem calls (R:EP)(a0:Value)(w:World)(h:run R a0 w):Calls prog id #[a0] w R:=Zlz func61 [a0] (Zg R _ w h)
theorem enters:Enters prog id:=fun args w=>call61 args w
theorem ct {a0:Value}{w:World}{S:VP}(h:∀R:EP,(∀v w,S v w→R (.returned v) w)→run R a0 w):Ct prog id #[a0] w S :=
 Ct.intro enters fun R hR=>calls R a0 w (h R hR)
attribute [irreducible,go_sem] b1_1 b1_2 b1_3 b1 run
end Zbe
end Go.Proofs.YtckbgeedlobfaaaGreatDoor
namespace Go.Proofs.YtckbgeedlobfaaaGreatDoor
open Go.Px Tryz Instr
namespace Zy
noncomputable def code:Code:=Zm f3
def b1_1 (R:EP)(v11:Value)(w22:World)(_r:Tok R:=tok R):Prop :=
 RUN prog R (bins .eql 28 (.tmp 21) (.const (Value.int .i64 11)) v11 (Value.int .i64 11)) w22 fun v23 w24=>
 SPL v23
 (CALL prog R Zdu.id #[] w24 fun v25 w26=>
 R (.returned v25) w26)
 (R (.returned (Value.bool false)) w24)
def b1_2 (R:EP)(v1 v42:Value)(w63:World)(_r:Tok R:=tok R):Prop :=
 RUN prog R (loadAt 27 v42) w63 fun v64 w65=>
 RUN prog R (loadAt 27 v1) w65 fun v66 w67=>
 CALL prog R Zcp.id #[v64,v66] w67 fun v68 w69=>
 SPL v68
 (CALL prog R Zdu.id #[] w69 fun v70 w71=>
 R (.returned v70) w71)
 (R (.returned (Value.bool false)) w69)
def b1_3 (R:EP)(v1 v42 v44:Value)(w57:World)(_r:Tok R:=tok R):Prop :=
 RUN prog R (fieldAt 36 v44 0) w57 fun v58 w59=>
 RUN prog R (loadAt 28 v58) w59 fun v60 w61=>
 RUN prog R (bins .eql 28 (.tmp 46) (.const (Value.int .i64 0)) v60 (Value.int .i64 0)) w61 fun v62 w63=>
 SPL v62
 (b1_2 R v1 v42 w63)
 (R (.returned (Value.bool false)) w63)
def b1_4 (R:EP)(v1 v29 v42 v44:Value)(w53:World)(_r:Tok R:=tok R):Prop :=
 RUN prog R (Builtin.len_ #[34] 3 #[v29]) w53 fun v54 w55=>
 RUN prog R (bins .gtr 3 (.tmp 41) (.const (Value.int .i64 0)) v54 (Value.int .i64 0)) w55 fun v56 w57=>
 SPL v56
 (b1_3 R v1 v42 v44 w57)
 (R (.returned (Value.bool false)) w57)
def b1_5 (R:EP)(v1 v29 v33 v36:Value)(w37:World)(_r:Tok R:=tok R):Prop :=
 RUN prog R (extract v36 0) w37 fun v38 w39=>
 RUN prog R (extract v36 1) w39 fun v40 w41=>
 RUN prog R (alloc 27 true (.tuple #[])) w41 fun v42 w43=>
 RUN prog R (alloc 36 true (.tuple #[])) w43 fun v44 w45=>
 RUNU prog R (storeAt 27 v42 v38) w45 fun w46=>
 RUNU prog R (storeAt 36 v44 v40) w46 fun w47=>
 RUN prog R (fieldAt 36 v33 0) w47 fun v48 w49=>
 RUN prog R (loadAt 28 v48) w49 fun v50 w51=>
 RUN prog R (bins .eql 28 (.tmp 37) (.const (Value.int .i64 0)) v50 (Value.int .i64 0)) w51 fun v52 w53=>
 SPL v52
 (b1_4 R v1 v29 v42 v44 w53)
 (R (.returned (Value.bool false)) w53)
def b1_6 (R:EP)(v1 v9 v27:Value)(w28:World)(_r:Tok R:=tok R):Prop :=
 RUN prog R (extract v27 0) w28 fun v29 w30=>
 RUN prog R (extract v27 1) w30 fun v31 w32=>
 RUN prog R (alloc 36 true (.tuple #[])) w32 fun v33 w34=>
 RUNU prog R (storeAt 36 v33 v31) w34 fun w35=>
 CALL prog R Zkt.id #[v9] w35 fun v36 w37=>
 b1_5 R v1 v29 v33 v36 w37
def b1_7 (R:EP)(v1 v9 v11:Value)(w18:World)(_r:Tok R:=tok R):Prop :=
 RUN prog R (bins .neq 28 (.tmp 19) (.const (Value.int .i64 0)) v11 (Value.int .i64 0)) w18 fun v21 w22=>
 SPL v21
 (b1_1 R v11 w22)
 (CALL prog R Zeq.id #[v9] w22 fun v27 w28=>
 b1_6 R v1 v9 v27 w28)
def b1_8 (R:EP)(v1 v9 v11 v15:Value)(w16:World)(_r:Tok R:=tok R):Prop :=
 RUN prog R (Op.unary .not v15) w16 fun v17 w18=>
 SPL v17
 (CALL prog R Zdu.id #[] w18 fun v19 w20=>
 R (.returned v19) w20)
 (b1_7 R v1 v9 v11 w18)
def b1_9 (R:EP)(v1 v7:Value)(w8:World)(_r:Tok R:=tok R):Prop :=
 RUN prog R (extract v7 0) w8 fun v9 w10=>
 RUN prog R (extract v7 1) w10 fun v11 w12=>
 RUN prog R (loadAt 27 v1) w12 fun v13 w14=>
 CALL prog R Zej.id #[v13] w14 fun v15 w16=>
 b1_8 R v1 v9 v11 v15 w16
def b1 (R:EP)(x0:Value)(w:World)(_r:Tok R:=tok R):Prop :=
 RUN prog R (box 27 x0) w fun v1 w2=>
 RUN prog R (loadAt 27 v1) w2 fun v3 w4=>
 CALL prog R Zc8.id #[v3] w4 fun v5 w6=>
 CALL prog R Zt.id #[v5] w6 fun v7 w8=>
 b1_9 R v1 v7 w8
abbrev r0 (R:EP)(z:Env)(w:World):Prop:=R (.returned (z 2)) w
abbrev q1 (R:EP):XP:=QX (r0 R) (r0 R) []
theorem Zg (R:EP):TI prog R code (q1 R) fun z w=>b1 R (z 0) w:=ofT
def run (R:EP)(a0:Value)(w:World):Prop:=b1 R a0 w
theorem calls (R:EP)(a0:Value)(w:World)(h:run R a0 w):Calls prog id #[a0] w R:=Zbd func3 [a0] (Zg R _ w h)
theorem enters:Enters prog id:=fun args w=>call3 args w
theorem ct {a0:Value}{w:World}{S:VP}(h:∀R:EP,(∀v w,S v w→R (.returned v) w)→run R a0 w):Ct prog id #[a0] w S :=
 Ct.intro enters fun R hR=>calls R a0 w (h R hR)
attribute [irreducible,go_sem] b1_1 b1_2 b1_3 b1_4 b1_5 b1_6 b1_7 b1_8 b1_9 b1 run
end Zy
namespace Zdu
noncomputable def code:Code:=Zm f7
def b1_1 (R:EP)(v26 v36:Value)(w43:World)(_r:Tok R:=tok R):Prop :=
 RUN prog R (bins .eql 9 (.tmp 33) (.const (Value.string ⟨#[37,116,111,107,101,110,32,39,97,39,32,59,10,37,115,116,97,114,116,32,83,32,59,10,83,32,58,32,83,32,39,97,39,32,59,10,83,32,58,32,59,10]⟩)) v26 (Value.string ⟨#[37,116,111,107,101,110,32,39,97,39,32,59,10,37,115,116,97,114,116,32,83,32,59,10,83,32,58,32,83,32,39,97,39,32,59,10,83,32,58,32,59,10]⟩)) w43 fun v44 w45=>
 SPL v44
 (RUN prog R (bins .eql 9 (.tmp 37) (.const (Value.string ⟨#[83,32,45,62,32,83,32,46,32,39,97,39]⟩)) v36 (Value.string ⟨#[83,32,45,62,32,83,32,46,32,39,97,39]⟩)) w45 fun v46 w47=>
 R (.returned v46) w47)
 (R (.returned (Value.bool false)) w45)
def b1_2 (R:EP)(v26 v28 v34:Value)(w35:World)(_r:Tok R:=tok R):Prop :=
 RUN prog R (extract v34 0) w35 fun v36 w37=>
 RUN prog R (extract v34 1) w37 fun v38 w39=>
 RUN prog R (bins .eql 28 (.tmp 26) (.const (Value.int .i64 0)) v28 (Value.int .i64 0)) w39 fun v40 w41=>
 SPL v40
 (RUN prog R (bins .eql 28 (.tmp 29) (.const (Value.int .i64 0)) v38 (Value.int .i64 0)) w41 fun v42 w43=>
 SPL v42
 (b1_1 R v26 v36 w43)
 (R (.returned (Value.bool false)) w43))
 (R (.returned (Value.bool false)) w41)
def b1_3 (R:EP)(v19 v24:Value)(w25:World)(_r:Tok R:=tok R):Prop :=
 RUN prog R (extract v24 0) w25 fun v26 w27=>
 RUN prog R (extract v24 1) w27 fun v28 w29=>
 RUN prog R (loadAt 27 v19) w29 fun v30 w31=>
 RUN prog R (build 67 #[(1,(Value.int .i64 1))]) w31 fun v32 w33=>
 CALL prog R Zgz.id #[v30,v32] w33 fun v34 w35=>
 b1_2 R v26 v28 v34 w35
def b1 (R:EP)(w:World)(_r:Tok R:=tok R):Prop :=
 RUN prog R (build 64 #[]) w fun v1 w2=>
 RUN prog R (build 64 #[(0,(Value.string ⟨#[97]⟩))]) w2 fun v3 w4=>
 RUN prog R (buildSlice 22 2 #[(0,v1),(1,v3)]) w4 fun v5 w6=>
 RUN prog R (buildSlice 23 1 #[(0,(Value.string ⟨#[83]⟩))]) w6 fun v7 w8=>
 RUN prog R (buildSlice 24 2 #[(0,(Value.int .i64 2)),(1,(Value.int .i64 1))]) w8 fun v9 w10=>
 RUN prog R (build 50 #[(0,(Value.int .i64 2)),(1,v9)]) w10 fun v11 w12=>
 RUN prog R (build 50 #[(0,(Value.int .i64 2))]) w12 fun v13 w14=>
 RUN prog R (buildSlice 25 2 #[(0,v11),(1,v13)]) w14 fun v15 w16=>
 RUN prog R (build 27 #[(0,v5),(1,v7),(3,(Value.int .i64 2)),(4,v15)]) w16 fun v17 w18=>
 RUN prog R (alloc 27 true (.tuple #[])) w18 fun v19 w20=>
 RUNU prog R (storeAt 27 v19 v17) w20 fun w21=>
 RUN prog R (loadAt 27 v19) w21 fun v22 w23=>
 CALL prog R Zt.id #[v22] w23 fun v24 w25=>
 b1_3 R v19 v24 w25
abbrev r0 (R:EP)(z:Env)(w:World):Prop:=R (.returned (z 0)) w
abbrev q1 (R:EP):XP:=QX (r0 R) (r0 R) []
theorem Zg (R:EP):TI prog R code (q1 R) fun z w=>b1 R w:=ofT
def run (R:EP)(w:World):Prop:=b1 R w
theorem calls (R:EP)(w:World)(h:run R w):Calls prog id #[] w R:=Zbd func7 [] (Zg R _ w h)
theorem enters:Enters prog id:=fun args w=>call7 args w
theorem ct {w:World}{S:VP}(h:∀R:EP,(∀v w,S v w→R (.returned v) w)→run R w):Ct prog id #[] w S :=
 Ct.intro enters fun R hR=>calls R w (h R hR)
attribute [irreducible,go_sem] b1_1 b1_2 b1_3 b1 run
end Zdu
end Go.Proofs.YtckbgeedlobfaaaGreatDoor
