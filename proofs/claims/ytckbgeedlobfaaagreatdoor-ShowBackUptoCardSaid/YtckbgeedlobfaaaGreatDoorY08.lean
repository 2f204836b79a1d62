/-
  Texts of this claim: T02G, T02Lib, T02R.
-/
import Derived.Test.YtckbgeedlobfaaaGreatDoorY04
set_option linter.unusedVariables false
set_option maxRecDepth 100000
namespace Go.Proofs.YtckbgeedlobfaaaGreatDoor
open Go.Px Tryz Instr
namespace Zgh
noncomputable def code:Code:=Zm f28
def b1 (R:EP)(w:World)(_r:Tok R:=tok R):Prop :=
 RUN prog R (build 115 #[]) w fun v1 w2=>
 RUN prog R (box 115 v1) w2 fun v3 w4=>
 R (.returned v3) w4
abbrev r0 (R:EP)(z:Env)(w:World):Prop:=R (.returned (z 0)) w
abbrev q1 (R:EP):XP:=QX (r0 R) (r0 R) []
theorem Zg (R:EP):TI prog R code (q1 R) fun z w=>b1 R w:=ofT
def run (R:EP)(w:World):Prop:=b1 R w
theorem calls (R:EP)(w:World)(h:run R w):Calls prog id #[] w R:=Zbd func28 [] (Zg R _ w h)
theorem enters:Enters prog id:=fun args w=>call28 args w
theorem ct {w:World}{S:VP}(h:∀R:EP,(∀v w,S v w→R (.returned v) w)→run R w):Ct prog id #[] w S :=
 Ct.intro enters fun R hR=>calls R w (h R hR)
attribute [irreducible] b1 run
end Zgh
namespace Zu
noncomputable def code:Code:=Zm f49
noncomputable abbrev p1:Code:=Zi 1 code
def b3 (R:EP)(x0 x1:Value)(w:World)(_r:Tok R:=tok R):Prop :=
 NILC x0 fun v1=>
 RUN prog R (fieldAt 115 v1 0) w fun v2 w3=>
 CALL prog R Zcx.id #[v2,x1] w3 fun v4 w5=>
 RUN prog R (bins .gtr 3 (.tmp 19) (.const (Value.int .i64 0)) v4 (Value.int .i64 0)) w5 fun v6 w7=>
 SPL v6
 (R (.returned (.tuple #[v4,(Value.int .i64 0)])) w7)
 (NILC x0 fun v8=>
 PUR prog (fieldAt 115 v8 0) fun v9=>
 NILC x0 fun v10=>
 PUR prog (fieldAt 115 v10 1) fun v11=>
 PUR prog (fieldAt 112 v11 0) fun v12=>
 CALL prog R Zao.id #[v9] (World.drew w7) fun v13 w14=>
 CALL prog R Zao.id #[v12] w14 fun v15 w16=>
 PUR prog (bins .add 3 (.tmp 25) (.tmp 30) v13 v15) fun v17=>
 PUR prog (bins .geq 3 (.tmp 31) (.const (Value.int .i64 64)) v17 (Value.int .i64 64)) fun v18=>
 SPL v18
 (R (.returned (.tuple #[(Value.int .i64 0),(Value.int .i64 11)])) w16)
 (NILC x0 fun v19=>
 RUN prog R (fieldAt 115 v19 2) w16 fun v20 w21=>
 RUN prog R (loadAt 24 v20) w21 fun v22 w23=>
 RUN prog R (buildSlice 24 1 #[(0,(Value.int .i64 0))]) w23 fun v24 w25=>
 RUN prog R (Builtin.append_ #[24,24] 24 #[v22,v24]) w25 fun v26 w27=>
 NILC x0 fun v28=>
 RUN prog R (fieldAt 115 v28 2) w27 fun v29 w30=>
 RUNU prog R (storeAt 24 v29 v26) w30 fun w31=>
 NILC x0 fun v32=>
 RUN prog R (fieldAt 115 v32 0) w31 fun v33 w34=>
 CALL prog R Zbc.id #[v33,x1] w34 fun v35 w36=>
 R (.returned (.tuple #[v35,(Value.int .i64 0)])) w36))
abbrev r0 (R:EP)(z:Env)(w:World):Prop:=R (.returned (.tuple #[(z 4),(z 5)])) w
abbrev q1 (R:EP):XP:=QX (r0 R) (r0 R) []
theorem Zbi (R:EP):TI prog R (sndC p1) (q1 R) fun z w=>b3 R (z 0) (z 1) w:=ofT
noncomputable abbrev p2:Code:=Zi 1 (fstC p1)
def b5 (R:EP)(x0 x1 x13:Value)(w:World)(_r:Tok R:=tok R):Prop :=
 SPL x13
 (R (.returned (.tuple #[(Value.int .i64 0),(Value.int .i64 1)])) w)
 (b3 R x0 x1 w)
abbrev q2 (R:EP):XP:=QX (fun z w=>b3 R (z 0) (z 1) w) (r0 R) []
theorem Zeb (R:EP):TI prog R p2 (q2 R) fun z w=>b5 R (z 0) (z 1) (z 13) w:=ofT
def b4 (R:EP)(x0 x1:Value)(w:World)(_r:Tok R:=tok R):Prop :=
 RUN prog R (bins .eql 80 (.tmp 7) (.const (Value.pointer Option.none)) x0 (Value.pointer Option.none)) w fun v1 w2=>
 SPL v1
 (b5 R x0 x1 (Value.bool true) w2)
 (CALL prog R Zd7.id #[x1] w2 fun v3 w4=>
 RUN prog R (Op.unary .not v3) w4 fun v5 w6=>
 b5 R x0 x1 v5 w6)
theorem Zbs (R:EP):TI prog R (fstC p1) (q2 R) fun z w=>b4 R (z 0) (z 1) w:=appT 0 (Zeb R)
theorem Za6 (R:EP):TI prog R p1 (q1 R) fun z w=>b4 R (z 0) (z 1) w:=seqT (Zbs R) (Zbi R)
def b1 (R:EP)(x0 x1:Value)(w:World)(_r:Tok R:=tok R):Prop :=
 b4 R x0 x1 w
theorem Zg (R:EP):TI prog R code (q1 R) fun z w=>b1 R (z 0) (z 1) w:=appT 0 (Za6 R)
def run (R:EP)(a0 a1:Value)(w:World):Prop:=b1 R a0 a1 w
theorem calls (R:EP)(a0 a1:Value)(w:World)(h:run R a0 a1 w):Calls prog id #[a0,a1] w R :=
 Zdl (f:=id) (fn:=f49) (c:=code) (by kernel_rfl) func49 (by kernel_rfl) (by kernel_rfl) (args:=[a0,a1]) (Nat.le_of_ble_eq_true rfl) rfl (Zg R (Zfn [a0,a1]) w h)
theorem enters:Enters prog id:=fun args w=>call49 args w
theorem ct {a0 a1:Value}{w:World}{S:VP}(h:∀R:EP,(∀v w,S v w→R (.returned v) w)→run R a0 a1 w):Ct prog id #[a0,a1] w S :=
 Ct.intro enters fun R hR=>calls R a0 a1 w (h R hR)
attribute [irreducible] b3 b5 b4 b1 run
end Zu
namespace Za0
noncomputable def code:Code:=Zm f55
noncomputable abbrev p1:Code:=Zi 1 code
def b3 (R:EP)(x0 x1:Value)(w:World)(_r:Tok R:=tok R):Prop :=
 NILC x0 fun v1=>
 RUN prog R (fieldAt 115 v1 5) w fun v2 w3=>
 RUNU prog R (storeAt 3 v2 x1) w3 fun w4=>
 R (.returned (Value.int .i64 0)) w4
abbrev r0 (R:EP)(z:Env)(w:World):Prop:=R (.returned (z 4)) w
abbrev q1 (R:EP):XP:=QX (r0 R) (r0 R) []
theorem Zbi (R:EP):TI prog R (sndC p1) (q1 R) fun z w=>b3 R (z 0) (z 1) w:=ofT
noncomputable abbrev p2:Code:=Zi 1 (fstC p1)
def b5 (R:EP)(x0 x1 x12:Value)(w:World)(_r:Tok R:=tok R):Prop :=
 SPL x12
 (R (.returned (Value.int .i64 1)) w)
 (b3 R x0 x1 w)
abbrev q2 (R:EP):XP:=QX (fun z w=>b3 R (z 0) (z 1) w) (r0 R) []
theorem Zeb (R:EP):TI prog R p2 (q2 R) fun z w=>b5 R (z 0) (z 1) (z 12) w:=ofT
def b4 (R:EP)(x0 x1:Value)(w:World)(_r:Tok R:=tok R):Prop :=
 RUN prog R (bins .eql 80 (.tmp 5) (.const (Value.pointer Option.none)) x0 (Value.pointer Option.none)) w fun v1 w2=>
 SPL v1
 (b5 R x0 x1 (Value.bool true) w2)
 (CALL prog R Zas.id #[x0,x1] w2 fun v3 w4=>
 RUN prog R (Op.unary .not v3) w4 fun v5 w6=>
 b5 R x0 x1 v5 w6)
theorem Zbs (R:EP):TI prog R (fstC p1) (q2 R) fun z w=>b4 R (z 0) (z 1) w:=appT 0 (Zeb R)
theorem Za6 (R:EP):TI prog R p1 (q1 R) fun z w=>b4 R (z 0) (z 1) w:=seqT (Zbs R) (Zbi R)
def b1 (R:EP)(x0 x1:Value)(w:World)(_r:Tok R:=tok R):Prop :=
 b4 R x0 x1 w
theorem Zg (R:EP):TI prog R code (q1 R) fun z w=>b1 R (z 0) (z 1) w:=appT 0 (Za6 R)
def run (R:EP)(a0 a1:Value)(w:World):Prop:=b1 R a0 a1 w
theorem calls (R:EP)(a0 a1:Value)(w:World)(h:run R a0 a1 w):Calls prog id #[a0,a1] w R:=Zbd func55 [a0,a1] (Zg R _ w h)
theorem enters:Enters prog id:=fun args w=>call55 args w
theorem ct {a0 a1:Value}{w:World}{S:VP}(h:∀R:EP,(∀v w,S v w→R (.returned v) w)→run R a0 a1 w):Ct prog id #[a0,a1] w S :=
 Ct.intro enters fun R hR=>calls R a0 a1 w (h R hR)
attribute [irreducible] b3 b5 b4 b1 run
end Za0
namespace Zad
noncomputable def code:Code:=Zm f51
noncomputable abbrev p1:Code:=Zi 1 code
def b3 (R:EP)(x0 x1:Value)(w:World)(_r:Tok R:=tok R):Prop :=
 NILC x0 fun v1=>
 RUN prog R (fieldAt 115 v1 1) w fun v2 w3=>
 RUN prog R (fieldAt 112 v2 0) w3 fun v4 w5=>
 CALL prog R Zcx.id #[v4,x1] w5 fun v6 w7=>
 RUN prog R (bins .gtr 3 (.tmp 20) (.const (Value.int .i64 0)) v6 (Value.int .i64 0)) w7 fun v8 w9=>
 SPL v8
 (RUN prog R (Op.unary .neg v6) w9 fun v10 w11=>
 R (.returned (.tuple #[v10,(Value.int .i64 0)])) w11)
 (NILC x0 fun v12=>
 PUR prog (fieldAt 115 v12 0) fun v13=>
 NILC x0 fun v14=>
 PUR prog (fieldAt 115 v14 1) fun v15=>
 PUR prog (fieldAt 112 v15 0) fun v16=>
 CALL prog R Zao.id #[v13] (World.drew w9) fun v17 w18=>
 CALL prog R Zao.id #[v16] w18 fun v19 w20=>
 PUR prog (bins .add 3 (.tmp 27) (.tmp 32) v17 v19) fun v21=>
 PUR prog (bins .geq 3 (.tmp 33) (.const (Value.int .i64 64)) v21 (Value.int .i64 64)) fun v22=>
 SPL v22
 (R (.returned (.tuple #[(Value.int .i64 0),(Value.int .i64 11)])) w20)
 (NILC x0 fun v23=>
 RUN prog R (fieldAt 115 v23 1) w20 fun v24 w25=>
 RUN prog R (fieldAt 112 v24 0) w25 fun v26 w27=>
 CALL prog R Zbc.id #[v26,x1] w27 fun v28 w29=>
 RUN prog R (Op.unary .neg v28) w29 fun v30 w31=>
 R (.returned (.tuple #[v30,(Value.int .i64 0)])) w31))
abbrev r0 (R:EP)(z:Env)(w:World):Prop:=R (.returned (.tuple #[(z 4),(z 5)])) w
abbrev q1 (R:EP):XP:=QX (r0 R) (r0 R) []
theorem Zbi (R:EP):TI prog R (sndC p1) (q1 R) fun z w=>b3 R (z 0) (z 1) w:=ofT
noncomputable abbrev p2:Code:=Zi 1 (fstC p1)
def b5 (R:EP)(x0 x1 x13:Value)(w:World)(_r:Tok R:=tok R):Prop :=
 SPL x13
 (R (.returned (.tuple #[(Value.int .i64 0),(Value.int .i64 1)])) w)
 (b3 R x0 x1 w)
abbrev q2 (R:EP):XP:=QX (fun z w=>b3 R (z 0) (z 1) w) (r0 R) []
theorem Zeb (R:EP):TI prog R p2 (q2 R) fun z w=>b5 R (z 0) (z 1) (z 13) w:=ofT
def b4 (R:EP)(x0 x1:Value)(w:World)(_r:Tok R:=tok R):Prop :=
 RUN prog R (bins .eql 80 (.tmp 7) (.const (Value.pointer Option.none)) x0 (Value.pointer Option.none)) w fun v1 w2=>
 SPL v1
 (b5 R x0 x1 (Value.bool true) w2)
 (CALL prog R Za5.id #[x1] w2 fun v3 w4=>
 RUN prog R (Op.unary .not v3) w4 fun v5 w6=>
 b5 R x0 x1 v5 w6)
theorem Zbs (R:EP):TI prog R (fstC p1) (q2 R) fun z w=>b4 R (z 0) (z 1) w:=appT 0 (Zeb R)
theorem Za6 (R:EP):TI prog R p1 (q1 R) fun z w=>b4 R (z 0) (z 1) w:=seqT (Zbs R) (Zbi R)
def b1 (R:EP)(x0 x1:Value)(w:World)(_r:Tok R:=tok R):Prop :=
 b4 R x0 x1 w
theorem Zg (R:EP):TI prog R code (q1 R) fun z w=>b1 R (z 0) (z 1) w:=appT 0 (Za6 R)
def run (R:EP)(a0 a1:Value)(w:World):Prop:=b1 R a0 a1 w
theorem calls (R:EP)(a0 a1:Value)(w:World)(h:run R a0 a1 w):Calls prog id #[a0,a1] w R :=
 Zdl (f:=id) (fn:=f51) (c:=code) (by kernel_rfl) func51 (by kernel_rfl) (by kernel_rfl) (args:=[a0,a1]) (Nat.le_of_ble_eq_true rfl) rfl (Zg R (Zfn [a0,a1]) w h)
theorem enters:Enters prog id:=fun args w=>call51 args w
theorem ct {a0 a1:Value}{w:World}{S:VP}(h:∀R:EP,(∀v w,S v w→R (.returned v) w)→run R a0 a1 w):Ct prog id #[a0,a1] w S :=
 Ct.intro enters fun R hR=>calls R a0 a1 w (h R hR)
attribute [irreducible] b3 b5 b4 b1 run
end Zad
namespace Zs
noncomputable def code:Code:=Zm f53
noncomputable abbrev p1:Code:=Zi 1 code
noncomputable abbrev p2:Code:=Zi 2 (sndC p1)
def b5 (R:EP)(x3 x8:Value)(w:World)(_r:Tok R:=tok R):Prop :=
 LD prog (loadAt 80 x3) (World.drew w) fun v1=>
 LD prog (loadAt 80 x3) (World.drew w) fun v2=>
 NILC v2 fun v3=>
 PUR prog (fieldAt 115 v3 4) fun v4=>
 LD prog (loadAt 113 v4) (World.drew w) fun v5=>
 LD prog (loadAt 130 x8) (World.drew w) fun v6=>
 RUN prog R (buildSlice 113 1 #[(0,v6)]) (World.drew w) fun v7 w8=>
 Sem.run prog (loadAt 113 v4) w8 = .ok v5 w8∧(Sem.run prog (loadAt 80 x3) w8 = .ok v2 w8∧(Sem.run prog (loadAt 80 x3) w8 = .ok v1 w8∧(RUN prog R (Builtin.append_ #[113,113] 113 #[v5,v7]) w8 fun v9 w10=>
 Sem.run prog (loadAt 80 x3) w10 = .ok v1 w10∧(NILC v1 fun v11=>
 PUR prog (fieldAt 115 v11 4) fun v12=>
 RUNU prog R (storeAt 113 v12 v9) w10 fun w13=>
 RUN prog R (loadAt 80 x3) w13 fun v14 w15=>
 NILC v14 fun v16=>
 RUN prog R (fieldAt 115 v16 4) w15 fun v17 w18=>
 RUN prog R (loadAt 113 v17) w18 fun v19 w20=>
 RUN prog R (Builtin.len_ #[113] 3 #[v19]) w20 fun v21 w22=>
 RUN prog R (bins .sub 3 (.tmp 66) (.const (Value.int .i64 1)) v21 (Value.int .i64 1)) w22 fun v23 w24=>
 R (.returned (.tuple #[v23,(Value.int .i64 0)])) w24))))
abbrev r0 (R:EP)(z:Env)(w:World):Prop:=R (.returned (.tuple #[(z 6),(z 7)])) w
abbrev q1 (R:EP):XP:=QX (r0 R) (r0 R) []
theorem Zeb (R:EP):TI prog R (sndC p2) (q1 R) fun z w=>b5 R (z 3) (z 8) w:=ofT
noncomputable abbrev p3:Code:=Zi 1 (fstC p2)
noncomputable abbrev p4:Code:=Zby (blkC p3)
noncomputable abbrev p5:Code:=Zi 3 p4
def b10 (R:EP)(C8:VP)(x36:Value)(w:World)(_r:Tok R:=tok R)(_C8:Tok C8:=tok C8):Prop :=
 RUN prog R (bins .add 3 (.tmp 36) (.const (Value.int .i64 1)) x36 (Value.int .i64 1)) w fun v1 w2=>
 C8 v1 w2
abbrev q2 (R:EP)(C8:VP):XP:=QX (fun z w=>C8 (z 36) w) (r0 R) [(0,(fun z w=>b5 R (z 3) (z 8) w))]
theorem Zef (R:EP)(C8:VP):TI prog R p5 (q2 R C8) fun z w=>b10 R C8 (z 36) w:=ofT
def b9 (R:EP)(C8:VP)(x3 x8 x34 x35 x36:Value)(w:World)(_r:Tok R:=tok R)(_C8:Tok C8:=tok C8):Prop :=
 RUN prog R (bins .lss 3 (.tmp 36) (.tmp 35) x36 x35) w fun v1 w2=>
 SPL v1
 (RUN prog R (indexAt 24 x34 x36) w2 fun v3 w4=>
 RUN prog R (loadAt 3 v3) w4 fun v5 w6=>
 RUN prog R (bins .gtr 3 (.tmp 40) (.const (Value.int .i64 0)) v5 (Value.int .i64 0)) w6 fun v7 w8=>
 SPL v7
 (RUN prog R (loadAt 80 x3) w8 fun v9 w10=>
 NILC v9 fun v11=>
 RUN prog R (fieldAt 115 v11 2) w10 fun v12 w13=>
 RUN prog R (loadAt 24 v12) w13 fun v14 w15=>
 RUN prog R (bins .sub 3 (.tmp 46) (.const (Value.int .i64 1)) v5 (Value.int .i64 1)) w15 fun v16 w17=>
 RUN prog R (indexAt 24 v14 v16) w17 fun v18 w19=>
 RUN prog R (loadAt 3 v18) w19 fun v20 w21=>
 RUN prog R (fieldAt 130 x8 2) w21 fun v22 w23=>
 RUNU prog R (storeAt 3 v22 v20) w23 fun w24=>
 b10 R C8 x36 w24)
 (b10 R C8 x36 w8))
 (b5 R x3 x8 w2)
theorem Zei (R:EP)(C8:VP):TI prog R p4 (q2 R C8) fun z w=>b9 R C8 (z 3) (z 8) (z 34) (z 35) (z 36) w:=appT 2 (Zef R C8)
def l8 (R:EP)(x3 x8 x34 x35 x36:Value)(w:World)(_r:Tok R:=tok R):Prop :=
 ∃(J:VP) (μ:Value→World→Nat),J x36 w∧∀y36 w0,J y36 w0→b9 R (fun z36 w1=>J z36 w1∧μ z36 w1<μ y36 w0) x3 x8 x34 x35 y36 w0
abbrev q3 (R:EP):XP:=QX (fun z w=>b5 R (z 3) (z 8) w) (r0 R) [(0,(fun z w=>b5 R (z 3) (z 8) w))]
theorem Zut (R:EP):TI prog R (blkC p3) (q3 R) fun z w=>l8 R (z 3) (z 8) (z 34) (z 35) (z 36) w:=fun z w h=>by
 unfold l8 at h
 obtain ⟨J,μ,h0,hr⟩:=h
 refine Zcg (fun z' w'=>J (z' 36) w') (fun z' w'=>μ (z' 36) w') h0 fun z' w' hA hI=>Zei R (fun z36 w1=>J z36 w1∧μ z36 w1<μ (z' 36) w') z' w' ?_
 have h1:=hr (z' 36) w' hI
 rwa [←hA.on 3,←hA.on 8,←hA.on 34,←hA.on 35]at h1
theorem l8_intro (R:EP)(x3 x8 x34 x35 x36:Value)(w:World)(J:VP)(μ:Value→World→Nat)(h0:J x36 w)
   (hr:∀y36 w0,J y36 w0→∀C8:VP,(∀z36 w1,J z36 w1→μ z36 w1<μ y36 w0→C8 z36 w1)→b9 R C8 x3 x8 x34 x35 y36 w0):l8 R x3 x8 x34 x35 x36 w:=by
 unfold l8
 exact ⟨J,μ,h0,fun y36 w0 hJ=>hr y36 w0 hJ _ (fun z36 w1 h1 h2=>⟨h1,h2⟩)⟩
abbrev q4 (R:EP):XP:=QX (fun z w=>b5 R (z 3) (z 8) w) (r0 R) []
theorem Zt9 (R:EP):TI prog R p3 (q4 R) fun z w=>l8 R (z 3) (z 8) (z 34) (z 35) (z 36) w:=Zac 0 (Zut R)
def b6 (R:EP)(x2 x3 x8:Value)(w:World)(_r:Tok R:=tok R):Prop :=
 RUN prog R (Builtin.len_ #[24] 3 #[x2]) w fun v1 w2=>
 l8 R x3 x8 x2 v1 (Value.int .i64 0) w2
theorem Zha (R:EP):TI prog R (fstC p2) (q4 R) fun z w=>b6 R (z 2) (z 3) (z 8) w:=appT 0 (Zt9 R)
theorem Zgr (R:EP):TI prog R p2 (q1 R) fun z w=>b6 R (z 2) (z 3) (z 8) w:=seqT (Zha R) (Zeb R)
def b3 (R:EP)(x1 x2 x3:Value)(w:World)(_r:Tok R:=tok R):Prop :=
 RUN prog R (loadAt 80 x3) w fun v1 w2=>
 NILC v1 fun v3=>
 RUN prog R (fieldAt 115 v3 4) w2 fun v4 w5=>
 RUN prog R (loadAt 113 v4) w5 fun v6 w7=>
 RUN prog R (Builtin.len_ #[113] 3 #[v6]) w7 fun v8 w9=>
 RUN prog R (bins .geq 3 (.tmp 28) (.const (Value.int .i64 96)) v8 (Value.int .i64 96)) w9 fun v10 w11=>
 SPL v10
 (R (.returned (.tuple #[(Value.int .i64 0),(Value.int .i64 11)])) w11)
 (CALL prog R Zbg.id #[x2] w11 fun v12 w13=>
 RUN prog R (build 130 #[(0,x1),(1,v12)]) w13 fun v14 w15=>
 RUN prog R (alloc 130 true (.tuple #[])) w15 fun v16 w17=>
 RUNU prog R (storeAt 130 v16 v14) w17 fun w18=>
 b6 R x2 x3 v16 w18)
theorem Zbi (R:EP):TI prog R (sndC p1) (q1 R) fun z w=>b3 R (z 1) (z 2) (z 3) w:=appT 1 (Zgr R)
noncomputable abbrev p6:Code:=Zi 1 (fstC p1)
def b12 (R:EP)(x1 x2 x3 x23:Value)(w:World)(_r:Tok R:=tok R):Prop :=
 SPL x23
 (R (.returned (.tuple #[(Value.int .i64 0),(Value.int .i64 1)])) w)
 (b3 R x1 x2 x3 w)
abbrev q5 (R:EP):XP:=QX (fun z w=>b3 R (z 1) (z 2) (z 3) w) (r0 R) []
theorem Zed (R:EP):TI prog R p6 (q5 R) fun z w=>b12 R (z 1) (z 2) (z 3) (z 23) w:=ofT
def b11 (R:EP)(x1 x2 x3:Value)(w:World)(_r:Tok R:=tok R):Prop :=
 RUN prog R (loadAt 80 x3) w fun v1 w2=>
 RUN prog R (bins .eql 80 (.tmp 11) (.const (Value.pointer Option.none)) v1 (Value.pointer Option.none)) w2 fun v3 w4=>
 SPL v3
 (b12 R x1 x2 x3 (Value.bool true) w4)
 (RUN prog R (loadAt 80 x3) w4 fun v5 w6=>
 CALL prog R Zas.id #[v5,x1] w6 fun v7 w8=>
 RUN prog R (Op.unary .not v7) w8 fun v9 w10=>
 SPL v9
 (b12 R x1 x2 x3 (Value.bool true) w10)
 (RUN prog R (makeFunc (.func Zb6.id) #[] #[x3]) w10 fun v11 w12=>
 CALL prog R Zal.id #[x2,v11] w12 fun v13 w14=>
 b12 R x1 x2 x3 v13 w14))
theorem Zdb (R:EP):TI prog R (fstC p1) (q5 R) fun z w=>b11 R (z 1) (z 2) (z 3) w:=appT 0 (Zed R)
theorem Za6 (R:EP):TI prog R p1 (q1 R) fun z w=>b11 R (z 1) (z 2) (z 3) w:=seqT (Zdb R) (Zbi R)
def b1 (R:EP)(x0 x1 x2:Value)(w:World)(_r:Tok R:=tok R):Prop :=
 RUN prog R (box 80 x0) w fun v1 w2=>
 b11 R x1 x2 v1 w2
theorem Zg (R:EP):TI prog R code (q1 R) fun z w=>b1 R (z 0) (z 1) (z 2) w:=appT 0 (Za6 R)
def run (R:EP)(a0 a1 a2:Value)(w:World):Prop:=b1 R a0 a1 a2 w
theorem calls (R:EP)(a0 a1 a2:Value)(w:World)(h:run R a0 a1 a2 w):Calls prog id #[a0,a1,a2] w R :=
 Zdl (f:=id) (fn:=f53) (c:=code) (by kernel_rfl) func53 (by kernel_rfl) (by kernel_rfl) (args:=[a0,a1,a2]) (Nat.le_of_ble_eq_true rfl) rfl (Zg R (Zfn [a0,a1,a2]) w h)
theorem enters:Enters prog id:=fun args w=>call53 args w
theorem ct {a0 a1 a2:Value}{w:World}{S:VP}(h:∀R:EP,(∀v w,S v w→R (.returned v) w)→run R a0 a1 a2 w):Ct prog id #[a0,a1,a2] w S :=
 Ct.intro enters fun R hR=>calls R a0 a1 a2 w (h R hR)
attribute [irreducible] b5 b10 b9 l8 b6 b3 b12 b11 b1 run
end Zs
namespace Zd7
noncomputable def code:Code:=Zm f78
def b1 (R:EP)(x0:Value)(w:World)(_r:Tok R:=tok R):Prop :=
 RUN prog R (bins .neq 9 (.tmp 3) (.const (Value.string ⟨#[]⟩)) x0 (Value.string ⟨#[]⟩)) w fun v1 w2=>
 SPL v1
 (RUN prog R (Builtin.len_ #[9] 3 #[x0]) w2 fun v3 w4=>
 RUN prog R (bins .leq 3 (.tmp 7) (.const (Value.int .i64 16)) v3 (Value.int .i64 16)) w4 fun v5 w6=>
 SPL v5
 (CALL prog R Zcq.id #[x0,(Value.func (.func Zdi.id) #[] #[])] w6 fun v7 w8=>
 RUN prog R (bins .lss 3 (.tmp 12) (.const (Value.int .i64 0)) v7 (Value.int .i64 0)) w8 fun v9 w10=>
 R (.returned v9) w10)
 (R (.returned (Value.bool false)) w6))
 (R (.returned (Value.bool false)) w2)
abbrev r0 (R:EP)(z:Env)(w:World):Prop:=R (.returned (z 2)) w
abbrev q1 (R:EP):XP:=QX (r0 R) (r0 R) []
theorem Zg (R:EP):TI prog R code (q1 R) fun z w=>b1 R (z 0) w:=ofT
def run (R:EP)(a0:Value)(w:World):Prop:=b1 R a0 w
theorem calls (R:EP)(a0:Value)(w:World)(h:run R a0 w):Calls prog id #[a0] w R:=Zbd func78 [a0] (Zg R _ w h)
theorem enters:Enters prog id:=fun args w=>call78 args w
theorem ct {a0:Value}{w:World}{S:VP}(h:∀R:EP,(∀v w,S v w→R (.returned v) w)→run R a0 w):Ct prog id #[a0] w S :=
 Ct.intro enters fun R hR=>calls R a0 w (h R hR)
attribute [irreducible] b1 run
end Zd7
namespace Zcx
noncomputable def code:Code:=Zm f79
def b1 (R:EP)(x0 x1:Value)(w:World)(_r:Tok R:=tok R):Prop :=
 NILC x0 fun v1=>
 RUN prog R (fieldAt 110 v1 1) w fun v2 w3=>
 RUN prog R (loadAt 98 v2) w3 fun v4 w5=>
 RUN prog R (lookup 98 v4 x1 false) w5 fun v6 w7=>
 R (.returned v6) w7
abbrev r0 (R:EP)(z:Env)(w:World):Prop:=R (.returned (z 4)) w
abbrev q1 (R:EP):XP:=QX (r0 R) (r0 R) []
theorem Zg (R:EP):TI prog R code (q1 R) fun z w=>b1 R (z 0) (z 1) w:=ofT
def run (R:EP)(a0 a1:Value)(w:World):Prop:=b1 R a0 a1 w
theorem calls (R:EP)(a0 a1:Value)(w:World)(h:run R a0 a1 w):Calls prog id #[a0,a1] w R:=Zbd func79 [a0,a1] (Zg R _ w h)
theorem enters:Enters prog id:=fun args w=>call79 args w
theorem ct {a0 a1:Value}{w:World}{S:VP}(h:∀R:EP,(∀v w,S v w→R (.returned v) w)→run R a0 a1 w):Ct prog id #[a0,a1] w S :=
 Ct.intro enters fun R hR=>calls R a0 a1 w (h R hR)
attribute [irreducible] b1 run
end Zcx
namespace Zao
noncomputable def code:Code:=Zm f57
def b1 (R:EP)(x0:Value)(w:World)(_r:Tok R:=tok R):Prop :=
 NILC x0 fun v1=>
 RUN prog R (fieldAt 110 v1 0) w fun v2 w3=>
 RUN prog R (loadAt 23 v2) w3 fun v4 w5=>
 RUN prog R (Builtin.len_ #[23] 3 #[v4]) w5 fun v6 w7=>
 R (.returned v6) w7
abbrev r0 (R:EP)(z:Env)(w:World):Prop:=R (.returned (z 2)) w
abbrev q1 (R:EP):XP:=QX (r0 R) (r0 R) []
theorem Zg (R:EP):TI prog R code (q1 R) fun z w=>b1 R (z 0) w:=ofT
def run (R:EP)(a0:Value)(w:World):Prop:=b1 R a0 w
theorem calls (R:EP)(a0:Value)(w:World)(h:run R a0 w):Calls prog id #[a0] w R:=Zbd func57 [a0] (Zg R _ w h)
theorem enters:Enters prog id:=fun args w=>call57 args w
theorem ct {a0:Value}{w:World}{S:VP}(h:∀R:EP,(∀v w,S v w→R (.returned v) w)→run R a0 w):Ct prog id #[a0] w S :=
 Ct.intro enters fun R hR=>calls R a0 w (h R hR)
attribute [irreducible] b1 run
end Zao
namespace Zbc
noncomputable def code:Code:=Zm f80
noncomputable abbrev p1:Code:=Zi 2 code
def b2 (R:EP)(x0 x1:Value)(w:World)(_r:Tok R:=tok R):Prop :=
 NILC x0 fun v1=>
 PUR prog (fieldAt 110 v1 0) fun v2=>
 LD prog (loadAt 23 v2) (World.drew w) fun v3=>
 CALL prog R Zdy.id #[x1] (World.drew w) fun v4 w5=>
 Sem.run prog (loadAt 23 v2) w5 = .ok v3 w5∧(RUN prog R (buildSlice 23 1 #[(0,v4)]) w5 fun v6 w7=>
 Sem.run prog (loadAt 23 v2) w7 = .ok v3 w7∧(RUN prog R (Builtin.append_ #[23,23] 23 #[v3,v6]) w7 fun v8 w9=>
 NILC x0 fun v10=>
 PUR prog (fieldAt 110 v10 0) fun v11=>
 RUNU prog R (storeAt 23 v11 v8) w9 fun w12=>
 NILC x0 fun v13=>
 PUR prog (fieldAt 110 v13 1) fun v14=>
 LD prog (loadAt 98 v14) (World.drew w12) fun v15=>
 NILC x0 fun v16=>
 PUR prog (fieldAt 110 v16 0) fun v17=>
 LD prog (loadAt 23 v17) (World.drew w12) fun v18=>
 LD prog (Builtin.len_ #[23] 3 #[v18]) (World.drew w12) fun v19=>
 RUNU prog R (mapUpdate 98 v15 x1 v19) (World.drew w12) fun w20=>
 NILC x0 fun v21=>
 RUN prog R (fieldAt 110 v21 0) w20 fun v22 w23=>
 RUN prog R (loadAt 23 v22) w23 fun v24 w25=>
 RUN prog R (Builtin.len_ #[23] 3 #[v24]) w25 fun v26 w27=>
 R (.returned v26) w27))
abbrev r0 (R:EP)(z:Env)(w:World):Prop:=R (.returned (z 4)) w
abbrev q1 (R:EP):XP:=QX (r0 R) (r0 R) []
theorem Zj1 (R:EP):TI prog R p1 (q1 R) fun z w=>b2 R (z 0) (z 1) w:=ofT
def b1 (R:EP)(x0 x1:Value)(w:World)(_r:Tok R:=tok R):Prop :=
 NILC x0 fun v1=>
 RUN prog R (fieldAt 110 v1 1) w fun v2 w3=>
 RUN prog R (loadAt 98 v2) w3 fun v4 w5=>
 RUN prog R (bins .eql 98 (.tmp 8) (.const (Value.map Option.none)) v4 (Value.map Option.none)) w5 fun v6 w7=>
 SPL v6
 (RUN prog R (makeMap 98 none) w7 fun v8 w9=>
 NILC x0 fun v10=>
 RUN prog R (fieldAt 110 v10 1) w9 fun v11 w12=>
 RUNU prog R (storeAt 98 v11 v8) w12 fun w13=>
 b2 R x0 x1 w13)
 (b2 R x0 x1 w7)
theorem Zg (R:EP):TI prog R code (q1 R) fun z w=>b1 R (z 0) (z 1) w:=appT 1 (Zj1 R)
def run (R:EP)(a0 a1:Value)(w:World):Prop:=b1 R a0 a1 w
theorem calls (R:EP)(a0 a1:Value)(w:World)(h:run R a0 a1 w):Calls prog id #[a0,a1] w R:=Zbd func80 [a0,a1] (Zg R _ w h)
theorem enters:Enters prog id:=fun args w=>call80 args w
theorem ct {a0 a1:Value}{w:World}{S:VP}(h:∀R:EP,(∀v w,S v w→R (.returned v) w)→run R a0 a1 w):Ct prog id #[a0,a1] w S :=
 Ct.intro enters fun R hR=>calls R a0 a1 w (h R hR)
attribute [irreducible] b2 b1 run
end Zbc
namespace Zas
noncomputable def code:Code:=Zm f83
def b1 (R:EP)(x0 x1:Value)(w:World)(_r:Tok R:=tok R):Prop :=
 RUN prog R (bins .lss 3 (.tmp 5) (.const (Value.int .i64 0)) x1 (Value.int .i64 0)) w fun v1 w2=>
 SPL v1
 (NILC x0 fun v3=>
 RUN prog R (fieldAt 115 v3 1) w2 fun v4 w5=>
 RUN prog R (fieldAt 112 v4 0) w5 fun v6 w7=>
 CALL prog R Zao.id #[v6] w7 fun v8 w9=>
 RUN prog R (Op.unary .neg v8) w9 fun v10 w11=>
 RUN prog R (bins .geq 3 (.tmp 8) (.tmp 14) x1 v10) w11 fun v12 w13=>
 R (.returned v12) w13)
 (R (.returned (Value.bool false)) w2)
abbrev r0 (R:EP)(z:Env)(w:World):Prop:=R (.returned (z 4)) w
abbrev q1 (R:EP):XP:=QX (r0 R) (r0 R) []
theorem Zg (R:EP):TI prog R code (q1 R) fun z w=>b1 R (z 0) (z 1) w:=ofT
def run (R:EP)(a0 a1:Value)(w:World):Prop:=b1 R a0 a1 w
theorem calls (R:EP)(a0 a1:Value)(w:World)(h:run R a0 a1 w):Calls prog id #[a0,a1] w R:=Zbd func83 [a0,a1] (Zg R _ w h)
theorem enters:Enters prog id:=fun args w=>call83 args w
theorem ct {a0 a1:Value}{w:World}{S:VP}(h:∀R:EP,(∀v w,S v w→R (.returned v) w)→run R a0 a1 w):Ct prog id #[a0,a1] w S :=
 Ct.intro enters fun R hR=>calls R a0 a1 w (h R hR)
attribute [irreducible] b1 run
end Zas
namespace Za5
noncomputable def code:Code:=Zm f82
noncomputable abbrev p1:Code:=Zi 1 code
def b3 (R:EP)(x0:Value)(w:World)(_r:Tok R:=tok R):Prop :=
 RUN prog R (bins .neq 9 (.tmp 38) (.const (Value.string ⟨#[]⟩)) x0 (Value.string ⟨#[]⟩)) w fun v1 w2=>
 SPL v1
 (RUN prog R (Builtin.len_ #[9] 3 #[x0]) w2 fun v3 w4=>
 RUN prog R (bins .leq 3 (.tmp 42) (.const (Value.int .i64 16)) v3 (Value.int .i64 16)) w4 fun v5 w6=>
 R (.returned v5) w6)
 (R (.returned (Value.bool false)) w2)
abbrev r0 (R:EP)(z:Env)(w:World):Prop:=R (.returned (z 2)) w
abbrev q1 (R:EP):XP:=QX (r0 R) (r0 R) []
theorem Zbi (R:EP):TI prog R (sndC p1) (q1 R) fun z w=>b3 R (z 0) w:=ofT
noncomputable abbrev p2:Code:=Zi 1 (fstC p1)
noncomputable abbrev p3:Code:=Zby (blkC p2)
noncomputable abbrev p4:Code:=Zi 2 p3
def b9 (R:EP)(C6:VP)(x7:Value)(w:World)(_r:Tok R:=tok R)(_C6:Tok C6:=tok C6):Prop :=
 RUN prog R (bins .add 3 (.tmp 7) (.const (Value.int .i64 1)) x7 (Value.int .i64 1)) w fun v1 w2=>
 C6 v1 w2
abbrev q2 (R:EP)(C6:VP):XP:=QX (fun z w=>C6 (z 7) w) (r0 R) [(0,(fun z w=>b3 R (z 0) w))]
theorem Zei (R:EP)(C6:VP):TI prog R (sndC p4) (q2 R C6) fun z w=>b9 R C6 (z 7) w:=ofT
noncomputable abbrev p5:Code:=blkC (fstC p4)
noncomputable abbrev p6:Code:=Zi 3 p5
def b12 (R:EP)(C6:VP)(x7 x36:Value)(w:World)(_r:Tok R:=tok R)(_C6:Tok C6:=tok C6):Prop :=
 SPL x36
 (R (.returned (Value.bool false)) w)
 (b9 R C6 x7 w)
abbrev q3 (R:EP)(C6:VP):XP:=QX (fun z w=>b9 R C6 (z 7) w) (r0 R) [(2,(fun z w=>b9 R C6 (z 7) w)),(0,(fun z w=>b3 R (z 0) w))]
theorem Zed (R:EP)(C6:VP):TI prog R p6 (q3 R C6) fun z w=>b12 R C6 (z 7) (z 36) w:=ofT
def b11 (R:EP)(C6:VP)(x0 x7:Value)(w:World)(_r:Tok R:=tok R)(_C6:Tok C6:=tok C6):Prop :=
 RUN prog R (index 9 x0 x7) w fun v1 w2=>
 RUN prog R (bins .neq 5 (.tmp 13) (.const (Value.int .u8 95)) v1 (Value.int .u8 95)) w2 fun v3 w4=>
 SPL v3
 (RUN prog R (bins .or 5 (.tmp 16) (.const (Value.int .u8 32)) v1 (Value.int .u8 32)) w4 fun v5 w6=>
 RUN prog R (bins .lss 5 (.tmp 17) (.const (Value.int .u8 97)) v5 (Value.int .u8 97)) w6 fun v7 w8=>
 SPL v7
 (RUN prog R (bins .eql 3 (.tmp 26) (.const (Value.int .i64 0)) x7 (Value.int .i64 0)) w8 fun v9 w10=>
 SPL v9
 (b12 R C6 x7 (Value.bool true) w10)
 (RUN prog R (bins .lss 5 (.tmp 29) (.const (Value.int .u8 48)) v1 (Value.int .u8 48)) w10 fun v11 w12=>
 SPL v11
 (b12 R C6 x7 (Value.bool true) w12)
 (RUN prog R (bins .gtr 5 (.tmp 33) (.const (Value.int .u8 57)) v1 (Value.int .u8 57)) w12 fun v13 w14=>
 b12 R C6 x7 v13 w14)))
 (RUN prog R (bins .or 5 (.tmp 20) (.const (Value.int .u8 32)) v1 (Value.int .u8 32)) w8 fun v15 w16=>
 RUN prog R (bins .gtr 5 (.tmp 21) (.const (Value.int .u8 122)) v15 (Value.int .u8 122)) w16 fun v17 w18=>
 SPL v17
 (RUN prog R (bins .eql 3 (.tmp 26) (.const (Value.int .i64 0)) x7 (Value.int .i64 0)) w18 fun v19 w20=>
 SPL v19
 (b12 R C6 x7 (Value.bool true) w20)
 (RUN prog R (bins .lss 5 (.tmp 29) (.const (Value.int .u8 48)) v1 (Value.int .u8 48)) w20 fun v21 w22=>
 SPL v21
 (b12 R C6 x7 (Value.bool true) w22)
 (RUN prog R (bins .gtr 5 (.tmp 33) (.const (Value.int .u8 57)) v1 (Value.int .u8 57)) w22 fun v23 w24=>
 b12 R C6 x7 v23 w24)))
 (b12 R C6 x7 (Value.bool false) w18)))
 (b12 R C6 x7 (Value.bool false) w4)
theorem Zdb (R:EP)(C6:VP):TI prog R p5 (q3 R C6) fun z w=>b11 R C6 (z 0) (z 7) w:=appT 2 (Zed R C6)
abbrev q4 (R:EP)(C6:VP):XP:=QX (fun z w=>b9 R C6 (z 7) w) (r0 R) [(0,(fun z w=>b3 R (z 0) w))]
theorem Zff (R:EP)(C6:VP):TI prog R (fstC p4) (q4 R C6) fun z w=>b11 R C6 (z 0) (z 7) w:=Zac 1 (Zdb R C6)
theorem Zgq (R:EP)(C6:VP):TI prog R p4 (q2 R C6) fun z w=>b11 R C6 (z 0) (z 7) w:=seqT (Zff R C6) (Zei R C6)
def b7 (R:EP)(C6:VP)(x0 x6 x7:Value)(w:World)(_r:Tok R:=tok R)(_C6:Tok C6:=tok C6):Prop :=
 RUN prog R (bins .lss 3 (.tmp 7) (.tmp 6) x7 x6) w fun v1 w2=>
 SPL v1
 (b11 R C6 x0 x7 w2)
 (b3 R x0 w2)
theorem Zch (R:EP)(C6:VP):TI prog R p3 (q2 R C6) fun z w=>b7 R C6 (z 0) (z 6) (z 7) w:=appT 1 (Zgq R C6)
def l6 (R:EP)(x0 x6 x7:Value)(w:World)(_r:Tok R:=tok R):Prop :=
 ∃(J:VP) (μ:Value→World→Nat),J x7 w∧∀y7 w0,J y7 w0→b7 R (fun z7 w1=>J z7 w1∧μ z7 w1<μ y7 w0) x0 x6 y7 w0
abbrev q5 (R:EP):XP:=QX (fun z w=>b3 R (z 0) w) (r0 R) [(0,(fun z w=>b3 R (z 0) w))]
theorem Zdz (R:EP):TI prog R (blkC p2) (q5 R) fun z w=>l6 R (z 0) (z 6) (z 7) w:=fun z w h=>by
 unfold l6 at h
 obtain ⟨J,μ,h0,hr⟩:=h
 refine Zcg (fun z' w'=>J (z' 7) w') (fun z' w'=>μ (z' 7) w') h0 fun z' w' hA hI=>Zch R (fun z7 w1=>J z7 w1∧μ z7 w1<μ (z' 7) w') z' w' ?_
 have h1:=hr (z' 7) w' hI
 rwa [←hA.on 0,←hA.on 6]at h1
theorem l6_intro (R:EP)(x0 x6 x7:Value)(w:World)(J:VP)(μ:Value→World→Nat)(h0:J x7 w)
   (hr:∀y7 w0,J y7 w0→∀C6:VP,(∀z7 w1,J z7 w1→μ z7 w1<μ y7 w0→C6 z7 w1)→b7 R C6 x0 x6 y7 w0):l6 R x0 x6 x7 w:=by
 unfold l6
 exact ⟨J,μ,h0,fun y7 w0 hJ=>hr y7 w0 hJ _ (fun z7 w1 h1 h2=>⟨h1,h2⟩)⟩
abbrev q6 (R:EP):XP:=QX (fun z w=>b3 R (z 0) w) (r0 R) []
theorem Zda (R:EP):TI prog R p2 (q6 R) fun z w=>l6 R (z 0) (z 6) (z 7) w:=Zac 0 (Zdz R)
def b4 (R:EP)(x0:Value)(w:World)(_r:Tok R:=tok R):Prop :=
 RUN prog R (Builtin.len_ #[9] 3 #[x0]) w fun v1 w2=>
 l6 R x0 v1 (Value.int .i64 0) w2
theorem Zbs (R:EP):TI prog R (fstC p1) (q6 R) fun z w=>b4 R (z 0) w:=appT 0 (Zda R)
theorem Za6 (R:EP):TI prog R p1 (q1 R) fun z w=>b4 R (z 0) w:=seqT (Zbs R) (Zbi R)
def b1 (R:EP)(x0:Value)(w:World)(_r:Tok R:=tok R):Prop :=
 b4 R x0 w
theorem Zg (R:EP):TI prog R code (q1 R) fun z w=>b1 R (z 0) w:=appT 0 (Za6 R)
def run (R:EP)(a0:Value)(w:World):Prop:=b1 R a0 w
theorem calls (R:EP)(a0:Value)(w:World)(h:run R a0 w):Calls prog id #[a0] w R:=Zbd func82 [a0] (Zg R _ w h)
theorem enters:Enters prog id:=fun args w=>call82 args w
theorem ct {a0:Value}{w:World}{S:VP}(h:∀R:EP,(∀v w,S v w→R (.returned v) w)→run R a0 w):Ct prog id #[a0] w S :=
 Ct.intro enters fun R hR=>calls R a0 w (h R hR)
attribute [irreducible] b3 b9 b12 b11 b7 l6 b4 b1 run
end Za5
namespace Zb6
noncomputable def code:Code:=Zm f85
def b1 (R:EP)(x0 x1:Value)(w:World)(_r:Tok R:=tok R):Prop :=
 RUN prog R (loadAt 80 x1) w fun v1 w2=>
 CALL prog R Zaw.id #[v1,x0] w2 fun v3 w4=>
 RUN prog R (Op.unary .not v3) w4 fun v5 w6=>
 SPL v5
 (RUN prog R (loadAt 80 x1) w6 fun v7 w8=>
 CALL prog R Zas.id #[v7,x0] w8 fun v9 w10=>
 RUN prog R (Op.unary .not v9) w10 fun v11 w12=>
 R (.returned v11) w12)
 (R (.returned (Value.bool false)) w6)
abbrev r0 (R:EP)(z:Env)(w:World):Prop:=R (.returned (z 3)) w
abbrev q1 (R:EP):XP:=QX (r0 R) (r0 R) []
theorem Zg (R:EP):TI prog R code (q1 R) fun z w=>b1 R (z 0) (z 1) w:=ofT
def run (R:EP)(a0 a1:Value)(w:World):Prop:=b1 R a0 a1 w
theorem calls (R:EP)(a0 a1:Value)(w:World)(h:run R a0 a1 w):Calls prog id #[a0,a1] w R:=Zbd func85 [a0,a1] (Zg R _ w h)
theorem enters:Enters prog id:=fun args w=>call85 args w
theorem ct {a0 a1:Value}{w:World}{S:VP}(h:∀R:EP,(∀v w,S v w→R (.returned v) w)→run R a0 a1 w):Ct prog id #[a0,a1] w S :=
 Ct.intro enters fun R hR=>calls R a0 a1 w (h R hR)
attribute [irreducible] b1 run
end Zb6
namespace Zaw
noncomputable def code:Code:=Zm f81
def b1 (R:EP)(x0 x1:Value)(w:World)(_r:Tok R:=tok R):Prop :=
 RUN prog R (bins .gtr 3 (.tmp 5) (.const (Value.int .i64 0)) x1 (Value.int .i64 0)) w fun v1 w2=>
 SPL v1
 (NILC x0 fun v3=>
 RUN prog R (fieldAt 115 v3 0) w2 fun v4 w5=>
 CALL prog R Zao.id #[v4] w5 fun v6 w7=>
 RUN prog R (bins .leq 3 (.tmp 8) (.tmp 12) x1 v6) w7 fun v8 w9=>
 R (.returned v8) w9)
 (R (.returned (Value.bool false)) w2)
abbrev r0 (R:EP)(z:Env)(w:World):Prop:=R (.returned (z 4)) w
abbrev q1 (R:EP):XP:=QX (r0 R) (r0 R) []
theorem Zg (R:EP):TI prog R code (q1 R) fun z w=>b1 R (z 0) (z 1) w:=ofT
def run (R:EP)(a0 a1:Value)(w:World):Prop:=b1 R a0 a1 w
theorem calls (R:EP)(a0 a1:Value)(w:World)(h:run R a0 a1 w):Calls prog id #[a0,a1] w R:=Zbd func81 [a0,a1] (Zg R _ w h)
theorem enters:Enters prog id:=fun args w=>call81 args w
theorem ct {a0 a1:Value}{w:World}{S:VP}(h:∀R:EP,(∀v w,S v w→R (.returned v) w)→run R a0 a1 w):Ct prog id #[a0,a1] w S :=
 Ct.intro enters fun R hR=>calls R a0 a1 w (h R hR)
attribute [irreducible] b1 run
end Zaw
namespace Zdi
noncomputable def code:Code:=Zm f102
def b1 (R:EP)(x0:Value)(w:World)(_r:Tok R:=tok R):Prop :=
 RUN prog R (bins .lss 21 (.tmp 3) (.const (Value.int .i32 32)) x0 (Value.int .i32 32)) w fun v1 w2=>
 SPL v1
 (R (.returned (Value.bool true)) w2)
 (RUN prog R (bins .gtr 21 (.tmp 6) (.const (Value.int .i32 126)) x0 (Value.int .i32 126)) w2 fun v3 w4=>
 SPL v3
 (R (.returned (Value.bool true)) w4)
 (RUN prog R (bins .eql 21 (.tmp 10) (.const (Value.int .i32 39)) x0 (Value.int .i32 39)) w4 fun v5 w6=>
 R (.returned v5) w6))
abbrev r0 (R:EP)(z:Env)(w:World):Prop:=R (.returned (z 2)) w
abbrev q1 (R:EP):XP:=QX (r0 R) (r0 R) []
theorem Zg (R:EP):TI prog R code (q1 R) fun z w=>b1 R (z 0) w:=ofT
def run (R:EP)(a0:Value)(w:World):Prop:=b1 R a0 w
theorem calls (R:EP)(a0:Value)(w:World)(h:run R a0 w):Calls prog id #[a0] w R:=Zbd func102 [a0] (Zg R _ w h)
theorem enters:Enters prog id:=fun args w=>call102 args w
theorem ct {a0:Value}{w:World}{S:VP}(h:∀R:EP,(∀v w,S v w→R (.returned v) w)→run R a0 w):Ct prog id #[a0] w S :=
 Ct.intro enters fun R hR=>calls R a0 w (h R hR)
attribute [irreducible] b1 run
end Zdi
end Go.Proofs.YtckbgeedlobfaaaGreatDoor
namespace Go.Proofs.YtckbgeedlobfaaaGreatDoor
open Go.Px Tryz Instr
namespace Zcq
noncomputable def code:Code:=Zm f101
def b1 (R:EP)(x0 x1:Value)(w:World)(_r:Tok R:=tok R):Prop :=
 CALL prog R Zbf.id #[x0,x1,(Value.bool true)] w fun v1 w2=>
 R (.returned v1) w2
abbrev r0 (R:EP)(z:Env)(w:World):Prop:=R (.returned (z 4)) w
abbrev q1 (R:EP):XP:=QX (r0 R) (r0 R) []
theorem Zg (R:EP):TI prog R code (q1 R) fun z w=>b1 R (z 0) (z 1) w:=ofT
def run (R:EP)(a0 a1:Value)(w:World):Prop:=b1 R a0 a1 w
theorem calls (R:EP)(a0 a1:Value)(w:World)(h:run R a0 a1 w):Calls prog id #[a0,a1] w R:=Zbd func101 [a0,a1] (Zg R _ w h)
theorem enters:Enters prog id:=fun args w=>call101 args w
theorem ct {a0 a1:Value}{w:World}{S:VP}(h:∀R:EP,(∀v w,S v w→R (.returned v) w)→run R a0 a1 w):Ct prog id #[a0,a1] w S :=
 Ct.intro enters fun R hR=>calls R a0 a1 w (h R hR)
attribute [irreducible] b1 run
end Zcq
namespace Zdy
noncomputable def code:Code:=Zm f103
def b1 (R:EP)(x0:Value)(w:World)(_r:Tok R:=tok R):Prop :=
 CALL prog R Za1.id #[x0] w fun v1 w2=>
 R (.returned v1) w2
abbrev r0 (R:EP)(z:Env)(w:World):Prop:=R (.returned (z 2)) w
abbrev q1 (R:EP):XP:=QX (r0 R) (r0 R) []
theorem Zg (R:EP):TI prog R code (q1 R) fun z w=>b1 R (z 0) w:=ofT
def run (R:EP)(a0:Value)(w:World):Prop:=b1 R a0 w
theorem calls (R:EP)(a0:Value)(w:World)(h:run R a0 w):Calls prog id #[a0] w R:=Zbd func103 [a0] (Zg R _ w h)
theorem enters:Enters prog id:=fun args w=>call103 args w
theorem ct {a0:Value}{w:World}{S:VP}(h:∀R:EP,(∀v w,S v w→R (.returned v) w)→run R a0 w):Ct prog id #[a0] w S :=
 Ct.intro enters fun R hR=>calls R a0 w (h R hR)
attribute [irreducible] b1 run
end Zdy
namespace Zbf
noncomputable def code:Code:=Zm f110
noncomputable abbrev p1:Code:=Zi 1 code
def b3 (R:EP)(w:World)(_r:Tok R:=tok R):Prop :=
 R (.returned (Value.int .i64 (-1))) w
abbrev r0 (R:EP)(z:Env)(w:World):Prop:=R (.returned (z 6)) w
abbrev q1 (R:EP):XP:=QX (r0 R) (r0 R) []
theorem Zbi (R:EP):TI prog R (sndC p1) (q1 R) fun z w=>b3 R w:=ofT
noncomputable abbrev p2:Code:=Zi 1 (fstC p1)
noncomputable abbrev p3:Code:=Zby (blkC p2)
def b7 (R:EP)(C6:World→Prop)(x1 x2 x10:Value)(w:World)(_r:Tok R:=tok R)(_C6:Tok C6:=tok C6):Prop :=
 RUN prog R (next x10 true 0) w fun v1 w2=>
 RUN prog R (extract v1 0) w2 fun v3 w4=>
 SPL v3
 (RUN prog R (extract v1 1) w4 fun v5 w6=>
 RUN prog R (extract v1 2) w6 fun v7 w8=>
 Zl6 prog R x1 [v7] w8 fun v9 w10=>
 RUN prog R (bins .eql 4 (.tmp 17) (.tmp 18) v9 x2) w10 fun v11 w12=>
 SPL v11
 (R (.returned v5) w12)
 (C6  w12))
 (b3 R w4)
abbrev q2 (R:EP)(C6:World→Prop):XP:=QX (fun z w=>C6  w) (r0 R) [(0,(fun z w=>b3 R  w))]
theorem Zch (R:EP)(C6:World→Prop):TI prog R p3 (q2 R C6) fun z w=>b7 R C6 (z 1) (z 2) (z 10) w:=ofT
def l6 (R:EP)(x1 x2 x10:Value)(w:World)(_r:Tok R:=tok R):Prop :=
 ∃(J:World→Prop) (μ:World→Nat),J  w∧∀w0,J  w0→b7 R (fun  w1=>J  w1∧μ  w1<μ  w0) x1 x2 x10 w0
abbrev q3 (R:EP):XP:=QX (fun z w=>b3 R  w) (r0 R) [(0,(fun z w=>b3 R  w))]
theorem Zdz (R:EP):TI prog R (blkC p2) (q3 R) fun z w=>l6 R (z 1) (z 2) (z 10) w:=fun z w h=>by
 unfold l6 at h
 obtain ⟨J,μ,h0,hr⟩:=h
 refine Zcg (fun z' w'=>J  w') (fun z' w'=>μ  w') h0 fun z' w' hA hI=>Zch R (fun  w1=>J  w1∧μ  w1<μ  w') z' w' ?_
 have h1:=hr  w' hI
 rwa [←hA.on 1,←hA.on 2,←hA.on 10]at h1
theorem l6_intro (R:EP)(x1 x2 x10:Value)(w:World)(J:World→Prop)(μ:World→Nat)(h0:J  w)
   (hr:∀w0,J  w0→∀C6:World→Prop,(∀w1,J  w1→μ  w1<μ  w0→C6  w1)→b7 R C6 x1 x2 x10 w0):l6 R x1 x2 x10 w:=by
 unfold l6
 exact ⟨J,μ,h0,fun  w0 hJ=>hr  w0 hJ _ (fun  w1 h1 h2=>⟨h1,h2⟩)⟩
abbrev q4 (R:EP):XP:=QX (fun z w=>b3 R  w) (r0 R) []
theorem Zda (R:EP):TI prog R p2 (q4 R) fun z w=>l6 R (z 1) (z 2) (z 10) w:=Zac 0 (Zdz R)
def b4 (R:EP)(x0 x1 x2:Value)(w:World)(_r:Tok R:=tok R):Prop :=
 RUN prog R (range 9 x0) w fun v1 w2=>
 l6 R x1 x2 v1 w2
theorem Zbs (R:EP):TI prog R (fstC p1) (q4 R) fun z w=>b4 R (z 0) (z 1) (z 2) w:=appT 0 (Zda R)
theorem Za6 (R:EP):TI prog R p1 (q1 R) fun z w=>b4 R (z 0) (z 1) (z 2) w:=seqT (Zbs R) (Zbi R)
def b1 (R:EP)(x0 x1 x2:Value)(w:World)(_r:Tok R:=tok R):Prop :=
 b4 R x0 x1 x2 w
theorem Zg (R:EP):TI prog R code (q1 R) fun z w=>b1 R (z 0) (z 1) (z 2) w:=appT 0 (Za6 R)
def run (R:EP)(a0 a1 a2:Value)(w:World):Prop:=b1 R a0 a1 a2 w
theorem calls (R:EP)(a0 a1 a2:Value)(w:World)(h:run R a0 a1 a2 w):Calls prog id #[a0,a1,a2] w R:=Zbd func110 [a0,a1,a2] (Zg R _ w h)
theorem enters:Enters prog id:=fun args w=>call110 args w
theorem ct {a0 a1 a2:Value}{w:World}{S:VP}(h:∀R:EP,(∀v w,S v w→R (.returned v) w)→run R a0 a1 a2 w):Ct prog id #[a0,a1,a2] w S :=
 Ct.intro enters fun R hR=>calls R a0 a1 a2 w (h R hR)
attribute [irreducible] b3 b7 l6 b4 b1 run
end Zbf
namespace Za1
noncomputable def code:Code:=Zm f111
def b1 (R:EP)(x0:Value)(w:World)(_r:Tok R:=tok R):Prop :=
 RUN prog R (Builtin.len_ #[9] 3 #[x0]) w fun v1 w2=>
 RUN prog R (bins .eql 3 (.tmp 5) (.const (Value.int .i64 0)) v1 (Value.int .i64 0)) w2 fun v3 w4=>
 SPL v3
 (R (.returned (Value.string ⟨#[]⟩)) w4)
 (RUN prog R (Builtin.len_ #[9] 3 #[x0]) w4 fun v5 w6=>
 RUN prog R (makeSlice 55 v5 v5) w6 fun v7 w8=>
 RUN prog R (Builtin.copy_ #[55,9] 3 #[v7,x0]) w8 fun v9 w10=>
 RUN prog R (indexAt 55 v7 (Value.int .i64 0)) w10 fun v11 w12=>
 RUN prog R (Builtin.len_ #[55] 3 #[v7]) w12 fun v13 w14=>
 RUN prog R (Builtin.unsafeString_ #[92,3] 9 #[v11,v13]) w14 fun v15 w16=>
 R (.returned v15) w16)
abbrev r0 (R:EP)(z:Env)(w:World):Prop:=R (.returned (z 2)) w
abbrev q1 (R:EP):XP:=QX (r0 R) (r0 R) []
theorem Zg (R:EP):TI prog R code (q1 R) fun z w=>b1 R (z 0) w:=ofT
def run (R:EP)(a0:Value)(w:World):Prop:=b1 R a0 w
theorem calls (R:EP)(a0:Value)(w:World)(h:run R a0 w):Calls prog id #[a0] w R:=Zbd func111 [a0] (Zg R _ w h)
theorem enters:Enters prog id:=fun args w=>call111 args w
theorem ct {a0:Value}{w:World}{S:VP}(h:∀R:EP,(∀v w,S v w→R (.returned v) w)→run R a0 w):Ct prog id #[a0] w S :=
 Ct.intro enters fun R hR=>calls R a0 w (h R hR)
attribute [irreducible] b1 run
end Za1
namespace Zal
noncomputable def code:Code:=Zm f84
def b1 (R:EP)(x0 x1:Value)(w:World)(_r:Tok R:=tok R):Prop :=
 CALL prog R Zab.id #[x0,x1] w fun v1 w2=>
 RUN prog R (bins .geq 3 (.tmp 7) (.const (Value.int .i64 0)) v1 (Value.int .i64 0)) w2 fun v3 w4=>
 R (.returned v3) w4
abbrev r0 (R:EP)(z:Env)(w:World):Prop:=R (.returned (z 4)) w
abbrev q1 (R:EP):XP:=QX (r0 R) (r0 R) []
theorem Zg (R:EP):TI prog R code (q1 R) fun z w=>b1 R (z 0) (z 1) w:=ofT
def run (R:EP)(a0 a1:Value)(w:World):Prop:=b1 R a0 a1 w
theorem calls (R:EP)(a0 a1:Value)(w:World)(h:run R a0 a1 w):Calls prog id #[a0,a1] w R:=Zbd func84 [a0,a1] (Zg R _ w h)
theorem enters:Enters prog id:=fun args w=>call84 args w
theorem ct {a0 a1:Value}{w:World}{S:VP}(h:∀R:EP,(∀v w,S v w→R (.returned v) w)→run R a0 a1 w):Ct prog id #[a0,a1] w S :=
 Ct.intro enters fun R hR=>calls R a0 a1 w (h R hR)
attribute [irreducible] b1 run
end Zal
namespace Zab
noncomputable def code:Code:=Zm f104
noncomputable abbrev p1:Code:=Zi 1 code
def b3 (R:EP)(w:World)(_r:Tok R:=tok R):Prop :=
 R (.returned (Value.int .i64 (-1))) w
abbrev r0 (R:EP)(z:Env)(w:World):Prop:=R (.returned (z 4)) w
abbrev q1 (R:EP):XP:=QX (r0 R) (r0 R) []
theorem Zbi (R:EP):TI prog R (sndC p1) (q1 R) fun z w=>b3 R w:=ofT
noncomputable abbrev p2:Code:=Zi 1 (fstC p1)
noncomputable abbrev p3:Code:=Zby (blkC p2)
def b7 (R:EP)(C6:VP)(x0 x1 x7 x8:Value)(w:World)(_r:Tok R:=tok R)(_C6:Tok C6:=tok C6):Prop :=
 RUN prog R (bins .lss 3 (.tmp 8) (.tmp 7) x8 x7) w fun v1 w2=>
 SPL v1
 (RUN prog R (indexAt 24 x0 x8) w2 fun v3 w4=>
 RUN prog R (loadAt 3 v3) w4 fun v5 w6=>
 Zl6 prog R x1 [v5] w6 fun v7 w8=>
 SPL v7
 (R (.returned x8) w8)
 (RUN prog R (bins .add 3 (.tmp 8) (.const (Value.int .i64 1)) x8 (Value.int .i64 1)) w8 fun v9 w10=>
 C6 v9 w10))
 (b3 R w2)
abbrev q2 (R:EP)(C6:VP):XP:=QX (fun z w=>C6 (z 8) w) (r0 R) [(0,(fun z w=>b3 R  w))]
theorem Zch (R:EP)(C6:VP):TI prog R p3 (q2 R C6) fun z w=>b7 R C6 (z 0) (z 1) (z 7) (z 8) w:=ofT
def l6 (R:EP)(x0 x1 x7 x8:Value)(w:World)(_r:Tok R:=tok R):Prop :=
 ∃(J:VP) (μ:Value→World→Nat),J x8 w∧∀y8 w0,J y8 w0→b7 R (fun z8 w1=>J z8 w1∧μ z8 w1<μ y8 w0) x0 x1 x7 y8 w0
abbrev q3 (R:EP):XP:=QX (fun z w=>b3 R  w) (r0 R) [(0,(fun z w=>b3 R  w))]
theorem Zdz (R:EP):TI prog R (blkC p2) (q3 R) fun z w=>l6 R (z 0) (z 1) (z 7) (z 8) w:=fun z w h=>by
 unfold l6 at h
 obtain ⟨J,μ,h0,hr⟩:=h
 refine Zcg (fun z' w'=>J (z' 8) w') (fun z' w'=>μ (z' 8) w') h0 fun z' w' hA hI=>Zch R (fun z8 w1=>J z8 w1∧μ z8 w1<μ (z' 8) w') z' w' ?_
 have h1:=hr (z' 8) w' hI
 rwa [←hA.on 0,←hA.on 1,←hA.on 7]at h1
theorem l6_intro (R:EP)(x0 x1 x7 x8:Value)(w:World)(J:VP)(μ:Value→World→Nat)(h0:J x8 w)
   (hr:∀y8 w0,J y8 w0→∀C6:VP,(∀z8 w1,J z8 w1→μ z8 w1<μ y8 w0→C6 z8 w1)→b7 R C6 x0 x1 x7 y8 w0):l6 R x0 x1 x7 x8 w:=by
 unfold l6
 exact ⟨J,μ,h0,fun y8 w0 hJ=>hr y8 w0 hJ _ (fun z8 w1 h1 h2=>⟨h1,h2⟩)⟩
abbrev q4 (R:EP):XP:=QX (fun z w=>b3 R  w) (r0 R) []
theorem Zda (R:EP):TI prog R p2 (q4 R) fun z w=>l6 R (z 0) (z 1) (z 7) (z 8) w:=Zac 0 (Zdz R)
def b4 (R:EP)(x0 x1:Value)(w:World)(_r:Tok R:=tok R):Prop :=
 RUN prog R (Builtin.len_ #[24] 3 #[x0]) w fun v1 w2=>
 l6 R x0 x1 v1 (Value.int .i64 0) w2
theorem Zbs (R:EP):TI prog R (fstC p1) (q4 R) fun z w=>b4 R (z 0) (z 1) w:=appT 0 (Zda R)
theorem Za6 (R:EP):TI prog R p1 (q1 R) fun z w=>b4 R (z 0) (z 1) w:=seqT (Zbs R) (Zbi R)
def b1 (R:EP)(x0 x1:Value)(w:World)(_r:Tok R:=tok R):Prop :=
 b4 R x0 x1 w
theorem Zg (R:EP):TI prog R code (q1 R) fun z w=>b1 R (z 0) (z 1) w:=appT 0 (Za6 R)
def run (R:EP)(a0 a1:Value)(w:World):Prop:=b1 R a0 a1 w
theorem calls (R:EP)(a0 a1:Value)(w:World)(h:run R a0 a1 w):Calls prog id #[a0,a1] w R:=Zbd func104 [a0,a1] (Zg R _ w h)
theorem enters:Enters prog id:=fun args w=>call104 args w
theorem ct {a0 a1:Value}{w:World}{S:VP}(h:∀R:EP,(∀v w,S v w→R (.returned v) w)→run R a0 a1 w):Ct prog id #[a0,a1] w S :=
 Ct.intro enters fun R hR=>calls R a0 a1 w (h R hR)
attribute [irreducible] b3 b7 l6 b4 b1 run
end Zab
namespace Zbg
noncomputable def code:Code:=Zm f56
def b1 (R:EP)(x0:Value)(w:World)(_r:Tok R:=tok R):Prop :=
 RUN prog R (bins .eql 24 (.tmp 3) (.const (Value.slice Option.none 0 0)) x0 (Value.slice Option.none 0 0)) w fun v1 w2=>
 SPL v1
 (R (.returned (Value.slice Option.none 0 0)) w2)
 (RUN prog R (buildSlice 24 0 #[]) w2 fun v3 w4=>
 RUN prog R (Builtin.append_ #[24,24] 24 #[v3,x0]) w4 fun v5 w6=>
 R (.returned v5) w6)
abbrev r0 (R:EP)(z:Env)(w:World):Prop:=R (.returned (z 2)) w
abbrev q1 (R:EP):XP:=QX (r0 R) (r0 R) []
theorem Zg (R:EP):TI prog R code (q1 R) fun z w=>b1 R (z 0) w:=ofT
def run (R:EP)(a0:Value)(w:World):Prop:=b1 R a0 w
theorem calls (R:EP)(a0:Value)(w:World)(h:run R a0 w):Calls prog id #[a0] w R:=Zbd func56 [a0] (Zg R _ w h)
theorem enters:Enters prog id:=fun args w=>call56 args w
theorem ct {a0:Value}{w:World}{S:VP}(h:∀R:EP,(∀v w,S v w→R (.returned v) w)→run R a0 w):Ct prog id #[a0] w S :=
 Ct.intro enters fun R hR=>calls R a0 w (h R hR)
attribute [irreducible] b1 run
end Zbg
end Go.Proofs.YtckbgeedlobfaaaGreatDoor
namespace Go.Proofs.YtckbgeedlobfaaaGreatDoor
open Go.Px Tryz Instr
namespace Zbn
noncomputable def code:Code:=Zm f62
noncomputable abbrev p1:Code:=Zi 1 code
def b3 (R:EP)(x0:Value)(w:World)(_r:Tok R:=tok R):Prop :=
 RUN prog R (Builtin.len_ #[9] 3 #[x0]) w fun v1 w2=>
 RUN prog R (bins .geq 3 (.tmp 27) (.const (Value.int .i64 1)) v1 (Value.int .i64 1)) w2 fun v3 w4=>
 SPL v3
 (RUN prog R (Builtin.len_ #[9] 3 #[x0]) w4 fun v5 w6=>
 RUN prog R (bins .leq 3 (.tmp 31) (.const (Value.int .i64 16)) v5 (Value.int .i64 16)) w6 fun v7 w8=>
 R (.returned v7) w8)
 (R (.returned (Value.bool false)) w4)
abbrev r0 (R:EP)(z:Env)(w:World):Prop:=R (.returned (z 2)) w
abbrev q1 (R:EP):XP:=QX (r0 R) (r0 R) []
theorem Zbi (R:EP):TI prog R (sndC p1) (q1 R) fun z w=>b3 R (z 0) w:=ofT
noncomputable abbrev p2:Code:=Zi 1 (fstC p1)
noncomputable abbrev p3:Code:=Zby (blkC p2)
noncomputable abbrev p4:Code:=Zi 1 p3
def b9 (R:EP)(C6:VP)(x3:Value)(w:World)(_r:Tok R:=tok R)(_C6:Tok C6:=tok C6):Prop :=
 RUN prog R (bins .add 3 (.tmp 8) (.const (Value.int .i64 1)) x3 (Value.int .i64 1)) w fun v1 w2=>
 C6 v1 w2
abbrev q2 (R:EP)(C6:VP):XP:=QX (fun z w=>C6 (z 3) w) (r0 R) [(0,(fun z w=>b3 R (z 0) w))]
theorem Zei (R:EP)(C6:VP):TI prog R (sndC p4) (q2 R C6) fun z w=>b9 R C6 (z 3) w:=ofT
noncomputable abbrev p5:Code:=blkC (fstC p4)
noncomputable abbrev p6:Code:=Zi 1 p5
def b12 (R:EP)(C6:VP)(x3 x25:Value)(w:World)(_r:Tok R:=tok R)(_C6:Tok C6:=tok C6):Prop :=
 SPL x25
 (R (.returned (Value.bool false)) w)
 (b9 R C6 x3 w)
abbrev q3 (R:EP)(C6:VP):XP:=QX (fun z w=>b9 R C6 (z 3) w) (r0 R) [(2,(fun z w=>b9 R C6 (z 3) w)),(0,(fun z w=>b3 R (z 0) w))]
theorem Zed (R:EP)(C6:VP):TI prog R p6 (q3 R C6) fun z w=>b12 R C6 (z 3) (z 25) w:=ofT
def b11 (R:EP)(C6:VP)(x0 x3:Value)(w:World)(_r:Tok R:=tok R)(_C6:Tok C6:=tok C6):Prop :=
 RUN prog R (index 9 x0 x3) w fun v1 w2=>
 RUN prog R (bins .lss 5 (.tmp 12) (.const (Value.int .u8 32)) v1 (Value.int .u8 32)) w2 fun v3 w4=>
 SPL v3
 (b12 R C6 x3 (Value.bool true) w4)
 (RUN prog R (index 9 x0 x3) w4 fun v5 w6=>
 RUN prog R (bins .gtr 5 (.tmp 17) (.const (Value.int .u8 126)) v5 (Value.int .u8 126)) w6 fun v7 w8=>
 SPL v7
 (b12 R C6 x3 (Value.bool true) w8)
 (RUN prog R (index 9 x0 x3) w8 fun v9 w10=>
 RUN prog R (bins .eql 5 (.tmp 23) (.const (Value.int .u8 39)) v9 (Value.int .u8 39)) w10 fun v11 w12=>
 b12 R C6 x3 v11 w12))
theorem Zdb (R:EP)(C6:VP):TI prog R p5 (q3 R C6) fun z w=>b11 R C6 (z 0) (z 3) w:=appT 0 (Zed R C6)
abbrev q4 (R:EP)(C6:VP):XP:=QX (fun z w=>b9 R C6 (z 3) w) (r0 R) [(0,(fun z w=>b3 R (z 0) w))]
theorem Zff (R:EP)(C6:VP):TI prog R (fstC p4) (q4 R C6) fun z w=>b11 R C6 (z 0) (z 3) w:=Zac 1 (Zdb R C6)
theorem Zgq (R:EP)(C6:VP):TI prog R p4 (q2 R C6) fun z w=>b11 R C6 (z 0) (z 3) w:=seqT (Zff R C6) (Zei R C6)
def b7 (R:EP)(C6:VP)(x0 x3:Value)(w:World)(_r:Tok R:=tok R)(_C6:Tok C6:=tok C6):Prop :=
 RUN prog R (Builtin.len_ #[9] 3 #[x0]) w fun v1 w2=>
 RUN prog R (bins .lss 3 (.tmp 4) (.tmp 6) x3 v1) w2 fun v3 w4=>
 SPL v3
 (b11 R C6 x0 x3 w4)
 (b3 R x0 w4)
theorem Zch (R:EP)(C6:VP):TI prog R p3 (q2 R C6) fun z w=>b7 R C6 (z 0) (z 3) w:=appT 0 (Zgq R C6)
def l6 (R:EP)(x0 x3:Value)(w:World)(_r:Tok R:=tok R):Prop :=
 ∃(J:VP) (μ:Value→World→Nat),J x3 w∧∀y3 w0,J y3 w0→b7 R (fun z3 w1=>J z3 w1∧μ z3 w1<μ y3 w0) x0 y3 w0
abbrev q5 (R:EP):XP:=QX (fun z w=>b3 R (z 0) w) (r0 R) [(0,(fun z w=>b3 R (z 0) w))]
theorem Zdz (R:EP):TI prog R (blkC p2) (q5 R) fun z w=>l6 R (z 0) (z 3) w:=fun z w h=>by
 unfold l6 at h
 obtain ⟨J,μ,h0,hr⟩:=h
 refine Zcg (fun z' w'=>J (z' 3) w') (fun z' w'=>μ (z' 3) w') h0 fun z' w' hA hI=>Zch R (fun z3 w1=>J z3 w1∧μ z3 w1<μ (z' 3) w') z' w' ?_
 have h1:=hr (z' 3) w' hI
 rwa [←hA.on 0]at h1
theorem l6_intro (R:EP)(x0 x3:Value)(w:World)(J:VP)(μ:Value→World→Nat)(h0:J x3 w)
   (hr:∀y3 w0,J y3 w0→∀C6:VP,(∀z3 w1,J z3 w1→μ z3 w1<μ y3 w0→C6 z3 w1)→b7 R C6 x0 y3 w0):l6 R x0 x3 w:=by
 unfold l6
 exact ⟨J,μ,h0,fun y3 w0 hJ=>hr y3 w0 hJ _ (fun z3 w1 h1 h2=>⟨h1,h2⟩)⟩
abbrev q6 (R:EP):XP:=QX (fun z w=>b3 R (z 0) w) (r0 R) []
theorem Zda (R:EP):TI prog R p2 (q6 R) fun z w=>l6 R (z 0) (z 3) w:=Zac 0 (Zdz R)
def b4 (R:EP)(x0:Value)(w:World)(_r:Tok R:=tok R):Prop :=
 l6 R x0 (Value.int .i64 0) w
theorem Zbs (R:EP):TI prog R (fstC p1) (q6 R) fun z w=>b4 R (z 0) w:=appT 0 (Zda R)
theorem Za6 (R:EP):TI prog R p1 (q1 R) fun z w=>b4 R (z 0) w:=seqT (Zbs R) (Zbi R)
def b1 (R:EP)(x0:Value)(w:World)(_r:Tok R:=tok R):Prop :=
 b4 R x0 w
theorem Zg (R:EP):TI prog R code (q1 R) fun z w=>b1 R (z 0) w:=appT 0 (Za6 R)
def run (R:EP)(a0:Value)(w:World):Prop:=b1 R a0 w
theorem calls (R:EP)(a0:Value)(w:World)(h:run R a0 w):Calls prog id #[a0] w R:=Zbd func62 [a0] (Zg R _ w h)
theorem enters:Enters prog id:=fun args w=>call62 args w
theorem ct {a0:Value}{w:World}{S:VP}(h:∀R:EP,(∀v w,S v w→R (.returned v) w)→run R a0 w):Ct prog id #[a0] w S :=
 Ct.intro enters fun R hR=>calls R a0 w (h R hR)
attribute [irreducible] b3 b9 b12 b11 b7 l6 b4 b1 run
end Zbn
namespace Zax
noncomputable def code:Code:=Zm f63
noncomputable abbrev p1:Code:=Zi 1 code
def b3 (R:EP)(x0:Value)(w:World)(_r:Tok R:=tok R):Prop :=
 RUN prog R (Builtin.len_ #[9] 3 #[x0]) w fun v1 w2=>
 RUN prog R (bins .geq 3 (.tmp 61) (.const (Value.int .i64 1)) v1 (Value.int .i64 1)) w2 fun v3 w4=>
 SPL v3
 (RUN prog R (Builtin.len_ #[9] 3 #[x0]) w4 fun v5 w6=>
 RUN prog R (bins .leq 3 (.tmp 65) (.const (Value.int .i64 16)) v5 (Value.int .i64 16)) w6 fun v7 w8=>
 R (.returned v7) w8)
 (R (.returned (Value.bool false)) w4)
abbrev r0 (R:EP)(z:Env)(w:World):Prop:=R (.returned (z 2)) w
abbrev q1 (R:EP):XP:=QX (r0 R) (r0 R) []
theorem Zbi (R:EP):TI prog R (sndC p1) (q1 R) fun z w=>b3 R (z 0) w:=ofT
noncomputable abbrev p2:Code:=Zi 1 (fstC p1)
noncomputable abbrev p3:Code:=Zby (blkC p2)
noncomputable abbrev p4:Code:=Zi 1 p3
def b9 (R:EP)(C6:VP)(x3:Value)(w:World)(_r:Tok R:=tok R)(_C6:Tok C6:=tok C6):Prop :=
 RUN prog R (bins .add 3 (.tmp 10) (.const (Value.int .i64 1)) x3 (Value.int .i64 1)) w fun v1 w2=>
 C6 v1 w2
abbrev q2 (R:EP)(C6:VP):XP:=QX (fun z w=>C6 (z 3) w) (r0 R) [(0,(fun z w=>b3 R (z 0) w))]
theorem Zei (R:EP)(C6:VP):TI prog R (sndC p4) (q2 R C6) fun z w=>b9 R C6 (z 3) w:=ofT
noncomputable abbrev p5:Code:=blkC (fstC p4)
noncomputable abbrev p6:Code:=Zi 1 p5
noncomputable abbrev p7:Code:=Zi 1 p6
noncomputable abbrev p8:Code:=Zi 1 p7
def b14 (R:EP)(C6:VP)(x3 x59:Value)(w:World)(_r:Tok R:=tok R)(_C6:Tok C6:=tok C6):Prop :=
 SPL x59
 (R (.returned (Value.bool false)) w)
 (b9 R C6 x3 w)
abbrev q3 (R:EP)(C6:VP):XP:=QX (fun z w=>b9 R C6 (z 3) w) (r0 R) [(2,(fun z w=>b9 R C6 (z 3) w)),(0,(fun z w=>b3 R (z 0) w))]
theorem Zdq (R:EP)(C6:VP):TI prog R p8 (q3 R C6) fun z w=>b14 R C6 (z 3) (z 59) w:=ofT
def b13 (R:EP)(C6:VP)(x3 x4 x5:Value)(w:World)(_r:Tok R:=tok R)(_C6:Tok C6:=tok C6):Prop :=
 RUN prog R (Op.unary .not x4) w fun v1 w2=>
 SPL v1
 (RUN prog R (Op.unary .not x5) w2 fun v3 w4=>
 b14 R C6 x3 v3 w4)
 (b14 R C6 x3 (Value.bool false) w2)
theorem Zgc (R:EP)(C6:VP):TI prog R p7 (q3 R C6) fun z w=>b13 R C6 (z 3) (z 4) (z 5) w:=appT 0 (Zdq R C6)
def b12 (R:EP)(C6:VP)(x0 x3 x4:Value)(w:World)(_r:Tok R:=tok R)(_C6:Tok C6:=tok C6):Prop :=
 RUN prog R (index 9 x0 x3) w fun v1 w2=>
 RUN prog R (bins .geq 5 (.tmp 42) (.const (Value.int .u8 48)) v1 (Value.int .u8 48)) w2 fun v3 w4=>
 SPL v3
 (RUN prog R (index 9 x0 x3) w4 fun v5 w6=>
 RUN prog R (bins .leq 5 (.tmp 47) (.const (Value.int .u8 57)) v5 (Value.int .u8 57)) w6 fun v7 w8=>
 SPL v7
 (RUN prog R (bins .gtr 3 (.tmp 51) (.const (Value.int .i64 0)) x3 (Value.int .i64 0)) w8 fun v9 w10=>
 b13 R C6 x3 x4 v9 w10)
 (b13 R C6 x3 x4 (Value.bool false) w8))
 (b13 R C6 x3 x4 (Value.bool false) w4)
theorem Zed (R:EP)(C6:VP):TI prog R p6 (q3 R C6) fun z w=>b12 R C6 (z 0) (z 3) (z 4) w:=appT 0 (Zgc R C6)
def b11 (R:EP)(C6:VP)(x0 x3:Value)(w:World)(_r:Tok R:=tok R)(_C6:Tok C6:=tok C6):Prop :=
 RUN prog R (index 9 x0 x3) w fun v1 w2=>
 RUN prog R (bins .geq 5 (.tmp 14) (.const (Value.int .u8 65)) v1 (Value.int .u8 65)) w2 fun v3 w4=>
 SPL v3
 (RUN prog R (index 9 x0 x3) w4 fun v5 w6=>
 RUN prog R (bins .leq 5 (.tmp 19) (.const (Value.int .u8 90)) v5 (Value.int .u8 90)) w6 fun v7 w8=>
 SPL v7
 (b12 R C6 x0 x3 (Value.bool true) w8)
 (RUN prog R (index 9 x0 x3) w8 fun v9 w10=>
 RUN prog R (bins .geq 5 (.tmp 25) (.const (Value.int .u8 97)) v9 (Value.int .u8 97)) w10 fun v11 w12=>
 SPL v11
 (RUN prog R (index 9 x0 x3) w12 fun v13 w14=>
 RUN prog R (bins .leq 5 (.tmp 30) (.const (Value.int .u8 122)) v13 (Value.int .u8 122)) w14 fun v15 w16=>
 SPL v15
 (b12 R C6 x0 x3 (Value.bool true) w16)
 (RUN prog R (index 9 x0 x3) w16 fun v17 w18=>
 RUN prog R (bins .eql 5 (.tmp 37) (.const (Value.int .u8 95)) v17 (Value.int .u8 95)) w18 fun v19 w20=>
 b12 R C6 x0 x3 v19 w20))
 (RUN prog R (index 9 x0 x3) w12 fun v21 w22=>
 RUN prog R (bins .eql 5 (.tmp 37) (.const (Value.int .u8 95)) v21 (Value.int .u8 95)) w22 fun v23 w24=>
 b12 R C6 x0 x3 v23 w24)))
 (RUN prog R (index 9 x0 x3) w4 fun v25 w26=>
 RUN prog R (bins .geq 5 (.tmp 25) (.const (Value.int .u8 97)) v25 (Value.int .u8 97)) w26 fun v27 w28=>
 SPL v27
 (RUN prog R (index 9 x0 x3) w28 fun v29 w30=>
 RUN prog R (bins .leq 5 (.tmp 30) (.const (Value.int .u8 122)) v29 (Value.int .u8 122)) w30 fun v31 w32=>
 SPL v31
 (b12 R C6 x0 x3 (Value.bool true) w32)
 (RUN prog R (index 9 x0 x3) w32 fun v33 w34=>
 RUN prog R (bins .eql 5 (.tmp 37) (.const (Value.int .u8 95)) v33 (Value.int .u8 95)) w34 fun v35 w36=>
 b12 R C6 x0 x3 v35 w36))
 (RUN prog R (index 9 x0 x3) w28 fun v37 w38=>
 RUN prog R (bins .eql 5 (.tmp 37) (.const (Value.int .u8 95)) v37 (Value.int .u8 95)) w38 fun v39 w40=>
 b12 R C6 x0 x3 v39 w40))
theorem Zdb (R:EP)(C6:VP):TI prog R p5 (q3 R C6) fun z w=>b11 R C6 (z 0) (z 3) w:=appT 0 (Zed R C6)
abbrev q4 (R:EP)(C6:VP):XP:=QX (fun z w=>b9 R C6 (z 3) w) (r0 R) [(0,(fun z w=>b3 R (z 0) w))]
theorem Zff (R:EP)(C6:VP):TI prog R (fstC p4) (q4 R C6) fun z w=>b11 R C6 (z 0) (z 3) w:=Zac 1 (Zdb R C6)
theorem Zgq (R:EP)(C6:VP):TI prog R p4 (q2 R C6) fun z w=>b11 R C6 (z 0) (z 3) w:=seqT (Zff R C6) (Zei R C6)
def b7 (R:EP)(C6:VP)(x0 x3:Value)(w:World)(_r:Tok R:=tok R)(_C6:Tok C6:=tok C6):Prop :=
 RUN prog R (Builtin.len_ #[9] 3 #[x0]) w fun v1 w2=>
 RUN prog R (bins .lss 3 (.tmp 6) (.tmp 8) x3 v1) w2 fun v3 w4=>
 SPL v3
 (b11 R C6 x0 x3 w4)
 (b3 R x0 w4)
theorem Zch (R:EP)(C6:VP):TI prog R p3 (q2 R C6) fun z w=>b7 R C6 (z 0) (z 3) w:=appT 0 (Zgq R C6)
def l6 (R:EP)(x0 x3:Value)(w:World)(_r:Tok R:=tok R):Prop :=
 ∃(J:VP) (μ:Value→World→Nat),J x3 w∧∀y3 w0,J y3 w0→b7 R (fun z3 w1=>J z3 w1∧μ z3 w1<μ y3 w0) x0 y3 w0
abbrev q5 (R:EP):XP:=QX (fun z w=>b3 R (z 0) w) (r0 R) [(0,(fun z w=>b3 R (z 0) w))]
theorem Zdz (R:EP):TI prog R (blkC p2) (q5 R) fun z w=>l6 R (z 0) (z 3) w:=fun z w h=>by
 unfold l6 at h
 obtain ⟨J,μ,h0,hr⟩:=h
 refine Zcg (fun z' w'=>J (z' 3) w') (fun z' w'=>μ (z' 3) w') h0 fun z' w' hA hI=>Zch R (fun z3 w1=>J z3 w1∧μ z3 w1<μ (z' 3) w') z' w' ?_
 have h1:=hr (z' 3) w' hI
 rwa [←hA.on 0]at h1
theorem l6_intro (R:EP)(x0 x3:Value)(w:World)(J:VP)(μ:Value→World→Nat)(h0:J x3 w)
   (hr:∀y3 w0,J y3 w0→∀C6:VP,(∀z3 w1,J z3 w1→μ z3 w1<μ y3 w0→C6 z3 w1)→b7 R C6 x0 y3 w0):l6 R x0 x3 w:=by
 unfold l6
 exact ⟨J,μ,h0,fun y3 w0 hJ=>hr y3 w0 hJ _ (fun z3 w1 h1 h2=>⟨h1,h2⟩)⟩
abbrev q6 (R:EP):XP:=QX (fun z w=>b3 R (z 0) w) (r0 R) []
theorem Zda (R:EP):TI prog R p2 (q6 R) fun z w=>l6 R (z 0) (z 3) w:=Zac 0 (Zdz R)
def b4 (R:EP)(x0:Value)(w:World)(_r:Tok R:=tok R):Prop :=
 l6 R x0 (Value.int .i64 0) w
theorem Zbs (R:EP):TI prog R (fstC p1) (q6 R) fun z w=>b4 R (z 0) w:=appT 0 (Zda R)
theorem Za6 (R:EP):TI prog R p1 (q1 R) fun z w=>b4 R (z 0) w:=seqT (Zbs R) (Zbi R)
def b1 (R:EP)(x0:Value)(w:World)(_r:Tok R:=tok R):Prop :=
 b4 R x0 w
theorem Zg (R:EP):TI prog R code (q1 R) fun z w=>b1 R (z 0) w:=appT 0 (Za6 R)
def run (R:EP)(a0:Value)(w:World):Prop:=b1 R a0 w
theorem calls (R:EP)(a0:Value)(w:World)(h:run R a0 w):Calls prog id #[a0] w R:=Zbd func63 [a0] (Zg R _ w h)
theorem enters:Enters prog id:=fun args w=>call63 args w
theorem ct {a0:Value}{w:World}{S:VP}(h:∀R:EP,(∀v w,S v w→R (.returned v) w)→run R a0 w):Ct prog id #[a0] w S :=
 Ct.intro enters fun R hR=>calls R a0 w (h R hR)
attribute [irreducible] b3 b9 b14 b13 b12 b11 b7 l6 b4 b1 run
end Zax
namespace Zbo
noncomputable def code:Code:=Zm f31
noncomputable abbrev p1:Code:=Zi 2 code
def b3 (R:EP)(w:World)(_r:Tok R:=tok R):Prop :=
 R (.returned (Value.bool true)) w
abbrev r0 (R:EP)(z:Env)(w:World):Prop:=R (.returned (z 4)) w
abbrev q1 (R:EP):XP:=QX (r0 R) (r0 R) []
theorem Zbi (R:EP):TI prog R (sndC p1) (q1 R) fun z w=>b3 R w:=ofT
noncomputable abbrev p2:Code:=Zi 1 (fstC p1)
noncomputable abbrev p3:Code:=Zby (blkC p2)
def b7 (R:EP)(C6:VP)(x0 x1 x5:Value)(w:World)(_r:Tok R:=tok R)(_C6:Tok C6:=tok C6):Prop :=
 RUN prog R (Builtin.len_ #[24] 3 #[x0]) w fun v1 w2=>
 RUN prog R (bins .lss 3 (.tmp 11) (.tmp 13) x5 v1) w2 fun v3 w4=>
 SPL v3
 (PUR prog (indexAt 24 x0 x5) fun v5=>
 LD prog (loadAt 3 v5) (World.drew w4) fun v6=>
 PUR prog (indexAt 24 x1 x5) fun v7=>
 LD prog (loadAt 3 v7) (World.drew w4) fun v8=>
 PUR prog (bins .neq 3 (.tmp 20) (.tmp 24) v6 v8) fun v9=>
 SPL v9
 (R (.returned (Value.bool false)) (World.drew w4))
 (RUN prog R (bins .add 3 (.tmp 15) (.const (Value.int .i64 1)) x5 (Value.int .i64 1)) (World.drew w4) fun v10 w11=>
 C6 v10 w11))
 (b3 R w4)
abbrev q2 (R:EP)(C6:VP):XP:=QX (fun z w=>C6 (z 5) w) (r0 R) [(0,(fun z w=>b3 R  w))]
theorem Zch (R:EP)(C6:VP):TI prog R p3 (q2 R C6) fun z w=>b7 R C6 (z 0) (z 1) (z 5) w:=ofT
def l6 (R:EP)(x0 x1 x5:Value)(w:World)(_r:Tok R:=tok R):Prop :=
 ∃(J:VP) (μ:Value→World→Nat),J x5 w∧∀y5 w0,J y5 w0→b7 R (fun z5 w1=>J z5 w1∧μ z5 w1<μ y5 w0) x0 x1 y5 w0
abbrev q3 (R:EP):XP:=QX (fun z w=>b3 R  w) (r0 R) [(0,(fun z w=>b3 R  w))]
theorem Zdz (R:EP):TI prog R (blkC p2) (q3 R) fun z w=>l6 R (z 0) (z 1) (z 5) w:=fun z w h=>by
 unfold l6 at h
 obtain ⟨J,μ,h0,hr⟩:=h
 refine Zcg (fun z' w'=>J (z' 5) w') (fun z' w'=>μ (z' 5) w') h0 fun z' w' hA hI=>Zch R (fun z5 w1=>J z5 w1∧μ z5 w1<μ (z' 5) w') z' w' ?_
 have h1:=hr (z' 5) w' hI
 rwa [←hA.on 0,←hA.on 1]at h1
theorem l6_intro (R:EP)(x0 x1 x5:Value)(w:World)(J:VP)(μ:Value→World→Nat)(h0:J x5 w)
   (hr:∀y5 w0,J y5 w0→∀C6:VP,(∀z5 w1,J z5 w1→μ z5 w1<μ y5 w0→C6 z5 w1)→b7 R C6 x0 x1 y5 w0):l6 R x0 x1 x5 w:=by
 unfold l6
 exact ⟨J,μ,h0,fun y5 w0 hJ=>hr y5 w0 hJ _ (fun z5 w1 h1 h2=>⟨h1,h2⟩)⟩
abbrev q4 (R:EP):XP:=QX (fun z w=>b3 R  w) (r0 R) []
theorem Zda (R:EP):TI prog R p2 (q4 R) fun z w=>l6 R (z 0) (z 1) (z 5) w:=Zac 0 (Zdz R)
def b4 (R:EP)(x0 x1:Value)(w:World)(_r:Tok R:=tok R):Prop :=
 l6 R x0 x1 (Value.int .i64 0) w
theorem Zbs (R:EP):TI prog R (fstC p1) (q4 R) fun z w=>b4 R (z 0) (z 1) w:=appT 0 (Zda R)
theorem Za6 (R:EP):TI prog R p1 (q1 R) fun z w=>b4 R (z 0) (z 1) w:=seqT (Zbs R) (Zbi R)
def b1 (R:EP)(x0 x1:Value)(w:World)(_r:Tok R:=tok R):Prop :=
 RUN prog R (Builtin.len_ #[24] 3 #[x0]) w fun v1 w2=>
 RUN prog R (Builtin.len_ #[24] 3 #[x1]) w2 fun v3 w4=>
 RUN prog R (bins .neq 3 (.tmp 7) (.tmp 9) v1 v3) w4 fun v5 w6=>
 SPL v5
 (R (.returned (Value.bool false)) w6)
 (b4 R x0 x1 w6)
theorem Zg (R:EP):TI prog R code (q1 R) fun z w=>b1 R (z 0) (z 1) w:=appT 1 (Za6 R)
def run (R:EP)(a0 a1:Value)(w:World):Prop:=b1 R a0 a1 w
theorem calls (R:EP)(a0 a1:Value)(w:World)(h:run R a0 a1 w):Calls prog id #[a0,a1] w R:=Zbd func31 [a0,a1] (Zg R _ w h)
theorem enters:Enters prog id:=fun args w=>call31 args w
theorem ct {a0 a1:Value}{w:World}{S:VP}(h:∀R:EP,(∀v w,S v w→R (.returned v) w)→run R a0 a1 w):Ct prog id #[a0,a1] w S :=
 Ct.intro enters fun R hR=>calls R a0 a1 w (h R hR)
attribute [irreducible] b3 b7 l6 b4 b1 run
end Zbo
end Go.Proofs.YtckbgeedlobfaaaGreatDoor
