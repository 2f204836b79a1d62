/-
  Texts of this claim: T03S, T03All.
-/
import Derived.Test.YtckbgeedlobfaaaGreatDoorY04
set_option linter.unusedVariables false
set_option maxRecDepth 100000
namespace Go.Proofs.YtckbgeedlobfaaaGreatDoor
open Go.Px Tryz Instr
namespace Zeq
noncomputable def code:Code:=Zm f8
def b1 (R:EP)(x0:Value)(w:World)(_r:Tok R:=tok R):Prop :=
 RUN prog R (alloc 36 true (.tuple #[])) w fun v1 w2=>
 RUN prog R (Builtin.len_ #[9] 3 #[x0]) w2 fun v3 w4=>
 RUN prog R (bins .gtr 3 (.tmp 7) (.const (Value.int .i64 8192)) v3 (Value.int .i64 8192)) w4 fun v5 w6=>
 SPL v5
 (RUN prog R (build 36 #[(0,(Value.int .i64 10)),(1,(Value.int .i64 8192))]) w6 fun v7 w8=>
 RUNU prog R (storeAt 36 v1 v7) w8 fun w9=>
 LD prog (loadAt 36 v1) w9 fun r1=>R (.returned (.tuple #[(Value.slice Option.none 0 0),r1])) w9)
 (RUN prog R (alloc 34 true (.tuple #[])) w6 fun v10 w11=>
 RUN prog R (build 70 #[(0,x0)]) w11 fun v12 w13=>
 RUN prog R (box 70 v12) w13 fun v14 w15=>
 RUN prog R (makeFunc (.func Zds.id) #[] #[v10]) w15 fun v16 w17=>
 CALL prog R Zv.id #[v14,v16] w17 fun v18 w19=>
 RUN prog R (bins .geq 3 (.tmp 15) (.const (Value.int .i64 0)) v18 (Value.int .i64 0)) w19 fun v20 w21=>
 SPL v20
 (RUN prog R (build 36 #[(0,(Value.int .i64 10)),(1,v18)]) w21 fun v22 w23=>
 RUNU prog R (storeAt 36 v1 v22) w23 fun w24=>
 LD prog (loadAt 36 v1) w24 fun r1=>R (.returned (.tuple #[(Value.slice Option.none 0 0),r1])) w24)
 (RUN prog R (loadAt 34 v10) w21 fun v25 w26=>
 RUN prog R (build 36 #[]) w26 fun v27 w28=>
 RUNU prog R (storeAt 36 v1 v27) w28 fun w29=>
 LD prog (loadAt 36 v1) w29 fun r1=>R (.returned (.tuple #[v25,r1])) w29))
abbrev r0 (R:EP)(z:Env)(w:World):Prop:=LD prog (loadAt 36 (z 3)) w fun r1=>R (.returned (.tuple #[(z 2),r1])) w
abbrev q1 (R:EP):XP:=QX (r0 R) (r0 R) []
theorem Zg (R:EP):TI prog R code (q1 R) fun z w=>b1 R (z 0) w:=ofT
def run (R:EP)(a0:Value)(w:World):Prop:=b1 R a0 w
theorem calls (R:EP)(a0:Value)(w:World)(h:run R a0 w):Calls prog id #[a0] w R :=
 Zth (f:=id) (fn:=f8) (c:=code) (by kernel_rfl) func8 (by kernel_rfl) (by kernel_rfl) (args:=[a0]) (Nat.le_of_ble_eq_true rfl) rfl (Zg R (Zfn [a0]) w h)
theorem enters:Enters prog id:=fun args w=>call8 args w
theorem ct {a0:Value}{w:World}{S:VP}(h:∀R:EP,(∀v w,S v w→R (.returned v) w)→run R a0 w):Ct prog id #[a0] w S :=
 Ct.intro enters fun R hR=>calls R a0 w (h R hR)
attribute [irreducible] b1 run
end Zeq
namespace Zv
noncomputable def code:Code:=Zm f24
noncomputable abbrev p1:Code:=Zi 1 code
def b3 (R:EP)(w:World)(_r:Tok R:=tok R):Prop :=
 R (.returned (Value.int .i64 (-1))) w
abbrev r0 (R:EP)(z:Env)(w:World):Prop:=R (.returned (z 4)) w
abbrev q1 (R:EP):XP:=QX (r0 R) (r0 R) []
theorem Zbi (R:EP):TI prog R (sndC p1) (q1 R) fun z w=>b3 R w:=ofT
noncomputable abbrev p2:Code:=blkC (fstC p1)
def b6 (R:EP)(C5:World→Prop)(x0 x1:Value)(w:World)(_r:Tok R:=tok R)(_C5:Tok C5:=tok C5):Prop :=
 CALL prog R Zn.id #[x0] w fun v1 w2=>
 SPL v1
 (CALL prog R Zk.id #[x0] w2 fun v3 w4=>
 RUN prog R (extract v3 0) w4 fun v5 w6=>
 RUN prog R (extract v3 1) w6 fun v7 w8=>
 RUN prog R (alloc 73 true (.tuple #[])) w8 fun v9 w10=>
 RUNU prog R (storeAt 73 v9 v5) w10 fun w11=>
 RUN prog R (Op.unary .not v7) w11 fun v12 w13=>
 SPL v12
 (NILC x0 fun v14=>
 RUN prog R (fieldAt 70 v14 1) w13 fun v15 w16=>
 RUN prog R (loadAt 3 v15) w16 fun v17 w18=>
 R (.returned v17) w18)
 (RUN prog R (loadAt 73 v9) w13 fun v19 w20=>
 Zl6 prog R x1 [v19] w20 fun v21 w22=>
 RUN prog R (Op.unary .not v21) w22 fun v23 w24=>
 SPL v23
 (b3 R w24)
 (C5  w24)))
 (b3 R w2)
abbrev q2 (R:EP)(C5:World→Prop):XP:=QX (fun z w=>C5  w) (r0 R) [(0,(fun z w=>b3 R  w))]
theorem Zha (R:EP)(C5:World→Prop):TI prog R (Zby p2) (q2 R C5) fun z w=>b6 R C5 (z 0) (z 1) w:=ofT
def l5 (R:EP)(x0 x1:Value)(w:World)(_r:Tok R:=tok R):Prop :=
 ∃(J:World→Prop) (μ:World→Nat),J  w∧∀w0,J  w0→b6 R (fun  w1=>J  w1∧μ  w1<μ  w0) x0 x1 w0
abbrev q3 (R:EP):XP:=QX (fun z w=>b3 R  w) (r0 R) [(0,(fun z w=>b3 R  w))]
theorem ZZ29 (R:EP):TI prog R p2 (q3 R) fun z w=>l5 R (z 0) (z 1) w:=fun z w h=>by
 unfold l5 at h
 obtain ⟨J,μ,h0,hr⟩:=h
 refine Zcg (fun z' w'=>J  w') (fun z' w'=>μ  w') h0 fun z' w' hA hI=>Zha R (fun  w1=>J  w1∧μ  w1<μ  w') z' w' ?_
 have h1:=hr  w' hI
 rwa [←hA.on 0,←hA.on 1]at h1
theorem l5_intro (R:EP)(x0 x1:Value)(w:World)(J:World→Prop)(μ:World→Nat)(h0:J  w)
   (hr:∀w0,J  w0→∀C5:World→Prop,(∀w1,J  w1→μ  w1<μ  w0→C5  w1)→b6 R C5 x0 x1 w0):l5 R x0 x1 w:=by
 unfold l5
 exact ⟨J,μ,h0,fun  w0 hJ=>hr  w0 hJ _ (fun  w1 h1 h2=>⟨h1,h2⟩)⟩
abbrev q4 (R:EP):XP:=QX (fun z w=>b3 R  w) (r0 R) []
theorem Zgr (R:EP):TI prog R (fstC p1) (q4 R) fun z w=>l5 R (z 0) (z 1) w:=Zac 0 (ZZ29 R)
theorem Za6 (R:EP):TI prog R p1 (q1 R) fun z w=>l5 R (z 0) (z 1) w:=seqT (Zgr R) (Zbi R)
def b1 (R:EP)(x0 x1:Value)(w:World)(_r:Tok R:=tok R):Prop :=
 l5 R x0 x1 w
theorem Zg (R:EP):TI prog R code (q1 R) fun z w=>b1 R (z 0) (z 1) w:=appT 0 (Za6 R)
def run (R:EP)(a0 a1:Value)(w:World):Prop:=b1 R a0 a1 w
theorem calls (R:EP)(a0 a1:Value)(w:World)(h:run R a0 a1 w):Calls prog id #[a0,a1] w R:=Zbd func24 [a0,a1] (Zg R _ w h)
theorem enters:Enters prog id:=fun args w=>call24 args w
theorem ct {a0 a1:Value}{w:World}{S:VP}(h:∀R:EP,(∀v w,S v w→R (.returned v) w)→run R a0 a1 w):Ct prog id #[a0,a1] w S :=
 Ct.intro enters fun R hR=>calls R a0 a1 w (h R hR)
attribute [irreducible] b3 b6 l5 b1 run
end Zv
namespace Zds
noncomputable def code:Code:=Zm f25
def b1 (R:EP)(x0 x1:Value)(w:World)(_r:Tok R:=tok R):Prop :=
 RUN prog R (box 73 x0) w fun v1 w2=>
 RUN prog R (loadAt 34 x1) w2 fun v3 w4=>
 RUN prog R (loadAt 73 v1) w4 fun v5 w6=>
 RUN prog R (buildSlice 34 1 #[(0,v5)]) w6 fun v7 w8=>
 RUN prog R (Builtin.append_ #[34,34] 34 #[v3,v7]) w8 fun v9 w10=>
 RUNU prog R (storeAt 34 x1 v9) w10 fun w11=>
 R (.returned (Value.bool true)) w11
abbrev r0 (R:EP)(z:Env)(w:World):Prop:=R (.returned (z 3)) w
abbrev q1 (R:EP):XP:=QX (r0 R) (r0 R) []
theorem Zg (R:EP):TI prog R code (q1 R) fun z w=>b1 R (z 0) (z 1) w:=ofT
def run (R:EP)(a0 a1:Value)(w:World):Prop:=b1 R a0 a1 w
theorem calls (R:EP)(a0 a1:Value)(w:World)(h:run R a0 a1 w):Calls prog id #[a0,a1] w R:=Zbd func25 [a0,a1] (Zg R _ w h)
theorem enters:Enters prog id:=fun args w=>call25 args w
theorem ct {a0 a1:Value}{w:World}{S:VP}(h:∀R:EP,(∀v w,S v w→R (.returned v) w)→run R a0 a1 w):Ct prog id #[a0,a1] w S :=
 Ct.intro enters fun R hR=>calls R a0 a1 w (h R hR)
attribute [irreducible] b1 run
end Zds
namespace Zn
noncomputable def code:Code:=Zm f43
noncomputable abbrev p1:Code:=Zi 1 code
noncomputable abbrev p2:Code:=sndC (ZZ184 p1)
noncomputable abbrev p3:Code:=sndC (sndC p2)
def b5 (R:EP)(C2:World→Prop)(x0:Value)(w:World)(_r:Tok R:=tok R)(_C2:Tok C2:=tok C2):Prop :=
 NILC x0 fun v1=>
 PUR prog (fieldAt 70 v1 1) fun v2=>
 LD prog (loadAt 3 v2) (World.drew w) fun v3=>
 NILC x0 fun v4=>
 PUR prog (fieldAt 70 v4 0) fun v5=>
 LD prog (loadAt 9 v5) (World.drew w) fun v6=>
 LD prog (Builtin.len_ #[9] 3 #[v6]) (World.drew w) fun v7=>
 PUR prog (bins .lss 3 (.tmp 89) (.tmp 94) v3 v7) fun v8=>
 R (.returned v8) (World.drew w)
abbrev r0 (R:EP)(z:Env)(w:World):Prop:=R (.returned (z 2)) w
abbrev q1 (R:EP)(C2:World→Prop):XP:=QX (r0 R) (r0 R) [(1,(fun z w=>C2  w))]
theorem Zeb (R:EP)(C2:World→Prop):TI prog R p3 (q1 R C2) fun z w=>b5 R C2 (z 0) w:=ofT
noncomputable abbrev p4:Code:=fstC (sndC p2)
noncomputable abbrev p5:Code:=Zi 1 p4
noncomputable abbrev p6:Code:=Zi 2 (thnC p5)
def b9 (R:EP)(C2:World→Prop)(x0 x3:Value)(w:World)(_r:Tok R:=tok R)(_C2:Tok C2:=tok C2):Prop :=
 NILC x0 fun v1=>
 RUN prog R (fieldAt 70 v1 1) w fun v2 w3=>
 RUN prog R (loadAt 3 v2) w3 fun v4 w5=>
 RUN prog R (bins .add 3 (.tmp 81) (.tmp 82) v4 x3) w5 fun v6 w7=>
 NILC x0 fun v8=>
 RUN prog R (fieldAt 70 v8 1) w7 fun v9 w10=>
 RUNU prog R (storeAt 3 v9 v6) w10 fun w11=>
 C2  w11
abbrev q2 (R:EP)(C2:World→Prop):XP:=QX (fun z w=>b5 R C2 (z 0) w) (r0 R) [(1,(fun z w=>C2  w))]
theorem Zei (R:EP)(C2:World→Prop):TI prog R p6 (q2 R C2) fun z w=>b9 R C2 (z 0) (z 3) w:=ofT
def b8 (R:EP)(C2:World→Prop)(x0:Value)(w:World)(_r:Tok R:=tok R)(_C2:Tok C2:=tok C2):Prop :=
 NILC x0 fun v1=>
 PUR prog (fieldAt 70 v1 0) fun v2=>
 LD prog (loadAt 9 v2) (World.drew w) fun v3=>
 NILC x0 fun v4=>
 PUR prog (fieldAt 70 v4 1) fun v5=>
 LD prog (loadAt 3 v5) (World.drew w) fun v6=>
 PUR prog (sliceAt 9 v3 (some v6) none none) fun v7=>
 CALL prog R Zbt.id #[v7,(Value.int .u8 10)] (World.drew w) fun v8 w9=>
 RUN prog R (bins .lss 3 (.tmp 66) (.const (Value.int .i64 0)) v8 (Value.int .i64 0)) w9 fun v10 w11=>
 SPL v10
 (NILC x0 fun v12=>
 PUR prog (fieldAt 70 v12 0) fun v13=>
 LD prog (loadAt 9 v13) (World.drew w11) fun v14=>
 LD prog (Builtin.len_ #[9] 3 #[v14]) (World.drew w11) fun v15=>
 NILC x0 fun v16=>
 PUR prog (fieldAt 70 v16 1) fun v17=>
 LD prog (loadAt 3 v17) (World.drew w11) fun v18=>
 PUR prog (bins .sub 3 (.tmp 72) (.tmp 76) v15 v18) fun v19=>
 b9 R C2 x0 v19 (World.drew w11))
 (b9 R C2 x0 v8 w11)
theorem Zhr (R:EP)(C2:World→Prop):TI prog R (thnC p5) (q2 R C2) fun z w=>b8 R C2 (z 0) w:=appT 1 (Zei R C2)
def b10 (R:EP)(C2:World→Prop)(x0:Value)(w:World)(_r:Tok R:=tok R)(_C2:Tok C2:=tok C2):Prop :=
 b5 R C2 x0 w
theorem Zef (R:EP)(C2:World→Prop):TI prog R (elsC p5) (q2 R C2) fun z w=>b10 R C2 (z 0) w:=ofT
def b7 (R:EP)(C2:World→Prop)(x0 x55:Value)(w:World)(_r:Tok R:=tok R)(_C2:Tok C2:=tok C2):Prop :=
 SPL x55 (b8 R C2 x0 w) (b10 R C2 x0 w)
theorem Zch (R:EP)(C2:World→Prop):TI prog R p5 (q2 R C2) fun z w=>b7 R C2 (z 0) (z 55) w:=fun z w h=>by
 have e:Code.cond (.tmp 55) (thnC p5) (elsC p5)=p5:=by kernel_rfl
 rw[←e]
 exact Znh h (fun h=>Zhr R C2 z w h) (fun h=>Zef R C2 z w h)
def b6 (R:EP)(C2:World→Prop)(x0:Value)(w:World)(_r:Tok R:=tok R)(_C2:Tok C2:=tok C2):Prop :=
 NILC x0 fun v1=>
 PUR prog (fieldAt 70 v1 1) fun v2=>
 LD prog (loadAt 3 v2) (World.drew w) fun v3=>
 NILC x0 fun v4=>
 PUR prog (fieldAt 70 v4 0) fun v5=>
 LD prog (loadAt 9 v5) (World.drew w) fun v6=>
 LD prog (Builtin.len_ #[9] 3 #[v6]) (World.drew w) fun v7=>
 PUR prog (bins .lss 3 (.tmp 37) (.tmp 42) v3 v7) fun v8=>
 SPL v8
 (NILC x0 fun v9=>
 PUR prog (fieldAt 70 v9 0) fun v10=>
 LD prog (loadAt 9 v10) (World.drew w) fun v11=>
 NILC x0 fun v12=>
 PUR prog (fieldAt 70 v12 1) fun v13=>
 LD prog (loadAt 3 v13) (World.drew w) fun v14=>
 PUR prog (index 9 v11 v14) fun v15=>
 PUR prog (bins .eql 5 (.tmp 53) (.const (Value.int .u8 35)) v15 (Value.int .u8 35)) fun v16=>
 b7 R C2 x0 v16 (World.drew w))
 (b7 R C2 x0 (Value.bool false) (World.drew w))
theorem Zha (R:EP)(C2:World→Prop):TI prog R p4 (q2 R C2) fun z w=>b6 R C2 (z 0) w:=appT 0 (Zch R C2)
theorem Zgr (R:EP)(C2:World→Prop):TI prog R (sndC p2) (q1 R C2) fun z w=>b6 R C2 (z 0) w:=seqT (Zha R C2) (Zeb R C2)
noncomputable abbrev p7:Code:=blkC (fstC p2)
noncomputable abbrev p8:Code:=sndC (Zby p7)
def b14 (R:EP)(C2:World→Prop)(C12:World→Prop)(x0:Value)(w:World)(_r:Tok R:=tok R)(_C2:Tok C2:=tok C2)(_C12:Tok C12:=tok C12):Prop :=
 NILC x0 fun v1=>
 RUN prog R (fieldAt 70 v1 1) w fun v2 w3=>
 RUN prog R (loadAt 3 v2) w3 fun v4 w5=>
 RUN prog R (bins .add 3 (.tmp 30) (.const (Value.int .i64 1)) v4 (Value.int .i64 1)) w5 fun v6 w7=>
 NILC x0 fun v8=>
 RUN prog R (fieldAt 70 v8 1) w7 fun v9 w10=>
 RUNU prog R (storeAt 3 v9 v6) w10 fun w11=>
 C12  w11
abbrev q3 (R:EP)(C2:World→Prop)(C12:World→Prop):XP:=QX (fun z w=>C12  w) (r0 R) [(0,(fun z w=>b6 R C2 (z 0) w)),(1,(fun z w=>C2  w))]
theorem Zdq (R:EP)(C2:World→Prop)(C12:World→Prop):TI prog R p8 (q3 R C2 C12) fun z w=>b14 R C2 C12 (z 0) w:=ofT
noncomputable abbrev p9:Code:=fstC (Zby p7)
noncomputable abbrev p10:Code:=Zi 1 p9
def b16 (R:EP)(C2:World→Prop)(C12:World→Prop)(x0 x26:Value)(w:World)(_r:Tok R:=tok R)(_C2:Tok C2:=tok C2)(_C12:Tok C12:=tok C12):Prop :=
 SPL x26
 (b14 R C2 C12 x0 w)
 (b6 R C2 x0 w)
abbrev q4 (R:EP)(C2:World→Prop)(C12:World→Prop):XP:=QX (fun z w=>b14 R C2 C12 (z 0) w) (r0 R) [(0,(fun z w=>b6 R C2 (z 0) w)),(1,(fun z w=>C2  w))]
theorem Zex (R:EP)(C2:World→Prop)(C12:World→Prop):TI prog R p10 (q4 R C2 C12) fun z w=>b16 R C2 C12 (z 0) (z 26) w:=ofT
def b15 (R:EP)(C2:World→Prop)(C12:World→Prop)(x0:Value)(w:World)(_r:Tok R:=tok R)(_C2:Tok C2:=tok C2)(_C12:Tok C12:=tok C12):Prop :=
 NILC x0 fun v1=>
 PUR prog (fieldAt 70 v1 1) fun v2=>
 LD prog (loadAt 3 v2) (World.drew w) fun v3=>
 NILC x0 fun v4=>
 PUR prog (fieldAt 70 v4 0) fun v5=>
 LD prog (loadAt 9 v5) (World.drew w) fun v6=>
 LD prog (Builtin.len_ #[9] 3 #[v6]) (World.drew w) fun v7=>
 PUR prog (bins .lss 3 (.tmp 7) (.tmp 12) v3 v7) fun v8=>
 SPL v8
 (NILC x0 fun v9=>
 PUR prog (fieldAt 70 v9 0) fun v10=>
 LD prog (loadAt 9 v10) (World.drew w) fun v11=>
 NILC x0 fun v12=>
 PUR prog (fieldAt 70 v12 1) fun v13=>
 LD prog (loadAt 3 v13) (World.drew w) fun v14=>
 PUR prog (index 9 v11 v14) fun v15=>
 CALL prog R Zbt.id #[(Value.string ⟨#[32,9,10,13]⟩),v15] (World.drew w) fun v16 w17=>
 PUR prog (bins .geq 3 (.tmp 24) (.const (Value.int .i64 0)) v16 (Value.int .i64 0)) fun v18=>
 b16 R C2 C12 x0 v18 w17)
 (b16 R C2 C12 x0 (Value.bool false) (World.drew w))
theorem Zfl (R:EP)(C2:World→Prop)(C12:World→Prop):TI prog R p9 (q4 R C2 C12) fun z w=>b15 R C2 C12 (z 0) w:=appT 0 (Zex R C2 C12)
theorem Zia (R:EP)(C2:World→Prop)(C12:World→Prop):TI prog R (Zby p7) (q3 R C2 C12) fun z w=>b15 R C2 C12 (z 0) w:=seqT (Zfl R C2 C12) (Zdq R C2 C12)
def l12 (R:EP)(C2:World→Prop)(x0:Value)(w:World)(_r:Tok R:=tok R)(_C2:Tok C2:=tok C2):Prop :=
 ∃(J:World→Prop) (μ:World→Nat),J  w∧∀w0,J  w0→b15 R C2 (fun  w1=>J  w1∧μ  w1<μ  w0) x0 w0
abbrev q5 (R:EP)(C2:World→Prop):XP:=QX (fun z w=>b6 R C2 (z 0) w) (r0 R) [(0,(fun z w=>b6 R C2 (z 0) w)),(1,(fun z w=>C2  w))]
theorem ZZ357 (R:EP)(C2:World→Prop):TI prog R p7 (q5 R C2) fun z w=>l12 R C2 (z 0) w:=fun z w h=>by
 unfold l12 at h
 obtain ⟨J,μ,h0,hr⟩:=h
 refine Zcg (fun z' w'=>J  w') (fun z' w'=>μ  w') h0 fun z' w' hA hI=>Zia R C2 (fun  w1=>J  w1∧μ  w1<μ  w') z' w' ?_
 have h1:=hr  w' hI
 rwa [←hA.on 0]at h1
theorem l12_intro (R:EP)(C2:World→Prop)(x0:Value)(w:World)(J:World→Prop)(μ:World→Nat)(h0:J  w)
   (hr:∀w0,J  w0→∀C12:World→Prop,(∀w1,J  w1→μ  w1<μ  w0→C12  w1)→b15 R C2 C12 x0 w0):l12 R C2 x0 w:=by
 unfold l12
 exact ⟨J,μ,h0,fun  w0 hJ=>hr  w0 hJ _ (fun  w1 h1 h2=>⟨h1,h2⟩)⟩
abbrev q6 (R:EP)(C2:World→Prop):XP:=QX (fun z w=>b6 R C2 (z 0) w) (r0 R) [(1,(fun z w=>C2  w))]
theorem Zkx (R:EP)(C2:World→Prop):TI prog R (fstC p2) (q6 R C2) fun z w=>l12 R C2 (z 0) w:=Zac 0 (ZZ357 R C2)
theorem Zn1 (R:EP)(C2:World→Prop):TI prog R p2 (q1 R C2) fun z w=>l12 R C2 (z 0) w:=seqT (Zkx R C2) (Zgr R C2)
def l2 (R:EP)(x0:Value)(w:World)(_r:Tok R:=tok R):Prop :=
 ∃(J:World→Prop) (μ:World→Nat),J  w∧∀w0,J  w0→l12 R (fun  w1=>J  w1∧μ  w1<μ  w0) x0 w0
abbrev q7 (R:EP):XP:=QX (r0 R) (r0 R) []
theorem l2_ok (R:EP):TI prog R p1 (q7 R) fun z w=>l2 R (z 0) w:=fun z w h=>by
 unfold l2 at h
 obtain ⟨J,μ,h0,hr⟩:=h
 have e:Code.scope (Code.seq (Code.label 0) (sndC (ZZ184 p1)))=p1:=by kernel_rfl
 rw[←e]
 refine ZZ339 (fun z' w'=>J  w') (fun z' w'=>μ  w') h0 (ZZ106 (by kernel_rfl)) fun z' w' hA hI=>?_
 have e0:z' 0=z 0:=Ze8.at hA 0 (by kernel_rfl)
 have h1:=hr  w' hI
 rw[←e0]at h1
 exact Zn1 R (fun  w1=>J  w1∧μ  w1<μ  w') z' w' h1
theorem l2_intro (R:EP)(x0:Value)(w:World)(J:World→Prop)(μ:World→Nat)(h0:J  w)
   (hr:∀w0,J  w0→∀C2:World→Prop,(∀w1,J  w1→μ  w1<μ  w0→C2  w1)→l12 R C2 x0 w0):l2 R x0 w:=by
 unfold l2
 exact ⟨J,μ,h0,fun  w0 hJ=>hr  w0 hJ _ (fun  w1 h1 h2=>⟨h1,h2⟩)⟩
def b1 (R:EP)(x0:Value)(w:World)(_r:Tok R:=tok R):Prop :=
 l2 R x0 w
theorem Zg (R:EP):TI prog R code (q7 R) fun z w=>b1 R (z 0) w:=appT 0 (l2_ok R)
def run (R:EP)(a0:Value)(w:World):Prop:=b1 R a0 w
theorem calls (R:EP)(a0:Value)(w:World)(h:run R a0 w):Calls prog id #[a0] w R:=Zbd func43 [a0] (Zg R _ w h)
theorem enters:Enters prog id:=fun args w=>call43 args w
theorem ct {a0:Value}{w:World}{S:VP}(h:∀R:EP,(∀v w,S v w→R (.returned v) w)→run R a0 w):Ct prog id #[a0] w S :=
 Ct.intro enters fun R hR=>calls R a0 w (h R hR)
attribute [irreducible] b5 b9 b8 b10 b7 b6 b14 b16 b15 l12 l2 b1 run
end Zn
namespace Zk
noncomputable def code:Code:=Zm f44
noncomputable abbrev p1:Code:=Zi 2 code
def b3 (R:EP)(x2 x4:Value)(w:World)(_r:Tok R:=tok R):Prop :=
 RUN prog R (loadAt 73 x4) w fun v1 w2=>
 RUNU prog R (storeAt 73 x2 v1) w2 fun w3=>
 LD prog (loadAt 73 x2) w3 fun r0=>R (.returned (.tuple #[r0,(Value.bool false)])) w3
abbrev r0 (R:EP)(z:Env)(w:World):Prop:=LD prog (loadAt 73 (z 2)) w fun r0=>R (.returned (.tuple #[r0,(z 3)])) w
abbrev q1 (R:EP):XP:=QX (r0 R) (r0 R) []
theorem Zbi (R:EP):TI prog R (sndC p1) (q1 R) fun z w=>b3 R (z 2) (z 4) w:=ofT
noncomputable abbrev p2:Code:=Zi 1 (fstC p1)
noncomputable abbrev p3:Code:=Zi 1 (blkC p2)
def b8 (R:EP)(x0 x2 x4 x5:Value)(w:World)(_r:Tok R:=tok R):Prop :=
 NILC x0 fun v1=>
 RUN prog R (fieldAt 70 v1 1) w fun v2 w3=>
 RUN prog R (loadAt 3 v2) w3 fun v4 w5=>
 RUN prog R (bins .add 3 (.tmp 28) (.const (Value.int .i64 1)) v4 (Value.int .i64 1)) w5 fun v6 w7=>
 NILC x0 fun v8=>
 RUN prog R (fieldAt 70 v8 1) w7 fun v9 w10=>
 RUNU prog R (storeAt 3 v9 v6) w10 fun w11=>
 RUN prog R (convert 5 9 x5) w11 fun v12 w13=>
 RUN prog R (fieldAt 73 x4 0) w13 fun v14 w15=>
 RUNU prog R (storeAt 3 v14 (Value.int .i64 4)) w15 fun w16=>
 RUN prog R (fieldAt 73 x4 1) w16 fun v17 w18=>
 RUNU prog R (storeAt 9 v17 v12) w18 fun w19=>
 RUN prog R (loadAt 73 x4) w19 fun v20 w21=>
 RUNU prog R (storeAt 73 x2 v20) w21 fun w22=>
 LD prog (loadAt 73 x2) w22 fun r0=>R (.returned (.tuple #[r0,(Value.bool true)])) w22
abbrev q2 (R:EP):XP:=QX (fun z w=>b3 R (z 2) (z 4) w) (r0 R) [(0,(fun z w=>b3 R (z 2) (z 4) w))]
theorem Zhr (R:EP):TI prog R (thnC p3) (q2 R) fun z w=>b8 R (z 0) (z 2) (z 4) (z 5) w:=ofT
noncomputable abbrev p4:Code:=Zi 1 (elsC p3)
def b11 (R:EP)(x0 x2 x4:Value)(w:World)(_r:Tok R:=tok R):Prop :=
 CALL prog R Za4.id #[x0] w fun v1 w2=>
 RUN prog R (fieldAt 73 x4 0) w2 fun v3 w4=>
 RUNU prog R (storeAt 3 v3 (Value.int .i64 3)) w4 fun w5=>
 RUN prog R (fieldAt 73 x4 1) w5 fun v6 w7=>
 RUNU prog R (storeAt 9 v6 v1) w7 fun w8=>
 LD prog (loadAt 73 x4) (World.drew w8) fun v9=>
 LD prog (loadAt 23 (Value.pointer (some ⟨0,0,none⟩))) (World.drew w8) fun v10=>
 PUR prog (fieldAt 73 x4 1) fun v11=>
 LD prog (loadAt 9 v11) (World.drew w8) fun v12=>
 CALL prog R Zat.id #[v10,v12] (World.drew w8) fun v13 w14=>
 Sem.run prog (loadAt 73 x4) w14 = .ok v9 w14∧(RUNU prog R (storeAt 73 x2 v9) w14 fun w15=>
 LD prog (loadAt 73 x2) w15 fun r0=>R (.returned (.tuple #[r0,v13])) w15)
theorem Zdb (R:EP):TI prog R (thnC p4) (q2 R) fun z w=>b11 R (z 0) (z 2) (z 4) w:=ofT
noncomputable abbrev p5:Code:=Zi 1 (elsC p4)
noncomputable abbrev p6:Code:=Zi 3 (thnC p5)
noncomputable abbrev p7:Code:=Zi 1 p6
def b16 (R:EP)(x2 x4 x6:Value)(w:World)(_r:Tok R:=tok R):Prop :=
 RUN prog R (loadAt 73 x4) w fun v1 w2=>
 RUNU prog R (storeAt 73 x2 v1) w2 fun w3=>
 LD prog (loadAt 73 x2) w3 fun r0=>R (.returned (.tuple #[r0,x6])) w3
theorem Zex (R:EP):TI prog R p7 (q2 R) fun z w=>b16 R (z 2) (z 4) (z 6) w:=ofT
def b15 (R:EP)(x0 x2 x4 x6:Value)(w:World)(_r:Tok R:=tok R):Prop :=
 SPL x6
 (NILC x0 fun v1=>
 RUN prog R (fieldAt 70 v1 1) w fun v2 w3=>
 RUN prog R (loadAt 3 v2) w3 fun v4 w5=>
 RUN prog R (bins .add 3 (.tmp 74) (.const (Value.int .i64 1)) v4 (Value.int .i64 1)) w5 fun v6 w7=>
 NILC x0 fun v8=>
 RUN prog R (fieldAt 70 v8 1) w7 fun v9 w10=>
 RUNU prog R (storeAt 3 v9 v6) w10 fun w11=>
 b16 R x2 x4 x6 w11)
 (b16 R x2 x4 x6 w)
theorem Zfl (R:EP):TI prog R p6 (q2 R) fun z w=>b15 R (z 0) (z 2) (z 4) (z 6) w:=appT 0 (Zex R)
def b14 (R:EP)(x0 x2 x4:Value)(w:World)(_r:Tok R:=tok R):Prop :=
 NILC x0 fun v1=>
 RUN prog R (fieldAt 70 v1 1) w fun v2 w3=>
 RUN prog R (loadAt 3 v2) w3 fun v4 w5=>
 RUN prog R (bins .add 3 (.tmp 55) (.const (Value.int .i64 1)) v4 (Value.int .i64 1)) w5 fun v6 w7=>
 NILC x0 fun v8=>
 RUN prog R (fieldAt 70 v8 1) w7 fun v9 w10=>
 RUNU prog R (storeAt 3 v9 v6) w10 fun w11=>
 CALL prog R Zaj.id #[x0,(Value.func (.func Ze3.id) #[] #[]),(Value.int .i64 16)] w11 fun v12 w13=>
 RUN prog R (fieldAt 73 x4 0) w13 fun v14 w15=>
 RUNU prog R (storeAt 3 v14 (Value.int .i64 2)) w15 fun w16=>
 RUN prog R (fieldAt 73 x4 1) w16 fun v17 w18=>
 RUNU prog R (storeAt 9 v17 v12) w18 fun w19=>
 RUN prog R (fieldAt 73 x4 1) w19 fun v20 w21=>
 RUN prog R (loadAt 9 v20) w21 fun v22 w23=>
 RUN prog R (bins .neq 9 (.tmp 64) (.const (Value.string ⟨#[]⟩)) v22 (Value.string ⟨#[]⟩)) w23 fun v24 w25=>
 SPL v24
 (CALL prog R Zbr.id #[x0,(Value.func (.func Zb5.id) #[] #[])] w25 fun v26 w27=>
 b15 R x0 x2 x4 v26 w27)
 (b15 R x0 x2 x4 (Value.bool false) w25)
theorem Zdq (R:EP):TI prog R (thnC p5) (q2 R) fun z w=>b14 R (z 0) (z 2) (z 4) w:=appT 2 (Zfl R)
noncomputable abbrev p8:Code:=Zi 1 (elsC p5)
def b18 (R:EP)(x0 x2 x4 x80:Value)(w:World)(_r:Tok R:=tok R):Prop :=
 SPL x80
 (CALL prog R Zaj.id #[x0,(Value.func (.func Zer.id) #[] #[]),(Value.int .i64 16)] w fun v1 w2=>
 RUN prog R (fieldAt 73 x4 0) w2 fun v3 w4=>
 RUNU prog R (storeAt 3 v3 (Value.int .i64 1)) w4 fun w5=>
 RUN prog R (fieldAt 73 x4 1) w5 fun v6 w7=>
 RUNU prog R (storeAt 9 v6 v1) w7 fun w8=>
 LD prog (loadAt 73 x4) (World.drew w8) fun v9=>
 CALL prog R Zbr.id #[x0,(Value.func (.func Zer.id) #[] #[])] (World.drew w8) fun v10 w11=>
 Sem.run prog (loadAt 73 x4) w11 = .ok v9 w11∧(PUR prog (Op.unary .not v10) fun v12=>
 RUNU prog R (storeAt 73 x2 v9) w11 fun w13=>
 LD prog (loadAt 73 x2) w13 fun r0=>R (.returned (.tuple #[r0,v12])) w13))
 (b3 R x2 x4 w)
theorem Zfe (R:EP):TI prog R p8 (q2 R) fun z w=>b18 R (z 0) (z 2) (z 4) (z 80) w:=ofT
def b17 (R:EP)(x0 x2 x4 x5:Value)(w:World)(_r:Tok R:=tok R):Prop :=
 CALL prog R Zdv.id #[x5] w fun v1 w2=>
 SPL v1
 (b18 R x0 x2 x4 (Value.bool true) w2)
 (RUN prog R (bins .eql 5 (.tmp 84) (.const (Value.int .u8 95)) x5 (Value.int .u8 95)) w2 fun v3 w4=>
 b18 R x0 x2 x4 v3 w4)
theorem Zgx (R:EP):TI prog R (elsC p5) (q2 R) fun z w=>b17 R (z 0) (z 2) (z 4) (z 5) w:=appT 0 (Zfe R)
def b13 (R:EP)(x0 x2 x4 x5 x49:Value)(w:World)(_r:Tok R:=tok R):Prop :=
 SPL x49 (b14 R x0 x2 x4 w) (b17 R x0 x2 x4 x5 w)
theorem Zgc (R:EP):TI prog R p5 (q2 R) fun z w=>b13 R (z 0) (z 2) (z 4) (z 5) (z 49) w:=fun z w h=>by
 have e:Code.cond (.tmp 49) (thnC p5) (elsC p5)=p5:=by kernel_rfl
 rw[←e]
 exact Znh h (fun h=>Zdq R z w h) (fun h=>Zgx R z w h)
def b12 (R:EP)(x0 x2 x4 x5:Value)(w:World)(_r:Tok R:=tok R):Prop :=
 RUN prog R (bins .eql 5 (.tmp 50) (.const (Value.int .u8 39)) x5 (Value.int .u8 39)) w fun v1 w2=>
 b13 R x0 x2 x4 x5 v1 w2
theorem Zed (R:EP):TI prog R (elsC p4) (q2 R) fun z w=>b12 R (z 0) (z 2) (z 4) (z 5) w:=appT 0 (Zgc R)
def b10 (R:EP)(x0 x2 x4 x5 x37:Value)(w:World)(_r:Tok R:=tok R):Prop :=
 SPL x37 (b11 R x0 x2 x4 w) (b12 R x0 x2 x4 x5 w)
theorem Zef (R:EP):TI prog R p4 (q2 R) fun z w=>b10 R (z 0) (z 2) (z 4) (z 5) (z 37) w:=fun z w h=>by
 have e:Code.cond (.tmp 37) (thnC p4) (elsC p4)=p4:=by kernel_rfl
 rw[←e]
 exact Znh h (fun h=>Zdb R z w h) (fun h=>Zed R z w h)
def b9 (R:EP)(x0 x2 x4 x5:Value)(w:World)(_r:Tok R:=tok R):Prop :=
 RUN prog R (bins .eql 5 (.tmp 38) (.const (Value.int .u8 37)) x5 (Value.int .u8 37)) w fun v1 w2=>
 b10 R x0 x2 x4 x5 v1 w2
theorem Zei (R:EP):TI prog R (elsC p3) (q2 R) fun z w=>b9 R (z 0) (z 2) (z 4) (z 5) w:=appT 0 (Zef R)
def b7 (R:EP)(x0 x2 x4 x5 x21:Value)(w:World)(_r:Tok R:=tok R):Prop :=
 SPL x21 (b8 R x0 x2 x4 x5 w) (b9 R x0 x2 x4 x5 w)
theorem Zch (R:EP):TI prog R p3 (q2 R) fun z w=>b7 R (z 0) (z 2) (z 4) (z 5) (z 21) w:=fun z w h=>by
 have e:Code.cond (.tmp 21) (thnC p3) (elsC p3)=p3:=by kernel_rfl
 rw[←e]
 exact Znh h (fun h=>Zhr R z w h) (fun h=>Zei R z w h)
def b6 (R:EP)(x0 x2 x4 x5:Value)(w:World)(_r:Tok R:=tok R):Prop :=
 CALL prog R Zbt.id #[(Value.string ⟨#[58,124,59]⟩),x5] w fun v1 w2=>
 RUN prog R (bins .geq 3 (.tmp 23) (.const (Value.int .i64 0)) v1 (Value.int .i64 0)) w2 fun v3 w4=>
 b7 R x0 x2 x4 x5 v3 w4
theorem Zha (R:EP):TI prog R (blkC p2) (q2 R) fun z w=>b6 R (z 0) (z 2) (z 4) (z 5) w:=appT 0 (Zch R)
abbrev q3 (R:EP):XP:=QX (fun z w=>b3 R (z 2) (z 4) w) (r0 R) []
theorem Zda (R:EP):TI prog R p2 (q3 R) fun z w=>b6 R (z 0) (z 2) (z 4) (z 5) w:=Zac 0 (Zha R)
def b4 (R:EP)(x0 x2 x4:Value)(w:World)(_r:Tok R:=tok R):Prop :=
 NILC x0 fun v1=>
 PUR prog (fieldAt 70 v1 0) fun v2=>
 LD prog (loadAt 9 v2) (World.drew w) fun v3=>
 NILC x0 fun v4=>
 PUR prog (fieldAt 70 v4 1) fun v5=>
 LD prog (loadAt 3 v5) (World.drew w) fun v6=>
 PUR prog (index 9 v3 v6) fun v7=>
 b6 R x0 x2 x4 v7 (World.drew w)
theorem Zbs (R:EP):TI prog R (fstC p1) (q3 R) fun z w=>b4 R (z 0) (z 2) (z 4) w:=appT 0 (Zda R)
theorem Za6 (R:EP):TI prog R p1 (q1 R) fun z w=>b4 R (z 0) (z 2) (z 4) w:=seqT (Zbs R) (Zbi R)
def b1 (R:EP)(x0:Value)(w:World)(_r:Tok R:=tok R):Prop :=
 RUN prog R (alloc 73 true (.tuple #[])) w fun v1 w2=>
 NILC x0 fun v3=>
 RUN prog R (fieldAt 70 v3 1) w2 fun v4 w5=>
 RUN prog R (loadAt 3 v4) w5 fun v6 w7=>
 RUN prog R (build 73 #[(2,v6)]) w7 fun v8 w9=>
 RUN prog R (alloc 73 true (.tuple #[])) w9 fun v10 w11=>
 RUNU prog R (storeAt 73 v10 v8) w11 fun w12=>
 b4 R x0 v1 v10 w12
theorem Zg (R:EP):TI prog R code (q1 R) fun z w=>b1 R (z 0) w:=appT 1 (Za6 R)
def run (R:EP)(a0:Value)(w:World):Prop:=b1 R a0 w
theorem calls (R:EP)(a0:Value)(w:World)(h:run R a0 w):Calls prog id #[a0] w R :=
 Zop (f:=id) (fn:=f44) (c:=code) (by kernel_rfl) func44 (by kernel_rfl) (by kernel_rfl) (args:=[a0]) (Nat.le_of_ble_eq_true rfl) rfl (Zg R (Zfn [a0]) w h)
theorem enters:Enters prog id:=fun args w=>call44 args w
theorem ct {a0:Value}{w:World}{S:VP}(h:∀R:EP,(∀v w,S v w→R (.returned v) w)→run R a0 w):Ct prog id #[a0] w S :=
 Ct.intro enters fun R hR=>calls R a0 w (h R hR)
attribute [irreducible] b3 b8 b11 b16 b15 b14 b18 b17 b13 b12 b10 b9 b7 b6 b4 b1 run
end Zk
namespace Zey
noncomputable def code:Code:=Zm f45
noncomputable abbrev p1:Code:=Zi 2 code
def b2 (R:EP)(x1:Value)(w:World)(_r:Tok R:=tok R):Prop :=
 RUN prog R (makeFunc (.func Zcn.id) #[] #[x1]) w fun v1 w2=>
 R (.returned v1) w2
abbrev r0 (R:EP)(z:Env)(w:World):Prop:=R (.returned (z 2)) w
abbrev q1 (R:EP):XP:=QX (r0 R) (r0 R) []
theorem Zj1 (R:EP):TI prog R p1 (q1 R) fun z w=>b2 R (z 1) w:=ofT
def b1 (R:EP)(x0:Value)(w:World)(_r:Tok R:=tok R):Prop :=
 RUN prog R (box 9 x0) w fun v1 w2=>
 RUN prog R (loadAt 9 v1) w2 fun v3 w4=>
 RUN prog R (Builtin.len_ #[9] 3 #[v3]) w4 fun v5 w6=>
 RUN prog R (bins .gtr 3 (.tmp 4) (.const (Value.int .i64 8192)) v5 (Value.int .i64 8192)) w6 fun v7 w8=>
 SPL v7
 (RUNU prog R (storeAt 9 v1 (Value.string ⟨#[]⟩)) w8 fun w9=>
 b2 R v1 w9)
 (b2 R v1 w8)
theorem Zg (R:EP):TI prog R code (q1 R) fun z w=>b1 R (z 0) w:=appT 1 (Zj1 R)
def run (R:EP)(a0:Value)(w:World):Prop:=b1 R a0 w
theorem calls (R:EP)(a0:Value)(w:World)(h:run R a0 w):Calls prog id #[a0] w R:=Zbd func45 [a0] (Zg R _ w h)
theorem enters:Enters prog id:=fun args w=>call45 args w
theorem ct {a0:Value}{w:World}{S:VP}(h:∀R:EP,(∀v w,S v w→R (.returned v) w)→run R a0 w):Ct prog id #[a0] w S :=
 Ct.intro enters fun R hR=>calls R a0 w (h R hR)
attribute [irreducible] b2 b1 run
end Zey
namespace Zbt
noncomputable def code:Code:=Zm f64
def b1 (R:EP)(x0 x1:Value)(w:World)(_r:Tok R:=tok R):Prop :=
 CALL prog R Zap.id #[x0,x1] w fun v1 w2=>
 R (.returned v1) w2
abbrev r0 (R:EP)(z:Env)(w:World):Prop:=R (.returned (z 4)) w
abbrev q1 (R:EP):XP:=QX (r0 R) (r0 R) []
theorem Zg (R:EP):TI prog R code (q1 R) fun z w=>b1 R (z 0) (z 1) w:=ofT
def run (R:EP)(a0 a1:Value)(w:World):Prop:=b1 R a0 a1 w
theorem calls (R:EP)(a0 a1:Value)(w:World)(h:run R a0 a1 w):Calls prog id #[a0,a1] w R:=Zbd func64 [a0,a1] (Zg R _ w h)
theorem enters:Enters prog id:=fun args w=>call64 args w
theorem ct {a0 a1:Value}{w:World}{S:VP}(h:∀R:EP,(∀v w,S v w→R (.returned v) w)→run R a0 a1 w):Ct prog id #[a0,a1] w S :=
 Ct.intro enters fun R hR=>calls R a0 a1 w (h R hR)
attribute [irreducible] b1 run
end Zbt
namespace Za4
noncomputable def code:Code:=Zm f65
noncomputable abbrev p1:Code:=Zi 2 code
def b3 (R:EP)(x1 x3:Value)(w:World)(_r:Tok R:=tok R):Prop :=
 LD prog (loadAt 68 x1) (World.drew w) fun v1=>
 NILC v1 fun v2=>
 PUR prog (fieldAt 70 v2 0) fun v3=>
 LD prog (loadAt 9 v3) (World.drew w) fun v4=>
 LD prog (loadAt 3 x3) (World.drew w) fun v5=>
 LD prog (loadAt 68 x1) (World.drew w) fun v6=>
 NILC v6 fun v7=>
 PUR prog (fieldAt 70 v7 1) fun v8=>
 LD prog (loadAt 3 v8) (World.drew w) fun v9=>
 PUR prog (sliceAt 9 v4 (some v5) (some v9) none) fun v10=>
 R (.returned v10) (World.drew w)
abbrev r0 (R:EP)(z:Env)(w:World):Prop:=R (.returned (z 2)) w
abbrev q1 (R:EP):XP:=QX (r0 R) (r0 R) []
theorem Zbi (R:EP):TI prog R (sndC p1) (q1 R) fun z w=>b3 R (z 1) (z 3) w:=ofT
noncomputable abbrev p2:Code:=Zi 1 (fstC p1)
noncomputable abbrev p3:Code:=Zby (blkC p2)
def b7 (R:EP)(C6:World→Prop)(x1 x3:Value)(w:World)(_r:Tok R:=tok R)(_C6:Tok C6:=tok C6):Prop :=
 RUN prog R (loadAt 68 x1) w fun v1 w2=>
 CALL prog R Zbr.id #[v1,(Value.func (.func Zdv.id) #[] #[])] w2 fun v3 w4=>
 SPL v3
 (RUN prog R (loadAt 23 (Value.pointer (some ⟨0,0,none⟩))) w4 fun v5 w6=>
 RUN prog R (makeFunc (.func Zbx.id) #[] #[x1,x3]) w6 fun v7 w8=>
 CALL prog R Zl.id #[v5,v7] w8 fun v9 w10=>
 RUN prog R (Op.unary .not v9) w10 fun v11 w12=>
 SPL v11
 (R (.returned (Value.string ⟨#[]⟩)) w12)
 (RUN prog R (loadAt 68 x1) w12 fun v13 w14=>
 NILC v13 fun v15=>
 RUN prog R (fieldAt 70 v15 1) w14 fun v16 w17=>
 RUN prog R (loadAt 3 v16) w17 fun v18 w19=>
 RUN prog R (bins .add 3 (.tmp 20) (.const (Value.int .i64 1)) v18 (Value.int .i64 1)) w19 fun v20 w21=>
 NILC v13 fun v22=>
 RUN prog R (fieldAt 70 v22 1) w21 fun v23 w24=>
 RUNU prog R (storeAt 3 v23 v20) w24 fun w25=>
 C6  w25))
 (b3 R x1 x3 w4)
abbrev q2 (R:EP)(C6:World→Prop):XP:=QX (fun z w=>C6  w) (r0 R) [(0,(fun z w=>b3 R (z 1) (z 3) w))]
theorem Zch (R:EP)(C6:World→Prop):TI prog R p3 (q2 R C6) fun z w=>b7 R C6 (z 1) (z 3) w:=ofT
def l6 (R:EP)(x1 x3:Value)(w:World)(_r:Tok R:=tok R):Prop :=
 ∃(J:World→Prop) (μ:World→Nat),J  w∧∀w0,J  w0→b7 R (fun  w1=>J  w1∧μ  w1<μ  w0) x1 x3 w0
abbrev q3 (R:EP):XP:=QX (fun z w=>b3 R (z 1) (z 3) w) (r0 R) [(0,(fun z w=>b3 R (z 1) (z 3) w))]
theorem Zdz (R:EP):TI prog R (blkC p2) (q3 R) fun z w=>l6 R (z 1) (z 3) w:=fun z w h=>by
 unfold l6 at h
 obtain ⟨J,μ,h0,hr⟩:=h
 refine Zcg (fun z' w'=>J  w') (fun z' w'=>μ  w') h0 fun z' w' hA hI=>Zch R (fun  w1=>J  w1∧μ  w1<μ  w') z' w' ?_
 have h1:=hr  w' hI
 rwa [←hA.on 1,←hA.on 3]at h1
theorem l6_intro (R:EP)(x1 x3:Value)(w:World)(J:World→Prop)(μ:World→Nat)(h0:J  w)
   (hr:∀w0,J  w0→∀C6:World→Prop,(∀w1,J  w1→μ  w1<μ  w0→C6  w1)→b7 R C6 x1 x3 w0):l6 R x1 x3 w:=by
 unfold l6
 exact ⟨J,μ,h0,fun  w0 hJ=>hr  w0 hJ _ (fun  w1 h1 h2=>⟨h1,h2⟩)⟩
abbrev q4 (R:EP):XP:=QX (fun z w=>b3 R (z 1) (z 3) w) (r0 R) []
theorem Zda (R:EP):TI prog R p2 (q4 R) fun z w=>l6 R (z 1) (z 3) w:=Zac 0 (Zdz R)
def b4 (R:EP)(x1 x3:Value)(w:World)(_r:Tok R:=tok R):Prop :=
 RUN prog R (loadAt 68 x1) w fun v1 w2=>
 NILC v1 fun v3=>
 RUN prog R (fieldAt 70 v3 1) w2 fun v4 w5=>
 RUN prog R (loadAt 3 v4) w5 fun v6 w7=>
 RUN prog R (bins .add 3 (.tmp 11) (.const (Value.int .i64 1)) v6 (Value.int .i64 1)) w7 fun v8 w9=>
 NILC v1 fun v10=>
 RUN prog R (fieldAt 70 v10 1) w9 fun v11 w12=>
 RUNU prog R (storeAt 3 v11 v8) w12 fun w13=>
 l6 R x1 x3 w13
theorem Zbs (R:EP):TI prog R (fstC p1) (q4 R) fun z w=>b4 R (z 1) (z 3) w:=appT 0 (Zda R)
theorem Za6 (R:EP):TI prog R p1 (q1 R) fun z w=>b4 R (z 1) (z 3) w:=seqT (Zbs R) (Zbi R)
def b1 (R:EP)(x0:Value)(w:World)(_r:Tok R:=tok R):Prop :=
 RUN prog R (box 68 x0) w fun v1 w2=>
 RUN prog R (loadAt 68 v1) w2 fun v3 w4=>
 NILC v3 fun v5=>
 RUN prog R (fieldAt 70 v5 1) w4 fun v6 w7=>
 RUN prog R (loadAt 3 v6) w7 fun v8 w9=>
 RUN prog R (alloc 3 true (.tuple #[])) w9 fun v10 w11=>
 RUNU prog R (storeAt 3 v10 v8) w11 fun w12=>
 b4 R v1 v10 w12
theorem Zg (R:EP):TI prog R code (q1 R) fun z w=>b1 R (z 0) w:=appT 1 (Za6 R)
def run (R:EP)(a0:Value)(w:World):Prop:=b1 R a0 w
theorem calls (R:EP)(a0:Value)(w:World)(h:run R a0 w):Calls prog id #[a0] w R:=Zbd func65 [a0] (Zg R _ w h)
theorem enters:Enters prog id:=fun args w=>call65 args w
theorem ct {a0:Value}{w:World}{S:VP}(h:∀R:EP,(∀v w,S v w→R (.returned v) w)→run R a0 w):Ct prog id #[a0] w S :=
 Ct.intro enters fun R hR=>calls R a0 w (h R hR)
attribute [irreducible] b3 b7 l6 b4 b1 run
end Za4
namespace Zat
noncomputable def code:Code:=Zm f66
def b1 (R:EP)(x0 x1:Value)(w:World)(_r:Tok R:=tok R):Prop :=
 CALL prog R Zw.id #[x0,x1] w fun v1 w2=>
 RUN prog R (bins .geq 3 (.tmp 7) (.const (Value.int .i64 0)) v1 (Value.int .i64 0)) w2 fun v3 w4=>
 R (.returned v3) w4
abbrev r0 (R:EP)(z:Env)(w:World):Prop:=R (.returned (z 4)) w
abbrev q1 (R:EP):XP:=QX (r0 R) (r0 R) []
theorem Zg (R:EP):TI prog R code (q1 R) fun z w=>b1 R (z 0) (z 1) w:=ofT
def run (R:EP)(a0 a1:Value)(w:World):Prop:=b1 R a0 a1 w
theorem calls (R:EP)(a0 a1:Value)(w:World)(h:run R a0 a1 w):Calls prog id #[a0,a1] w R:=Zbd func66 [a0,a1] (Zg R _ w h)
theorem enters:Enters prog id:=fun args w=>call66 args w
theorem ct {a0 a1:Value}{w:World}{S:VP}(h:∀R:EP,(∀v w,S v w→R (.returned v) w)→run R a0 a1 w):Ct prog id #[a0,a1] w S :=
 Ct.intro enters fun R hR=>calls R a0 a1 w (h R hR)
attribute [irreducible] b1 run
end Zat
namespace Zaj
noncomputable def code:Code:=Zm f67
noncomputable abbrev p1:Code:=Zi 2 code
def b3 (R:EP)(x0 x7:Value)(w:World)(_r:Tok R:=tok R):Prop :=
 NILC x0 fun v1=>
 PUR prog (fieldAt 70 v1 0) fun v2=>
 LD prog (loadAt 9 v2) (World.drew w) fun v3=>
 NILC x0 fun v4=>
 PUR prog (fieldAt 70 v4 1) fun v5=>
 LD prog (loadAt 3 v5) (World.drew w) fun v6=>
 PUR prog (sliceAt 9 v3 (some x7) (some v6) none) fun v7=>
 R (.returned v7) (World.drew w)
abbrev r0 (R:EP)(z:Env)(w:World):Prop:=R (.returned (z 6)) w
abbrev q1 (R:EP):XP:=QX (r0 R) (r0 R) []
theorem Zbi (R:EP):TI prog R (sndC p1) (q1 R) fun z w=>b3 R (z 0) (z 7) w:=ofT
noncomputable abbrev p2:Code:=blkC (fstC p1)
noncomputable abbrev p3:Code:=sndC (Zby p2)
def b7 (R:EP)(C5:World→Prop)(x0:Value)(w:World)(_r:Tok R:=tok R)(_C5:Tok C5:=tok C5):Prop :=
 NILC x0 fun v1=>
 RUN prog R (fieldAt 70 v1 1) w fun v2 w3=>
 RUN prog R (loadAt 3 v2) w3 fun v4 w5=>
 RUN prog R (bins .add 3 (.tmp 48) (.const (Value.int .i64 1)) v4 (Value.int .i64 1)) w5 fun v6 w7=>
 NILC x0 fun v8=>
 RUN prog R (fieldAt 70 v8 1) w7 fun v9 w10=>
 RUNU prog R (storeAt 3 v9 v6) w10 fun w11=>
 C5  w11
abbrev q2 (R:EP)(C5:World→Prop):XP:=QX (fun z w=>C5  w) (r0 R) [(0,(fun z w=>b3 R (z 0) (z 7) w))]
theorem Zch (R:EP)(C5:World→Prop):TI prog R p3 (q2 R C5) fun z w=>b7 R C5 (z 0) w:=ofT
noncomputable abbrev p4:Code:=fstC (Zby p2)
noncomputable abbrev p5:Code:=Zi 1 p4
def b9 (R:EP)(C5:World→Prop)(x0 x7 x44:Value)(w:World)(_r:Tok R:=tok R)(_C5:Tok C5:=tok C5):Prop :=
 SPL x44
 (b7 R C5 x0 w)
 (b3 R x0 x7 w)
abbrev q3 (R:EP)(C5:World→Prop):XP:=QX (fun z w=>b7 R C5 (z 0) w) (r0 R) [(0,(fun z w=>b3 R (z 0) (z 7) w))]
theorem Zei (R:EP)(C5:World→Prop):TI prog R p5 (q3 R C5) fun z w=>b9 R C5 (z 0) (z 7) (z 44) w:=ofT
def b8 (R:EP)(C5:World→Prop)(x0 x1 x2 x7:Value)(w:World)(_r:Tok R:=tok R)(_C5:Tok C5:=tok C5):Prop :=
 NILC x0 fun v1=>
 PUR prog (fieldAt 70 v1 1) fun v2=>
 LD prog (loadAt 3 v2) (World.drew w) fun v3=>
 NILC x0 fun v4=>
 PUR prog (fieldAt 70 v4 0) fun v5=>
 LD prog (loadAt 9 v5) (World.drew w) fun v6=>
 LD prog (Builtin.len_ #[9] 3 #[v6]) (World.drew w) fun v7=>
 PUR prog (bins .lss 3 (.tmp 15) (.tmp 20) v3 v7) fun v8=>
 SPL v8
 (NILC x0 fun v9=>
 PUR prog (fieldAt 70 v9 1) fun v10=>
 LD prog (loadAt 3 v10) (World.drew w) fun v11=>
 PUR prog (bins .sub 3 (.tmp 26) (.tmp 27) v11 x7) fun v12=>
 PUR prog (bins .lss 3 (.tmp 28) (.tmp 29) v12 x2) fun v13=>
 SPL v13
 (NILC x0 fun v14=>
 PUR prog (fieldAt 70 v14 0) fun v15=>
 LD prog (loadAt 9 v15) (World.drew w) fun v16=>
 NILC x0 fun v17=>
 PUR prog (fieldAt 70 v17 1) fun v18=>
 LD prog (loadAt 3 v18) (World.drew w) fun v19=>
 PUR prog (index 9 v16 v19) fun v20=>
 Zsv prog R x1 [v20] (World.drew w) fun v21 w22=>
 b9 R C5 x0 x7 v21 w22)
 (b9 R C5 x0 x7 (Value.bool false) (World.drew w)))
 (b9 R C5 x0 x7 (Value.bool false) (World.drew w))
theorem Zhr (R:EP)(C5:World→Prop):TI prog R p4 (q3 R C5) fun z w=>b8 R C5 (z 0) (z 1) (z 2) (z 7) w:=appT 0 (Zei R C5)
theorem Zjt (R:EP)(C5:World→Prop):TI prog R (Zby p2) (q2 R C5) fun z w=>b8 R C5 (z 0) (z 1) (z 2) (z 7) w:=seqT (Zhr R C5) (Zch R C5)
def l5 (R:EP)(x0 x1 x2 x7:Value)(w:World)(_r:Tok R:=tok R):Prop :=
 ∃(J:World→Prop) (μ:World→Nat),J  w∧∀w0,J  w0→b8 R (fun  w1=>J  w1∧μ  w1<μ  w0) x0 x1 x2 x7 w0
abbrev q4 (R:EP):XP:=QX (fun z w=>b3 R (z 0) (z 7) w) (r0 R) [(0,(fun z w=>b3 R (z 0) (z 7) w))]
theorem ZZ29 (R:EP):TI prog R p2 (q4 R) fun z w=>l5 R (z 0) (z 1) (z 2) (z 7) w:=fun z w h=>by
 unfold l5 at h
 obtain ⟨J,μ,h0,hr⟩:=h
 refine Zcg (fun z' w'=>J  w') (fun z' w'=>μ  w') h0 fun z' w' hA hI=>Zjt R (fun  w1=>J  w1∧μ  w1<μ  w') z' w' ?_
 have h1:=hr  w' hI
 rwa [←hA.on 0,←hA.on 1,←hA.on 2,←hA.on 7]at h1
theorem l5_intro (R:EP)(x0 x1 x2 x7:Value)(w:World)(J:World→Prop)(μ:World→Nat)(h0:J  w)
   (hr:∀w0,J  w0→∀C5:World→Prop,(∀w1,J  w1→μ  w1<μ  w0→C5  w1)→b8 R C5 x0 x1 x2 x7 w0):l5 R x0 x1 x2 x7 w:=by
 unfold l5
 exact ⟨J,μ,h0,fun  w0 hJ=>hr  w0 hJ _ (fun  w1 h1 h2=>⟨h1,h2⟩)⟩
abbrev q5 (R:EP):XP:=QX (fun z w=>b3 R (z 0) (z 7) w) (r0 R) []
theorem Zgr (R:EP):TI prog R (fstC p1) (q5 R) fun z w=>l5 R (z 0) (z 1) (z 2) (z 7) w:=Zac 0 (ZZ29 R)
theorem Za6 (R:EP):TI prog R p1 (q1 R) fun z w=>l5 R (z 0) (z 1) (z 2) (z 7) w:=seqT (Zgr R) (Zbi R)
def b1 (R:EP)(x0 x1 x2:Value)(w:World)(_r:Tok R:=tok R):Prop :=
 NILC x0 fun v1=>
 RUN prog R (fieldAt 70 v1 1) w fun v2 w3=>
 RUN prog R (loadAt 3 v2) w3 fun v4 w5=>
 l5 R x0 x1 x2 v4 w5
theorem Zg (R:EP):TI prog R code (q1 R) fun z w=>b1 R (z 0) (z 1) (z 2) w:=appT 1 (Za6 R)
def run (R:EP)(a0 a1 a2:Value)(w:World):Prop:=b1 R a0 a1 a2 w
theorem calls (R:EP)(a0 a1 a2:Value)(w:World)(h:run R a0 a1 a2 w):Calls prog id #[a0,a1,a2] w R:=Zbd func67 [a0,a1,a2] (Zg R _ w h)
theorem enters:Enters prog id:=fun args w=>call67 args w
theorem ct {a0 a1 a2:Value}{w:World}{S:VP}(h:∀R:EP,(∀v w,S v w→R (.returned v) w)→run R a0 a1 a2 w):Ct prog id #[a0,a1,a2] w S :=
 Ct.intro enters fun R hR=>calls R a0 a1 a2 w (h R hR)
attribute [irreducible] b3 b7 b9 b8 l5 b1 run
end Zaj
namespace Ze3
noncomputable def code:Code:=Zm f68
def b1 (R:EP)(x0:Value)(w:World)(_r:Tok R:=tok R):Prop :=
 RUN prog R (bins .leq 5 (.const (Value.int .u8 32)) (.tmp 3) (Value.int .u8 32) x0) w fun v1 w2=>
 SPL v1
 (RUN prog R (bins .leq 5 (.tmp 6) (.const (Value.int .u8 126)) x0 (Value.int .u8 126)) w2 fun v3 w4=>
 SPL v3
 (RUN prog R (bins .neq 5 (.tmp 10) (.const (Value.int .u8 39)) x0 (Value.int .u8 39)) w4 fun v5 w6=>
 R (.returned v5) w6)
 (R (.returned (Value.bool false)) w4))
 (R (.returned (Value.bool false)) w2)
abbrev r0 (R:EP)(z:Env)(w:World):Prop:=R (.returned (z 2)) w
abbrev q1 (R:EP):XP:=QX (r0 R) (r0 R) []
theorem Zg (R:EP):TI prog R code (q1 R) fun z w=>b1 R (z 0) w:=ofT
def run (R:EP)(a0:Value)(w:World):Prop:=b1 R a0 w
theorem calls (R:EP)(a0:Value)(w:World)(h:run R a0 w):Calls prog id #[a0] w R:=Zbd func68 [a0] (Zg R _ w h)
theorem enters:Enters prog id:=fun args w=>call68 args w
theorem ct {a0:Value}{w:World}{S:VP}(h:∀R:EP,(∀v w,S v w→R (.returned v) w)→run R a0 w):Ct prog id #[a0] w S :=
 Ct.intro enters fun R hR=>calls R a0 w (h R hR)
attribute [irreducible] b1 run
end Ze3
namespace Zbr
noncomputable def code:Code:=Zm f69
def b1 (R:EP)(x0 x1:Value)(w:World)(_r:Tok R:=tok R):Prop :=
 NILC x0 fun v1=>
 PUR prog (fieldAt 70 v1 1) fun v2=>
 LD prog (loadAt 3 v2) (World.drew w) fun v3=>
 NILC x0 fun v4=>
 PUR prog (fieldAt 70 v4 0) fun v5=>
 LD prog (loadAt 9 v5) (World.drew w) fun v6=>
 LD prog (Builtin.len_ #[9] 3 #[v6]) (World.drew w) fun v7=>
 PUR prog (bins .lss 3 (.tmp 8) (.tmp 13) v3 v7) fun v8=>
 SPL v8
 (NILC x0 fun v9=>
 PUR prog (fieldAt 70 v9 0) fun v10=>
 LD prog (loadAt 9 v10) (World.drew w) fun v11=>
 NILC x0 fun v12=>
 PUR prog (fieldAt 70 v12 1) fun v13=>
 LD prog (loadAt 3 v13) (World.drew w) fun v14=>
 PUR prog (index 9 v11 v14) fun v15=>
 Zsv prog R x1 [v15] (World.drew w) fun v16 w17=>
 R (.returned v16) w17)
 (R (.returned (Value.bool false)) (World.drew w))
abbrev r0 (R:EP)(z:Env)(w:World):Prop:=R (.returned (z 4)) w
abbrev q1 (R:EP):XP:=QX (r0 R) (r0 R) []
theorem Zg (R:EP):TI prog R code (q1 R) fun z w=>b1 R (z 0) (z 1) w:=ofT
def run (R:EP)(a0 a1:Value)(w:World):Prop:=b1 R a0 a1 w
theorem calls (R:EP)(a0 a1:Value)(w:World)(h:run R a0 a1 w):Calls prog id #[a0,a1] w R:=Zbd func69 [a0,a1] (Zg R _ w h)
theorem enters:Enters prog id:=fun args w=>call69 args w
theorem ct {a0 a1:Value}{w:World}{S:VP}(h:∀R:EP,(∀v w,S v w→R (.returned v) w)→run R a0 a1 w):Ct prog id #[a0,a1] w S :=
 Ct.intro enters fun R hR=>calls R a0 a1 w (h R hR)
attribute [irreducible] b1 run
end Zbr
namespace Zb5
noncomputable def code:Code:=Zm f70
def b1 (R:EP)(x0:Value)(w:World)(_r:Tok R:=tok R):Prop :=
 RUN prog R (bins .eql 5 (.tmp 3) (.const (Value.int .u8 39)) x0 (Value.int .u8 39)) w fun v1 w2=>
 R (.returned v1) w2
abbrev r0 (R:EP)(z:Env)(w:World):Prop:=R (.returned (z 2)) w
abbrev q1 (R:EP):XP:=QX (r0 R) (r0 R) []
theorem Zg (R:EP):TI prog R code (q1 R) fun z w=>b1 R (z 0) w:=ofT
def run (R:EP)(a0:Value)(w:World):Prop:=b1 R a0 w
theorem calls (R:EP)(a0:Value)(w:World)(h:run R a0 w):Calls prog id #[a0] w R:=Zbd func70 [a0] (Zg R _ w h)
theorem enters:Enters prog id:=fun args w=>call70 args w
theorem ct {a0:Value}{w:World}{S:VP}(h:∀R:EP,(∀v w,S v w→R (.returned v) w)→run R a0 w):Ct prog id #[a0] w S :=
 Ct.intro enters fun R hR=>calls R a0 w (h R hR)
attribute [irreducible] b1 run
end Zb5
namespace Zdv
noncomputable def code:Code:=Zm f71
def b1 (R:EP)(x0:Value)(w:World)(_r:Tok R:=tok R):Prop :=
 RUN prog R (bins .or 5 (.tmp 3) (.const (Value.int .u8 32)) x0 (Value.int .u8 32)) w fun v1 w2=>
 RUN prog R (bins .leq 5 (.const (Value.int .u8 97)) (.tmp 4) (Value.int .u8 97) v1) w2 fun v3 w4=>
 SPL v3
 (RUN prog R (bins .or 5 (.tmp 7) (.const (Value.int .u8 32)) x0 (Value.int .u8 32)) w4 fun v5 w6=>
 RUN prog R (bins .leq 5 (.tmp 8) (.const (Value.int .u8 122)) v5 (Value.int .u8 122)) w6 fun v7 w8=>
 R (.returned v7) w8)
 (R (.returned (Value.bool false)) w4)
abbrev r0 (R:EP)(z:Env)(w:World):Prop:=R (.returned (z 2)) w
abbrev q1 (R:EP):XP:=QX (r0 R) (r0 R) []
theorem Zg (R:EP):TI prog R code (q1 R) fun z w=>b1 R (z 0) w:=ofT
def run (R:EP)(a0:Value)(w:World):Prop:=b1 R a0 w
theorem calls (R:EP)(a0:Value)(w:World)(h:run R a0 w):Calls prog id #[a0] w R:=Zbd func71 [a0] (Zg R _ w h)
theorem enters:Enters prog id:=fun args w=>call71 args w
theorem ct {a0:Value}{w:World}{S:VP}(h:∀R:EP,(∀v w,S v w→R (.returned v) w)→run R a0 w):Ct prog id #[a0] w S :=
 Ct.intro enters fun R hR=>calls R a0 w (h R hR)
attribute [irreducible] b1 run
end Zdv
namespace Zer
noncomputable def code:Code:=Zm f72
def b1 (R:EP)(x0:Value)(w:World)(_r:Tok R:=tok R):Prop :=
 CALL prog R Zdv.id #[x0] w fun v1 w2=>
 SPL v1
 (R (.returned (Value.bool true)) w2)
 (RUN prog R (bins .eql 5 (.tmp 6) (.const (Value.int .u8 95)) x0 (Value.int .u8 95)) w2 fun v3 w4=>
 SPL v3
 (R (.returned (Value.bool true)) w4)
 (RUN prog R (bins .leq 5 (.const (Value.int .u8 48)) (.tmp 10) (Value.int .u8 48) x0) w4 fun v5 w6=>
 SPL v5
 (RUN prog R (bins .leq 5 (.tmp 13) (.const (Value.int .u8 57)) x0 (Value.int .u8 57)) w6 fun v7 w8=>
 R (.returned v7) w8)
 (R (.returned (Value.bool false)) w6)))
abbrev r0 (R:EP)(z:Env)(w:World):Prop:=R (.returned (z 2)) w
abbrev q1 (R:EP):XP:=QX (r0 R) (r0 R) []
theorem Zg (R:EP):TI prog R code (q1 R) fun z w=>b1 R (z 0) w:=ofT
def run (R:EP)(a0:Value)(w:World):Prop:=b1 R a0 w
theorem calls (R:EP)(a0:Value)(w:World)(h:run R a0 w):Calls prog id #[a0] w R:=Zbd func72 [a0] (Zg R _ w h)
theorem enters:Enters prog id:=fun args w=>call72 args w
theorem ct {a0:Value}{w:World}{S:VP}(h:∀R:EP,(∀v w,S v w→R (.returned v) w)→run R a0 w):Ct prog id #[a0] w S :=
 Ct.intro enters fun R hR=>calls R a0 w (h R hR)
attribute [irreducible] b1 run
end Zer
namespace Zcn
noncomputable def code:Code:=Zm f73
def b1 (R:EP)(x0 x1:Value)(w:World)(_r:Tok R:=tok R):Prop :=
 RUN prog R (loadAt 9 x1) w fun v1 w2=>
 RUN prog R (build 70 #[(0,v1)]) w2 fun v3 w4=>
 RUN prog R (box 70 v3) w4 fun v5 w6=>
 CALL prog R Zv.id #[v5,x0] w6 fun v7 w8=>
 R (.returned (.tuple #[])) w8
abbrev r0 (R:EP)(z:Env)(w:World):Prop:=R (.returned (.tuple #[])) w
abbrev q1 (R:EP):XP:=QX (r0 R) (r0 R) []
theorem Zg (R:EP):TI prog R code (q1 R) fun z w=>b1 R (z 0) (z 1) w:=ofT
def run (R:EP)(a0 a1:Value)(w:World):Prop:=b1 R a0 a1 w
theorem calls (R:EP)(a0 a1:Value)(w:World)(h:run R a0 a1 w):Calls prog id #[a0,a1] w R:=Zlz func73 [a0,a1] (Zg R _ w h)
theorem enters:Enters prog id:=fun args w=>call73 args w
theorem ct {a0 a1:Value}{w:World}{S:VP}(h:∀R:EP,(∀v w,S v w→R (.returned v) w)→run R a0 a1 w):Ct prog id #[a0,a1] w S :=
 Ct.intro enters fun R hR=>calls R a0 a1 w (h R hR)
attribute [irreducible] b1 run
end Zcn
namespace Zl
noncomputable def code:Code:=Zm f88
def b1 (R:EP)(x0 x1:Value)(w:World)(_r:Tok R:=tok R):Prop :=
 CALL prog R Ze.id #[x0,x1] w fun v1 w2=>
 RUN prog R (bins .geq 3 (.tmp 7) (.const (Value.int .i64 0)) v1 (Value.int .i64 0)) w2 fun v3 w4=>
 R (.returned v3) w4
abbrev r0 (R:EP)(z:Env)(w:World):Prop:=R (.returned (z 4)) w
abbrev q1 (R:EP):XP:=QX (r0 R) (r0 R) []
theorem Zg (R:EP):TI prog R code (q1 R) fun z w=>b1 R (z 0) (z 1) w:=ofT
def run (R:EP)(a0 a1:Value)(w:World):Prop:=b1 R a0 a1 w
theorem calls (R:EP)(a0 a1:Value)(w:World)(h:run R a0 a1 w):Calls prog id #[a0,a1] w R:=Zbd func88 [a0,a1] (Zg R _ w h)
theorem enters:Enters prog id:=fun args w=>call88 args w
theorem ct {a0 a1:Value}{w:World}{S:VP}(h:∀R:EP,(∀v w,S v w→R (.returned v) w)→run R a0 a1 w):Ct prog id #[a0,a1] w S :=
 Ct.intro enters fun R hR=>calls R a0 a1 w (h R hR)
attribute [irreducible] b1 run
end Zl
namespace Zap
noncomputable def code:Code:=Zm f93
def b1 (R:EP)(x0 x1:Value)(w:World)(_r:Tok R:=tok R):Prop :=
 CALL prog R Zdo.id #[x0,x1] w fun v1 w2=>
 R (.returned v1) w2
abbrev r0 (R:EP)(z:Env)(w:World):Prop:=R (.returned (z 4)) w
abbrev q1 (R:EP):XP:=QX (r0 R) (r0 R) []
theorem Zg (R:EP):TI prog R code (q1 R) fun z w=>b1 R (z 0) (z 1) w:=ofT
def run (R:EP)(a0 a1:Value)(w:World):Prop:=b1 R a0 a1 w
theorem calls (R:EP)(a0 a1:Value)(w:World)(h:run R a0 a1 w):Calls prog id #[a0,a1] w R:=Zbd func93 [a0,a1] (Zg R _ w h)
theorem enters:Enters prog id:=fun args w=>call93 args w
theorem ct {a0 a1:Value}{w:World}{S:VP}(h:∀R:EP,(∀v w,S v w→R (.returned v) w)→run R a0 a1 w):Ct prog id #[a0,a1] w S :=
 Ct.intro enters fun R hR=>calls R a0 a1 w (h R hR)
attribute [irreducible] b1 run
end Zap
namespace Zbx
noncomputable def code:Code:=Zm f94
def b1 (R:EP)(x0 x1 x2:Value)(w:World)(_r:Tok R:=tok R):Prop :=
 LD prog (loadAt 68 x1) (World.drew w) fun v1=>
 NILC v1 fun v2=>
 PUR prog (fieldAt 70 v2 0) fun v3=>
 LD prog (loadAt 9 v3) (World.drew w) fun v4=>
 LD prog (loadAt 3 x2) (World.drew w) fun v5=>
 LD prog (loadAt 68 x1) (World.drew w) fun v6=>
 NILC v6 fun v7=>
 PUR prog (fieldAt 70 v7 1) fun v8=>
 LD prog (loadAt 3 v8) (World.drew w) fun v9=>
 PUR prog (bins .add 3 (.tmp 14) (.const (Value.int .i64 1)) v9 (Value.int .i64 1)) fun v10=>
 PUR prog (sliceAt 9 v4 (some v5) (some v10) none) fun v11=>
 CALL prog R Zco.id #[x0,v11] (World.drew w) fun v12 w13=>
 R (.returned v12) w13
abbrev r0 (R:EP)(z:Env)(w:World):Prop:=R (.returned (z 4)) w
abbrev q1 (R:EP):XP:=QX (r0 R) (r0 R) []
theorem Zg (R:EP):TI prog R code (q1 R) fun z w=>b1 R (z 0) (z 1) (z 2) w:=ofT
def run (R:EP)(a0 a1 a2:Value)(w:World):Prop:=b1 R a0 a1 a2 w
theorem calls (R:EP)(a0 a1 a2:Value)(w:World)(h:run R a0 a1 a2 w):Calls prog id #[a0,a1,a2] w R:=Zbd func94 [a0,a1,a2] (Zg R _ w h)
theorem enters:Enters prog id:=fun args w=>call94 args w
theorem ct {a0 a1 a2:Value}{w:World}{S:VP}(h:∀R:EP,(∀v w,S v w→R (.returned v) w)→run R a0 a1 a2 w):Ct prog id #[a0,a1,a2] w S :=
 Ct.intro enters fun R hR=>calls R a0 a1 a2 w (h R hR)
attribute [irreducible] b1 run
end Zbx
namespace Zco
noncomputable def code:Code:=Zm f95
def b1 (R:EP)(x0 x1:Value)(w:World)(_r:Tok R:=tok R):Prop :=
 CALL prog R Zak.id #[x0,x1] w fun v1 w2=>
 R (.returned v1) w2
abbrev r0 (R:EP)(z:Env)(w:World):Prop:=R (.returned (z 4)) w
abbrev q1 (R:EP):XP:=QX (r0 R) (r0 R) []
theorem Zg (R:EP):TI prog R code (q1 R) fun z w=>b1 R (z 0) (z 1) w:=ofT
def run (R:EP)(a0 a1:Value)(w:World):Prop:=b1 R a0 a1 w
theorem calls (R:EP)(a0 a1:Value)(w:World)(h:run R a0 a1 w):Calls prog id #[a0,a1] w R:=Zbd func95 [a0,a1] (Zg R _ w h)
theorem enters:Enters prog id:=fun args w=>call95 args w
theorem ct {a0 a1:Value}{w:World}{S:VP}(h:∀R:EP,(∀v w,S v w→R (.returned v) w)→run R a0 a1 w):Ct prog id #[a0,a1] w S :=
 Ct.intro enters fun R hR=>calls R a0 a1 w (h R hR)
attribute [irreducible] b1 run
end Zco
namespace Zw
noncomputable def code:Code:=Zm f96
noncomputable abbrev p1:Code:=Zi 1 code
def b3 (R:EP)(w:World)(_r:Tok R:=tok R):Prop :=
 R (.returned (Value.int .i64 (-1))) w
abbrev r0 (R:EP)(z:Env)(w:World):Prop:=R (.returned (z 4)) w
abbrev q1 (R:EP):XP:=QX (r0 R) (r0 R) []
theorem Zbi (R:EP):TI prog R (sndC p1) (q1 R) fun z w=>b3 R w:=ofT
noncomputable abbrev p2:Code:=Zi 1 (fstC p1)
noncomputable abbrev p3:Code:=Zby (blkC p2)
def b7 (R:EP)(C6:VP)(x0 x1 x7 x8:Value)(w:World)(_r:Tok R:=tok R)(_C6:Tok C6:=tok C6):Prop :=
 RUN prog R (bins .lss 3 (.tmp 8) (.tmp 7) x8 x7) w fun v1 w2=>
 SPL v1
 (RUN prog R (indexAt 23 x0 x8) w2 fun v3 w4=>
 RUN prog R (loadAt 9 v3) w4 fun v5 w6=>
 RUN prog R (bins .eql 9 (.tmp 11) (.tmp 15) x1 v5) w6 fun v7 w8=>
 SPL v7
 (R (.returned x8) w8)
 (RUN prog R (bins .add 3 (.tmp 8) (.const (Value.int .i64 1)) x8 (Value.int .i64 1)) w8 fun v9 w10=>
 C6 v9 w10))
 (b3 R w2)
abbrev q2 (R:EP)(C6:VP):XP:=QX (fun z w=>C6 (z 8) w) (r0 R) [(0,(fun z w=>b3 R  w))]
theorem Zch (R:EP)(C6:VP):TI prog R p3 (q2 R C6) fun z w=>b7 R C6 (z 0) (z 1) (z 7) (z 8) w:=ofT
def l6 (R:EP)(x0 x1 x7 x8:Value)(w:World)(_r:Tok R:=tok R):Prop :=
 ∃(J:VP) (μ:Value→World→Nat),J x8 w∧∀y8 w0,J y8 w0→b7 R (fun z8 w1=>J z8 w1∧μ z8 w1<μ y8 w0) x0 x1 x7 y8 w0
abbrev q3 (R:EP):XP:=QX (fun z w=>b3 R  w) (r0 R) [(0,(fun z w=>b3 R  w))]
theorem Zdz (R:EP):TI prog R (blkC p2) (q3 R) fun z w=>l6 R (z 0) (z 1) (z 7) (z 8) w:=fun z w h=>by
 unfold l6 at h
 obtain ⟨J,μ,h0,hr⟩:=h
 refine Zcg (fun z' w'=>J (z' 8) w') (fun z' w'=>μ (z' 8) w') h0 fun z' w' hA hI=>Zch R (fun z8 w1=>J z8 w1∧μ z8 w1<μ (z' 8) w') z' w' ?_
 have h1:=hr (z' 8) w' hI
 rwa [←hA.on 0,←hA.on 1,←hA.on 7]at h1
theorem l6_intro (R:EP)(x0 x1 x7 x8:Value)(w:World)(J:VP)(μ:Value→World→Nat)(h0:J x8 w)
   (hr:∀y8 w0,J y8 w0→∀C6:VP,(∀z8 w1,J z8 w1→μ z8 w1<μ y8 w0→C6 z8 w1)→b7 R C6 x0 x1 x7 y8 w0):l6 R x0 x1 x7 x8 w:=by
 unfold l6
 exact ⟨J,μ,h0,fun y8 w0 hJ=>hr y8 w0 hJ _ (fun z8 w1 h1 h2=>⟨h1,h2⟩)⟩
abbrev q4 (R:EP):XP:=QX (fun z w=>b3 R  w) (r0 R) []
theorem Zda (R:EP):TI prog R p2 (q4 R) fun z w=>l6 R (z 0) (z 1) (z 7) (z 8) w:=Zac 0 (Zdz R)
def b4 (R:EP)(x0 x1:Value)(w:World)(_r:Tok R:=tok R):Prop :=
 RUN prog R (Builtin.len_ #[23] 3 #[x0]) w fun v1 w2=>
 l6 R x0 x1 v1 (Value.int .i64 0) w2
theorem Zbs (R:EP):TI prog R (fstC p1) (q4 R) fun z w=>b4 R (z 0) (z 1) w:=appT 0 (Zda R)
theorem Za6 (R:EP):TI prog R p1 (q1 R) fun z w=>b4 R (z 0) (z 1) w:=seqT (Zbs R) (Zbi R)
def b1 (R:EP)(x0 x1:Value)(w:World)(_r:Tok R:=tok R):Prop :=
 b4 R x0 x1 w
theorem Zg (R:EP):TI prog R code (q1 R) fun z w=>b1 R (z 0) (z 1) w:=appT 0 (Za6 R)
def run (R:EP)(a0 a1:Value)(w:World):Prop:=b1 R a0 a1 w
theorem calls (R:EP)(a0 a1:Value)(w:World)(h:run R a0 a1 w):Calls prog id #[a0,a1] w R:=Zbd func96 [a0,a1] (Zg R _ w h)
theorem enters:Enters prog id:=fun args w=>call96 args w
theorem ct {a0 a1:Value}{w:World}{S:VP}(h:∀R:EP,(∀v w,S v w→R (.returned v) w)→run R a0 a1 w):Ct prog id #[a0,a1] w S :=
 Ct.intro enters fun R hR=>calls R a0 a1 w (h R hR)
attribute [irreducible] b3 b7 l6 b4 b1 run
end Zw
namespace Ze
noncomputable def code:Code:=Zm f105
noncomputable abbrev p1:Code:=Zi 1 code
def b3 (R:EP)(w:World)(_r:Tok R:=tok R):Prop :=
 R (.returned (Value.int .i64 (-1))) w
abbrev r0 (R:EP)(z:Env)(w:World):Prop:=R (.returned (z 4)) w
abbrev q1 (R:EP):XP:=QX (r0 R) (r0 R) []
theorem Zbi (R:EP):TI prog R (sndC p1) (q1 R) fun z w=>b3 R w:=ofT
noncomputable abbrev p2:Code:=Zi 1 (fstC p1)
noncomputable abbrev p3:Code:=Zby (blkC p2)
def b7 (R:EP)(C6:VP)(x0 x1 x7 x8:Value)(w:World)(_r:Tok R:=tok R)(_C6:Tok C6:=tok C6):Prop :=
 RUN prog R (bins .lss 3 (.tmp 8) (.tmp 7) x8 x7) w fun v1 w2=>
 SPL v1
 (RUN prog R (indexAt 23 x0 x8) w2 fun v3 w4=>
 RUN prog R (loadAt 9 v3) w4 fun v5 w6=>
 Zl6 prog R x1 [v5] w6 fun v7 w8=>
 SPL v7
 (R (.returned x8) w8)
 (RUN prog R (bins .add 3 (.tmp 8) (.const (Value.int .i64 1)) x8 (Value.int .i64 1)) w8 fun v9 w10=>
 C6 v9 w10))
 (b3 R w2)
abbrev q2 (R:EP)(C6:VP):XP:=QX (fun z w=>C6 (z 8) w) (r0 R) [(0,(fun z w=>b3 R  w))]
theorem Zch (R:EP)(C6:VP):TI prog R p3 (q2 R C6) fun z w=>b7 R C6 (z 0) (z 1) (z 7) (z 8) w:=ofT
def l6 (R:EP)(x0 x1 x7 x8:Value)(w:World)(_r:Tok R:=tok R):Prop :=
 ∃(J:VP) (μ:Value→World→Nat),J x8 w∧∀y8 w0,J y8 w0→b7 R (fun z8 w1=>J z8 w1∧μ z8 w1<μ y8 w0) x0 x1 x7 y8 w0
abbrev q3 (R:EP):XP:=QX (fun z w=>b3 R  w) (r0 R) [(0,(fun z w=>b3 R  w))]
theorem Zdz (R:EP):TI prog R (blkC p2) (q3 R) fun z w=>l6 R (z 0) (z 1) (z 7) (z 8) w:=fun z w h=>by
 unfold l6 at h
 obtain ⟨J,μ,h0,hr⟩:=h
 refine Zcg (fun z' w'=>J (z' 8) w') (fun z' w'=>μ (z' 8) w') h0 fun z' w' hA hI=>Zch R (fun z8 w1=>J z8 w1∧μ z8 w1<μ (z' 8) w') z' w' ?_
 have h1:=hr (z' 8) w' hI
 rwa [←hA.on 0,←hA.on 1,←hA.on 7]at h1
theorem l6_intro (R:EP)(x0 x1 x7 x8:Value)(w:World)(J:VP)(μ:Value→World→Nat)(h0:J x8 w)
   (hr:∀y8 w0,J y8 w0→∀C6:VP,(∀z8 w1,J z8 w1→μ z8 w1<μ y8 w0→C6 z8 w1)→b7 R C6 x0 x1 x7 y8 w0):l6 R x0 x1 x7 x8 w:=by
 unfold l6
 exact ⟨J,μ,h0,fun y8 w0 hJ=>hr y8 w0 hJ _ (fun z8 w1 h1 h2=>⟨h1,h2⟩)⟩
abbrev q4 (R:EP):XP:=QX (fun z w=>b3 R  w) (r0 R) []
theorem Zda (R:EP):TI prog R p2 (q4 R) fun z w=>l6 R (z 0) (z 1) (z 7) (z 8) w:=Zac 0 (Zdz R)
def b4 (R:EP)(x0 x1:Value)(w:World)(_r:Tok R:=tok R):Prop :=
 RUN prog R (Builtin.len_ #[23] 3 #[x0]) w fun v1 w2=>
 l6 R x0 x1 v1 (Value.int .i64 0) w2
theorem Zbs (R:EP):TI prog R (fstC p1) (q4 R) fun z w=>b4 R (z 0) (z 1) w:=appT 0 (Zda R)
theorem Za6 (R:EP):TI prog R p1 (q1 R) fun z w=>b4 R (z 0) (z 1) w:=seqT (Zbs R) (Zbi R)
def b1 (R:EP)(x0 x1:Value)(w:World)(_r:Tok R:=tok R):Prop :=
 b4 R x0 x1 w
theorem Zg (R:EP):TI prog R code (q1 R) fun z w=>b1 R (z 0) (z 1) w:=appT 0 (Za6 R)
def run (R:EP)(a0 a1:Value)(w:World):Prop:=b1 R a0 a1 w
theorem calls (R:EP)(a0 a1:Value)(w:World)(h:run R a0 a1 w):Calls prog id #[a0,a1] w R:=Zbd func105 [a0,a1] (Zg R _ w h)
theorem enters:Enters prog id:=fun args w=>call105 args w
theorem ct {a0 a1:Value}{w:World}{S:VP}(h:∀R:EP,(∀v w,S v w→R (.returned v) w)→run R a0 a1 w):Ct prog id #[a0,a1] w S :=
 Ct.intro enters fun R hR=>calls R a0 a1 w (h R hR)
attribute [irreducible] b3 b7 l6 b4 b1 run
end Ze
namespace Zak
noncomputable def code:Code:=Zm f109
def b1 (R:EP)(x0 x1:Value)(w:World)(_r:Tok R:=tok R):Prop :=
 RUN prog R (Builtin.len_ #[9] 3 #[x0]) w fun v1 w2=>
 RUN prog R (Builtin.len_ #[9] 3 #[x1]) w2 fun v3 w4=>
 RUN prog R (bins .geq 3 (.tmp 6) (.tmp 8) v1 v3) w4 fun v5 w6=>
 SPL v5
 (RUN prog R (Builtin.len_ #[9] 3 #[x1]) w6 fun v7 w8=>
 RUN prog R (sliceAt 9 x0 none (some v7) none) w8 fun v9 w10=>
 RUN prog R (bins .eql 9 (.tmp 14) (.tmp 15) v9 x1) w10 fun v11 w12=>
 R (.returned v11) w12)
 (R (.returned (Value.bool false)) w6)
abbrev r0 (R:EP)(z:Env)(w:World):Prop:=R (.returned (z 4)) w
abbrev q1 (R:EP):XP:=QX (r0 R) (r0 R) []
theorem Zg (R:EP):TI prog R code (q1 R) fun z w=>b1 R (z 0) (z 1) w:=ofT
def run (R:EP)(a0 a1:Value)(w:World):Prop:=b1 R a0 a1 w
theorem calls (R:EP)(a0 a1:Value)(w:World)(h:run R a0 a1 w):Calls prog id #[a0,a1] w R:=Zbd func109 [a0,a1] (Zg R _ w h)
theorem enters:Enters prog id:=fun args w=>call109 args w
theorem ct {a0 a1:Value}{w:World}{S:VP}(h:∀R:EP,(∀v w,S v w→R (.returned v) w)→run R a0 a1 w):Ct prog id #[a0,a1] w S :=
 Ct.intro enters fun R hR=>calls R a0 a1 w (h R hR)
attribute [irreducible] b1 run
end Zak
end Go.Proofs.YtckbgeedlobfaaaGreatDoor
