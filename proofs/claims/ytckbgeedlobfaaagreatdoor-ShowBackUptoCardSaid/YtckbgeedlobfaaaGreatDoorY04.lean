/-
  Texts of this claim: T02Ids, TBS.
-/
import Derived.Test.YtckbgeedlobfaaaGreatDoorProg
import Derived.Test.YtckbgeedlobfaaaGreatDoorY02
set_option linter.unusedVariables false
set_option maxRecDepth 100000
namespace Go.Proofs.YtckbgeedlobfaaaGreatDoor
abbrev ZZ365.id:FuncId:=0
abbrev ZZ321.id:FuncId:=1
abbrev ZZ71.id:FuncId:=2
abbrev Zy.id:FuncId:=3
abbrev Zt.id:FuncId:=4
abbrev Zc8.id:FuncId:=5
abbrev Zej.id:FuncId:=6
abbrev Zdu.id:FuncId:=7
abbrev Zeq.id:FuncId:=8
abbrev Zkt.id:FuncId:=9
abbrev Zcp.id:FuncId:=10
abbrev Zga.id:FuncId:=11
abbrev Za7.id:FuncId:=12
abbrev Zaa.id:FuncId:=13
abbrev Zfb.id:FuncId:=14
abbrev Zan.id:FuncId:=15
abbrev Ze2.id:FuncId:=16
abbrev Zca.id:FuncId:=17
abbrev Zaq.id:FuncId:=18
abbrev Zcr.id:FuncId:=19
abbrev Zbj.id:FuncId:=20
abbrev Zf1.id:FuncId:=21
abbrev Zdt.id:FuncId:=22
abbrev Zgz.id:FuncId:=23
abbrev Zv.id:FuncId:=24
abbrev Zds.id:FuncId:=25
abbrev Zok.id:FuncId:=26
abbrev Ztz.id:FuncId:=27
abbrev Zgh.id:FuncId:=28
abbrev Zb.id:FuncId:=29
abbrev Zd.id:FuncId:=30
abbrev Zbo.id:FuncId:=31
abbrev Ze7.id:FuncId:=32
abbrev Zd5.id:FuncId:=33
abbrev Zam.id:FuncId:=34
abbrev Zbm.id:FuncId:=35
abbrev Zc9.id:FuncId:=36
abbrev Zc6.id:FuncId:=37
abbrev Zcv.id:FuncId:=38
abbrev Zdk.id:FuncId:=39
abbrev Zc5.id:FuncId:=40
abbrev Zdg.id:FuncId:=41
abbrev Zcl.id:FuncId:=42
abbrev Zn.id:FuncId:=43
abbrev Zk.id:FuncId:=44
abbrev Zey.id:FuncId:=45
abbrev Zuk.id:FuncId:=46
abbrev Zq.id:FuncId:=47
abbrev Za9.id:FuncId:=48
abbrev Zu.id:FuncId:=49
abbrev Zag.id:FuncId:=50
abbrev Zad.id:FuncId:=51
abbrev Zai.id:FuncId:=52
abbrev Zs.id:FuncId:=53
abbrev Zaf.id:FuncId:=54
abbrev Za0.id:FuncId:=55
abbrev Zbg.id:FuncId:=56
abbrev Zao.id:FuncId:=57
abbrev Zcw.id:FuncId:=58
abbrev Zbp.id:FuncId:=59
abbrev Za8.id:FuncId:=60
abbrev Zbe.id:FuncId:=61
abbrev Zbn.id:FuncId:=62
abbrev Zax.id:FuncId:=63
abbrev Zbt.id:FuncId:=64
abbrev Za4.id:FuncId:=65
abbrev Zat.id:FuncId:=66
abbrev Zaj.id:FuncId:=67
abbrev Ze3.id:FuncId:=68
abbrev Zbr.id:FuncId:=69
abbrev Zb5.id:FuncId:=70
abbrev Zdv.id:FuncId:=71
abbrev Zer.id:FuncId:=72
abbrev Zcn.id:FuncId:=73
abbrev Zav.id:FuncId:=74
abbrev Zc.id:FuncId:=75
abbrev Zh.id:FuncId:=76
abbrev Zaz.id:FuncId:=77
abbrev Zd7.id:FuncId:=78
abbrev Zcx.id:FuncId:=79
abbrev Zbc.id:FuncId:=80
abbrev Zaw.id:FuncId:=81
abbrev Za5.id:FuncId:=82
abbrev Zas.id:FuncId:=83
abbrev Zal.id:FuncId:=84
abbrev Zb6.id:FuncId:=85
abbrev Zc1.id:FuncId:=86
abbrev Zd6.id:FuncId:=87
abbrev Zl.id:FuncId:=88
abbrev Zee.id:FuncId:=89
abbrev Zbu.id:FuncId:=90
abbrev Zeo.id:FuncId:=91
abbrev Zfh.id:FuncId:=92
abbrev Zap.id:FuncId:=93
abbrev Zbx.id:FuncId:=94
abbrev Zco.id:FuncId:=95
abbrev Zw.id:FuncId:=96
abbrev Zb4.id:FuncId:=97
abbrev Zbb.id:FuncId:=98
abbrev Zb2.id:FuncId:=99
abbrev Zcb.id:FuncId:=100
abbrev Zcq.id:FuncId:=101
abbrev Zdi.id:FuncId:=102
abbrev Zdy.id:FuncId:=103
abbrev Zab.id:FuncId:=104
abbrev Ze.id:FuncId:=105
abbrev Zbw.id:FuncId:=106
abbrev Zdx.id:FuncId:=107
abbrev Zdo.id:FuncId:=108
abbrev Zak.id:FuncId:=109
abbrev Zbf.id:FuncId:=110
abbrev Za1.id:FuncId:=111
abbrev Zou.id:FuncId:=112
abbrev Zk2.id:FuncId:=113
abbrev Zow.id:FuncId:=114
abbrev Zk1.id:FuncId:=115
abbrev Zpo.id:FuncId:=116
abbrev Zli.id:FuncId:=117
abbrev Zkz.id:FuncId:=118
abbrev Zib.id:FuncId:=119
abbrev Zk0.id:FuncId:=120
abbrev Zii.id:FuncId:=121
abbrev Zn8.id:FuncId:=122
abbrev Zj4.id:FuncId:=123
abbrev Zql.id:FuncId:=124
abbrev Zgo.id:FuncId:=125
abbrev Zft.id:FuncId:=126
abbrev Zy6.id:FuncId:=127
abbrev Zra.id:FuncId:=128
abbrev Zpx.id:FuncId:=129
abbrev Zc0.id:FuncId:=130
abbrev Zdp.id:FuncId:=131
abbrev Zfj.id:FuncId:=132
abbrev Zct.id:FuncId:=133
abbrev ZZ70.id:FuncId:=134
end Go.Proofs.YtckbgeedlobfaaaGreatDoor
namespace Go.Proofs.YtckbgeedlobfaaaGreatDoor
open Go.Px Tryz Instr
namespace Zb
noncomputable def code:Code:=Zm f29
noncomputable abbrev p1:Code:=Zi 1 code
noncomputable abbrev p2:Code:=sndC (sndC p1)
def b4_1 (R:EP)(v14 v15 v25:Value)(w26:World)(_r:Tok R:=tok R):Prop :=
 Sem.run prog (loadAt 80 v14) w26 = .ok v15 w26∧(PUR prog (extract v25 0) fun v27=>
 PUR prog (extract v25 1) fun v28=>
 CALL prog R Za9.id #[v27,v28] w26 fun v29 w30=>
 Sem.run prog (loadAt 80 v14) w30 = .ok v15 w30∧(CALL prog R Za0.id #[v15,v29] w30 fun v31 w32=>
 R (.returned (.tuple #[])) w32))
def b4_2 (R:EP)(x0:Value)(w12:World)(_r:Tok R:=tok R):Prop :=
 NILC x0 fun v13=>
 PUR prog (fieldAt 83 v13 0) fun v14=>
 LD prog (loadAt 80 v14) (World.drew w12) fun v15=>
 NILC x0 fun v16=>
 PUR prog (fieldAt 83 v16 0) fun v17=>
 LD prog (loadAt 80 v17) (World.drew w12) fun v18=>
 NILC x0 fun v19=>
 PUR prog (fieldAt 83 v19 1) fun v20=>
 LD prog (loadAt 75 v20) (World.drew w12) fun v21=>
 NILC v21 fun v22=>
 PUR prog (fieldAt 102 v22 5) fun v23=>
 LD prog (loadAt 9 v23) (World.drew w12) fun v24=>
 CALL prog R Zad.id #[v18,v24] (World.drew w12) fun v25 w26=>
 b4_1 R v14 v15 v25 w26
def b4 (R:EP)(x0:Value)(w:World)(_r:Tok R:=tok R):Prop :=
 NILC x0 fun v1=>
 RUN prog R (fieldAt 83 v1 1) w fun v2 w3=>
 RUN prog R (loadAt 75 v2) w3 fun v4 w5=>
 NILC v4 fun v6=>
 RUN prog R (fieldAt 102 v6 5) w5 fun v7 w8=>
 RUN prog R (loadAt 9 v7) w8 fun v9 w10=>
 RUN prog R (bins .neq 9 (.tmp 160) (.const (Value.string ⟨#[]⟩)) v9 (Value.string ⟨#[]⟩)) w10 fun v11 w12=>
 SPL v11
 (b4_2 R x0 w12)
 (R (.returned (.tuple #[])) w12)
abbrev r0 (R:EP)(z:Env)(w:World):Prop:=R (.returned (.tuple #[])) w
abbrev q1 (R:EP):XP:=QX (r0 R) (r0 R) []
theorem Zbs (R:EP):TI prog R p2 (q1 R) fun z w=>b4 R (z 0) w:=ofT
noncomputable abbrev p3:Code:=fstC (sndC p1)
noncomputable abbrev p4:Code:=Zi 1 p3
noncomputable abbrev p5:Code:=Zby (blkC p4)
noncomputable abbrev p6:Code:=Zi 2 p5
def b10 (R:EP)(C7:VP)(x84:Value)(w:World)(_r:Tok R:=tok R)(_C7:Tok C7:=tok C7):Prop :=
 RUN prog R (bins .add 3 (.tmp 84) (.const (Value.int .i64 1)) x84 (Value.int .i64 1)) w fun v1 w2=>
 C7 v1 w2
abbrev q2 (R:EP)(C7:VP):XP:=QX (fun z w=>C7 (z 84) w) (r0 R) [(12,(fun z w=>b4 R (z 0) w))]
theorem Zef (R:EP)(C7:VP):TI prog R (sndC p6) (q2 R C7) fun z w=>b10 R C7 (z 84) w:=ofT
noncomputable abbrev p7:Code:=blkC (fstC p6)
noncomputable abbrev p8:Code:=Zi 3 p7
noncomputable abbrev p9:Code:=Zi 2 (sndC p8)
def b15_1 (R:EP)(C7:VP)(x0 x17 x84:Value)(w4:World)(_r:Tok R:=tok R)(_C7:Tok C7:=tok C7):Prop :=
 NILC x0 fun v5=>
 RUN prog R (fieldAt 83 v5 0) w4 fun v6 w7=>
 RUN prog R (loadAt 80 v6) w7 fun v8 w9=>
 RUN prog R (buildSlice 24 1 #[(0,x17)]) w9 fun v10 w11=>
 CALL prog R Zaf.id #[v8,(Value.int .i64 0),v10] w11 fun v12 w13=>
 b10 R C7 x84 w13
def b15 (R:EP)(C7:VP)(x0 x12 x17 x84:Value)(w:World)(_r:Tok R:=tok R)(_C7:Tok C7:=tok C7):Prop :=
 RUN prog R (fieldAt 124 x12 3) w fun v1 w2=>
 RUN prog R (loadAt 4 v1) w2 fun v3 w4=>
 SPL v3
 (b15_1 R C7 x0 x17 x84 w4)
 (b10 R C7 x84 w4)
abbrev q3 (R:EP)(C7:VP):XP:=QX (fun z w=>b10 R C7 (z 84) w) (r0 R) [(14,(fun z w=>b10 R C7 (z 84) w)),(12,(fun z w=>b4 R (z 0) w))]
theorem Zfl (R:EP)(C7:VP):TI prog R p9 (q3 R C7) fun z w=>b15 R C7 (z 0) (z 12) (z 17) (z 84) w:=ofT
def b14_1 (R:EP)(C7:VP)(x0 x2 x12 x84 v12 v21 v22 v32:Value)(w33:World)(_r:Tok R:=tok R)(_C7:Tok C7:=tok C7):Prop :=
 Sem.run prog (loadAt 80 v21) w33 = .ok v22 w33∧(LD prog (lookup 116 x2 v32 false) w33 fun v34=>
 RUN prog R (buildSlice 24 1 #[(0,v12)]) w33 fun v35 w36=>
 Sem.run prog (lookup 116 x2 v32 false) w36 = .ok v34 w36∧(Sem.run prog (loadAt 80 v21) w36 = .ok v22 w36∧(CALL prog R Zaf.id #[v22,v34,v35] w36 fun v37 w38=>
 b15 R C7 x0 x12 v12 x84 w38)))
def b14_2 (R:EP)(C7:VP)(x0 x2 x12 x84 v12 v21 v22 v39 v41:Value)(w42:World)(_r:Tok R:=tok R)(_C7:Tok C7:=tok C7):Prop :=
 Sem.run prog (loadAt 80 v21) w42 = .ok v22 w42∧(LD prog (lookup 116 x2 v41 false) w42 fun v43=>
 CALL prog R Zaf.id #[v22,v43,v39] w42 fun v44 w45=>
 b15 R C7 x0 x12 v12 x84 w45)
def b14_3 (R:EP)(C7:VP)(x0 x2 x12 x84 v12 v21 v22 v28:Value)(w29:World)(_r:Tok R:=tok R)(_C7:Tok C7:=tok C7):Prop :=
 Sem.run prog (loadAt 80 v21) w29 = .ok v22 w29∧(PUR prog (extract v28 0) fun v30=>
 PUR prog (extract v28 1) fun v31=>
 (CALL prog R Za9.id #[v30,v31] w29 fun v32 w33=>
 b14_1 R C7 x0 x2 x12 x84 v12 v21 v22 v32 w33) ∧
 (RUN prog R (buildSlice 24 1 #[(0,v12)]) w29 fun v39 w40=>
 Sem.run prog (loadAt 80 v21) w40 = .ok v22 w40∧(CALL prog R Za9.id #[v30,v31] w40 fun v41 w42=>
 b14_2 R C7 x0 x2 x12 x84 v12 v21 v22 v39 v41 w42)))
def b14_4 (R:EP)(C7:VP)(x0 x2 x12 x84 v12 v21 v22 v46 v52:Value)(w53:World)(_r:Tok R:=tok R)(_C7:Tok C7:=tok C7):Prop :=
 Sem.run prog (loadAt 80 v21) w53 = .ok v22 w53∧(LD prog (lookup 116 x2 v52 false) w53 fun v54=>
 CALL prog R Zaf.id #[v22,v54,v46] w53 fun v55 w56=>
 b15 R C7 x0 x12 v12 x84 w56)
def b14_5 (R:EP)(C7:VP)(x0 x2 x12 x84 v12 v21 v22 v46 v48:Value)(w49:World)(_r:Tok R:=tok R)(_C7:Tok C7:=tok C7):Prop :=
 Sem.run prog (loadAt 80 v21) w49 = .ok v22 w49∧(PUR prog (extract v48 0) fun v50=>
 PUR prog (extract v48 1) fun v51=>
 CALL prog R Za9.id #[v50,v51] w49 fun v52 w53=>
 b14_4 R C7 x0 x2 x12 x84 v12 v21 v22 v46 v52 w53)
def b14_6 (R:EP)(C7:VP)(x0 x2 x12 x84 v12:Value)(w19:World)(_r:Tok R:=tok R)(_C7:Tok C7:=tok C7):Prop :=
 NILC x0 fun v20=>
 PUR prog (fieldAt 83 v20 0) fun v21=>
 LD prog (loadAt 80 v21) (World.drew w19) fun v22=>
 NILC x0 fun v23=>
 PUR prog (fieldAt 83 v23 0) fun v24=>
 LD prog (loadAt 80 v24) (World.drew w19) fun v25=>
 PUR prog (fieldAt 124 x12 2) fun v26=>
 LD prog (loadAt 9 v26) (World.drew w19) fun v27=>
 (CALL prog R Zu.id #[v25,v27] (World.drew w19) fun v28 w29=>
 b14_3 R C7 x0 x2 x12 x84 v12 v21 v22 v28 w29) ∧
 (RUN prog R (buildSlice 24 1 #[(0,v12)]) (World.drew w19) fun v46 w47=>
 Sem.run prog (loadAt 9 v26) w47 = .ok v27 w47∧(Sem.run prog (loadAt 80 v24) w47 = .ok v25 w47∧(Sem.run prog (loadAt 80 v21) w47 = .ok v22 w47∧(CALL prog R Zu.id #[v25,v27] w47 fun v48 w49=>
 b14_5 R C7 x0 x2 x12 x84 v12 v21 v22 v46 v48 w49))))
def b14_7 (R:EP)(C7:VP)(x0 x2 x12 x84 v12:Value)(w13:World)(_r:Tok R:=tok R)(_C7:Tok C7:=tok C7):Prop :=
 RUN prog R (fieldAt 124 x12 2) w13 fun v14 w15=>
 RUN prog R (loadAt 9 v14) w15 fun v16 w17=>
 RUN prog R (bins .neq 9 (.tmp 123) (.const (Value.string ⟨#[]⟩)) v16 (Value.string ⟨#[]⟩)) w17 fun v18 w19=>
 SPL v18
 (b14_6 R C7 x0 x2 x12 x84 v12 w19)
 (b15 R C7 x0 x12 v12 x84 w19)
def b14_8 (R:EP)(C7:VP)(x0 x2 x12 x84 v6:Value)(w7:World)(_r:Tok R:=tok R)(_C7:Tok C7:=tok C7):Prop :=
 RUN prog R (extract v6 0) w7 fun v8 w9=>
 RUN prog R (extract v6 1) w9 fun v10 w11=>
 CALL prog R Za9.id #[v8,v10] w11 fun v12 w13=>
 b14_7 R C7 x0 x2 x12 x84 v12 w13
def b14 (R:EP)(C7:VP)(x0 x2 x12 x13 x14 x84:Value)(w:World)(_r:Tok R:=tok R)(_C7:Tok C7:=tok C7):Prop :=
 NILC x0 fun v1=>
 RUN prog R (fieldAt 83 v1 0) w fun v2 w3=>
 RUN prog R (loadAt 80 v2) w3 fun v4 w5=>
 CALL prog R Zs.id #[v4,x13,x14] w5 fun v6 w7=>
 b14_8 R C7 x0 x2 x12 x84 v6 w7
theorem Zdq (R:EP)(C7:VP):TI prog R (sndC p8) (q3 R C7) fun z w=>b14 R C7 (z 0) (z 2) (z 12) (z 13) (z 14) (z 84) w:=appT 1 (Zfl R C7)
noncomputable abbrev p10:Code:=Zi 1 (fstC p8)
noncomputable abbrev p11:Code:=Zby (blkC p10)
def b19_1 (R:EP)(C18:Value→VP)(x14 x101 v12:Value)(w13:World)(_r:Tok R:=tok R)(_C18:Tok C18:=tok C18):Prop :=
 RUN prog R (buildSlice 24 1 #[(0,v12)]) w13 fun v14 w15=>
 RUN prog R (Builtin.append_ #[24,24] 24 #[x14,v14]) w15 fun v16 w17=>
 RUN prog R (bins .add 3 (.tmp 101) (.const (Value.int .i64 1)) x101 (Value.int .i64 1)) w17 fun v18 w19=>
 C18 v16 v18 w19
def b19_2 (R:EP)(C18:Value→VP)(x0 x14 x99 x101:Value)(w2:World)(_r:Tok R:=tok R)(_C18:Tok C18:=tok C18):Prop :=
 RUN prog R (indexAt 34 x99 x101) w2 fun v3 w4=>
 RUN prog R (loadAt 73 v3) w4 fun v5 w6=>
 RUN prog R (alloc 73 true (.tuple #[])) w6 fun v7 w8=>
 RUNU prog R (storeAt 73 v7 v5) w8 fun w9=>
 RUN prog R (loadAt 73 v7) w9 fun v10 w11=>
 CALL prog R Zai.id #[x0,v10] w11 fun v12 w13=>
 b19_1 R C18 x14 x101 v12 w13
def b19 (R:EP)(C7:VP)(C18:Value→VP)(x0 x2 x12 x13 x14 x84 x99 x100 x101:Value)(w:World)(_r:Tok R:=tok R)(_C7:Tok C7:=tok C7)(_C18:Tok C18:=tok C18):Prop :=
 RUN prog R (bins .lss 3 (.tmp 101) (.tmp 100) x101 x100) w fun v1 w2=>
 SPL v1
 (b19_2 R C18 x0 x14 x99 x101 w2)
 (b14 R C7 x0 x2 x12 x13 x14 x84 w2)
abbrev q4 (R:EP)(C7:VP)(C18:Value→VP):XP:=QX (fun z w=>C18 (z 14) (z 101) w) (r0 R) [(16,(fun z w=>b14 R C7 (z 0) (z 2) (z 12) (z 13) (z 14) (z 84) w)),(14,(fun z w=>b10 R C7 (z 84) w)),(12,(fun z w=>b4 R (z 0) w))]
theorem Zgy (R:EP)(C7:VP)(C18:Value→VP):TI prog R p11 (q4 R C7 C18) fun z w=>b19 R C7 C18 (z 0) (z 2) (z 12) (z 13) (z 14) (z 84) (z 99) (z 100) (z 101) w:=ofT
def l18 (R:EP)(C7:VP)(x0 x2 x12 x13 x14 x84 x99 x100 x101:Value)(w:World)(_r:Tok R:=tok R)(_C7:Tok C7:=tok C7):Prop :=
 ∃(J:Value→VP) (μ:Value→Value→World→Nat),J x14 x101 w∧∀y14 y101 w0,J y14 y101 w0→b19 R C7 (fun z14 z101 w1=>J z14 z101 w1∧μ z14 z101 w1<μ y14 y101 w0) x0 x2 x12 x13 y14 x84 x99 x100 y101 w0
abbrev q5 (R:EP)(C7:VP):XP:=QX (fun z w=>b14 R C7 (z 0) (z 2) (z 12) (z 13) (z 14) (z 84) w) (r0 R) [(16,(fun z w=>b14 R C7 (z 0) (z 2) (z 12) (z 13) (z 14) (z 84) w)),(14,(fun z w=>b10 R C7 (z 84) w)),(12,(fun z w=>b4 R (z 0) w))]
theorem Zq7 (R:EP)(C7:VP):TI prog R (blkC p10) (q5 R C7) fun z w=>l18 R C7 (z 0) (z 2) (z 12) (z 13) (z 14) (z 84) (z 99) (z 100) (z 101) w:=fun z w h=>by
 unfold l18 at h
 obtain ⟨J,μ,h0,hr⟩:=h
 refine Zcg (fun z' w'=>J (z' 14) (z' 101) w') (fun z' w'=>μ (z' 14) (z' 101) w') h0 fun z' w' hA hI=>Zgy R C7 (fun z14 z101 w1=>J z14 z101 w1∧μ z14 z101 w1<μ (z' 14) (z' 101) w') z' w' ?_
 have h1:=hr (z' 14) (z' 101) w' hI
 rwa [←hA.on 0,←hA.on 2,←hA.on 12,←hA.on 13,←hA.on 84,←hA.on 99,←hA.on 100]at h1
theorem l18_intro (R:EP)(C7:VP)(x0 x2 x12 x13 x14 x84 x99 x100 x101:Value)(w:World)(J:Value→VP)(μ:Value→Value→World→Nat)(h0:J x14 x101 w)
   (hr:∀y14 y101 w0,J y14 y101 w0→∀C18:Value→VP,(∀z14 z101 w1,J z14 z101 w1→μ z14 z101 w1<μ y14 y101 w0→C18 z14 z101 w1)→b19 R C7 C18 x0 x2 x12 x13 y14 x84 x99 x100 y101 w0):l18 R C7 x0 x2 x12 x13 x14 x84 x99 x100 x101 w:=by
 unfold l18
 exact ⟨J,μ,h0,fun y14 y101 w0 hJ=>hr y14 y101 w0 hJ _ (fun z14 z101 w1 h1 h2=>⟨h1,h2⟩)⟩
abbrev q6 (R:EP)(C7:VP):XP:=QX (fun z w=>b14 R C7 (z 0) (z 2) (z 12) (z 13) (z 14) (z 84) w) (r0 R) [(14,(fun z w=>b10 R C7 (z 84) w)),(12,(fun z w=>b4 R (z 0) w))]
theorem Zih (R:EP)(C7:VP):TI prog R p10 (q6 R C7) fun z w=>l18 R C7 (z 0) (z 2) (z 12) (z 13) (z 14) (z 84) (z 99) (z 100) (z 101) w:=Zac 8 (Zq7 R C7)
def b16 (R:EP)(C7:VP)(x0 x2 x12 x13 x14 x84:Value)(w:World)(_r:Tok R:=tok R)(_C7:Tok C7:=tok C7):Prop :=
 RUN prog R (fieldAt 124 x12 1) w fun v1 w2=>
 RUN prog R (loadAt 34 v1) w2 fun v3 w4=>
 RUN prog R (Builtin.len_ #[34] 3 #[v3]) w4 fun v5 w6=>
 l18 R C7 x0 x2 x12 x13 x14 x84 v3 v5 (Value.int .i64 0) w6
theorem Zex (R:EP)(C7:VP):TI prog R (fstC p8) (q6 R C7) fun z w=>b16 R C7 (z 0) (z 2) (z 12) (z 13) (z 14) (z 84) w:=appT 0 (Zih R C7)
theorem Zia (R:EP)(C7:VP):TI prog R p8 (q3 R C7) fun z w=>b16 R C7 (z 0) (z 2) (z 12) (z 13) (z 14) (z 84) w:=seqT (Zex R C7) (Zdq R C7)
def b12_1 (R:EP)(C7:VP)(x0 x2 x84 v5 v13:Value)(w14:World)(_r:Tok R:=tok R)(_C7:Tok C7:=tok C7):Prop :=
 PUR prog (extract v13 0) fun v15=>
 PUR prog (extract v13 1) fun v16=>
 CALL prog R Za9.id #[v15,v16] w14 fun v17 w18=>
 b16 R C7 x0 x2 v5 v17 (Value.slice Option.none 0 0) x84 w18
def b12 (R:EP)(C7:VP)(x0 x2 x82 x84:Value)(w:World)(_r:Tok R:=tok R)(_C7:Tok C7:=tok C7):Prop :=
 RUN prog R (indexAt 100 x82 x84) w fun v1 w2=>
 RUN prog R (loadAt 124 v1) w2 fun v3 w4=>
 RUN prog R (alloc 124 true (.tuple #[])) w4 fun v5 w6=>
 RUNU prog R (storeAt 124 v5 v3) w6 fun w7=>
 NILC x0 fun v8=>
 PUR prog (fieldAt 83 v8 0) fun v9=>
 LD prog (loadAt 80 v9) (World.drew w7) fun v10=>
 PUR prog (fieldAt 124 v5 0) fun v11=>
 LD prog (loadAt 9 v11) (World.drew w7) fun v12=>
 CALL prog R Zad.id #[v10,v12] (World.drew w7) fun v13 w14=>
 b12_1 R C7 x0 x2 x84 v5 v13 w14
theorem Zed (R:EP)(C7:VP):TI prog R p7 (q3 R C7) fun z w=>b12 R C7 (z 0) (z 2) (z 82) (z 84) w:=appT 2 (Zia R C7)
abbrev q7 (R:EP)(C7:VP):XP:=QX (fun z w=>b10 R C7 (z 84) w) (r0 R) [(12,(fun z w=>b4 R (z 0) w))]
theorem Zkx (R:EP)(C7:VP):TI prog R (fstC p6) (q7 R C7) fun z w=>b12 R C7 (z 0) (z 2) (z 82) (z 84) w:=Zac 7 (Zed R C7)
theorem Zqm (R:EP)(C7:VP):TI prog R p6 (q2 R C7) fun z w=>b12 R C7 (z 0) (z 2) (z 82) (z 84) w:=seqT (Zkx R C7) (Zef R C7)
def b8 (R:EP)(C7:VP)(x0 x2 x82 x83 x84:Value)(w:World)(_r:Tok R:=tok R)(_C7:Tok C7:=tok C7):Prop :=
 RUN prog R (bins .lss 3 (.tmp 84) (.tmp 83) x84 x83) w fun v1 w2=>
 SPL v1
 (b12 R C7 x0 x2 x82 x84 w2)
 (b4 R x0 w2)
theorem Zhr (R:EP)(C7:VP):TI prog R p5 (q2 R C7) fun z w=>b8 R C7 (z 0) (z 2) (z 82) (z 83) (z 84) w:=appT 1 (Zqm R C7)
def l7 (R:EP)(x0 x2 x82 x83 x84:Value)(w:World)(_r:Tok R:=tok R):Prop :=
 ∃(J:VP) (μ:Value→World→Nat),J x84 w∧∀y84 w0,J y84 w0→b8 R (fun z84 w1=>J z84 w1∧μ z84 w1<μ y84 w0) x0 x2 x82 x83 y84 w0
abbrev q8 (R:EP):XP:=QX (fun z w=>b4 R (z 0) w) (r0 R) [(12,(fun z w=>b4 R (z 0) w))]
theorem Zuf (R:EP):TI prog R (blkC p4) (q8 R) fun z w=>l7 R (z 0) (z 2) (z 82) (z 83) (z 84) w:=fun z w h=>by
 unfold l7 at h
 obtain ⟨J,μ,h0,hr⟩:=h
 refine Zcg (fun z' w'=>J (z' 84) w') (fun z' w'=>μ (z' 84) w') h0 fun z' w' hA hI=>Zhr R (fun z84 w1=>J z84 w1∧μ z84 w1<μ (z' 84) w') z' w' ?_
 have h1:=hr (z' 84) w' hI
 rwa [←hA.on 0,←hA.on 2,←hA.on 82,←hA.on 83]at h1
theorem l7_intro (R:EP)(x0 x2 x82 x83 x84:Value)(w:World)(J:VP)(μ:Value→World→Nat)(h0:J x84 w)
   (hr:∀y84 w0,J y84 w0→∀C7:VP,(∀z84 w1,J z84 w1→μ z84 w1<μ y84 w0→C7 z84 w1)→b8 R C7 x0 x2 x82 x83 y84 w0):l7 R x0 x2 x82 x83 x84 w:=by
 unfold l7
 exact ⟨J,μ,h0,fun y84 w0 hJ=>hr y84 w0 hJ _ (fun z84 w1 h1 h2=>⟨h1,h2⟩)⟩
abbrev q9 (R:EP):XP:=QX (fun z w=>b4 R (z 0) w) (r0 R) []
theorem Zjt (R:EP):TI prog R p4 (q9 R) fun z w=>l7 R (z 0) (z 2) (z 82) (z 83) (z 84) w:=Zac 6 (Zuf R)
def b5 (R:EP)(x0 x2:Value)(w:World)(_r:Tok R:=tok R):Prop :=
 NILC x0 fun v1=>
 RUN prog R (fieldAt 83 v1 1) w fun v2 w3=>
 RUN prog R (loadAt 75 v2) w3 fun v4 w5=>
 NILC v4 fun v6=>
 RUN prog R (fieldAt 102 v6 7) w5 fun v7 w8=>
 RUN prog R (loadAt 100 v7) w8 fun v9 w10=>
 RUN prog R (Builtin.len_ #[100] 3 #[v9]) w10 fun v11 w12=>
 l7 R x0 x2 v9 v11 (Value.int .i64 0) w12
theorem Zeb (R:EP):TI prog R p3 (q9 R) fun z w=>b5 R (z 0) (z 2) w:=appT 0 (Zjt R)
theorem Zn1 (R:EP):TI prog R (sndC p1) (q1 R) fun z w=>b5 R (z 0) (z 2) w:=seqT (Zeb R) (Zbs R)
noncomputable abbrev p12:Code:=Zi 1 (fstC p1)
noncomputable abbrev p13:Code:=Zby (blkC p12)
noncomputable abbrev p14:Code:=Zi 2 p13
def b25 (R:EP)(C22:VP)(x27:Value)(w:World)(_r:Tok R:=tok R)(_C22:Tok C22:=tok C22):Prop :=
 RUN prog R (bins .add 3 (.tmp 27) (.const (Value.int .i64 1)) x27 (Value.int .i64 1)) w fun v1 w2=>
 C22 v1 w2
abbrev q10 (R:EP)(C22:VP):XP:=QX (fun z w=>C22 (z 27) w) (r0 R) [(0,(fun z w=>b5 R (z 0) (z 2) w))]
theorem Zkv (R:EP)(C22:VP):TI prog R (sndC p14) (q10 R C22) fun z w=>b25 R C22 (z 27) w:=ofT
noncomputable abbrev p15:Code:=blkC (fstC p14)
noncomputable abbrev p16:Code:=Zi 2 p15
noncomputable abbrev p17:Code:=Zi 1 (sndC p16)
noncomputable abbrev p18:Code:=Zi 2 (thnC p17)
noncomputable abbrev p19:Code:=Zby (blkC p18)
def b34_1 (R:EP)(C33:VP)(x2 x8 x65 x67:Value)(w2:World)(_r:Tok R:=tok R)(_C33:Tok C33:=tok C33):Prop :=
 RUN prog R (indexAt 24 x65 x67) w2 fun v3 w4=>
 RUN prog R (loadAt 3 v3) w4 fun v5 w6=>
 RUNU prog R (mapUpdate 116 x2 v5 x8) w6 fun w7=>
 RUN prog R (bins .add 3 (.tmp 67) (.const (Value.int .i64 1)) x67 (Value.int .i64 1)) w7 fun v8 w9=>
 C33 v8 w9
def b34 (R:EP)(C22:VP)(C33:VP)(x2 x8 x27 x65 x66 x67:Value)(w:World)(_r:Tok R:=tok R)(_C22:Tok C22:=tok C22)(_C33:Tok C33:=tok C33):Prop :=
 RUN prog R (bins .lss 3 (.tmp 67) (.tmp 66) x67 x66) w fun v1 w2=>
 SPL v1
 (b34_1 R C33 x2 x8 x65 x67 w2)
 (b25 R C22 x27 w2)
abbrev q11 (R:EP)(C22:VP)(C33:VP):XP:=QX (fun z w=>C33 (z 67) w) (r0 R) [(8,(fun z w=>b25 R C22 (z 27) w)),(2,(fun z w=>b25 R C22 (z 27) w)),(0,(fun z w=>b5 R (z 0) (z 2) w))]
theorem Zxu (R:EP)(C22:VP)(C33:VP):TI prog R p19 (q11 R C22 C33) fun z w=>b34 R C22 C33 (z 2) (z 8) (z 27) (z 65) (z 66) (z 67) w:=ofT
def l33 (R:EP)(C22:VP)(x2 x8 x27 x65 x66 x67:Value)(w:World)(_r:Tok R:=tok R)(_C22:Tok C22:=tok C22):Prop :=
 ∃(J:VP) (μ:Value→World→Nat),J x67 w∧∀y67 w0,J y67 w0→b34 R C22 (fun z67 w1=>J z67 w1∧μ z67 w1<μ y67 w0) x2 x8 x27 x65 x66 y67 w0
abbrev q12 (R:EP)(C22:VP):XP:=QX (fun z w=>b25 R C22 (z 27) w) (r0 R) [(8,(fun z w=>b25 R C22 (z 27) w)),(2,(fun z w=>b25 R C22 (z 27) w)),(0,(fun z w=>b5 R (z 0) (z 2) w))]
theorem ZZ336 (R:EP)(C22:VP):TI prog R (blkC p18) (q12 R C22) fun z w=>l33 R C22 (z 2) (z 8) (z 27) (z 65) (z 66) (z 67) w:=fun z w h=>by
 unfold l33 at h
 obtain ⟨J,μ,h0,hr⟩:=h
 refine Zcg (fun z' w'=>J (z' 67) w') (fun z' w'=>μ (z' 67) w') h0 fun z' w' hA hI=>Zxu R C22 (fun z67 w1=>J z67 w1∧μ z67 w1<μ (z' 67) w') z' w' ?_
 have h1:=hr (z' 67) w' hI
 rwa [←hA.on 2,←hA.on 8,←hA.on 27,←hA.on 65,←hA.on 66]at h1
theorem l33_intro (R:EP)(C22:VP)(x2 x8 x27 x65 x66 x67:Value)(w:World)(J:VP)(μ:Value→World→Nat)(h0:J x67 w)
   (hr:∀y67 w0,J y67 w0→∀C33:VP,(∀z67 w1,J z67 w1→μ z67 w1<μ y67 w0→C33 z67 w1)→b34 R C22 C33 x2 x8 x27 x65 x66 y67 w0):l33 R C22 x2 x8 x27 x65 x66 x67 w:=by
 unfold l33
 exact ⟨J,μ,h0,fun y67 w0 hJ=>hr y67 w0 hJ _ (fun z67 w1 h1 h2=>⟨h1,h2⟩)⟩
abbrev q13 (R:EP)(C22:VP):XP:=QX (fun z w=>b25 R C22 (z 27) w) (r0 R) [(2,(fun z w=>b25 R C22 (z 27) w)),(0,(fun z w=>b5 R (z 0) (z 2) w))]
theorem ZZ337 (R:EP)(C22:VP):TI prog R p18 (q13 R C22) fun z w=>l33 R C22 (z 2) (z 8) (z 27) (z 65) (z 66) (z 67) w:=Zac 4 (ZZ336 R C22)
def b31_1 (R:EP)(C22:VP)(x2 x5 x27 v6:Value)(w7:World)(_r:Tok R:=tok R)(_C22:Tok C22:=tok C22):Prop :=
 PUR prog (extract v6 0) fun v8=>
 PUR prog (extract v6 1) fun v9=>
 CALL prog R Za9.id #[v8,v9] w7 fun v10 w11=>
 RUN prog R (Builtin.len_ #[24] 3 #[x5]) w11 fun v12 w13=>
 l33 R C22 x2 v10 x27 x5 v12 (Value.int .i64 0) w13
def b31 (R:EP)(C22:VP)(x0 x2 x4 x5 x27:Value)(w:World)(_r:Tok R:=tok R)(_C22:Tok C22:=tok C22):Prop :=
 NILC x0 fun v1=>
 PUR prog (fieldAt 83 v1 0) fun v2=>
 LD prog (loadAt 80 v2) (World.drew w) fun v3=>
 PUR prog (fieldAt 118 x4 0) fun v4=>
 LD prog (loadAt 3 v4) (World.drew w) fun v5=>
 CALL prog R Zag.id #[v3,v5,x5] (World.drew w) fun v6 w7=>
 b31_1 R C22 x2 x5 x27 v6 w7
theorem ZZ361 (R:EP)(C22:VP):TI prog R (thnC p17) (q13 R C22) fun z w=>b31 R C22 (z 0) (z 2) (z 4) (z 5) (z 27) w:=appT 1 (ZZ337 R C22)
def b35 (R:EP)(C22:VP)(x27:Value)(w:World)(_r:Tok R:=tok R)(_C22:Tok C22:=tok C22):Prop :=
 b25 R C22 x27 w
theorem Zzf (R:EP)(C22:VP):TI prog R (elsC p17) (q13 R C22) fun z w=>b35 R C22 (z 27) w:=ofT
def b30 (R:EP)(C22:VP)(x0 x2 x4 x5 x27 x53:Value)(w:World)(_r:Tok R:=tok R)(_C22:Tok C22:=tok C22):Prop :=
 SPL x53 (b31 R C22 x0 x2 x4 x5 x27 w) (b35 R C22 x27 w)
theorem ZZ36 (R:EP)(C22:VP):TI prog R p17 (q13 R C22) fun z w=>b30 R C22 (z 0) (z 2) (z 4) (z 5) (z 27) (z 53) w:=fun z w h=>by
 have e:Code.cond (.tmp 53) (thnC p17) (elsC p17)=p17:=by kernel_rfl
 rw[←e]
 exact Znh h (fun h=>ZZ361 R C22 z w h) (fun h=>Zzf R C22 z w h)
def b29 (R:EP)(C22:VP)(x0 x2 x4 x5 x27:Value)(w:World)(_r:Tok R:=tok R)(_C22:Tok C22:=tok C22):Prop :=
 RUN prog R (fieldAt 118 x4 0) w fun v1 w2=>
 RUN prog R (loadAt 3 v1) w2 fun v3 w4=>
 RUN prog R (bins .gtr 3 (.tmp 52) (.const (Value.int .i64 0)) v3 (Value.int .i64 0)) w4 fun v5 w6=>
 b30 R C22 x0 x2 x4 x5 x27 v5 w6
theorem Zoh (R:EP)(C22:VP):TI prog R (sndC p16) (q13 R C22) fun z w=>b29 R C22 (z 0) (z 2) (z 4) (z 5) (z 27) w:=appT 0 (ZZ36 R C22)
noncomputable abbrev p20:Code:=Zi 1 (fstC p16)
noncomputable abbrev p21:Code:=Zby (blkC p20)
def b39_1 (R:EP)(C38:Value→VP)(x5 x34 v18:Value)(w19:World)(_r:Tok R:=tok R)(_C38:Tok C38:=tok C38):Prop :=
 RUN prog R (buildSlice 24 1 #[(0,v18)]) w19 fun v20 w21=>
 RUN prog R (Builtin.append_ #[24,24] 24 #[x5,v20]) w21 fun v22 w23=>
 RUN prog R (bins .add 3 (.tmp 34) (.const (Value.int .i64 1)) x34 (Value.int .i64 1)) w23 fun v24 w25=>
 C38 v22 v24 w25
def b39_2 (R:EP)(C38:Value→VP)(x5 x34 v12:Value)(w13:World)(_r:Tok R:=tok R)(_C38:Tok C38:=tok C38):Prop :=
 RUN prog R (extract v12 0) w13 fun v14 w15=>
 RUN prog R (extract v12 1) w15 fun v16 w17=>
 CALL prog R Za9.id #[v14,v16] w17 fun v18 w19=>
 b39_1 R C38 x5 x34 v18 w19
def b39_3 (R:EP)(C38:Value→VP)(x0 x5 x32 x34:Value)(w2:World)(_r:Tok R:=tok R)(_C38:Tok C38:=tok C38):Prop :=
 RUN prog R (indexAt 23 x32 x34) w2 fun v3 w4=>
 RUN prog R (loadAt 9 v3) w4 fun v5 w6=>
 NILC x0 fun v7=>
 RUN prog R (fieldAt 83 v7 0) w6 fun v8 w9=>
 RUN prog R (loadAt 80 v8) w9 fun v10 w11=>
 CALL prog R Zu.id #[v10,v5] w11 fun v12 w13=>
 b39_2 R C38 x5 x34 v12 w13
def b39 (R:EP)(C22:VP)(C38:Value→VP)(x0 x2 x4 x5 x27 x32 x33 x34:Value)(w:World)(_r:Tok R:=tok R)(_C22:Tok C22:=tok C22)(_C38:Tok C38:=tok C38):Prop :=
 RUN prog R (bins .lss 3 (.tmp 34) (.tmp 33) x34 x33) w fun v1 w2=>
 SPL v1
 (b39_3 R C38 x0 x5 x32 x34 w2)
 (b29 R C22 x0 x2 x4 x5 x27 w2)
abbrev q14 (R:EP)(C22:VP)(C38:Value→VP):XP:=QX (fun z w=>C38 (z 5) (z 34) w) (r0 R) [(4,(fun z w=>b29 R C22 (z 0) (z 2) (z 4) (z 5) (z 27) w)),(2,(fun z w=>b25 R C22 (z 27) w)),(0,(fun z w=>b5 R (z 0) (z 2) w))]
theorem ZZ64 (R:EP)(C22:VP)(C38:Value→VP):TI prog R p21 (q14 R C22 C38) fun z w=>b39 R C22 C38 (z 0) (z 2) (z 4) (z 5) (z 27) (z 32) (z 33) (z 34) w:=ofT
def l38 (R:EP)(C22:VP)(x0 x2 x4 x5 x27 x32 x33 x34:Value)(w:World)(_r:Tok R:=tok R)(_C22:Tok C22:=tok C22):Prop :=
 ∃(J:Value→VP) (μ:Value→Value→World→Nat),J x5 x34 w∧∀y5 y34 w0,J y5 y34 w0→b39 R C22 (fun z5 z34 w1=>J z5 z34 w1∧μ z5 z34 w1<μ y5 y34 w0) x0 x2 x4 y5 x27 x32 x33 y34 w0
abbrev q15 (R:EP)(C22:VP):XP:=QX (fun z w=>b29 R C22 (z 0) (z 2) (z 4) (z 5) (z 27) w) (r0 R) [(4,(fun z w=>b29 R C22 (z 0) (z 2) (z 4) (z 5) (z 27) w)),(2,(fun z w=>b25 R C22 (z 27) w)),(0,(fun z w=>b5 R (z 0) (z 2) w))]
theorem ZZ283 (R:EP)(C22:VP):TI prog R (blkC p20) (q15 R C22) fun z w=>l38 R C22 (z 0) (z 2) (z 4) (z 5) (z 27) (z 32) (z 33) (z 34) w:=fun z w h=>by
 unfold l38 at h
 obtain ⟨J,μ,h0,hr⟩:=h
 refine Zcg (fun z' w'=>J (z' 5) (z' 34) w') (fun z' w'=>μ (z' 5) (z' 34) w') h0 fun z' w' hA hI=>ZZ64 R C22 (fun z5 z34 w1=>J z5 z34 w1∧μ z5 z34 w1<μ (z' 5) (z' 34) w') z' w' ?_
 have h1:=hr (z' 5) (z' 34) w' hI
 rwa [←hA.on 0,←hA.on 2,←hA.on 4,←hA.on 27,←hA.on 32,←hA.on 33]at h1
theorem l38_intro (R:EP)(C22:VP)(x0 x2 x4 x5 x27 x32 x33 x34:Value)(w:World)(J:Value→VP)(μ:Value→Value→World→Nat)(h0:J x5 x34 w)
   (hr:∀y5 y34 w0,J y5 y34 w0→∀C38:Value→VP,(∀z5 z34 w1,J z5 z34 w1→μ z5 z34 w1<μ y5 y34 w0→C38 z5 z34 w1)→b39 R C22 C38 x0 x2 x4 y5 x27 x32 x33 y34 w0):l38 R C22 x0 x2 x4 x5 x27 x32 x33 x34 w:=by
 unfold l38
 exact ⟨J,μ,h0,fun y5 y34 w0 hJ=>hr y5 y34 w0 hJ _ (fun z5 z34 w1 h1 h2=>⟨h1,h2⟩)⟩
abbrev q16 (R:EP)(C22:VP):XP:=QX (fun z w=>b29 R C22 (z 0) (z 2) (z 4) (z 5) (z 27) w) (r0 R) [(2,(fun z w=>b25 R C22 (z 27) w)),(0,(fun z w=>b5 R (z 0) (z 2) w))]
theorem ZZ299 (R:EP)(C22:VP):TI prog R p20 (q16 R C22) fun z w=>l38 R C22 (z 0) (z 2) (z 4) (z 5) (z 27) (z 32) (z 33) (z 34) w:=Zac 2 (ZZ283 R C22)
def b36 (R:EP)(C22:VP)(x0 x2 x4 x5 x27:Value)(w:World)(_r:Tok R:=tok R)(_C22:Tok C22:=tok C22):Prop :=
 RUN prog R (fieldAt 118 x4 1) w fun v1 w2=>
 RUN prog R (loadAt 23 v1) w2 fun v3 w4=>
 RUN prog R (Builtin.len_ #[23] 3 #[v3]) w4 fun v5 w6=>
 l38 R C22 x0 x2 x4 x5 x27 v3 v5 (Value.int .i64 0) w6
theorem ZZ371 (R:EP)(C22:VP):TI prog R (fstC p16) (q16 R C22) fun z w=>b36 R C22 (z 0) (z 2) (z 4) (z 5) (z 27) w:=appT 0 (ZZ299 R C22)
theorem ZZ288 (R:EP)(C22:VP):TI prog R p16 (q13 R C22) fun z w=>b36 R C22 (z 0) (z 2) (z 4) (z 5) (z 27) w:=seqT (ZZ371 R C22) (Zoh R C22)
def b27 (R:EP)(C22:VP)(x0 x2 x25 x27:Value)(w:World)(_r:Tok R:=tok R)(_C22:Tok C22:=tok C22):Prop :=
 RUN prog R (indexAt 99 x25 x27) w fun v1 w2=>
 RUN prog R (loadAt 118 v1) w2 fun v3 w4=>
 RUN prog R (alloc 118 true (.tuple #[])) w4 fun v5 w6=>
 RUNU prog R (storeAt 118 v5 v3) w6 fun w7=>
 b36 R C22 x0 x2 v5 (Value.slice Option.none 0 0) x27 w7
theorem Zs6 (R:EP)(C22:VP):TI prog R p15 (q13 R C22) fun z w=>b27 R C22 (z 0) (z 2) (z 25) (z 27) w:=appT 1 (ZZ288 R C22)
abbrev q17 (R:EP)(C22:VP):XP:=QX (fun z w=>b25 R C22 (z 27) w) (r0 R) [(0,(fun z w=>b5 R (z 0) (z 2) w))]
theorem ZZ315 (R:EP)(C22:VP):TI prog R (fstC p14) (q17 R C22) fun z w=>b27 R C22 (z 0) (z 2) (z 25) (z 27) w:=Zac 1 (Zs6 R C22)
theorem ZZ32 (R:EP)(C22:VP):TI prog R p14 (q10 R C22) fun z w=>b27 R C22 (z 0) (z 2) (z 25) (z 27) w:=seqT (ZZ315 R C22) (Zkv R C22)
def b23 (R:EP)(C22:VP)(x0 x2 x25 x26 x27:Value)(w:World)(_r:Tok R:=tok R)(_C22:Tok C22:=tok C22):Prop :=
 RUN prog R (bins .lss 3 (.tmp 27) (.tmp 26) x27 x26) w fun v1 w2=>
 SPL v1
 (b27 R C22 x0 x2 x25 x27 w2)
 (b5 R x0 x2 w2)
theorem Zj6 (R:EP)(C22:VP):TI prog R p13 (q10 R C22) fun z w=>b23 R C22 (z 0) (z 2) (z 25) (z 26) (z 27) w:=appT 1 (ZZ32 R C22)
def l22 (R:EP)(x0 x2 x25 x26 x27:Value)(w:World)(_r:Tok R:=tok R):Prop :=
 ∃(J:VP) (μ:Value→World→Nat),J x27 w∧∀y27 w0,J y27 w0→b23 R (fun z27 w1=>J z27 w1∧μ z27 w1<μ y27 w0) x0 x2 x25 x26 y27 w0
abbrev q18 (R:EP):XP:=QX (fun z w=>b5 R (z 0) (z 2) w) (r0 R) [(0,(fun z w=>b5 R (z 0) (z 2) w))]
theorem ZZ45 (R:EP):TI prog R (blkC p12) (q18 R) fun z w=>l22 R (z 0) (z 2) (z 25) (z 26) (z 27) w:=fun z w h=>by
 unfold l22 at h
 obtain ⟨J,μ,h0,hr⟩:=h
 refine Zcg (fun z' w'=>J (z' 27) w') (fun z' w'=>μ (z' 27) w') h0 fun z' w' hA hI=>Zj6 R (fun z27 w1=>J z27 w1∧μ z27 w1<μ (z' 27) w') z' w' ?_
 have h1:=hr (z' 27) w' hI
 rwa [←hA.on 0,←hA.on 2,←hA.on 25,←hA.on 26]at h1
theorem l22_intro (R:EP)(x0 x2 x25 x26 x27:Value)(w:World)(J:VP)(μ:Value→World→Nat)(h0:J x27 w)
   (hr:∀y27 w0,J y27 w0→∀C22:VP,(∀z27 w1,J z27 w1→μ z27 w1<μ y27 w0→C22 z27 w1)→b23 R C22 x0 x2 x25 x26 y27 w0):l22 R x0 x2 x25 x26 x27 w:=by
 unfold l22
 exact ⟨J,μ,h0,fun y27 w0 hJ=>hr y27 w0 hJ _ (fun z27 w1 h1 h2=>⟨h1,h2⟩)⟩
abbrev q19 (R:EP):XP:=QX (fun z w=>b5 R (z 0) (z 2) w) (r0 R) []
theorem Zsx (R:EP):TI prog R p12 (q19 R) fun z w=>l22 R (z 0) (z 2) (z 25) (z 26) (z 27) w:=Zac 0 (ZZ45 R)
def b20 (R:EP)(x0 x2:Value)(w:World)(_r:Tok R:=tok R):Prop :=
 NILC x0 fun v1=>
 RUN prog R (fieldAt 83 v1 1) w fun v2 w3=>
 RUN prog R (loadAt 75 v2) w3 fun v4 w5=>
 NILC v4 fun v6=>
 RUN prog R (fieldAt 102 v6 4) w5 fun v7 w8=>
 RUN prog R (loadAt 99 v7) w8 fun v9 w10=>
 RUN prog R (Builtin.len_ #[99] 3 #[v9]) w10 fun v11 w12=>
 l22 R x0 x2 v9 v11 (Value.int .i64 0) w12
theorem Zh5 (R:EP):TI prog R (fstC p1) (q19 R) fun z w=>b20 R (z 0) (z 2) w:=appT 0 (Zsx R)
theorem Za6 (R:EP):TI prog R p1 (q1 R) fun z w=>b20 R (z 0) (z 2) w:=seqT (Zh5 R) (Zn1 R)
def b1 (R:EP)(x0:Value)(w:World)(_r:Tok R:=tok R):Prop :=
 RUN prog R (makeMap 116 none) w fun v1 w2=>
 b20 R x0 v1 w2
theorem Zg (R:EP):TI prog R code (q1 R) fun z w=>b1 R (z 0) w:=appT 0 (Za6 R)
def run (R:EP)(a0:Value)(w:World):Prop:=b1 R a0 w
theorem calls (R:EP)(a0:Value)(w:World)(h:run R a0 w):Calls prog id #[a0] w R:=Zlz func29 [a0] (Zg R _ w h)
theorem enters:Enters prog id:=fun args w=>call29 args w
theorem ct {a0:Value}{w:World}{S:VP}(h:∀R:EP,(∀v w,S v w→R (.returned v) w)→run R a0 w):Ct prog id #[a0] w S :=
 Ct.intro enters fun R hR=>calls R a0 w (h R hR)
attribute [irreducible] l18 l7 l33 l38 l22
attribute [irreducible,go_sem] b4_1 b4_2 b4 b10 b15_1 b15 b14_1 b14_2 b14_3 b14_4 b14_5 b14_6 b14_7 b14_8 b14 b19_1 b19_2 b19 b16 b12_1 b12 b8 b5 b25 b34_1 b34 b31_1 b31 b35 b30 b29 b39_1 b39_2 b39_3 b39 b36 b27 b23 b20 b1 run
end Zb
namespace Zq
noncomputable def code:Code:=Zm f47
noncomputable abbrev p1:Code:=Zi 1 (sndC code)
noncomputable abbrev p2:Code:=Zi 1 (sndC p1)
def b5 (R:EP)(x0 x38:Value)(w:World)(_r:Tok R:=tok R):Prop :=
 SPL x38
 (CALL prog R Zaz.id #[x0] w fun v1 w2=>
 R (.returned (.tuple #[])) w2)
 (R (.returned (.tuple #[])) w)
abbrev r0 (R:EP)(z:Env)(w:World):Prop:=R (.returned (.tuple #[])) w
abbrev q1 (R:EP):XP:=QX (r0 R) (r0 R) []
theorem Zeb (R:EP):TI prog R p2 (q1 R) fun z w=>b5 R (z 0) (z 38) w:=ofT
def b4_1 (R:EP)(x0:Value)(w:World)(_r:Tok R:=tok R):Prop :=
 NILC x0 fun v5=>
 PUR prog (fieldAt 102 v5 6) fun v6=>
 LD prog (loadAt 98 v6) (World.drew w) fun v7=>
 NILC x0 fun v8=>
 PUR prog (fieldAt 102 v8 5) fun v9=>
 LD prog (loadAt 9 v9) (World.drew w) fun v10=>
 LD prog (lookup 98 v7 v10 false) (World.drew w) fun v11=>
 PUR prog (bins .eql 3 (.tmp 36) (.const (Value.int .i64 0)) v11 (Value.int .i64 0)) fun v12=>
 b5 R x0 v12 (World.drew w)
def b4 (R:EP)(x0:Value)(w:World)(_r:Tok R:=tok R):Prop :=
 NILC x0 fun v1=>
 PUR prog (fieldAt 102 v1 5) fun v2=>
 LD prog (loadAt 9 v2) (World.drew w) fun v3=>
 PUR prog (bins .neq 9 (.tmp 25) (.const (Value.string ⟨#[]⟩)) v3 (Value.string ⟨#[]⟩)) fun v4=>
 SPL v4
 (b4_1 R x0 w)
 (b5 R x0 (Value.bool false) (World.drew w))
theorem Zbs (R:EP):TI prog R (sndC p1) (q1 R) fun z w=>b4 R (z 0) w:=appT 0 (Zeb R)
noncomputable abbrev p3:Code:=blkC (fstC p1)
def b8 (R:EP)(C7:World→Prop)(x0:Value)(w:World)(_r:Tok R:=tok R)(_C7:Tok C7:=tok C7):Prop :=
 NILC x0 fun v1=>
 PUR prog (fieldAt 102 v1 1) fun v2=>
 LD prog (loadAt 3 v2) (World.drew w) fun v3=>
 NILC x0 fun v4=>
 PUR prog (fieldAt 102 v4 0) fun v5=>
 LD prog (loadAt 34 v5) (World.drew w) fun v6=>
 LD prog (Builtin.len_ #[34] 3 #[v6]) (World.drew w) fun v7=>
 PUR prog (bins .lss 3 (.tmp 13) (.tmp 18) v3 v7) fun v8=>
 SPL v8
 (CALL prog R Zh.id #[x0] (World.drew w) fun v9 w10=>
 C7  w10)
 (b4 R x0 (World.drew w))
abbrev q2 (R:EP)(C7:World→Prop):XP:=QX (fun z w=>C7  w) (r0 R) [(4,(fun z w=>b4 R (z 0) w))]
theorem Zhr (R:EP)(C7:World→Prop):TI prog R (Zby p3) (q2 R C7) fun z w=>b8 R C7 (z 0) w:=ofT
def l7 (R:EP)(x0:Value)(w:World)(_r:Tok R:=tok R):Prop :=
 ∃(J:World→Prop) (μ:World→Nat),J  w∧∀w0,J  w0→b8 R (fun  w1=>J  w1∧μ  w1<μ  w0) x0 w0
abbrev q3 (R:EP):XP:=QX (fun z w=>b4 R (z 0) w) (r0 R) [(4,(fun z w=>b4 R (z 0) w))]
theorem Zuf (R:EP):TI prog R p3 (q3 R) fun z w=>l7 R (z 0) w:=fun z w h=>by
 unfold l7 at h
 obtain ⟨J,μ,h0,hr⟩:=h
 refine Zcg (fun z' w'=>J  w') (fun z' w'=>μ  w') h0 fun z' w' hA hI=>Zhr R (fun  w1=>J  w1∧μ  w1<μ  w') z' w' ?_
 have h1:=hr  w' hI
 rwa [←hA.on 0]at h1
theorem l7_intro (R:EP)(x0:Value)(w:World)(J:World→Prop)(μ:World→Nat)(h0:J  w)
   (hr:∀w0,J  w0→∀C7:World→Prop,(∀w1,J  w1→μ  w1<μ  w0→C7  w1)→b8 R C7 x0 w0):l7 R x0 w:=by
 unfold l7
 exact ⟨J,μ,h0,fun  w0 hJ=>hr  w0 hJ _ (fun  w1 h1 h2=>⟨h1,h2⟩)⟩
abbrev q4 (R:EP):XP:=QX (fun z w=>b4 R (z 0) w) (r0 R) []
theorem Zjt (R:EP):TI prog R (fstC p1) (q4 R) fun z w=>l7 R (z 0) w:=Zac 2 (Zuf R)
theorem Zn1 (R:EP):TI prog R p1 (q1 R) fun z w=>l7 R (z 0) w:=seqT (Zjt R) (Zbs R)
def b2 (R:EP)(x0:Value)(w:World)(_r:Tok R:=tok R):Prop :=
 CALL prog R Zh.id #[x0] w fun v1 w2=>
 l7 R x0 w2
theorem Zj1 (R:EP):TI prog R (sndC code) (q1 R) fun z w=>b2 R (z 0) w:=appT 0 (Zn1 R)
noncomputable abbrev p4:Code:=blkC (fstC code)
def b11_1 (R:EP)(C10:World→Prop)(x0 v1:Value)(w2:World)(_r:Tok R:=tok R)(_C10:Tok C10:=tok C10):Prop :=
 RUN prog R (field 73 v1 0) w2 fun v3 w4=>
 RUN prog R (bins .eql 3 (.tmp 4) (.const (Value.int .i64 3)) v3 (Value.int .i64 3)) w4 fun v5 w6=>
 SPL v5
 (CALL prog R Zc.id #[x0] w6 fun v7 w8=>
 C10  w8)
 (b2 R x0 w6)
def b11 (R:EP)(C10:World→Prop)(x0:Value)(w:World)(_r:Tok R:=tok R)(_C10:Tok C10:=tok C10):Prop :=
 CALL prog R Zav.id #[x0] w fun v1 w2=>
 b11_1 R C10 x0 v1 w2
abbrev q5 (R:EP)(C10:World→Prop):XP:=QX (fun z w=>C10  w) (r0 R) [(0,(fun z w=>b2 R (z 0) w))]
theorem Zdb (R:EP)(C10:World→Prop):TI prog R (Zby p4) (q5 R C10) fun z w=>b11 R C10 (z 0) w:=ofT
def l10 (R:EP)(x0:Value)(w:World)(_r:Tok R:=tok R):Prop :=
 ∃(J:World→Prop) (μ:World→Nat),J  w∧∀w0,J  w0→b11 R (fun  w1=>J  w1∧μ  w1<μ  w0) x0 w0
abbrev q6 (R:EP):XP:=QX (fun z w=>b2 R (z 0) w) (r0 R) [(0,(fun z w=>b2 R (z 0) w))]
theorem ZZ38 (R:EP):TI prog R p4 (q6 R) fun z w=>l10 R (z 0) w:=fun z w h=>by
 unfold l10 at h
 obtain ⟨J,μ,h0,hr⟩:=h
 refine Zcg (fun z' w'=>J  w') (fun z' w'=>μ  w') h0 fun z' w' hA hI=>Zdb R (fun  w1=>J  w1∧μ  w1<μ  w') z' w' ?_
 have h1:=hr  w' hI
 rwa [←hA.on 0]at h1
theorem l10_intro (R:EP)(x0:Value)(w:World)(J:World→Prop)(μ:World→Nat)(h0:J  w)
   (hr:∀w0,J  w0→∀C10:World→Prop,(∀w1,J  w1→μ  w1<μ  w0→C10  w1)→b11 R C10 x0 w0):l10 R x0 w:=by
 unfold l10
 exact ⟨J,μ,h0,fun  w0 hJ=>hr  w0 hJ _ (fun  w1 h1 h2=>⟨h1,h2⟩)⟩
abbrev q7 (R:EP):XP:=QX (fun z w=>b2 R (z 0) w) (r0 R) []
theorem Zqm (R:EP):TI prog R (fstC code) (q7 R) fun z w=>l10 R (z 0) w:=Zac 0 (ZZ38 R)
theorem k1_ok (R:EP):TI prog R code (q1 R) fun z w=>l10 R (z 0) w:=seqT (Zqm R) (Zj1 R)
def run (R:EP)(a0:Value)(w:World):Prop:=l10 R a0 w
theorem calls (R:EP)(a0:Value)(w:World)(h:run R a0 w):Calls prog id #[a0] w R:=Zlz func47 [a0] (k1_ok R _ w h)
theorem enters:Enters prog id:=fun args w=>call47 args w
theorem ct {a0:Value}{w:World}{S:VP}(h:∀R:EP,(∀v w,S v w→R (.returned v) w)→run R a0 w):Ct prog id #[a0] w S :=
 Ct.intro enters fun R hR=>calls R a0 w (h R hR)
attribute [irreducible] l7 l10
attribute [irreducible,go_sem] b5 b4_1 b4 b8 b2 b11_1 b11 run
end Zq
namespace Za9
noncomputable def code:Code:=Zm f48
noncomputable abbrev p1:Code:=Zi 2 code
def b2 (R:EP)(x0:Value)(w:World)(_r:Tok R:=tok R):Prop :=
 R (.returned x0) w
abbrev r0 (R:EP)(z:Env)(w:World):Prop:=R (.returned (z 4)) w
abbrev q1 (R:EP):XP:=QX (r0 R) (r0 R) []
theorem Zj1 (R:EP):TI prog R p1 (q1 R) fun z w=>b2 R (z 0) w:=ofT
def b1_1 (R:EP)(x0 x1:Value)(w2:World)(_r:Tok R:=tok R):Prop :=
 RUN prog R (makeInterface 28 x1) w2 fun v3 w4=>
 RUN prog R (panic v3) w4 fun v5 w6=>
 b2 R x0 w6
def b1 (R:EP)(x0 x1:Value)(w:World)(_r:Tok R:=tok R):Prop :=
 RUN prog R (bins .neq 28 (.tmp 5) (.const (Value.int .i64 0)) x1 (Value.int .i64 0)) w fun v1 w2=>
 SPL v1
 (b1_1 R x0 x1 w2)
 (b2 R x0 w2)
theorem Zg (R:EP):TI prog R code (q1 R) fun z w=>b1 R (z 0) (z 1) w:=appT 1 (Zj1 R)
def run (R:EP)(a0 a1:Value)(w:World):Prop:=b1 R a0 a1 w
theorem calls (R:EP)(a0 a1:Value)(w:World)(h:run R a0 a1 w):Calls prog id #[a0,a1] w R:=Zbd func48 [a0,a1] (Zg R _ w h)
theorem enters:Enters prog id:=fun args w=>call48 args w
theorem ct {a0 a1:Value}{w:World}{S:VP}(h:∀R:EP,(∀v w,S v w→R (.returned v) w)→run R a0 a1 w):Ct prog id #[a0,a1] w S :=
 Ct.intro enters fun R hR=>calls R a0 a1 w (h R hR)
attribute [irreducible,go_sem] b2 b1_1 b1 run
end Za9
namespace Zai
noncomputable def code:Code:=Zm f52
noncomputable abbrev p1:Code:=Zi 1 code
def b3_1 (R:EP)(v6:Value)(w7:World)(_r:Tok R:=tok R):Prop :=
 PUR prog (extract v6 0) fun v8=>
 PUR prog (extract v6 1) fun v9=>
 CALL prog R Za9.id #[v8,v9] w7 fun v10 w11=>
 R (.returned v10) w11
def b3 (R:EP)(x0 x3:Value)(w:World)(_r:Tok R:=tok R):Prop :=
 NILC x0 fun v1=>
 PUR prog (fieldAt 83 v1 0) fun v2=>
 LD prog (loadAt 80 v2) (World.drew w) fun v3=>
 PUR prog (fieldAt 73 x3 1) fun v4=>
 LD prog (loadAt 9 v4) (World.drew w) fun v5=>
 CALL prog R Zu.id #[v3,v5] (World.drew w) fun v6 w7=>
 b3_1 R v6 w7
abbrev r0 (R:EP)(z:Env)(w:World):Prop:=R (.returned (z 4)) w
abbrev q1 (R:EP):XP:=QX (r0 R) (r0 R) []
theorem Zbi (R:EP):TI prog R (sndC p1) (q1 R) fun z w=>b3 R (z 0) (z 3) w:=ofT
noncomputable abbrev p2:Code:=Zi 1 (fstC p1)
def b5_1 (R:EP)(v6:Value)(w7:World)(_r:Tok R:=tok R):Prop :=
 PUR prog (extract v6 0) fun v8=>
 PUR prog (extract v6 1) fun v9=>
 CALL prog R Za9.id #[v8,v9] w7 fun v10 w11=>
 R (.returned v10) w11
def b5_2 (R:EP)(x0 x3:Value)(w:World)(_r:Tok R:=tok R):Prop :=
 NILC x0 fun v1=>
 PUR prog (fieldAt 83 v1 0) fun v2=>
 LD prog (loadAt 80 v2) (World.drew w) fun v3=>
 PUR prog (fieldAt 73 x3 1) fun v4=>
 LD prog (loadAt 9 v4) (World.drew w) fun v5=>
 CALL prog R Zad.id #[v3,v5] (World.drew w) fun v6 w7=>
 b5_1 R v6 w7
def b5 (R:EP)(x0 x3 x20:Value)(w:World)(_r:Tok R:=tok R):Prop :=
 SPL x20
 (b5_2 R x0 x3 w)
 (b3 R x0 x3 w)
abbrev q2 (R:EP):XP:=QX (fun z w=>b3 R (z 0) (z 3) w) (r0 R) []
theorem Zeb (R:EP):TI prog R p2 (q2 R) fun z w=>b5 R (z 0) (z 3) (z 20) w:=ofT
def b4_1 (R:EP)(x0 x3:Value)(w:World)(_r:Tok R:=tok R):Prop :=
 NILC x0 fun v4=>
 PUR prog (fieldAt 83 v4 1) fun v5=>
 LD prog (loadAt 75 v5) (World.drew w) fun v6=>
 NILC v6 fun v7=>
 PUR prog (fieldAt 102 v7 6) fun v8=>
 LD prog (loadAt 98 v8) (World.drew w) fun v9=>
 PUR prog (fieldAt 73 x3 1) fun v10=>
 LD prog (loadAt 9 v10) (World.drew w) fun v11=>
 LD prog (lookup 98 v9 v11 false) (World.drew w) fun v12=>
 PUR prog (bins .gtr 3 (.tmp 18) (.const (Value.int .i64 0)) v12 (Value.int .i64 0)) fun v13=>
 b5 R x0 x3 v13 (World.drew w)
def b4 (R:EP)(x0 x3:Value)(w:World)(_r:Tok R:=tok R):Prop :=
 PUR prog (fieldAt 73 x3 0) fun v1=>
 LD prog (loadAt 3 v1) (World.drew w) fun v2=>
 PUR prog (bins .eql 3 (.tmp 6) (.const (Value.int .i64 1)) v2 (Value.int .i64 1)) fun v3=>
 SPL v3
 (b4_1 R x0 x3 w)
 (b5 R x0 x3 (Value.bool false) (World.drew w))
theorem Zbs (R:EP):TI prog R (fstC p1) (q2 R) fun z w=>b4 R (z 0) (z 3) w:=appT 0 (Zeb R)
theorem Za6 (R:EP):TI prog R p1 (q1 R) fun z w=>b4 R (z 0) (z 3) w:=seqT (Zbs R) (Zbi R)
def b1 (R:EP)(x0 x1:Value)(w:World)(_r:Tok R:=tok R):Prop :=
 RUN prog R (box 73 x1) w fun v1 w2=>
 b4 R x0 v1 w2
theorem Zg (R:EP):TI prog R code (q1 R) fun z w=>b1 R (z 0) (z 1) w:=appT 0 (Za6 R)
def run (R:EP)(a0 a1:Value)(w:World):Prop:=b1 R a0 a1 w
theorem calls (R:EP)(a0 a1:Value)(w:World)(h:run R a0 a1 w):Calls prog id #[a0,a1] w R:=Zbd func52 [a0,a1] (Zg R _ w h)
theorem enters:Enters prog id:=fun args w=>call52 args w
theorem ct {a0 a1:Value}{w:World}{S:VP}(h:∀R:EP,(∀v w,S v w→R (.returned v) w)→run R a0 a1 w):Ct prog id #[a0,a1] w S :=
 Ct.intro enters fun R hR=>calls R a0 a1 w (h R hR)
attribute [irreducible,go_sem] b3_1 b3 b5_1 b5_2 b5 b4_1 b4 b1 run
end Zai
namespace Zav
noncomputable def code:Code:=Zm f74
def b1_1 (R:EP)(x0 v1:Value)(w2:World)(_r:Tok R:=tok R):Prop :=
 NILC x0 fun v11=>
 PUR prog (fieldAt 102 v11 0) fun v12=>
 LD prog (loadAt 34 v12) (World.drew (World.drew w2)) fun v13=>
 NILC x0 fun v14=>
 PUR prog (fieldAt 102 v14 1) fun v15=>
 LD prog (loadAt 3 v15) (World.drew (World.drew w2)) fun v16=>
 PUR prog (indexAt 34 v13 v16) fun v17=>
 LD prog (loadAt 73 v17) (World.drew (World.drew w2)) fun v18=>
 RUNU prog R (storeAt 73 v1 v18) (World.drew (World.drew w2)) fun w19=>
 LD prog (loadAt 73 v1) w19 fun r0=>R (.returned r0) w19
def b1_2 (R:EP)(x0 v1:Value)(w2:World)(_r:Tok R:=tok R):Prop :=
 NILC x0 fun v20=>
 RUN prog R (fieldAt 102 v20 2) (World.drew w2) fun v21 w22=>
 RUN prog R (loadAt 3 v21) w22 fun v23 w24=>
 RUN prog R (build 73 #[(2,v23)]) w24 fun v25 w26=>
 RUNU prog R (storeAt 73 v1 v25) w26 fun w27=>
 LD prog (loadAt 73 v1) w27 fun r0=>R (.returned r0) w27
def b1 (R:EP)(x0:Value)(w:World)(_r:Tok R:=tok R):Prop :=
 RUN prog R (alloc 73 true (.tuple #[])) w fun v1 w2=>
 NILC x0 fun v3=>
 PUR prog (fieldAt 102 v3 1) fun v4=>
 LD prog (loadAt 3 v4) (World.drew w2) fun v5=>
 NILC x0 fun v6=>
 PUR prog (fieldAt 102 v6 0) fun v7=>
 LD prog (loadAt 34 v7) (World.drew w2) fun v8=>
 LD prog (Builtin.len_ #[34] 3 #[v8]) (World.drew w2) fun v9=>
 PUR prog (bins .lss 3 (.tmp 6) (.tmp 11) v5 v9) fun v10=>
 SPL v10
 (b1_1 R x0 v1 w2)
 (b1_2 R x0 v1 w2)
abbrev r0 (R:EP)(z:Env)(w:World):Prop:=LD prog (loadAt 73 (z 2)) w fun r0=>R (.returned r0) w
abbrev q1 (R:EP):XP:=QX (r0 R) (r0 R) []
theorem Zg (R:EP):TI prog R code (q1 R) fun z w=>b1 R (z 0) w:=ofT
def run (R:EP)(a0:Value)(w:World):Prop:=b1 R a0 w
theorem calls (R:EP)(a0:Value)(w:World)(h:run R a0 w):Calls prog id #[a0] w R :=
 Zpu (f:=id) (fn:=f74) (c:=code) (by kernel_rfl) func74 (by kernel_rfl) (by kernel_rfl) (args:=[a0]) (Nat.le_of_ble_eq_true rfl) rfl (Zg R (Zfn [a0]) w h)
theorem enters:Enters prog id:=fun args w=>call74 args w
theorem ct {a0:Value}{w:World}{S:VP}(h:∀R:EP,(∀v w,S v w→R (.returned v) w)→run R a0 w):Ct prog id #[a0] w S :=
 Ct.intro enters fun R hR=>calls R a0 w (h R hR)
attribute [irreducible,go_sem] b1_1 b1_2 b1 run
end Zav
namespace Zc
noncomputable def code:Code:=Zm f75
noncomputable abbrev p1:Code:=Zi 3 code
noncomputable abbrev p2:Code:=Zi 2 (sndC p1)
noncomputable abbrev p3:Code:=Zi 1 p2
def b6_1 (R:EP)(x0 x6:Value)(w2:World)(_r:Tok R:=tok R):Prop :=
 NILC x0 fun v3=>
 PUR prog (fieldAt 102 v3 4) fun v4=>
 LD prog (loadAt 99 v4) (World.drew w2) fun v5=>
 LD prog (loadAt 118 x6) (World.drew w2) fun v6=>
 RUN prog R (buildSlice 99 1 #[(0,v6)]) (World.drew w2) fun v7 w8=>
 Sem.run prog (loadAt 99 v4) w8 = .ok v5 w8∧(RUN prog R (Builtin.append_ #[99,99] 99 #[v5,v7]) w8 fun v9 w10=>
 NILC x0 fun v11=>
 PUR prog (fieldAt 102 v11 4) fun v12=>
 RUNU prog R (storeAt 99 v12 v9) w10 fun w13=>
 R (.returned (.tuple #[])) w13)
def b6 (R:EP)(x0 x6:Value)(w:World)(_r:Tok R:=tok R):Prop :=
 CALL prog R Zbb.id #[x0,(Value.string ⟨#[59]⟩)] w fun v1 w2=>
 b6_1 R x0 x6 w2
abbrev r0 (R:EP)(z:Env)(w:World):Prop:=R (.returned (.tuple #[])) w
abbrev q1 (R:EP):XP:=QX (r0 R) (r0 R) []
theorem Zha (R:EP):TI prog R (sndC p3) (q1 R) fun z w=>b6 R (z 0) (z 6) w:=ofT
noncomputable abbrev p4:Code:=blkC (fstC p3)
noncomputable abbrev p5:Code:=Zi 1 (Zby p4)
noncomputable abbrev p6:Code:=Zi 1 (blkC p5)
def b13 (R:EP)(C8:World→Prop)(x0 x4 x6 x7:Value)(w:World)(_r:Tok R:=tok R)(_C8:Tok C8:=tok C8):Prop :=
 NILC x0 fun v1=>
 RUN prog R (fieldAt 102 v1 3) w fun v2 w3=>
 RUN prog R (loadAt 98 v2) w3 fun v4 w5=>
 RUN prog R (Builtin.min_ #[3,3] 3 #[x4,(Value.int .i64 1)]) w5 fun v6 w7=>
 RUN prog R (bins .add 3 (.tmp 95) (.const (Value.int .i64 1)) v6 (Value.int .i64 1)) w7 fun v8 w9=>
 RUNU prog R (mapUpdate 98 v4 x7 v8) w9 fun w10=>
 RUN prog R (fieldAt 118 x6 1) w10 fun v11 w12=>
 RUN prog R (loadAt 23 v11) w12 fun v13 w14=>
 RUN prog R (buildSlice 23 1 #[(0,x7)]) w14 fun v15 w16=>
 RUN prog R (Builtin.append_ #[23,23] 23 #[v13,v15]) w16 fun v17 w18=>
 RUN prog R (fieldAt 118 x6 1) w18 fun v19 w20=>
 RUNU prog R (storeAt 23 v19 v17) w20 fun w21=>
 NILC x0 fun v22=>
 RUN prog R (fieldAt 102 v22 1) w21 fun v23 w24=>
 RUN prog R (loadAt 3 v23) w24 fun v25 w26=>
 RUN prog R (bins .add 3 (.tmp 106) (.const (Value.int .i64 1)) v25 (Value.int .i64 1)) w26 fun v27 w28=>
 NILC x0 fun v29=>
 RUN prog R (fieldAt 102 v29 1) w28 fun v30 w31=>
 RUNU prog R (storeAt 3 v30 v27) w31 fun w32=>
 C8  w32
abbrev q2 (R:EP)(C8:World→Prop):XP:=QX (fun z w=>C8  w) (r0 R) [(4,(fun z w=>C8  w)),(2,(fun z w=>b6 R (z 0) (z 6) w))]
theorem Zgc (R:EP)(C8:World→Prop):TI prog R (sndC p6) (q2 R C8) fun z w=>b13 R C8 (z 0) (z 4) (z 6) (z 7) w:=ofT
noncomputable abbrev p7:Code:=Zi 1 (fstC p6)
def b15 (R:EP)(C8:World→Prop)(x0 x4 x6 x7 x86:Value)(w:World)(_r:Tok R:=tok R)(_C8:Tok C8:=tok C8):Prop :=
 SPL x86
 (CALL prog R Zaz.id #[x0] w fun v1 w2=>
 b13 R C8 x0 x4 x6 x7 w2)
 (b13 R C8 x0 x4 x6 x7 w)
abbrev q3 (R:EP)(C8:World→Prop):XP:=QX (fun z w=>b13 R C8 (z 0) (z 4) (z 6) (z 7) w) (r0 R) [(4,(fun z w=>C8  w)),(2,(fun z w=>b6 R (z 0) (z 6) w))]
theorem Zfl (R:EP)(C8:World→Prop):TI prog R p7 (q3 R C8) fun z w=>b15 R C8 (z 0) (z 4) (z 6) (z 7) (z 86) w:=ofT
def b14_1 (R:EP)(C8:World→Prop)(x0 x4 x6 x7:Value)(w11:World)(_r:Tok R:=tok R)(_C8:Tok C8:=tok C8):Prop :=
 NILC x0 fun v12=>
 RUN prog R (fieldAt 102 v12 3) w11 fun v13 w14=>
 RUN prog R (loadAt 98 v13) w14 fun v15 w16=>
 RUN prog R (lookup 98 v15 x7 false) w16 fun v17 w18=>
 RUN prog R (bins .gtr 3 (.tmp 83) (.const (Value.int .i64 0)) v17 (Value.int .i64 0)) w18 fun v19 w20=>
 b15 R C8 x0 x4 x6 x7 v19 w20
def b14 (R:EP)(C8:World→Prop)(x0 x4 x6 x7:Value)(w:World)(_r:Tok R:=tok R)(_C8:Tok C8:=tok C8):Prop :=
 NILC x0 fun v1=>
 RUN prog R (fieldAt 102 v1 3) w fun v2 w3=>
 RUN prog R (loadAt 98 v2) w3 fun v4 w5=>
 RUN prog R (lookup 98 v4 x7 false) w5 fun v6 w7=>
 RUN prog R (bins .eql 3 (.tmp 72) (.const (Value.int .i64 2)) v6 (Value.int .i64 2)) w7 fun v8 w9=>
 SPL v8
 (b15 R C8 x0 x4 x6 x7 (Value.bool true) w9)
 (RUN prog R (bins .eql 3 (.tmp 75) (.const (Value.int .i64 0)) x4 (Value.int .i64 0)) w9 fun v10 w11=>
 SPL v10
 (b14_1 R C8 x0 x4 x6 x7 w11)
 (b15 R C8 x0 x4 x6 x7 (Value.bool false) w11))
theorem Zdq (R:EP)(C8:World→Prop):TI prog R (fstC p6) (q3 R C8) fun z w=>b14 R C8 (z 0) (z 4) (z 6) (z 7) w:=appT 0 (Zfl R C8)
theorem Zf7 (R:EP)(C8:World→Prop):TI prog R p6 (q2 R C8) fun z w=>b14 R C8 (z 0) (z 4) (z 6) (z 7) w:=seqT (Zdq R C8) (Zgc R C8)
def b11 (R:EP)(C8:World→Prop)(x0 x4 x6:Value)(w:World)(_r:Tok R:=tok R)(_C8:Tok C8:=tok C8):Prop :=
 CALL prog R Zav.id #[x0] w fun v1 w2=>
 RUN prog R (field 73 v1 1) w2 fun v3 w4=>
 b14 R C8 x0 x4 x6 v3 w4
theorem Zdb (R:EP)(C8:World→Prop):TI prog R (blkC p5) (q2 R C8) fun z w=>b11 R C8 (z 0) (z 4) (z 6) w:=appT 0 (Zf7 R C8)
abbrev q4 (R:EP)(C8:World→Prop):XP:=QX (fun z w=>C8  w) (r0 R) [(2,(fun z w=>b6 R (z 0) (z 6) w))]
theorem Zff (R:EP)(C8:World→Prop):TI prog R p5 (q4 R C8) fun z w=>b11 R C8 (z 0) (z 4) (z 6) w:=Zac 2 (Zdb R C8)
def b9 (R:EP)(C8:World→Prop)(x0 x4 x6:Value)(w:World)(_r:Tok R:=tok R)(_C8:Tok C8:=tok C8):Prop :=
 CALL prog R Zb2.id #[x0] w fun v1 w2=>
 SPL v1
 (b11 R C8 x0 x4 x6 w2)
 (b6 R x0 x6 w2)
theorem Zei (R:EP)(C8:World→Prop):TI prog R (Zby p4) (q4 R C8) fun z w=>b9 R C8 (z 0) (z 4) (z 6) w:=appT 0 (Zff R C8)
def l8 (R:EP)(x0 x4 x6:Value)(w:World)(_r:Tok R:=tok R):Prop :=
 ∃(J:World→Prop) (μ:World→Nat),J  w∧∀w0,J  w0→b9 R (fun  w1=>J  w1∧μ  w1<μ  w0) x0 x4 x6 w0
abbrev q5 (R:EP):XP:=QX (fun z w=>b6 R (z 0) (z 6) w) (r0 R) [(2,(fun z w=>b6 R (z 0) (z 6) w))]
theorem Zut (R:EP):TI prog R p4 (q5 R) fun z w=>l8 R (z 0) (z 4) (z 6) w:=fun z w h=>by
 unfold l8 at h
 obtain ⟨J,μ,h0,hr⟩:=h
 refine Zcg (fun z' w'=>J  w') (fun z' w'=>μ  w') h0 fun z' w' hA hI=>Zei R (fun  w1=>J  w1∧μ  w1<μ  w') z' w' ?_
 have h1:=hr  w' hI
 rwa [←hA.on 0,←hA.on 4,←hA.on 6]at h1
theorem l8_intro (R:EP)(x0 x4 x6:Value)(w:World)(J:World→Prop)(μ:World→Nat)(h0:J  w)
   (hr:∀w0,J  w0→∀C8:World→Prop,(∀w1,J  w1→μ  w1<μ  w0→C8  w1)→b9 R C8 x0 x4 x6 w0):l8 R x0 x4 x6 w:=by
 unfold l8
 exact ⟨J,μ,h0,fun  w0 hJ=>hr  w0 hJ _ (fun  w1 h1 h2=>⟨h1,h2⟩)⟩
abbrev q6 (R:EP):XP:=QX (fun z w=>b6 R (z 0) (z 6) w) (r0 R) []
theorem Zt9 (R:EP):TI prog R (fstC p3) (q6 R) fun z w=>l8 R (z 0) (z 4) (z 6) w:=Zac 1 (Zut R)
theorem Zda (R:EP):TI prog R p3 (q1 R) fun z w=>l8 R (z 0) (z 4) (z 6) w:=seqT (Zt9 R) (Zha R)
def b4 (R:EP)(x0 x4:Value)(w:World)(_r:Tok R:=tok R):Prop :=
 RUN prog R (build 118 #[(0,x4)]) w fun v1 w2=>
 RUN prog R (alloc 118 true (.tuple #[])) w2 fun v3 w4=>
 RUNU prog R (storeAt 118 v3 v1) w4 fun w5=>
 l8 R x0 x4 v3 w5
theorem Zbs (R:EP):TI prog R p2 (q1 R) fun z w=>b4 R (z 0) (z 4) w:=appT 0 (Zda R)
def b3_1 (R:EP)(x0 x4 v12:Value)(w13:World)(_r:Tok R:=tok R):Prop :=
 RUN prog R (Op.unary .not v12) w13 fun v14 w15=>
 SPL v14
 (CALL prog R Zaz.id #[x0] w15 fun v16 w17=>
 b4 R x0 x4 w17)
 (b4 R x0 x4 w15)
def b3 (R:EP)(x0 x4:Value)(w:World)(_r:Tok R:=tok R):Prop :=
 NILC x0 fun v1=>
 RUN prog R (fieldAt 102 v1 1) w fun v2 w3=>
 RUN prog R (loadAt 3 v2) w3 fun v4 w5=>
 RUN prog R (bins .add 3 (.tmp 51) (.const (Value.int .i64 1)) v4 (Value.int .i64 1)) w5 fun v6 w7=>
 NILC x0 fun v8=>
 RUN prog R (fieldAt 102 v8 1) w7 fun v9 w10=>
 RUNU prog R (storeAt 3 v9 v6) w10 fun w11=>
 CALL prog R Zb2.id #[x0] w11 fun v12 w13=>
 b3_1 R x0 x4 v12 w13
theorem Zbi (R:EP):TI prog R (sndC p1) (q1 R) fun z w=>b3 R (z 0) (z 4) w:=appT 1 (Zbs R)
noncomputable abbrev p8:Code:=blkC (fstC p1)
noncomputable abbrev p9:Code:=Zi 1 p8
def b18_1 (R:EP)(x0 v12:Value)(w13:World)(_r:Tok R:=tok R):Prop :=
 NILC x0 fun v14=>
 RUN prog R (fieldAt 102 v14 5) w13 fun v15 w16=>
 RUNU prog R (storeAt 9 v15 v12) w16 fun w17=>
 CALL prog R Zbb.id #[x0,(Value.string ⟨#[59]⟩)] w17 fun v18 w19=>
 R (.returned (.tuple #[])) w19
def b18_2 (R:EP)(x0:Value)(w:World)(_r:Tok R:=tok R):Prop :=
 NILC x0 fun v1=>
 RUN prog R (fieldAt 102 v1 1) w fun v2 w3=>
 RUN prog R (loadAt 3 v2) w3 fun v4 w5=>
 RUN prog R (bins .add 3 (.tmp 32) (.const (Value.int .i64 1)) v4 (Value.int .i64 1)) w5 fun v6 w7=>
 NILC x0 fun v8=>
 RUN prog R (fieldAt 102 v8 1) w7 fun v9 w10=>
 RUNU prog R (storeAt 3 v9 v6) w10 fun w11=>
 CALL prog R Zb4.id #[x0] w11 fun v12 w13=>
 b18_1 R x0 v12 w13
def b18_3 (R:EP)(x0 x4 x5:Value)(w:World)(_r:Tok R:=tok R):Prop :=
 RUN prog R (Op.unary .not x5) w fun v20 w21=>
 SPL v20
 (CALL prog R Zaz.id #[x0] w21 fun v22 w23=>
 b3 R x0 x4 w23)
 (b3 R x0 x4 w21)
def b18 (R:EP)(x0 x4 x5 x19:Value)(w:World)(_r:Tok R:=tok R):Prop :=
 SPL x19
 (b18_2 R x0 w)
 (b18_3 R x0 x4 x5 w)
abbrev q7 (R:EP):XP:=QX (fun z w=>b3 R (z 0) (z 4) w) (r0 R) [(0,(fun z w=>b3 R (z 0) (z 4) w))]
theorem Zfe (R:EP):TI prog R p9 (q7 R) fun z w=>b18 R (z 0) (z 4) (z 5) (z 19) w:=ofT
def Zmw (R:EP)(x0 x4 x5:Value)(w2:World)(_r:Tok R:=tok R):Prop :=
 NILC x0 fun v3=>
 RUN prog R (fieldAt 102 v3 5) w2 fun v4 w5=>
 RUN prog R (loadAt 9 v4) w5 fun v6 w7=>
 RUN prog R (bins .eql 9 (.tmp 26) (.const (Value.string ⟨#[]⟩)) v6 (Value.string ⟨#[]⟩)) w7 fun v8 w9=>
 b18 R x0 x4 x5 v8 w9
def b17 (R:EP)(x0 x3 x4 x5:Value)(w:World)(_r:Tok R:=tok R):Prop :=
 RUN prog R (bins .eql 9 (.tmp 20) (.const (Value.string ⟨#[37,115,116,97,114,116]⟩)) x3 (Value.string ⟨#[37,115,116,97,114,116]⟩)) w fun v1 w2=>
 SPL v1
 (Zmw R x0 x4 x5 w2)
 (b18 R x0 x4 x5 (Value.bool false) w2)
theorem Zgx (R:EP):TI prog R p8 (q7 R) fun z w=>b17 R (z 0) (z 3) (z 4) (z 5) w:=appT 0 (Zfe R)
abbrev q8 (R:EP):XP:=QX (fun z w=>b3 R (z 0) (z 4) w) (r0 R) []
theorem Zsk (R:EP):TI prog R (fstC p1) (q8 R) fun z w=>b17 R (z 0) (z 3) (z 4) (z 5) w:=Zac 0 (Zgx R)
theorem Za6 (R:EP):TI prog R p1 (q1 R) fun z w=>b17 R (z 0) (z 3) (z 4) (z 5) w:=seqT (Zsk R) (Zbi R)
def b1_1 (R:EP)(x0 v1 v7:Value)(w8:World)(_r:Tok R:=tok R):Prop :=
 RUN prog R (field 73 v7 1) w8 fun v9 w10=>
 RUN prog R (lookup 98 v1 v9 true) w10 fun v11 w12=>
 RUN prog R (extract v11 0) w12 fun v13 w14=>
 RUN prog R (extract v11 1) w14 fun v15 w16=>
 b17 R x0 v9 v13 v15 w16
def b1 (R:EP)(x0:Value)(w:World)(_r:Tok R:=tok R):Prop :=
 RUN prog R (makeMap 98 none) w fun v1 w2=>
 RUNU prog R (mapUpdate 98 v1 (Value.string ⟨#[37,116,111,107,101,110]⟩) (Value.int .i64 0)) w2 fun w3=>
 RUNU prog R (mapUpdate 98 v1 (Value.string ⟨#[37,108,101,102,116]⟩) (Value.int .i64 1)) w3 fun w4=>
 RUNU prog R (mapUpdate 98 v1 (Value.string ⟨#[37,114,105,103,104,116]⟩) (Value.int .i64 2)) w4 fun w5=>
 RUNU prog R (mapUpdate 98 v1 (Value.string ⟨#[37,110,111,110,97,115,115,111,99]⟩) (Value.int .i64 3)) w5 fun w6=>
 CALL prog R Zav.id #[x0] w6 fun v7 w8=>
 b1_1 R x0 v1 v7 w8
theorem Zg (R:EP):TI prog R code (q1 R) fun z w=>b1 R (z 0) w:=appT 2 (Za6 R)
def run (R:EP)(a0:Value)(w:World):Prop:=b1 R a0 w
theorem calls (R:EP)(a0:Value)(w:World)(h:run R a0 w):Calls prog id #[a0] w R:=Zlz func75 [a0] (Zg R _ w h)
theorem enters:Enters prog id:=fun args w=>call75 args w
theorem ct {a0:Value}{w:World}{S:VP}(h:∀R:EP,(∀v w,S v w→R (.returned v) w)→run R a0 w):Ct prog id #[a0] w S :=
 Ct.intro enters fun R hR=>calls R a0 w (h R hR)
attribute [irreducible] l8
attribute [irreducible,go_sem] b6_1 b6 b13 b15 b14_1 b14 b11 b9 b4 b3_1 b3 b18_1 b18_2 b18_3 b18 Zmw b17 b1_1 b1 run
end Zc
namespace Zh
noncomputable def code:Code:=Zm f76
noncomputable abbrev p1:Code:=Zi 3 code
def b3 (R:EP)(x0:Value)(w:World)(_r:Tok R:=tok R):Prop :=
 CALL prog R Zbb.id #[x0,(Value.string ⟨#[59]⟩)] w fun v1 w2=>
 R (.returned (.tuple #[])) w2
abbrev r0 (R:EP)(z:Env)(w:World):Prop:=R (.returned (.tuple #[])) w
abbrev q1 (R:EP):XP:=QX (r0 R) (r0 R) []
theorem Zbi (R:EP):TI prog R (sndC p1) (q1 R) fun z w=>b3 R (z 0) w:=ofT
noncomputable abbrev p2:Code:=blkC (fstC p1)
noncomputable abbrev p3:Code:=blkC (Zby p2)
noncomputable abbrev p4:Code:=Zi 1 p3
noncomputable abbrev p5:Code:=sndC (sndC p4)
def b10_1 (R:EP)(C5:World→Prop)(x0:Value)(w15:World)(_r:Tok R:=tok R)(_C5:Tok C5:=tok C5):Prop :=
 NILC x0 fun v16=>
 RUN prog R (fieldAt 102 v16 1) w15 fun v17 w18=>
 RUN prog R (loadAt 3 v17) w18 fun v19 w20=>
 RUN prog R (bins .add 3 (.tmp 84) (.const (Value.int .i64 1)) v19 (Value.int .i64 1)) w20 fun v21 w22=>
 NILC x0 fun v23=>
 RUN prog R (fieldAt 102 v23 1) w22 fun v24 w25=>
 RUNU prog R (storeAt 3 v24 v21) w25 fun w26=>
 C5  w26
def b10 (R:EP)(C5:World→Prop)(x0 x3:Value)(w:World)(_r:Tok R:=tok R)(_C5:Tok C5:=tok C5):Prop :=
 NILC x0 fun v1=>
 PUR prog (fieldAt 102 v1 7) fun v2=>
 LD prog (loadAt 100 v2) (World.drew w) fun v3=>
 LD prog (loadAt 124 x3) (World.drew w) fun v4=>
 RUN prog R (buildSlice 100 1 #[(0,v4)]) (World.drew w) fun v5 w6=>
 Sem.run prog (loadAt 100 v2) w6 = .ok v3 w6∧(RUN prog R (Builtin.append_ #[100,100] 100 #[v3,v5]) w6 fun v7 w8=>
 NILC x0 fun v9=>
 PUR prog (fieldAt 102 v9 7) fun v10=>
 RUNU prog R (storeAt 100 v10 v7) w8 fun w11=>
 CALL prog R Zcb.id #[x0,(Value.int .i64 4),(Value.string ⟨#[124]⟩)] w11 fun v12 w13=>
 RUN prog R (Op.unary .not v12) w13 fun v14 w15=>
 SPL v14
 (b3 R x0 w15)
 (b10_1 R C5 x0 w15))
abbrev q2 (R:EP)(C5:World→Prop):XP:=QX (fun z w=>C5  w) (r0 R) [(2,(fun z w=>C5  w)),(0,(fun z w=>b3 R (z 0) w))]
theorem Zef (R:EP)(C5:World→Prop):TI prog R p5 (q2 R C5) fun z w=>b10 R C5 (z 0) (z 3) w:=ofT
noncomputable abbrev p6:Code:=fstC (sndC p4)
noncomputable abbrev p7:Code:=Zi 1 p6
def b13 (R:EP)(C5:World→Prop)(x0 x3:Value)(w:World)(_r:Tok R:=tok R)(_C5:Tok C5:=tok C5):Prop :=
 RUN prog R (fieldAt 124 x3 3) w fun v1 w2=>
 RUNU prog R (storeAt 4 v1 (Value.bool true)) w2 fun w3=>
 NILC x0 fun v4=>
 RUN prog R (fieldAt 102 v4 1) w3 fun v5 w6=>
 RUN prog R (loadAt 3 v5) w6 fun v7 w8=>
 RUN prog R (bins .add 3 (.tmp 39) (.const (Value.int .i64 1)) v7 (Value.int .i64 1)) w8 fun v9 w10=>
 NILC x0 fun v11=>
 RUN prog R (fieldAt 102 v11 1) w10 fun v12 w13=>
 RUNU prog R (storeAt 3 v12 v9) w13 fun w14=>
 b10 R C5 x0 x3 w14
abbrev q3 (R:EP)(C5:World→Prop):XP:=QX (fun z w=>b10 R C5 (z 0) (z 3) w) (r0 R) [(2,(fun z w=>C5  w)),(0,(fun z w=>b3 R (z 0) w))]
theorem Zgc (R:EP)(C5:World→Prop):TI prog R (thnC p7) (q3 R C5) fun z w=>b13 R C5 (z 0) (z 3) w:=ofT
noncomputable abbrev p8:Code:=Zi 1 (elsC p7)
noncomputable abbrev p9:Code:=Zi 2 (thnC p8)
def Zmw (R:EP)(C5:World→Prop)(x0 x3 v1:Value)(w2:World)(_r:Tok R:=tok R)(_C5:Tok C5:=tok C5):Prop :=
 RUN prog R (field 73 v1 1) w2 fun v3 w4=>
 RUN prog R (fieldAt 124 x3 2) w4 fun v5 w6=>
 RUNU prog R (storeAt 9 v5 v3) w6 fun w7=>
 NILC x0 fun v8=>
 RUN prog R (fieldAt 102 v8 1) w7 fun v9 w10=>
 RUN prog R (loadAt 3 v9) w10 fun v11 w12=>
 RUN prog R (bins .add 3 (.tmp 64) (.const (Value.int .i64 1)) v11 (Value.int .i64 1)) w12 fun v13 w14=>
 NILC x0 fun v15=>
 RUN prog R (fieldAt 102 v15 1) w14 fun v16 w17=>
 RUNU prog R (storeAt 3 v16 v13) w17 fun w18=>
 b10 R C5 x0 x3 w18
def b17 (R:EP)(C5:World→Prop)(x0 x3:Value)(w:World)(_r:Tok R:=tok R)(_C5:Tok C5:=tok C5):Prop :=
 CALL prog R Zav.id #[x0] w fun v1 w2=>
 Zmw R C5 x0 x3 v1 w2
theorem Zgx (R:EP)(C5:World→Prop):TI prog R p9 (q3 R C5) fun z w=>b17 R C5 (z 0) (z 3) w:=ofT
def ZZ4 (R:EP)(C5:World→Prop)(x0 x3 v12:Value)(w13:World)(_r:Tok R:=tok R)(_C5:Tok C5:=tok C5):Prop :=
 RUN prog R (Op.unary .not v12) w13 fun v14 w15=>
 SPL v14
 (CALL prog R Zaz.id #[x0] w15 fun v16 w17=>
 b17 R C5 x0 x3 w17)
 (b17 R C5 x0 x3 w15)
def b16 (R:EP)(C5:World→Prop)(x0 x3:Value)(w:World)(_r:Tok R:=tok R)(_C5:Tok C5:=tok C5):Prop :=
 NILC x0 fun v1=>
 RUN prog R (fieldAt 102 v1 1) w fun v2 w3=>
 RUN prog R (loadAt 3 v2) w3 fun v4 w5=>
 RUN prog R (bins .add 3 (.tmp 48) (.const (Value.int .i64 1)) v4 (Value.int .i64 1)) w5 fun v6 w7=>
 NILC x0 fun v8=>
 RUN prog R (fieldAt 102 v8 1) w7 fun v9 w10=>
 RUNU prog R (storeAt 3 v9 v6) w10 fun w11=>
 CALL prog R Zb2.id #[x0] w11 fun v12 w13=>
 ZZ4 R C5 x0 x3 v12 w13
theorem Zex (R:EP)(C5:World→Prop):TI prog R (thnC p8) (q3 R C5) fun z w=>b16 R C5 (z 0) (z 3) w:=appT 1 (Zgx R C5)
def b18 (R:EP)(C5:World→Prop)(x0 x3:Value)(w:World)(_r:Tok R:=tok R)(_C5:Tok C5:=tok C5):Prop :=
 b10 R C5 x0 x3 w
theorem Zfe (R:EP)(C5:World→Prop):TI prog R (elsC p8) (q3 R C5) fun z w=>b18 R C5 (z 0) (z 3) w:=ofT
def b15 (R:EP)(C5:World→Prop)(x0 x3 x44:Value)(w:World)(_r:Tok R:=tok R)(_C5:Tok C5:=tok C5):Prop :=
 SPL x44 (b16 R C5 x0 x3 w) (b18 R C5 x0 x3 w)
theorem Zfl (R:EP)(C5:World→Prop):TI prog R p8 (q3 R C5) fun z w=>b15 R C5 (z 0) (z 3) (z 44) w:=fun z w h=>by
 have e:Code.cond (.tmp 44) (thnC p8) (elsC p8)=p8:=by kernel_rfl
 rw[←e]
 exact Znh h (fun h=>Zex R C5 z w h) (fun h=>Zfe R C5 z w h)
def b14 (R:EP)(C5:World→Prop)(x0 x3:Value)(w:World)(_r:Tok R:=tok R)(_C5:Tok C5:=tok C5):Prop :=
 CALL prog R Zcb.id #[x0,(Value.int .i64 3),(Value.string ⟨#[37,112,114,101,99]⟩)] w fun v1 w2=>
 b15 R C5 x0 x3 v1 w2
theorem Zdq (R:EP)(C5:World→Prop):TI prog R (elsC p7) (q3 R C5) fun z w=>b14 R C5 (z 0) (z 3) w:=appT 0 (Zfl R C5)
def b12 (R:EP)(C5:World→Prop)(x0 x3 x34:Value)(w:World)(_r:Tok R:=tok R)(_C5:Tok C5:=tok C5):Prop :=
 SPL x34 (b13 R C5 x0 x3 w) (b14 R C5 x0 x3 w)
theorem Zed (R:EP)(C5:World→Prop):TI prog R p7 (q3 R C5) fun z w=>b12 R C5 (z 0) (z 3) (z 34) w:=fun z w h=>by
 have e:Code.cond (.tmp 34) (thnC p7) (elsC p7)=p7:=by kernel_rfl
 rw[←e]
 exact Znh h (fun h=>Zgc R C5 z w h) (fun h=>Zdq R C5 z w h)
def b11 (R:EP)(C5:World→Prop)(x0 x3:Value)(w:World)(_r:Tok R:=tok R)(_C5:Tok C5:=tok C5):Prop :=
 CALL prog R Zcb.id #[x0,(Value.int .i64 3),(Value.string ⟨#[37,110,111,110,101]⟩)] w fun v1 w2=>
 b12 R C5 x0 x3 v1 w2
theorem Zdb (R:EP)(C5:World→Prop):TI prog R p6 (q3 R C5) fun z w=>b11 R C5 (z 0) (z 3) w:=appT 0 (Zed R C5)
theorem Zqm (R:EP)(C5:World→Prop):TI prog R (sndC p4) (q2 R C5) fun z w=>b11 R C5 (z 0) (z 3) w:=seqT (Zdb R C5) (Zef R C5)
noncomputable abbrev p10:Code:=blkC (fstC p4)
def b21_1 (R:EP)(C20:World→Prop)(x0 x3 v3 v4 v5:Value)(w6:World)(_r:Tok R:=tok R)(_C20:Tok C20:=tok C20):Prop :=
 Sem.run prog (loadAt 34 v3) w6 = .ok v4 w6∧(RUN prog R (buildSlice 34 1 #[(0,v5)]) w6 fun v7 w8=>
 Sem.run prog (loadAt 34 v3) w8 = .ok v4 w8∧(RUN prog R (Builtin.append_ #[34,34] 34 #[v4,v7]) w8 fun v9 w10=>
 PUR prog (fieldAt 124 x3 1) fun v11=>
 RUNU prog R (storeAt 34 v11 v9) w10 fun w12=>
 NILC x0 fun v13=>
 RUN prog R (fieldAt 102 v13 1) w12 fun v14 w15=>
 RUN prog R (loadAt 3 v14) w15 fun v16 w17=>
 RUN prog R (bins .add 3 (.tmp 29) (.const (Value.int .i64 1)) v16 (Value.int .i64 1)) w17 fun v18 w19=>
 NILC x0 fun v20=>
 RUN prog R (fieldAt 102 v20 1) w19 fun v21 w22=>
 RUNU prog R (storeAt 3 v21 v18) w22 fun w23=>
 C20  w23))
def b21_2 (R:EP)(C20:World→Prop)(x0 x3:Value)(w2:World)(_r:Tok R:=tok R)(_C20:Tok C20:=tok C20):Prop :=
 PUR prog (fieldAt 124 x3 1) fun v3=>
 LD prog (loadAt 34 v3) (World.drew w2) fun v4=>
 CALL prog R Zav.id #[x0] (World.drew w2) fun v5 w6=>
 b21_1 R C20 x0 x3 v3 v4 v5 w6
def b21 (R:EP)(C5:World→Prop)(C20:World→Prop)(x0 x3:Value)(w:World)(_r:Tok R:=tok R)(_C5:Tok C5:=tok C5)(_C20:Tok C20:=tok C20):Prop :=
 CALL prog R Zb2.id #[x0] w fun v1 w2=>
 SPL v1
 (b21_2 R C20 x0 x3 w2)
 (b11 R C5 x0 x3 w2)
abbrev q4 (R:EP)(C5:World→Prop)(C20:World→Prop):XP:=QX (fun z w=>C20  w) (r0 R) [(4,(fun z w=>b11 R C5 (z 0) (z 3) w)),(2,(fun z w=>C5  w)),(0,(fun z w=>b3 R (z 0) w))]
theorem Zh9 (R:EP)(C5:World→Prop)(C20:World→Prop):TI prog R (Zby p10) (q4 R C5 C20) fun z w=>b21 R C5 C20 (z 0) (z 3) w:=ofT
def l20 (R:EP)(C5:World→Prop)(x0 x3:Value)(w:World)(_r:Tok R:=tok R)(_C5:Tok C5:=tok C5):Prop :=
 ∃(J:World→Prop) (μ:World→Nat),J  w∧∀w0,J  w0→b21 R C5 (fun  w1=>J  w1∧μ  w1<μ  w0) x0 x3 w0
abbrev q5 (R:EP)(C5:World→Prop):XP:=QX (fun z w=>b11 R C5 (z 0) (z 3) w) (r0 R) [(4,(fun z w=>b11 R C5 (z 0) (z 3) w)),(2,(fun z w=>C5  w)),(0,(fun z w=>b3 R (z 0) w))]
theorem ZZ335 (R:EP)(C5:World→Prop):TI prog R p10 (q5 R C5) fun z w=>l20 R C5 (z 0) (z 3) w:=fun z w h=>by
 unfold l20 at h
 obtain ⟨J,μ,h0,hr⟩:=h
 refine Zcg (fun z' w'=>J  w') (fun z' w'=>μ  w') h0 fun z' w' hA hI=>Zh9 R C5 (fun  w1=>J  w1∧μ  w1<μ  w') z' w' ?_
 have h1:=hr  w' hI
 rwa [←hA.on 0,←hA.on 3]at h1
theorem l20_intro (R:EP)(C5:World→Prop)(x0 x3:Value)(w:World)(J:World→Prop)(μ:World→Nat)(h0:J  w)
   (hr:∀w0,J  w0→∀C20:World→Prop,(∀w1,J  w1→μ  w1<μ  w0→C20  w1)→b21 R C5 C20 x0 x3 w0):l20 R C5 x0 x3 w:=by
 unfold l20
 exact ⟨J,μ,h0,fun  w0 hJ=>hr  w0 hJ _ (fun  w1 h1 h2=>⟨h1,h2⟩)⟩
abbrev q6 (R:EP)(C5:World→Prop):XP:=QX (fun z w=>b11 R C5 (z 0) (z 3) w) (r0 R) [(2,(fun z w=>C5  w)),(0,(fun z w=>b3 R (z 0) w))]
theorem Zta (R:EP)(C5:World→Prop):TI prog R (fstC p4) (q6 R C5) fun z w=>l20 R C5 (z 0) (z 3) w:=Zac 2 (ZZ335 R C5)
theorem Zgq (R:EP)(C5:World→Prop):TI prog R p4 (q2 R C5) fun z w=>l20 R C5 (z 0) (z 3) w:=seqT (Zta R C5) (Zqm R C5)
def b7 (R:EP)(C5:World→Prop)(x0 x2:Value)(w:World)(_r:Tok R:=tok R)(_C5:Tok C5:=tok C5):Prop :=
 RUN prog R (build 124 #[(0,x2)]) w fun v1 w2=>
 RUN prog R (alloc 124 true (.tuple #[])) w2 fun v3 w4=>
 RUNU prog R (storeAt 124 v3 v1) w4 fun w5=>
 l20 R C5 x0 v3 w5
theorem Zch (R:EP)(C5:World→Prop):TI prog R p3 (q2 R C5) fun z w=>b7 R C5 (z 0) (z 2) w:=appT 0 (Zgq R C5)
abbrev q7 (R:EP)(C5:World→Prop):XP:=QX (fun z w=>C5  w) (r0 R) [(0,(fun z w=>b3 R (z 0) w))]
theorem Zjt (R:EP)(C5:World→Prop):TI prog R (Zby p2) (q7 R C5) fun z w=>b7 R C5 (z 0) (z 2) w:=Zac 1 (Zch R C5)
def l5 (R:EP)(x0 x2:Value)(w:World)(_r:Tok R:=tok R):Prop :=
 ∃(J:World→Prop) (μ:World→Nat),J  w∧∀w0,J  w0→b7 R (fun  w1=>J  w1∧μ  w1<μ  w0) x0 x2 w0
abbrev q8 (R:EP):XP:=QX (fun z w=>b3 R (z 0) w) (r0 R) [(0,(fun z w=>b3 R (z 0) w))]
theorem ZZ29 (R:EP):TI prog R p2 (q8 R) fun z w=>l5 R (z 0) (z 2) w:=fun z w h=>by
 unfold l5 at h
 obtain ⟨J,μ,h0,hr⟩:=h
 refine Zcg (fun z' w'=>J  w') (fun z' w'=>μ  w') h0 fun z' w' hA hI=>Zjt R (fun  w1=>J  w1∧μ  w1<μ  w') z' w' ?_
 have h1:=hr  w' hI
 rwa [←hA.on 0,←hA.on 2]at h1
theorem l5_intro (R:EP)(x0 x2:Value)(w:World)(J:World→Prop)(μ:World→Nat)(h0:J  w)
   (hr:∀w0,J  w0→∀C5:World→Prop,(∀w1,J  w1→μ  w1<μ  w0→C5  w1)→b7 R C5 x0 x2 w0):l5 R x0 x2 w:=by
 unfold l5
 exact ⟨J,μ,h0,fun  w0 hJ=>hr  w0 hJ _ (fun  w1 h1 h2=>⟨h1,h2⟩)⟩
abbrev q9 (R:EP):XP:=QX (fun z w=>b3 R (z 0) w) (r0 R) []
theorem Zgr (R:EP):TI prog R (fstC p1) (q9 R) fun z w=>l5 R (z 0) (z 2) w:=Zac 0 (ZZ29 R)
theorem Za6 (R:EP):TI prog R p1 (q1 R) fun z w=>l5 R (z 0) (z 2) w:=seqT (Zgr R) (Zbi R)
def b1_1 (R:EP)(x0 v1:Value)(w2:World)(_r:Tok R:=tok R):Prop :=
 NILC x0 fun v3=>
 RUN prog R (fieldAt 102 v3 6) w2 fun v4 w5=>
 RUN prog R (loadAt 98 v4) w5 fun v6 w7=>
 RUN prog R (lookup 98 v6 v1 false) w7 fun v8 w9=>
 RUN prog R (bins .add 3 (.tmp 11) (.const (Value.int .i64 1)) v8 (Value.int .i64 1)) w9 fun v10 w11=>
 RUNU prog R (mapUpdate 98 v6 v1 v10) w11 fun w12=>
 CALL prog R Zbb.id #[x0,(Value.string ⟨#[58]⟩)] w12 fun v13 w14=>
 l5 R x0 v1 w14
def b1 (R:EP)(x0:Value)(w:World)(_r:Tok R:=tok R):Prop :=
 CALL prog R Zb4.id #[x0] w fun v1 w2=>
 b1_1 R x0 v1 w2
theorem Zg (R:EP):TI prog R code (q1 R) fun z w=>b1 R (z 0) w:=appT 2 (Za6 R)
def run (R:EP)(a0:Value)(w:World):Prop:=b1 R a0 w
theorem calls (R:EP)(a0:Value)(w:World)(h:run R a0 w):Calls prog id #[a0] w R:=Zlz func76 [a0] (Zg R _ w h)
theorem enters:Enters prog id:=fun args w=>call76 args w
theorem ct {a0:Value}{w:World}{S:VP}(h:∀R:EP,(∀v w,S v w→R (.returned v) w)→run R a0 w):Ct prog id #[a0] w S :=
 Ct.intro enters fun R hR=>calls R a0 w (h R hR)
attribute [irreducible] l20 l5
attribute [irreducible,go_sem] b3 b10_1 b10 b13 Zmw b17 ZZ4 b16 b18 b15 b14 b12 b11 b21_1 b21_2 b21 b7 b1_1 b1 run
end Zh
namespace Zaz
noncomputable def code:Code:=Zm f77
def b1_1 (R:EP)(v1:Value)(w2:World)(_r:Tok R:=tok R):Prop :=
 RUN prog R (field 73 v1 2) w2 fun v3 w4=>
 RUN prog R (build 107 #[(0,v3)]) w4 fun v5 w6=>
 RUN prog R (makeInterface 107 v5) w6 fun v7 w8=>
 RUN prog R (panic v7) w8 fun v9 w10=>
 R (.returned (.tuple #[])) w10
def b1 (R:EP)(x0:Value)(w:World)(_r:Tok R:=tok R):Prop :=
 CALL prog R Zav.id #[x0] w fun v1 w2=>
 b1_1 R v1 w2
abbrev r0 (R:EP)(z:Env)(w:World):Prop:=R (.returned (.tuple #[])) w
abbrev q1 (R:EP):XP:=QX (r0 R) (r0 R) []
theorem Zg (R:EP):TI prog R code (q1 R) fun z w=>b1 R (z 0) w:=ofT
def run (R:EP)(a0:Value)(w:World):Prop:=b1 R a0 w
theorem calls (R:EP)(a0:Value)(w:World)(h:run R a0 w):Calls prog id #[a0] w R:=Zlz func77 [a0] (Zg R _ w h)
theorem enters:Enters prog id:=fun args w=>call77 args w
theorem ct {a0:Value}{w:World}{S:VP}(h:∀R:EP,(∀v w,S v w→R (.returned v) w)→run R a0 w):Ct prog id #[a0] w S :=
 Ct.intro enters fun R hR=>calls R a0 w (h R hR)
attribute [irreducible,go_sem] b1_1 b1 run
end Zaz
namespace Zb4
noncomputable def code:Code:=Zm f97
noncomputable abbrev p1:Code:=Zi 3 code
def b2 (R:EP)(x0 x3:Value)(w:World)(_r:Tok R:=tok R):Prop :=
 NILC x0 fun v1=>
 RUN prog R (fieldAt 102 v1 1) w fun v2 w3=>
 RUN prog R (loadAt 3 v2) w3 fun v4 w5=>
 RUN prog R (bins .add 3 (.tmp 14) (.const (Value.int .i64 1)) v4 (Value.int .i64 1)) w5 fun v6 w7=>
 NILC x0 fun v8=>
 RUN prog R (fieldAt 102 v8 1) w7 fun v9 w10=>
 RUNU prog R (storeAt 3 v9 v6) w10 fun w11=>
 RUN prog R (fieldAt 73 x3 1) w11 fun v12 w13=>
 RUN prog R (loadAt 9 v12) w13 fun v14 w15=>
 R (.returned v14) w15
abbrev r0 (R:EP)(z:Env)(w:World):Prop:=R (.returned (z 2)) w
abbrev q1 (R:EP):XP:=QX (r0 R) (r0 R) []
theorem Zj1 (R:EP):TI prog R p1 (q1 R) fun z w=>b2 R (z 0) (z 3) w:=ofT
def b1_1 (R:EP)(x0 v1:Value)(w2:World)(_r:Tok R:=tok R):Prop :=
 RUN prog R (alloc 73 true (.tuple #[])) w2 fun v3 w4=>
 RUNU prog R (storeAt 73 v3 v1) w4 fun w5=>
 RUN prog R (fieldAt 73 v3 0) w5 fun v6 w7=>
 RUN prog R (loadAt 3 v6) w7 fun v8 w9=>
 RUN prog R (bins .neq 3 (.tmp 7) (.const (Value.int .i64 1)) v8 (Value.int .i64 1)) w9 fun v10 w11=>
 SPL v10
 (CALL prog R Zaz.id #[x0] w11 fun v12 w13=>
 b2 R x0 v3 w13)
 (b2 R x0 v3 w11)
def b1 (R:EP)(x0:Value)(w:World)(_r:Tok R:=tok R):Prop :=
 CALL prog R Zav.id #[x0] w fun v1 w2=>
 b1_1 R x0 v1 w2
theorem Zg (R:EP):TI prog R code (q1 R) fun z w=>b1 R (z 0) w:=appT 2 (Zj1 R)
def run (R:EP)(a0:Value)(w:World):Prop:=b1 R a0 w
theorem calls (R:EP)(a0:Value)(w:World)(h:run R a0 w):Calls prog id #[a0] w R:=Zbd func97 [a0] (Zg R _ w h)
theorem enters:Enters prog id:=fun args w=>call97 args w
theorem ct {a0:Value}{w:World}{S:VP}(h:∀R:EP,(∀v w,S v w→R (.returned v) w)→run R a0 w):Ct prog id #[a0] w S :=
 Ct.intro enters fun R hR=>calls R a0 w (h R hR)
attribute [irreducible,go_sem] b2 b1_1 b1 run
end Zb4
namespace Zbb
noncomputable def code:Code:=Zm f98
noncomputable abbrev p1:Code:=Zi 1 code
def b2 (R:EP)(x0:Value)(w:World)(_r:Tok R:=tok R):Prop :=
 NILC x0 fun v1=>
 RUN prog R (fieldAt 102 v1 1) w fun v2 w3=>
 RUN prog R (loadAt 3 v2) w3 fun v4 w5=>
 RUN prog R (bins .add 3 (.tmp 13) (.const (Value.int .i64 1)) v4 (Value.int .i64 1)) w5 fun v6 w7=>
 NILC x0 fun v8=>
 RUN prog R (fieldAt 102 v8 1) w7 fun v9 w10=>
 RUNU prog R (storeAt 3 v9 v6) w10 fun w11=>
 R (.returned (.tuple #[])) w11
abbrev r0 (R:EP)(z:Env)(w:World):Prop:=R (.returned (.tuple #[])) w
abbrev q1 (R:EP):XP:=QX (r0 R) (r0 R) []
theorem Zj1 (R:EP):TI prog R p1 (q1 R) fun z w=>b2 R (z 0) w:=ofT
def b1_1 (R:EP)(x0 v1:Value)(w2:World)(_r:Tok R:=tok R):Prop :=
 RUN prog R (Op.unary .not v1) w2 fun v3 w4=>
 SPL v3
 (CALL prog R Zaz.id #[x0] w4 fun v5 w6=>
 b2 R x0 w6)
 (b2 R x0 w4)
def b1 (R:EP)(x0 x1:Value)(w:World)(_r:Tok R:=tok R):Prop :=
 CALL prog R Zcb.id #[x0,(Value.int .i64 4),x1] w fun v1 w2=>
 b1_1 R x0 v1 w2
theorem Zg (R:EP):TI prog R code (q1 R) fun z w=>b1 R (z 0) (z 1) w:=appT 0 (Zj1 R)
def run (R:EP)(a0 a1:Value)(w:World):Prop:=b1 R a0 a1 w
theorem calls (R:EP)(a0 a1:Value)(w:World)(h:run R a0 a1 w):Calls prog id #[a0,a1] w R:=Zlz func98 [a0,a1] (Zg R _ w h)
theorem enters:Enters prog id:=fun args w=>call98 args w
theorem ct {a0 a1:Value}{w:World}{S:VP}(h:∀R:EP,(∀v w,S v w→R (.returned v) w)→run R a0 a1 w):Ct prog id #[a0,a1] w S :=
 Ct.intro enters fun R hR=>calls R a0 a1 w (h R hR)
attribute [irreducible,go_sem] b2 b1_1 b1 run
end Zbb
namespace Zb2
noncomputable def code:Code:=Zm f99
def b1_1 (R:EP)(v1:Value)(w2:World)(_r:Tok R:=tok R):Prop :=
 RUN prog R (field 73 v1 0) w2 fun v3 w4=>
 RUN prog R (bins .eql 3 (.tmp 7) (.const (Value.int .i64 1)) v3 (Value.int .i64 1)) w4 fun v5 w6=>
 SPL v5
 (R (.returned (Value.bool true)) w6)
 (RUN prog R (bins .eql 3 (.tmp 10) (.const (Value.int .i64 2)) v3 (Value.int .i64 2)) w6 fun v7 w8=>
 R (.returned v7) w8)
def b1 (R:EP)(x0:Value)(w:World)(_r:Tok R:=tok R):Prop :=
 CALL prog R Zav.id #[x0] w fun v1 w2=>
 b1_1 R v1 w2
abbrev r0 (R:EP)(z:Env)(w:World):Prop:=R (.returned (z 2)) w
abbrev q1 (R:EP):XP:=QX (r0 R) (r0 R) []
theorem Zg (R:EP):TI prog R code (q1 R) fun z w=>b1 R (z 0) w:=ofT
def run (R:EP)(a0:Value)(w:World):Prop:=b1 R a0 w
theorem calls (R:EP)(a0:Value)(w:World)(h:run R a0 w):Calls prog id #[a0] w R:=Zbd func99 [a0] (Zg R _ w h)
theorem enters:Enters prog id:=fun args w=>call99 args w
theorem ct {a0:Value}{w:World}{S:VP}(h:∀R:EP,(∀v w,S v w→R (.returned v) w)→run R a0 w):Ct prog id #[a0] w S :=
 Ct.intro enters fun R hR=>calls R a0 w (h R hR)
attribute [irreducible,go_sem] b1_1 b1 run
end Zb2
namespace Zcb
noncomputable def code:Code:=Zm f100
def b1_1 (R:EP)(x2 v3:Value)(w11:World)(_r:Tok R:=tok R):Prop :=
 RUN prog R (fieldAt 73 v3 1) w11 fun v12 w13=>
 RUN prog R (loadAt 9 v12) w13 fun v14 w15=>
 RUN prog R (bins .eql 9 (.tmp 16) (.tmp 17) v14 x2) w15 fun v16 w17=>
 R (.returned v16) w17
def b1_2 (R:EP)(x1 x2 v1:Value)(w2:World)(_r:Tok R:=tok R):Prop :=
 RUN prog R (alloc 73 true (.tuple #[])) w2 fun v3 w4=>
 RUNU prog R (storeAt 73 v3 v1) w4 fun w5=>
 RUN prog R (fieldAt 73 v3 0) w5 fun v6 w7=>
 RUN prog R (loadAt 3 v6) w7 fun v8 w9=>
 RUN prog R (bins .eql 3 (.tmp 11) (.tmp 12) v8 x1) w9 fun v10 w11=>
 SPL v10
 (b1_1 R x2 v3 w11)
 (R (.returned (Value.bool false)) w11)
def b1 (R:EP)(x0 x1 x2:Value)(w:World)(_r:Tok R:=tok R):Prop :=
 CALL prog R Zav.id #[x0] w fun v1 w2=>
 b1_2 R x1 x2 v1 w2
abbrev r0 (R:EP)(z:Env)(w:World):Prop:=R (.returned (z 6)) w
abbrev q1 (R:EP):XP:=QX (r0 R) (r0 R) []
theorem Zg (R:EP):TI prog R code (q1 R) fun z w=>b1 R (z 0) (z 1) (z 2) w:=ofT
def run (R:EP)(a0 a1 a2:Value)(w:World):Prop:=b1 R a0 a1 a2 w
theorem calls (R:EP)(a0 a1 a2:Value)(w:World)(h:run R a0 a1 a2 w):Calls prog id #[a0,a1,a2] w R:=Zbd func100 [a0,a1,a2] (Zg R _ w h)
theorem enters:Enters prog id:=fun args w=>call100 args w
theorem ct {a0 a1 a2:Value}{w:World}{S:VP}(h:∀R:EP,(∀v w,S v w→R (.returned v) w)→run R a0 a1 a2 w):Ct prog id #[a0,a1,a2] w S :=
 Ct.intro enters fun R hR=>calls R a0 a1 a2 w (h R hR)
attribute [irreducible,go_sem] b1_1 b1_2 b1 run
end Zcb
end Go.Proofs.YtckbgeedlobfaaaGreatDoor
