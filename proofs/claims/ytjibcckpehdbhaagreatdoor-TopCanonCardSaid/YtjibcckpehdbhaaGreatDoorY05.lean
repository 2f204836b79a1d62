/-
  Texts of this claim: T02Ids, T02G, T02Lib, T02R, TC_bits, TC_tz, TC_slicesx, T02R2.
-/
import Derived.Test.YtjibcckpehdbhaaGreatDoorProg
import Derived.Test.YtjibcckpehdbhaaGreatDoorY02
set_option linter.unusedVariables false
set_option maxRecDepth 100000
namespace Go.Proofs.YtjibcckpehdbhaaGreatDoor
open Go.Px
abbrev U (R:EP)(s:Sem Value)(w:World)(K:Value->World->Prop)(_:Tok R:=tok R)(_:Tok K:=tok K):Prop:=RUN Tryz.prog (pan R) s w K
abbrev Y (s:Sem Value)(K:Value->Prop)(_:Tok K:=tok K):Prop:=PUR Tryz.prog s K
abbrev L (s:Sem Value)(w:World)(K:Value->Prop)(_:Tok K:=tok K):Prop:=LD Tryz.prog s w K
abbrev K (R:EP)(f:FuncId)(a:Array Value)(w:World)(K:Value->World->Prop)(_:Tok R:=tok R)(_:Tok K:=tok K):Prop:=CALL Tryz.prog (pan R) f a w K
abbrev bC (o:BinOp)(t a:Nat)(c:Int)(x:Value):=bins o t (.tmp a) (.const (.int .i64 c)) x (.int .i64 c)
theorem Ur_eq {R:EP}{s:Sem Value}{w:World}{k:Value->World->Prop}:U R s w k=RES (pan R) (s.run Tryz.prog w) k:=Zb9
abbrev Zaa.id:FuncId:=3
abbrev Zt.id:FuncId:=6
abbrev Zn.id:FuncId:=7
abbrev Zdn.id:FuncId:=8
abbrev Zci.id:FuncId:=9
abbrev Ze.id:FuncId:=10
abbrev Zg.id:FuncId:=11
abbrev Zbd.id:FuncId:=12
abbrev Zd3.id:FuncId:=14
abbrev Zca.id:FuncId:=19
abbrev Zbv.id:FuncId:=26
abbrev Zf.id:FuncId:=27
abbrev Zfp.id:FuncId:=28
abbrev Zai.id:FuncId:=29
abbrev Zce.id:FuncId:=30
abbrev Za2.id:FuncId:=31
abbrev Zd6.id:FuncId:=32
abbrev Zey.id:FuncId:=33
abbrev Zak.id:FuncId:=34
abbrev Zae.id:FuncId:=35
abbrev Zcf.id:FuncId:=36
abbrev Zet.id:FuncId:=37
abbrev Za1.id:FuncId:=38
abbrev Zax.id:FuncId:=39
abbrev Zeh.id:FuncId:=40
abbrev Zbm.id:FuncId:=41
abbrev Zo.id:FuncId:=42
abbrev Zb.id:FuncId:=43
abbrev Zb5.id:FuncId:=44
abbrev Zao.id:FuncId:=45
abbrev Zdb.id:FuncId:=46
abbrev Zu.id:FuncId:=47
abbrev Zct.id:FuncId:=48
abbrev Zba.id:FuncId:=49
abbrev Zbq.id:FuncId:=50
abbrev Zbh.id:FuncId:=51
abbrev Zdh.id:FuncId:=57
abbrev Za8.id:FuncId:=58
abbrev Zr.id:FuncId:=59
abbrev Zcy.id:FuncId:=61
abbrev Zbe.id:FuncId:=62
abbrev Zbb.id:FuncId:=66
abbrev Zc9.id:FuncId:=74
abbrev Zah.id:FuncId:=75
abbrev Zs.id:FuncId:=76
abbrev Zbo.id:FuncId:=77
abbrev Zc0.id:FuncId:=78
abbrev Zbt.id:FuncId:=79
abbrev Za3.id:FuncId:=80
abbrev Zdi.id:FuncId:=81
abbrev Zc7.id:FuncId:=82
abbrev Zc8.id:FuncId:=83
abbrev Zcr.id:FuncId:=84
abbrev Zcn.id:FuncId:=85
abbrev Zcp.id:FuncId:=86
abbrev Zbu.id:FuncId:=87
abbrev Zd2.id:FuncId:=88
abbrev Zl.id:FuncId:=89
abbrev Zb6.id:FuncId:=90
abbrev Zc3.id:FuncId:=93
abbrev Zdc.id:FuncId:=94
abbrev Zde.id:FuncId:=95
abbrev Zcb.id:FuncId:=96
abbrev Za0.id:FuncId:=97
abbrev Zj.id:FuncId:=98
abbrev Zcx.id:FuncId:=99
abbrev Zco.id:FuncId:=100
abbrev Zc2.id:FuncId:=101
abbrev Zcw.id:FuncId:=102
abbrev Zh.id:FuncId:=103
abbrev Za4.id:FuncId:=104
abbrev Zdq.id:FuncId:=105
abbrev Zcm.id:FuncId:=106
abbrev Zab.id:FuncId:=107
abbrev Zdm.id:FuncId:=108
abbrev Zap.id:FuncId:=123
abbrev Zc6.id:FuncId:=124
abbrev Zb0.id:FuncId:=129
abbrev Zm.id:FuncId:=138
abbrev Zb4.id:FuncId:=139
abbrev Zbs.id:FuncId:=140
abbrev Za5.id:FuncId:=141
abbrev Zat.id:FuncId:=142
abbrev Zei.id:FuncId:=143
abbrev Zea.id:FuncId:=144
abbrev Zay.id:FuncId:=145
abbrev Zac.id:FuncId:=146
abbrev Zam.id:FuncId:=147
abbrev Zd4.id:FuncId:=148
abbrev Zdp.id:FuncId:=149
abbrev Zas.id:FuncId:=150
abbrev Zdw.id:FuncId:=151
abbrev Za9.id:FuncId:=152
abbrev Zbw.id:FuncId:=153
abbrev Zal.id:FuncId:=154
abbrev cmp_Less_int.id:FuncId:=161
abbrev cmp_isNaN_int.id:FuncId:=167
abbrev Zbr.id:FuncId:=168
abbrev Zav.id:FuncId:=169
abbrev Zcs.id:FuncId:=170
abbrev Zev.id:FuncId:=171
abbrev Zar.id:FuncId:=186
abbrev Zd8.id:FuncId:=195
abbrev Zaj.id:FuncId:=196
abbrev Zby.id:FuncId:=205
abbrev Zy.id:FuncId:=206
abbrev Zbx.id:FuncId:=207
abbrev Zv.id:FuncId:=208
abbrev Zad.id:FuncId:=209
abbrev Zag.id:FuncId:=210
abbrev Zan.id:FuncId:=211
abbrev Zb8.id:FuncId:=212
abbrev Zds.id:FuncId:=213
abbrev Zdd.id:FuncId:=214
abbrev Zd.id:FuncId:=215
abbrev Zc.id:FuncId:=216
abbrev Ze6.id:FuncId:=217
abbrev Zch.id:FuncId:=218
abbrev Zc1.id:FuncId:=219
abbrev Zaq.id:FuncId:=220
abbrev Zb1.id:FuncId:=221
abbrev Zbf.id:FuncId:=235
abbrev Zbl.id:FuncId:=252
abbrev Zaw.id:FuncId:=265
abbrev Za6.id:FuncId:=266
abbrev Za7.id:FuncId:=267
abbrev Zbz.id:FuncId:=268
abbrev Zbc.id:FuncId:=269
abbrev Zda.id:FuncId:=270
abbrev Zcz.id:FuncId:=271
abbrev Zc4.id:FuncId:=272
abbrev Zbk.id:FuncId:=273
abbrev Zau.id:FuncId:=298
open Tryz Instr Builtin
namespace Zd4
variable (R:EP) (x0:Value) (w:World)
def b1 (_:T (R):=Q _):=
 U R (bins .neq 9 (.tmp 3) (.const (.string ⟨#[]⟩)) x0 (.string ⟨#[]⟩)) w λ v1 w2=>
 SPL v1
 (U R (len_ #[9] 3 #[x0]) w2 λ v3 w4=>
 U R (bC .leq 3 7 16 v3) w4 λ v5 w6=>
 SPL v5
 (K R Zch.id #[x0,(.func (.func Zc1.id) #[] #[])] w6 λ v7 w8=>
 U R (bC .lss 3 12 0 v7) w8 λ v9 w10=>
 R (.returned v9) w10)
 (R (.returned (.bool false)) w6))
 (R (.returned (.bool false)) w2)
theorem tie (R:EP):TI prog R (Zp f148) (QQ (λ z w=>R (.returned (z 2)) w)) λ z w=>b1 R (z 0) w:=ofT
def run (R:EP)(a0:Value)(w:World):=b1 R a0 w
theorem ct:Cta1 prog id run:=Zbj call148 func148 λ R a0 w h=>tie R _ w h
attribute [irreducible] b1 run
end Zd4
namespace Za9
variable (R:EP) (C6:VP) (x0 x6 x7 x36:Value) (w:World)
def b3 (_:T (R):=Q _):=
 U R (bins .neq 9 (.tmp 38) (.const (.string ⟨#[]⟩)) x0 (.string ⟨#[]⟩)) w λ v1 w2=>
 SPL v1
 (U R (len_ #[9] 3 #[x0]) w2 λ v3 w4=>
 U R (bC .leq 3 42 16 v3) w4 λ v5 w6=>
 R (.returned v5) w6)
 (R (.returned (.bool false)) w2)
def b9 (_:T (R,C6):=Q _):=
 U R (bC .add 3 7 1 x7) w λ v1 w2=>
 C6 v1 w2
def b12 (_:T (R,C6):=Q _):=
 SPL x36
 (R (.returned (.bool false)) w)
 (b9 R C6 x7 w)
def b11 (_:T (R,C6):=Q _):=
 U R (index 9 x0 x7) w λ v1 w2=>
 U R (bins .neq 5 (.tmp 13) (.const (.int .u8 95)) v1 (.int .u8 95)) w2 λ v3 w4=>
 SPL v3
 (U R (bins .or 5 (.tmp 16) (.const (.int .u8 32)) v1 (.int .u8 32)) w4 λ v5 w6=>
 U R (bins .lss 5 (.tmp 17) (.const (.int .u8 97)) v5 (.int .u8 97)) w6 λ v7 w8=>
 SPL v7
 (U R (bC .eql 3 26 0 x7) w8 λ v9 w10=>
 SPL v9
 (b12 R C6 x7 (.bool true) w10)
 (U R (bins .lss 5 (.tmp 29) (.const (.int .u8 48)) v1 (.int .u8 48)) w10 λ v11 w12=>
 SPL v11
 (b12 R C6 x7 (.bool true) w12)
 (U R (bins .gtr 5 (.tmp 33) (.const (.int .u8 57)) v1 (.int .u8 57)) w12 λ v13 w14=>
 b12 R C6 x7 v13 w14)))
 (U R (bins .or 5 (.tmp 20) (.const (.int .u8 32)) v1 (.int .u8 32)) w8 λ v15 w16=>
 U R (bins .gtr 5 (.tmp 21) (.const (.int .u8 122)) v15 (.int .u8 122)) w16 λ v17 w18=>
 SPL v17
 (U R (bC .eql 3 26 0 x7) w18 λ v19 w20=>
 SPL v19
 (b12 R C6 x7 (.bool true) w20)
 (U R (bins .lss 5 (.tmp 29) (.const (.int .u8 48)) v1 (.int .u8 48)) w20 λ v21 w22=>
 SPL v21
 (b12 R C6 x7 (.bool true) w22)
 (U R (bins .gtr 5 (.tmp 33) (.const (.int .u8 57)) v1 (.int .u8 57)) w22 λ v23 w24=>
 b12 R C6 x7 v23 w24)))
 (b12 R C6 x7 (.bool false) w18)))
 (b12 R C6 x7 (.bool false) w4)
def b7 (_:T (R,C6):=Q _):=
 U R (bins .lss 3 (.tmp 7) (.tmp 6) x7 x6) w λ v1 w2=>
 SPL v1
 (b11 R C6 x0 x7 w2)
 (b3 R x0 w2)
def l6 (_:T (R):=Q _):Prop :=
 LP1 (λ C6 y7 w0=>b7 R C6 x0 x6 y7 w0) x7 w
theorem l6_intro:LS1 (λ C6 y7 w0=>b7 R C6 x0 x6 y7 w0) x7 w (l6 R x0 x6 x7 w):=LI1 _ x7 w
def b4 (_:T (R):=Q _):=
 U R (len_ #[9] 3 #[x0]) w λ v1 w2=>
 l6 R x0 v1 (.int .i64 0) w2
def b1 (_:T (R):=Q _):=
 b4 R x0 w
theorem tie (R:EP):TI prog R (Zp f152) (QQ (λ z w=>R (.returned (z 2)) w)) λ z w=>b1 R (z 0) w:=aT 0 (λ z w=>b4 R (z 0) w) (sT (λ z w=>b3 R (z 0) w) (aT 0 (λ z w=>l6 R (z 0) (z 6) (z 7) w) (Zk 0 (lT1 7 (λ z C6 y7 w0=>b7 R C6 (z 0) (z 6) y7 w0) λ C6=>aT 1 (λ z w=>b11 R C6 (z 0) (z 7) w) (sT (λ z w=>b9 R C6 (z 7) w) (Zk 1 (aT 2 (λ z w=>b12 R C6 (z 7) (z 36) w) ofT)) ofT)))) ofT)
def run (R:EP)(a0:Value)(w:World):=b1 R a0 w
theorem ct:Cta1 prog id run:=Zbj call152 func152 λ R a0 w h=>tie R _ w h
attribute [irreducible] b3 b9 b12 b11 b7 l6 b4 b1 run
end Za9
namespace Zc1
variable (R:EP) (x0:Value) (w:World)
def b1 (_:T (R):=Q _):=
 U R (bins .lss 21 (.tmp 3) (.const (.int .i32 32)) x0 (.int .i32 32)) w λ v1 w2=>
 SPL v1
 (R (.returned (.bool true)) w2)
 (U R (bins .gtr 21 (.tmp 6) (.const (.int .i32 126)) x0 (.int .i32 126)) w2 λ v3 w4=>
 SPL v3
 (R (.returned (.bool true)) w4)
 (U R (bins .eql 21 (.tmp 10) (.const (.int .i32 39)) x0 (.int .i32 39)) w4 λ v5 w6=>
 R (.returned v5) w6))
theorem tie (R:EP):TI prog R (Zp f219) (QQ (λ z w=>R (.returned (z 2)) w)) λ z w=>b1 R (z 0) w:=ofT
def run (R:EP)(a0:Value)(w:World):=b1 R a0 w
theorem ct:Cta1 prog id run:=Zbj call219 func219 λ R a0 w h=>tie R _ w h
attribute [irreducible] b1 run
end Zc1
namespace Zch
variable (R:EP) (x0 x1:Value) (w:World)
def b1 (_:T (R):=Q _):=
 K R Zbk.id #[x0,x1,(.bool true)] w λ v1 w2=>
 R (.returned v1) w2
theorem tie (R:EP):TI prog R (Zp f218) (QQ (λ z w=>R (.returned (z 4)) w)) λ z w=>b1 R (z 0) (z 1) w:=ofT
def run (R:EP)(a0 a1:Value)(w:World):=b1 R a0 a1 w
theorem ct:Cta2 prog id run:=Zcd call218 func218 λ R a0 a1 w h=>tie R _ w h
attribute [irreducible] b1 run
end Zch
namespace Zbk
variable (R:EP) (C6:World->Prop) (x0 x1 x2 x10:Value) (w:World)
def b3 (_:T (R):=Q _):=
 R (.returned (.int .i64 (-1))) w
def b7 (_:T (R,C6):=Q _):=
 U R (next x10 true 0) w λ v1 w2=>
 U R (extract v1 0) w2 λ v3 w4=>
 SPL v3
 (U R (extract v1 1) w4 λ v5 w6=>
 U R (extract v1 2) w6 λ v7 w8=>
 Zfa prog R x1 [v7] w8 λ v9 w10=>
 U R (bins .eql 4 (.tmp 17) (.tmp 18) v9 x2) w10 λ v11 w12=>
 SPL v11
 (R (.returned v5) w12)
 (C6  w12))
 (b3 R w4)
def l6 (_:T (R):=Q _):Prop :=
 LP0 (λ C6 w0=>b7 R C6 x1 x2 x10 w0) w
theorem l6_intro:LS0 (λ C6 w0=>b7 R C6 x1 x2 x10 w0) w (l6 R x1 x2 x10 w):=LI0 _ w
def b4 (_:T (R):=Q _):=
 U R (range 9 x0) w λ v1 w2=>
 l6 R x1 x2 v1 w2
def b1 (_:T (R):=Q _):=
 b4 R x0 x1 x2 w
theorem tie (R:EP):TI prog R (Zp f273) (QQ (λ z w=>R (.returned (z 6)) w)) λ z w=>b1 R (z 0) (z 1) (z 2) w:=aT 0 (λ z w=>b4 R (z 0) (z 1) (z 2) w) (sT (λ z w=>b3 R  w) (aT 0 (λ z w=>l6 R (z 1) (z 2) (z 10) w) (Zk 0 (lT0 (λ z C6 w0=>b7 R C6 (z 1) (z 2) (z 10) w0) λ C6=>ofT))) ofT)
def run (R:EP)(a0 a1 a2:Value)(w:World):=b1 R a0 a1 a2 w
theorem ct:Cta3 prog id run:=Zkc call273 func273 λ R a0 a1 a2 w h=>tie R _ w h
attribute [irreducible] b3 b7 l6 b4 b1 run
end Zbk
namespace Zbr
variable (R:EP) (C6:VP) (x0 x3 x25:Value) (w:World)
def b3 (_:T (R):=Q _):=
 U R (len_ #[9] 3 #[x0]) w λ v1 w2=>
 U R (bC .geq 3 27 1 v1) w2 λ v3 w4=>
 SPL v3
 (U R (len_ #[9] 3 #[x0]) w4 λ v5 w6=>
 U R (bC .leq 3 31 16 v5) w6 λ v7 w8=>
 R (.returned v7) w8)
 (R (.returned (.bool false)) w4)
def b9 (_:T (R,C6):=Q _):=
 U R (bC .add 3 8 1 x3) w λ v1 w2=>
 C6 v1 w2
def b12 (_:T (R,C6):=Q _):=
 SPL x25
 (R (.returned (.bool false)) w)
 (b9 R C6 x3 w)
def b11 (_:T (R,C6):=Q _):=
 U R (index 9 x0 x3) w λ v1 w2=>
 U R (bins .lss 5 (.tmp 12) (.const (.int .u8 32)) v1 (.int .u8 32)) w2 λ v3 w4=>
 SPL v3
 (b12 R C6 x3 (.bool true) w4)
 (U R (index 9 x0 x3) w4 λ v5 w6=>
 U R (bins .gtr 5 (.tmp 17) (.const (.int .u8 126)) v5 (.int .u8 126)) w6 λ v7 w8=>
 SPL v7
 (b12 R C6 x3 (.bool true) w8)
 (U R (index 9 x0 x3) w8 λ v9 w10=>
 U R (bins .eql 5 (.tmp 23) (.const (.int .u8 39)) v9 (.int .u8 39)) w10 λ v11 w12=>
 b12 R C6 x3 v11 w12))
def b7 (_:T (R,C6):=Q _):=
 U R (len_ #[9] 3 #[x0]) w λ v1 w2=>
 U R (bins .lss 3 (.tmp 4) (.tmp 6) x3 v1) w2 λ v3 w4=>
 SPL v3
 (b11 R C6 x0 x3 w4)
 (b3 R x0 w4)
def l6 (_:T (R):=Q _):Prop :=
 LP1 (λ C6 y3 w0=>b7 R C6 x0 y3 w0) x3 w
theorem l6_intro:LS1 (λ C6 y3 w0=>b7 R C6 x0 y3 w0) x3 w (l6 R x0 x3 w):=LI1 _ x3 w
def b4 (_:T (R):=Q _):=
 l6 R x0 (.int .i64 0) w
def b1 (_:T (R):=Q _):=
 b4 R x0 w
theorem tie (R:EP):TI prog R (Zp f168) (QQ (λ z w=>R (.returned (z 2)) w)) λ z w=>b1 R (z 0) w:=aT 0 (λ z w=>b4 R (z 0) w) (sT (λ z w=>b3 R (z 0) w) (aT 0 (λ z w=>l6 R (z 0) (z 3) w) (Zk 0 (lT1 3 (λ z C6 y3 w0=>b7 R C6 (z 0) y3 w0) λ C6=>aT 0 (λ z w=>b11 R C6 (z 0) (z 3) w) (sT (λ z w=>b9 R C6 (z 3) w) (Zk 1 (aT 0 (λ z w=>b12 R C6 (z 3) (z 25) w) ofT)) ofT)))) ofT)
def run (R:EP)(a0:Value)(w:World):=b1 R a0 w
theorem ct:Cta1 prog id run:=Zbj call168 func168 λ R a0 w h=>tie R _ w h
attribute [irreducible] b3 b9 b12 b11 b7 l6 b4 b1 run
end Zbr
namespace Zav
variable (R:EP) (C6:VP) (x0 x3 x4 x5 x59:Value) (w:World)
def b3 (_:T (R):=Q _):=
 U R (len_ #[9] 3 #[x0]) w λ v1 w2=>
 U R (bC .geq 3 61 1 v1) w2 λ v3 w4=>
 SPL v3
 (U R (len_ #[9] 3 #[x0]) w4 λ v5 w6=>
 U R (bC .leq 3 65 16 v5) w6 λ v7 w8=>
 R (.returned v7) w8)
 (R (.returned (.bool false)) w4)
def b9 (_:T (R,C6):=Q _):=
 U R (bC .add 3 10 1 x3) w λ v1 w2=>
 C6 v1 w2
def b14 (_:T (R,C6):=Q _):=
 SPL x59
 (R (.returned (.bool false)) w)
 (b9 R C6 x3 w)
def b13 (_:T (R,C6):=Q _):=
 U R (Op.unary .not x4) w λ v1 w2=>
 SPL v1
 (U R (Op.unary .not x5) w2 λ v3 w4=>
 b14 R C6 x3 v3 w4)
 (b14 R C6 x3 (.bool false) w2)
def b12 (_:T (R,C6):=Q _):=
 U R (index 9 x0 x3) w λ v1 w2=>
 U R (bins .geq 5 (.tmp 42) (.const (.int .u8 48)) v1 (.int .u8 48)) w2 λ v3 w4=>
 SPL v3
 (U R (index 9 x0 x3) w4 λ v5 w6=>
 U R (bins .leq 5 (.tmp 47) (.const (.int .u8 57)) v5 (.int .u8 57)) w6 λ v7 w8=>
 SPL v7
 (U R (bC .gtr 3 51 0 x3) w8 λ v9 w10=>
 b13 R C6 x3 x4 v9 w10)
 (b13 R C6 x3 x4 (.bool false) w8))
 (b13 R C6 x3 x4 (.bool false) w4)
def b11 (_:T (R,C6):=Q _):=
 U R (index 9 x0 x3) w λ v1 w2=>
 U R (bins .geq 5 (.tmp 14) (.const (.int .u8 65)) v1 (.int .u8 65)) w2 λ v3 w4=>
 SPL v3
 (U R (index 9 x0 x3) w4 λ v5 w6=>
 U R (bins .leq 5 (.tmp 19) (.const (.int .u8 90)) v5 (.int .u8 90)) w6 λ v7 w8=>
 SPL v7
 (b12 R C6 x0 x3 (.bool true) w8)
 (U R (index 9 x0 x3) w8 λ v9 w10=>
 U R (bins .geq 5 (.tmp 25) (.const (.int .u8 97)) v9 (.int .u8 97)) w10 λ v11 w12=>
 SPL v11
 (U R (index 9 x0 x3) w12 λ v13 w14=>
 U R (bins .leq 5 (.tmp 30) (.const (.int .u8 122)) v13 (.int .u8 122)) w14 λ v15 w16=>
 SPL v15
 (b12 R C6 x0 x3 (.bool true) w16)
 (U R (index 9 x0 x3) w16 λ v17 w18=>
 U R (bins .eql 5 (.tmp 37) (.const (.int .u8 95)) v17 (.int .u8 95)) w18 λ v19 w20=>
 b12 R C6 x0 x3 v19 w20))
 (U R (index 9 x0 x3) w12 λ v21 w22=>
 U R (bins .eql 5 (.tmp 37) (.const (.int .u8 95)) v21 (.int .u8 95)) w22 λ v23 w24=>
 b12 R C6 x0 x3 v23 w24)))
 (U R (index 9 x0 x3) w4 λ v25 w26=>
 U R (bins .geq 5 (.tmp 25) (.const (.int .u8 97)) v25 (.int .u8 97)) w26 λ v27 w28=>
 SPL v27
 (U R (index 9 x0 x3) w28 λ v29 w30=>
 U R (bins .leq 5 (.tmp 30) (.const (.int .u8 122)) v29 (.int .u8 122)) w30 λ v31 w32=>
 SPL v31
 (b12 R C6 x0 x3 (.bool true) w32)
 (U R (index 9 x0 x3) w32 λ v33 w34=>
 U R (bins .eql 5 (.tmp 37) (.const (.int .u8 95)) v33 (.int .u8 95)) w34 λ v35 w36=>
 b12 R C6 x0 x3 v35 w36))
 (U R (index 9 x0 x3) w28 λ v37 w38=>
 U R (bins .eql 5 (.tmp 37) (.const (.int .u8 95)) v37 (.int .u8 95)) w38 λ v39 w40=>
 b12 R C6 x0 x3 v39 w40))
def b7 (_:T (R,C6):=Q _):=
 U R (len_ #[9] 3 #[x0]) w λ v1 w2=>
 U R (bins .lss 3 (.tmp 6) (.tmp 8) x3 v1) w2 λ v3 w4=>
 SPL v3
 (b11 R C6 x0 x3 w4)
 (b3 R x0 w4)
def l6 (_:T (R):=Q _):Prop :=
 LP1 (λ C6 y3 w0=>b7 R C6 x0 y3 w0) x3 w
theorem l6_intro:LS1 (λ C6 y3 w0=>b7 R C6 x0 y3 w0) x3 w (l6 R x0 x3 w):=LI1 _ x3 w
def b4 (_:T (R):=Q _):=
 l6 R x0 (.int .i64 0) w
def b1 (_:T (R):=Q _):=
 b4 R x0 w
theorem tie (R:EP):TI prog R (Zp f169) (QQ (λ z w=>R (.returned (z 2)) w)) λ z w=>b1 R (z 0) w:=aT 0 (λ z w=>b4 R (z 0) w) (sT (λ z w=>b3 R (z 0) w) (aT 0 (λ z w=>l6 R (z 0) (z 3) w) (Zk 0 (lT1 3 (λ z C6 y3 w0=>b7 R C6 (z 0) y3 w0) λ C6=>aT 0 (λ z w=>b11 R C6 (z 0) (z 3) w) (sT (λ z w=>b9 R C6 (z 3) w) (Zk 1 (aT 0 (λ z w=>b12 R C6 (z 0) (z 3) (z 4) w) (aT 0 (λ z w=>b13 R C6 (z 3) (z 4) (z 5) w) (aT 0 (λ z w=>b14 R C6 (z 3) (z 59) w) ofT)))) ofT)))) ofT)
def run (R:EP)(a0:Value)(w:World):=b1 R a0 w
theorem ct:Cta1 prog id run:=Zbj call169 func169 λ R a0 w h=>tie R _ w h
attribute [irreducible] b3 b9 b14 b13 b12 b11 b7 l6 b4 b1 run
end Zav
namespace Zfp
variable (R:EP) (x0 x1:Value) (w:World)
def b1 (_:T (R):=Q _):=
 U R (max_ #[3,3] 3 #[x0,(.int .i64 0)]) w λ v1 w2=>
 U R (min_ #[3,3] 3 #[v1,(.int .i64 1024)]) w2 λ v3 w4=>
 U R (bC .add 3 9 63 v3) w4 λ v5 w6=>
 U R (bC .quo 3 10 64 v5) w6 λ v7 w8=>
 U R (makeSlice 195 v7 v7) w8 λ v9 w10=>
 U R (build 197 #[(0,v9),(1,v3)]) w10 λ v11 w12=>
 U R (box 197 v11) w12 λ v13 w14=>
 K R Zai.id #[v13,x1] w14 λ v15 w16=>
 R (.returned v13) w16
theorem tie (R:EP):TI prog R (Zp f28) (QQ (λ z w=>R (.returned (z 4)) w)) λ z w=>b1 R (z 0) (z 1) w:=ofT
def run (R:EP)(a0 a1:Value)(w:World):=b1 R a0 a1 w
theorem ct:Cta2 prog id run:=Zcd call28 func28 λ R a0 a1 w h=>tie R _ w h
attribute [irreducible,go_sem] b1 run
end Zfp
namespace Zai
variable (R:EP) (C6:Value->VP) (x0 x1 x5 x7 x8 x9 x10 x30 v3:Value) (w w6 w10:World)
def b3 (_:T (R):=Q _):=
 R (.returned x5) w
def b9 (_:T (R,C6):=Q _):=
 U R (bC .add 3 10 1 x10) w λ v1 w2=>
 C6 x5 v1 w2
def b12_1 (_:T (R,C6):=Q _):=
 NILC x0 λ v1=>
 U R (fieldAt 197 v1 0) w λ v2 w3=>
 U R (loadAt 195 v2) w3 λ v4 w5=>
 K R Zc8.id #[v4,x7] w5 λ v6 w7=>
 U R (bC .add 3 37 1 x5) w7 λ v8 w9=>
 b9 R C6 v8 x10 w9
def b12 (_:T (R,C6):=Q _):=
 SPL x30
 (b12_1 R C6 x0 x5 x7 x10 w)
 (b9 R C6 x5 x10 w)
def b11_1 (_:T (R,C6):=Q _):=
 NILC x0 λ v11=>
 U R (fieldAt 197 v11 0) w10 λ v12 w13=>
 U R (loadAt 195 v12) w13 λ v14 w15=>
 K R Zc7.id #[v14,v3] w15 λ v16 w17=>
 U R (Op.unary .not v16) w17 λ v18 w19=>
 b12 R C6 x0 x5 v3 x10 v18 w19
def b11_2 (_:T (R,C6):=Q _):=
 K R Zdi.id #[x0] w6 λ v7 w8=>
 U R (bins .lss 3 (.tmp 17) (.tmp 19) v3 v7) w8 λ v9 w10=>
 SPL v9
 (b11_1 R C6 x0 x5 x10 v3 w10)
 (b12 R C6 x0 x5 v3 x10 (.bool false) w10)
def b11 (_:T (R,C6):=Q _):=
 U R (indexAt 24 x8 x10) w λ v1 w2=>
 U R (loadAt 3 v1) w2 λ v3 w4=>
 U R (bC .geq 3 14 0 v3) w4 λ v5 w6=>
 SPL v5
 (b11_2 R C6 x0 x5 x10 v3 w6)
 (b12 R C6 x0 x5 v3 x10 (.bool false) w6)
def b7 (_:T (R,C6):=Q _):=
 U R (bins .lss 3 (.tmp 10) (.tmp 9) x10 x9) w λ v1 w2=>
 SPL v1
 (b11 R C6 x0 x5 x8 x10 w2)
 (b3 R x5 w2)
def l6 (_:T (R):=Q _):Prop :=
 LP2 (λ C6 y5 y10 w0=>b7 R C6 x0 y5 x8 x9 y10 w0) x5 x10 w
theorem l6_intro:LS2 (λ C6 y5 y10 w0=>b7 R C6 x0 y5 x8 x9 y10 w0) x5 x10 w (l6 R x0 x5 x8 x9 x10 w):=LI2 _ x5 x10 w
def b4 (_:T (R):=Q _):=
 U R (len_ #[24] 3 #[x1]) w λ v1 w2=>
 l6 R x0 x5 x1 v1 (.int .i64 0) w2
def b1 (_:T (R):=Q _):=
 b4 R x0 x1 (.int .i64 0) w
theorem tie (R:EP):TI prog R (Zp f29) (QQ (λ z w=>R (.returned (z 4)) w)) λ z w=>b1 R (z 0) (z 1) w:=aT 1 (λ z w=>b4 R (z 0) (z 1) (z 5) w) (sT (λ z w=>b3 R (z 5) w) (aT 0 (λ z w=>l6 R (z 0) (z 5) (z 8) (z 9) (z 10) w) (Zk 0 (lT2 5 10 (λ z C6 y5 y10 w0=>b7 R C6 (z 0) y5 (z 8) (z 9) y10 w0) λ C6=>aT 1 (λ z w=>b11 R C6 (z 0) (z 5) (z 8) (z 10) w) (sT (λ z w=>b9 R C6 (z 5) (z 10) w) (Zk 1 (aT 1 (λ z w=>b12 R C6 (z 0) (z 5) (z 7) (z 10) (z 30) w) ofT)) ofT)))) ofT)
def run (R:EP)(a0 a1:Value)(w:World):=b1 R a0 a1 w
theorem ct:Cta2 prog id run:=Zcd call29 func29 λ R a0 a1 w h=>tie R _ w h
attribute [irreducible] l6
attribute [irreducible,go_sem] b3 b9 b12_1 b12 b11_1 b11_2 b11 b7 b4 b1 run
end Zai
namespace Zce
variable (R:EP) (x0:Value) (w:World)
def b1 (_:T (R):=Q _):=
 K R Zcn.id #[x0] w λ v1 w2=>
 K R Zcr.id #[v1] w2 λ v3 w4=>
 R (.returned v3) w4
theorem tie (R:EP):TI prog R (Zp f30) (QQ (λ z w=>R (.returned (z 2)) w)) λ z w=>b1 R (z 0) w:=ofT
def run (R:EP)(a0:Value)(w:World):=b1 R a0 w
theorem ct:Cta1 prog id run:=Zbj call30 func30 λ R a0 w h=>tie R _ w h
attribute [irreducible,go_sem] b1 run
end Zce
namespace Zdi
variable (R:EP) (x0:Value) (w w2:World)
def b1_1 (_:T (R):=Q _):=
 NILC x0 λ v3=>
 U R (fieldAt 197 v3 1) w2 λ v4 w5=>
 U R (loadAt 3 v4) w5 λ v6 w7=>
 R (.returned v6) w7
def b1 (_:T (R):=Q _):=
 U R (bins .eql 74 (.tmp 3) (.const (.pointer none)) x0 (.pointer none)) w λ v1 w2=>
 SPL v1
 (R (.returned (.int .i64 0)) w2)
 (b1_1 R x0 w2)
theorem tie (R:EP):TI prog R (Zp f81) (QQ (λ z w=>R (.returned (z 2)) w)) λ z w=>b1 R (z 0) w:=ofT
def run (R:EP)(a0:Value)(w:World):=b1 R a0 w
theorem ct:Cta1 prog id run:=Zbj call81 func81 λ R a0 w h=>tie R _ w h
attribute [irreducible,go_sem] b1_1 b1 run
end Zdi
namespace Zc7
variable (R:EP) (x0 x1:Value) (w:World)
def b1 (_:T (R):=Q _):=
 U R (bC .quo 3 6 64 x1) w λ v1 w2=>
 U R (indexAt 195 x0 v1) w2 λ v3 w4=>
 U R (loadAt 263 v3) w4 λ v5 w6=>
 U R (bC .rem 3 10 64 x1) w6 λ v7 w8=>
 U R (bins .shr 263 (.tmp 9) (.tmp 11) v5 v7) w8 λ v9 w10=>
 U R (bins .and 263 (.tmp 12) (.const (.int .u64 1)) v9 (.int .u64 1)) w10 λ v11 w12=>
 U R (bins .eql 263 (.tmp 13) (.const (.int .u64 1)) v11 (.int .u64 1)) w12 λ v13 w14=>
 R (.returned v13) w14
theorem tie (R:EP):TI prog R (Zp f82) (QQ (λ z w=>R (.returned (z 4)) w)) λ z w=>b1 R (z 0) (z 1) w:=ofT
def run (R:EP)(a0 a1:Value)(w:World):=b1 R a0 a1 w
theorem ct:Cta2 prog id run:=Zcd call82 func82 λ R a0 a1 w h=>tie R _ w h
attribute [irreducible,go_sem] b1 run
end Zc7
namespace Zc8
variable (R:EP) (x0 x1:Value) (w:World)
def b1 (_:T (R):=Q _):=
 Y (bC .quo 3 5 64 x1) λ v1=>
 Y (indexAt 195 x0 v1) λ v2=>
 L (loadAt 263 v2) w.drew λ v3=>
 Y (bC .rem 3 9 64 x1) λ v4=>
 Y (bins .shl 263 (.const (.int .u64 1)) (.tmp 10) (.int .u64 1) v4) λ v5=>
 Y (bins .or 263 (.tmp 8) (.tmp 11) v3 v5) λ v6=>
 Y (indexAt 195 x0 v1) λ v7=>
 RUNU prog R (storeAt 263 v7 v6) w.drew λ w8=>
 R (.returned (.tuple #[])) w8
theorem tie (R:EP):TI prog R (Zp f83) (QQ (λ z w=>R (.returned (.tuple #[])) w)) λ z w=>b1 R (z 0) (z 1) w:=ofT
def run (R:EP)(a0 a1:Value)(w:World):=b1 R a0 a1 w
theorem ct:Cta2 prog id run:=Zqs call83 func83 λ R a0 a1 w h=>tie R _ w h
attribute [irreducible,go_sem] b1 run
end Zc8
namespace Zcn
variable (R:EP) (x0 x3 v1:Value) (w w4:World)
def b2 (_:T (R):=Q _):=
 U R (makeFunc (.func Zac.id) #[] #[x3]) w λ v1 w2=>
 R (.returned v1) w2
def b1_1 (_:T (R):=Q _):=
 NILC x0 λ v5=>
 U R (fieldAt 197 v5 0) w4 λ v6 w7=>
 U R (loadAt 195 v6) w7 λ v8 w9=>
 K R Zay.id #[v8] w9 λ v10 w11=>
 RUNU prog R (storeAt 195 v1 v10) w11 λ w12=>
 b2 R v1 w12
def b1 (_:T (R):=Q _):=
 U R (alloc 195 true (.tuple #[])) w λ v1 w2=>
 U R (bins .neq 74 (.tmp 4) (.const (.pointer none)) x0 (.pointer none)) w2 λ v3 w4=>
 SPL v3
 (b1_1 R x0 v1 w4)
 (b2 R v1 w4)
theorem tie (R:EP):TI prog R (Zp f85) (QQ (λ z w=>R (.returned (z 2)) w)) λ z w=>b1 R (z 0) w:=aT 2 (λ z w=>b2 R (z 3) w) ofT
def run (R:EP)(a0:Value)(w:World):=b1 R a0 w
theorem ct:Cta1 prog id run:=Zbj call85 func85 λ R a0 w h=>tie R _ w h
attribute [irreducible,go_sem] b2 b1_1 b1 run
end Zcn
namespace Zac
variable (R:EP) (C3:VP) (C10:VP) (x0 x1 x3 x4 x5 x6 x7 v3 v5:Value) (w w2 w6 w12:World)
def b6 (_:T (R,C3):=Q _):=
 U R (bC .add 3 7 1 x7) w λ v1 w2=>
 C3 v1 w2
def b11_1 (_:T (R,C10):=Q _):=
 U R (bins .sub 263 (.tmp 15) (.const (.int .u64 1)) x4 (.int .u64 1)) w12 λ v13 w14=>
 U R (bins .and 263 (.tmp 14) (.tmp 16) x4 v13) w14 λ v15 w16=>
 C10 v15 w16
def b11_2 (_:T (R,C10):=Q _):=
 U R (bins .add 3 (.tmp 20) (.tmp 22) v3 v5) w6 λ v7 w8=>
 Zfa prog R x0 [v7] w8 λ v9 w10=>
 U R (Op.unary .not v9) w10 λ v11 w12=>
 SPL v11
 (R (.returned (.tuple #[])) w12)
 (b11_1 R C10 x4 w12)
def b11_3 (_:T (R,C10):=Q _):=
 U R (bins .mul 3 (.const (.int .i64 64)) (.tmp 19) (.int .i64 64) x3) w2 λ v3 w4=>
 K R Zam.id #[x4] w4 λ v5 w6=>
 b11_2 R C10 x0 x4 v3 v5 w6
def b11 (_:T (R,C3,C10):=Q _):=
 U R (bins .neq 263 (.tmp 12) (.const (.int .u64 0)) x4 (.int .u64 0)) w λ v1 w2=>
 SPL v1
 (b11_3 R C10 x0 x3 x4 w2)
 (b6 R C3 x7 w2)
def l10 (_:T (R,C3):=Q _):Prop :=
 LP1 (λ C10 y4 w0=>b11 R C3 C10 x0 x3 y4 x7 w0) x4 w
theorem l10_intro:LS1 (λ C10 y4 w0=>b11 R C3 C10 x0 x3 y4 x7 w0) x4 w (l10 R C3 x0 x3 x4 x7 w):=LI1 _ x4 w
def b8 (_:T (R,C3):=Q _):=
 U R (indexAt 195 x5 x7) w λ v1 w2=>
 U R (loadAt 263 v1) w2 λ v3 w4=>
 l10 R C3 x0 x7 v3 x7 w4
def b4 (_:T (R,C3):=Q _):=
 U R (bins .lss 3 (.tmp 7) (.tmp 6) x7 x6) w λ v1 w2=>
 SPL v1
 (b8 R C3 x0 x5 x7 w2)
 (R (.returned (.tuple #[])) w2)
def l3 (_:T (R):=Q _):Prop :=
 LP1 (λ C3 y7 w0=>b4 R C3 x0 x5 x6 y7 w0) x7 w
theorem l3_intro:LS1 (λ C3 y7 w0=>b4 R C3 x0 x5 x6 y7 w0) x7 w (l3 R x0 x5 x6 x7 w):=LI1 _ x7 w
def b1 (_:T (R):=Q _):=
 U R (loadAt 195 x1) w λ v1 w2=>
 U R (len_ #[195] 3 #[v1]) w2 λ v3 w4=>
 l3 R x0 v1 v3 (.int .i64 0) w4
theorem tie (R:EP):TI prog R (Zp f146) (QQ (λ z w=>R (.returned (.tuple #[])) w)) λ z w=>b1 R (z 0) (z 1) w:=aT 0 (λ z w=>l3 R (z 0) (z 5) (z 6) (z 7) w) (Zk 0 (lT1 7 (λ z C3 y7 w0=>b4 R C3 (z 0) (z 5) (z 6) y7 w0) λ C3=>aT 1 (λ z w=>b8 R C3 (z 0) (z 5) (z 7) w) (sT (λ z w=>b6 R C3 (z 7) w) (Zk 1 (aT 0 (λ z w=>l10 R C3 (z 0) (z 3) (z 4) (z 7) w) (Zk 2 (lT1 4 (λ z C10 y4 w0=>b11 R C3 C10 (z 0) (z 3) y4 (z 7) w0) λ C10=>ofT)))) ofT)))
def run (R:EP)(a0 a1:Value)(w:World):=b1 R a0 a1 w
theorem ct:Cta2 prog id run:=Zqs call146 func146 λ R a0 a1 w h=>tie R _ w h
attribute [irreducible] l10 l3
attribute [irreducible,go_sem] b6 b11_1 b11_2 b11_3 b11 b8 b4 b1 run
end Zac
namespace Zam
variable (R:EP) (x0:Value) (w w2:World)
def b1_1 (_:T (R):=Q _):=
 U R (Op.unary .neg x0) w2 λ v3 w4=>
 U R (bins .and 263 (.tmp 5) (.tmp 7) x0 v3) w4 λ v5 w6=>
 U R (bins .mul 263 (.tmp 8) (.const (.int .u64 285870213051353865)) v5 (.int .u64 285870213051353865)) w6 λ v7 w8=>
 U R (bins .shr 263 (.tmp 9) (.const (.int .u64 58)) v7 (.int .u64 58)) w8 λ v9 w10=>
 U R (indexAt 348 (.pointer (some ⟨0,0,none⟩)) v9) w10 λ v11 w12=>
 U R (loadAt 5 v11) w12 λ v13 w14=>
 U R (convert 5 3 v13) w14 λ v15 w16=>
 R (.returned v15) w16
def b1 (_:T (R):=Q _):=
 U R (bins .eql 263 (.tmp 3) (.const (.int .u64 0)) x0 (.int .u64 0)) w λ v1 w2=>
 SPL v1
 (R (.returned (.int .i64 64)) w2)
 (b1_1 R x0 w2)
theorem tie (R:EP):TI prog R (Zp f147) (QQ (λ z w=>R (.returned (z 2)) w)) λ z w=>b1 R (z 0) w:=ofT
def run (R:EP)(a0:Value)(w:World):=b1 R a0 w
theorem ct:Cta1 prog id run:=Zbj call147 func147 λ R a0 w h=>tie R _ w h
attribute [irreducible,go_sem] b1_1 b1 run
end Zam
namespace Zcr
variable (R:EP) (x0:Value) (w:World)
def b1 (_:T (R):=Q _):=
 K R Zea.id #[(.slice none 0 0),x0] w λ v1 w2=>
 R (.returned v1) w2
theorem tie (R:EP):TI prog R (Zp f84) (QQ (λ z w=>R (.returned (z 2)) w)) λ z w=>b1 R (z 0) w:=ofT
def run (R:EP)(a0:Value)(w:World):=b1 R a0 w
theorem ct:Cta1 prog id run:=Zbj call84 func84 λ R a0 w h=>tie R _ w h
attribute [irreducible,go_sem] b1 run
end Zcr
namespace Zar
variable (R:EP) (x0 x1:Value) (w:World)
def b1 (_:T (R):=Q _):=
 K R Zbb.id #[x0,x1] w λ v1 w2=>
 U R (bC .geq 3 7 0 v1) w2 λ v3 w4=>
 R (.returned v3) w4
theorem tie (R:EP):TI prog R (Zp f186) (QQ (λ z w=>R (.returned (z 4)) w)) λ z w=>b1 R (z 0) (z 1) w:=ofT
def run (R:EP)(a0 a1:Value)(w:World):=b1 R a0 a1 w
theorem ct:Cta2 prog id run:=Zcd call186 func186 λ R a0 a1 w h=>tie R _ w h
attribute [irreducible,go_sem] b1 run
end Zar
namespace Zbb
variable (R:EP) (C6:VP) (x0 x1 x7 x8:Value) (w w2:World)
def b3 (_:T (R):=Q _):=
 R (.returned (.int .i64 (-1))) w
def b7_1 (_:T (R,C6):=Q _):=
 U R (indexAt 24 x0 x8) w2 λ v3 w4=>
 U R (loadAt 3 v3) w4 λ v5 w6=>
 Zfa prog R x1 [v5] w6 λ v7 w8=>
 SPL v7
 (R (.returned x8) w8)
 (U R (bC .add 3 8 1 x8) w8 λ v9 w10=>
 C6 v9 w10)
def b7 (_:T (R,C6):=Q _):=
 U R (bins .lss 3 (.tmp 8) (.tmp 7) x8 x7) w λ v1 w2=>
 SPL v1
 (b7_1 R C6 x0 x1 x8 w2)
 (b3 R w2)
def l6 (_:T (R):=Q _):Prop :=
 LP1 (λ C6 y8 w0=>b7 R C6 x0 x1 x7 y8 w0) x8 w
theorem l6_intro:LS1 (λ C6 y8 w0=>b7 R C6 x0 x1 x7 y8 w0) x8 w (l6 R x0 x1 x7 x8 w):=LI1 _ x8 w
def b4 (_:T (R):=Q _):=
 U R (len_ #[24] 3 #[x0]) w λ v1 w2=>
 l6 R x0 x1 v1 (.int .i64 0) w2
def b1 (_:T (R):=Q _):=
 b4 R x0 x1 w
theorem tie (R:EP):TI prog R (Zp f66) (QQ (λ z w=>R (.returned (z 4)) w)) λ z w=>b1 R (z 0) (z 1) w:=aT 0 (λ z w=>b4 R (z 0) (z 1) w) (sT (λ z w=>b3 R  w) (aT 0 (λ z w=>l6 R (z 0) (z 1) (z 7) (z 8) w) (Zk 0 (lT1 8 (λ z C6 y8 w0=>b7 R C6 (z 0) (z 1) (z 7) y8 w0) λ C6=>ofT))) ofT)
def run (R:EP)(a0 a1:Value)(w:World):=b1 R a0 a1 w
theorem ct:Cta2 prog id run:=Zcd call66 func66 λ R a0 a1 w h=>tie R _ w h
attribute [irreducible] l6
attribute [irreducible,go_sem] b3 b7_1 b7 b4 b1 run
end Zbb
namespace Zdn
variable (R:EP) (x0 x1 x3 x20 x50:Value) (w w8 w18:World)
def b5 (_:T (R):=Q _):=
 U R (loadAt 27 x1) w λ v1 w2=>
 K R Zeh.id #[v1,(.int .i64 1)] w2 λ v3 w4=>
 R (.returned v3) w4
def b7 (_:T (R):=Q _):=
 SPL x50
 (R (.returned (.bool false)) w)
 (b5 R x1 w)
def b6_1 (_:T (R):=Q _):=
 Y (fieldAt 103 x3 2) λ v18=>
 L (loadAt 3 v18) w.drew λ v19=>
 Y (bC .neq 3 48 0 v19) λ v20=>
 b7 R x1 v20 w.drew
def b6_2 (_:T (R):=Q _):=
 Y (fieldAt 103 x3 1) λ v11=>
 L (loadAt 24 v11) w.drew λ v12=>
 Y (indexAt 24 v12 (.int .i64 0)) λ v13=>
 L (loadAt 3 v13) w.drew λ v14=>
 Y (fieldAt 27 x1 3) λ v15=>
 L (loadAt 3 v15) w.drew λ v16=>
 Y (bins .neq 3 (.tmp 41) (.tmp 43) v14 v16) λ v17=>
 SPL v17
 (b7 R x1 (.bool true) w.drew)
 (b6_1 R x1 x3 w)
def b6_3 (_:T (R):=Q _):=
 Y (fieldAt 103 x3 1) λ v7=>
 L (loadAt 24 v7) w.drew λ v8=>
 L (len_ #[24] 3 #[v8]) w.drew λ v9=>
 Y (bC .neq 3 34 1 v9) λ v10=>
 SPL v10
 (b7 R x1 (.bool true) w.drew)
 (b6_2 R x1 x3 w)
def b6 (_:T (R):=Q _):=
 Y (fieldAt 103 x3 0) λ v1=>
 L (loadAt 3 v1) w.drew λ v2=>
 Y (fieldAt 27 x1 0) λ v3=>
 L (loadAt 22 v3) w.drew λ v4=>
 L (len_ #[22] 3 #[v4]) w.drew λ v5=>
 Y (bins .neq 3 (.tmp 26) (.tmp 29) v2 v5) λ v6=>
 SPL v6
 (b7 R x1 (.bool true) w.drew)
 (b6_3 R x1 x3 w)
def b3 (_:T (R):=Q _):=
 U R (fieldAt 27 x1 4) w λ v1 w2=>
 U R (loadAt 25 v1) w2 λ v3 w4=>
 U R (indexAt 25 v3 (.int .i64 0)) w4 λ v5 w6=>
 U R (loadAt 103 v5) w6 λ v7 w8=>
 U R (alloc 103 true (.tuple #[])) w8 λ v9 w10=>
 RUNU prog R (storeAt 103 v9 v7) w10 λ w11=>
 b6 R x1 v9 w11
def b9 (_:T (R):=Q _):=
 SPL x20
 (R (.returned (.bool false)) w)
 (b3 R x1 w)
def b8_1 (_:T (R):=Q _):=
 U R (fieldAt 27 x1 4) w18 λ v19 w20=>
 U R (loadAt 25 v19) w20 λ v21 w22=>
 U R (len_ #[25] 3 #[v21]) w22 λ v23 w24=>
 U R (bC .lss 3 18 2 v23) w24 λ v25 w26=>
 b9 R x1 v25 w26
def b8_2 (_:T (R):=Q _):=
 U R (fieldAt 27 x1 1) w8 λ v9 w10=>
 U R (loadAt 23 v9) w10 λ v11 w12=>
 U R (indexAt 23 v11 (.int .i64 0)) w12 λ v13 w14=>
 U R (loadAt 9 v13) w14 λ v15 w16=>
 U R (bins .neq 9 (.tmp 12) (.const (.string ⟨#[]⟩)) v15 (.string ⟨#[]⟩)) w16 λ v17 w18=>
 SPL v17
 (b9 R x1 (.bool true) w18)
 (b8_1 R x1 w18)
def b8 (_:T (R):=Q _):=
 U R (fieldAt 27 x1 1) w λ v1 w2=>
 U R (loadAt 23 v1) w2 λ v3 w4=>
 U R (len_ #[23] 3 #[v3]) w4 λ v5 w6=>
 U R (bC .lss 3 6 2 v5) w6 λ v7 w8=>
 SPL v7
 (b9 R x1 (.bool true) w8)
 (b8_2 R x1 w8)
def b1 (_:T (R):=Q _):=
 U R (box 27 x0) w λ v1 w2=>
 b8 R v1 w2
theorem tie (R:EP):TI prog R (Zp f8) (QQ (λ z w=>R (.returned (z 2)) w)) λ z w=>b1 R (z 0) w:=aT 0 (λ z w=>b8 R (z 1) w) (sT (λ z w=>b3 R (z 1) w) (aT 0 (λ z w=>b9 R (z 1) (z 20) w) ofT) (aT 0 (λ z w=>b6 R (z 1) (z 3) w) (sT (λ z w=>b5 R (z 1) w) (aT 0 (λ z w=>b7 R (z 1) (z 50) w) ofT) ofT)))
def run (R:EP)(a0:Value)(w:World):=b1 R a0 w
theorem ct:Cta1 prog id run:=Zbj call8 func8 λ R a0 w h=>tie R _ w h
attribute [irreducible,go_sem] b5 b7 b6_1 b6_2 b6_3 b6 b3 b9 b8_1 b8_2 b8 b1 run
end Zdn
namespace Zd3
variable (R:EP) (C6:VP) (x0 x1 x4 x5 v1:Value) (w w4 w8:World)
def b3 (_:T (R):=Q _):=
 R (.returned (.bool true)) w
def b7_1 (_:T (R,C6):=Q _):=
 Y (indexAt 24 x4 x5) λ v5=>
 L (loadAt 3 v5) w4.drew λ v6=>
 Y (fieldAt 27 x1 0) λ v7=>
 L (loadAt 22 v7) w4.drew λ v8=>
 L (len_ #[22] 3 #[v8]) w4.drew λ v9=>
 Y (bins .add 3 (.tmp 24) (.tmp 25) v9 x5) λ v10=>
 Y (bins .neq 3 (.tmp 21) (.tmp 26) v6 v10) λ v11=>
 SPL v11
 (R (.returned (.bool false)) w4.drew)
 (U R (bC .add 3 16 1 x5) w4.drew λ v12 w13=>
 C6 v12 w13)
def b7 (_:T (R,C6):=Q _):=
 U R (len_ #[24] 3 #[x4]) w λ v1 w2=>
 U R (bins .lss 3 (.tmp 12) (.tmp 14) x5 v1) w2 λ v3 w4=>
 SPL v3
 (b7_1 R C6 x1 x4 x5 w4)
 (b3 R w4)
def l6 (_:T (R):=Q _):Prop :=
 LP1 (λ C6 y5 w0=>b7 R C6 x1 x4 y5 w0) x5 w
theorem l6_intro:LS1 (λ C6 y5 w0=>b7 R C6 x1 x4 y5 w0) x5 w (l6 R x1 x4 x5 w):=LI1 _ x5 w
def b4 (_:T (R):=Q _):=
 l6 R x1 x4 (.int .i64 0) w
def b1_1 (_:T (R):=Q _):=
 U R (loadAt 27 v1) w8 λ v9 w10=>
 K R Zdh.id #[v9,(.int .i64 0)] w10 λ v11 w12=>
 b4 R v1 v11 w12
def b1 (_:T (R):=Q _):=
 U R (box 27 x0) w λ v1 w2=>
 U R (loadAt 27 v1) w2 λ v3 w4=>
 K R Zeh.id #[v3,(.int .i64 0)] w4 λ v5 w6=>
 U R (Op.unary .not v5) w6 λ v7 w8=>
 SPL v7
 (R (.returned (.bool false)) w8)
 (b1_1 R v1 w8)
theorem tie (R:EP):TI prog R (Zp f14) (QQ (λ z w=>R (.returned (z 2)) w)) λ z w=>b1 R (z 0) w:=aT 3 (λ z w=>b4 R (z 1) (z 4) w) (sT (λ z w=>b3 R  w) (aT 0 (λ z w=>l6 R (z 1) (z 4) (z 5) w) (Zk 0 (lT1 5 (λ z C6 y5 w0=>b7 R C6 (z 1) (z 4) y5 w0) λ C6=>ofT))) ofT)
def run (R:EP)(a0:Value)(w:World):=b1 R a0 w
theorem ct:Cta1 prog id run:=Zbj call14 func14 λ R a0 w h=>tie R _ w h
attribute [irreducible] l6
attribute [irreducible,go_sem] b3 b7_1 b7 b4 b1_1 b1 run
end Zd3
namespace Zca
variable (R:EP) (C6:VP) (x0 x1 x5:Value) (w w4:World)
def b3 (_:T (R):=Q _):=
 R (.returned (.bool true)) w
def b7_1 (_:T (R,C6):=Q _):=
 Y (indexAt 24 x0 x5) λ v5=>
 L (loadAt 3 v5) w4.drew λ v6=>
 Y (indexAt 24 x1 x5) λ v7=>
 L (loadAt 3 v7) w4.drew λ v8=>
 Y (bins .neq 3 (.tmp 20) (.tmp 24) v6 v8) λ v9=>
 SPL v9
 (R (.returned (.bool false)) w4.drew)
 (U R (bC .add 3 15 1 x5) w4.drew λ v10 w11=>
 C6 v10 w11)
def b7 (_:T (R,C6):=Q _):=
 U R (len_ #[24] 3 #[x0]) w λ v1 w2=>
 U R (bins .lss 3 (.tmp 11) (.tmp 13) x5 v1) w2 λ v3 w4=>
 SPL v3
 (b7_1 R C6 x0 x1 x5 w4)
 (b3 R w4)
def l6 (_:T (R):=Q _):Prop :=
 LP1 (λ C6 y5 w0=>b7 R C6 x0 x1 y5 w0) x5 w
theorem l6_intro:LS1 (λ C6 y5 w0=>b7 R C6 x0 x1 y5 w0) x5 w (l6 R x0 x1 x5 w):=LI1 _ x5 w
def b4 (_:T (R):=Q _):=
 l6 R x0 x1 (.int .i64 0) w
def b1 (_:T (R):=Q _):=
 U R (len_ #[24] 3 #[x0]) w λ v1 w2=>
 U R (len_ #[24] 3 #[x1]) w2 λ v3 w4=>
 U R (bins .neq 3 (.tmp 7) (.tmp 9) v1 v3) w4 λ v5 w6=>
 SPL v5
 (R (.returned (.bool false)) w6)
 (b4 R x0 x1 w6)
theorem tie (R:EP):TI prog R (Zp f19) (QQ (λ z w=>R (.returned (z 4)) w)) λ z w=>b1 R (z 0) (z 1) w:=aT 1 (λ z w=>b4 R (z 0) (z 1) w) (sT (λ z w=>b3 R  w) (aT 0 (λ z w=>l6 R (z 0) (z 1) (z 5) w) (Zk 0 (lT1 5 (λ z C6 y5 w0=>b7 R C6 (z 0) (z 1) y5 w0) λ C6=>ofT))) ofT)
def run (R:EP)(a0 a1:Value)(w:World):=b1 R a0 a1 w
theorem ct:Cta2 prog id run:=Zcd call19 func19 λ R a0 a1 w h=>tie R _ w h
attribute [irreducible] l6
attribute [irreducible,go_sem] b3 b7_1 b7 b4 b1 run
end Zca
namespace Zeh
variable (R:EP) (x0 x1 x2 x43 v29 v33 v45 v49:Value) (w w10 w18 w20 w26 w28 w30 w34 w38 w46 w50:World)
def b3_1 (_:T (R):=Q _):=
 Y (fieldAt 27 x2 3) λ v64=>
 L (loadAt 3 v64) w50.drew λ v65=>
 L (loadAt 27 x2) w50.drew λ v66=>
 K R Zb5.id #[v66] w50.drew λ v67 w68=>
 Sem.run prog (loadAt 3 v64) w68 = .ok v65 w68/\(Y (bins .lss 3 (.tmp 104) (.tmp 106) v65 v67) λ v69=>
 R (.returned v69) w68)
def b3_2 (_:T (R):=Q _):=
 Y (fieldAt 27 x2 3) λ v57=>
 L (loadAt 3 v57) w50.drew λ v58=>
 Y (fieldAt 27 x2 0) λ v59=>
 L (loadAt 22 v59) w50.drew λ v60=>
 L (len_ #[22] 3 #[v60]) w50.drew λ v61=>
 Y (bins .add 3 (.tmp 97) (.tmp 98) v61 x1) λ v62=>
 Y (bins .geq 3 (.tmp 94) (.tmp 99) v58 v62) λ v63=>
 SPL v63
 (b3_1 R x2 w50)
 (R (.returned (.bool false)) w50.drew)
def b3_3 (_:T (R):=Q _):=
 L (len_ #[24] 3 #[v49]) w50.drew λ v51=>
 Y (fieldAt 27 x2 1) λ v52=>
 L (loadAt 23 v52) w50.drew λ v53=>
 L (len_ #[23] 3 #[v53]) w50.drew λ v54=>
 Y (bins .sub 3 (.tmp 87) (.tmp 88) v54 x1) λ v55=>
 Y (bins .eql 3 (.tmp 84) (.tmp 89) v51 v55) λ v56=>
 SPL v56
 (b3_2 R x1 x2 w50)
 (R (.returned (.bool false)) w50.drew)
def b3_4 (_:T (R):=Q _):=
 U R (loadAt 27 x2) w46 λ v47 w48=>
 K R Zdh.id #[v47,x1] w48 λ v49 w50=>
 SPL v29
 (SPL v33
 (SPL v45
 (b3_3 R x1 x2 v49 w50)
 (R (.returned (.bool false)) w50.drew))
 (R (.returned (.bool false)) w50.drew))
 (R (.returned (.bool false)) w50.drew)
def b3_5 (_:T (R):=Q _):=
 U R (loadAt 27 x2) w34 λ v35 w36=>
 U R (fieldAt 27 x2 0) w36 λ v37 w38=>
 U R (loadAt 22 v37) w38 λ v39 w40=>
 U R (len_ #[22] 3 #[v39]) w40 λ v41 w42=>
 U R (bins .add 3 (.tmp 68) (.tmp 69) v41 x1) w42 λ v43 w44=>
 K R Zcw.id #[v35,x1,v43] w44 λ v45 w46=>
 b3_4 R x1 x2 v29 v33 v45 w46
def b3_6 (_:T (R):=Q _):=
 U R (loadAt 27 x2) w30 λ v31 w32=>
 K R Zc2.id #[v31,x1] w32 λ v33 w34=>
 b3_5 R x1 x2 v29 v33 w34
def b3_7 (_:T (R):=Q _):=
 U R (loadAt 27 x2) w26 λ v27 w28=>
 K R Zco.id #[v27] w28 λ v29 w30=>
 b3_6 R x1 x2 v29 w30
def b3_8 (_:T (R):=Q _):=
 U R (loadAt 27 x2) w20 λ v21 w22=>
 K R Zcx.id #[v21] w22 λ v23 w24=>
 U R (Op.unary .not v23) w24 λ v25 w26=>
 SPL v25
 (R (.returned (.bool false)) w26)
 (b3_7 R x1 x2 w26)
def b3 (_:T (R):=Q _):=
 U R (fieldAt 27 x2 0) w λ v1 w2=>
 U R (loadAt 22 v1) w2 λ v3 w4=>
 U R (len_ #[22] 3 #[v3]) w4 λ v5 w6=>
 U R (bC .sub 3 46 1 v5) w6 λ v7 w8=>
 U R (fieldAt 27 x2 1) w8 λ v9 w10=>
 U R (loadAt 23 v9) w10 λ v11 w12=>
 U R (len_ #[23] 3 #[v11]) w12 λ v13 w14=>
 U R (bins .add 3 (.tmp 47) (.tmp 50) v7 v13) w14 λ v15 w16=>
 U R (bins .sub 3 (.tmp 51) (.tmp 52) v15 x1) w16 λ v17 w18=>
 U R (bC .gtr 3 53 64 v17) w18 λ v19 w20=>
 SPL v19
 (R (.returned (.bool false)) w20)
 (b3_8 R x1 x2 w20)
def b5 (_:T (R):=Q _):=
 SPL x43
 (R (.returned (.bool false)) w)
 (b3 R x1 x2 w)
def b4_1 (_:T (R):=Q _):=
 U R (fieldAt 27 x2 2) w38 λ v39 w40=>
 U R (loadAt 24 v39) w40 λ v41 w42=>
 U R (len_ #[24] 3 #[v41]) w42 λ v43 w44=>
 U R (bC .gtr 3 41 64 v43) w44 λ v45 w46=>
 b5 R x1 x2 v45 w46
def b4_2 (_:T (R):=Q _):=
 U R (fieldAt 27 x2 4) w28 λ v29 w30=>
 U R (loadAt 25 v29) w30 λ v31 w32=>
 U R (len_ #[25] 3 #[v31]) w32 λ v33 w34=>
 U R (bins .add 3 (.const (.int .i64 1)) (.tmp 34) (.int .i64 1) x1) w34 λ v35 w36=>
 U R (bins .lss 3 (.tmp 33) (.tmp 35) v33 v35) w36 λ v37 w38=>
 SPL v37
 (b5 R x1 x2 (.bool true) w38)
 (b4_1 R x1 x2 w38)
def b4_3 (_:T (R):=Q _):=
 U R (fieldAt 27 x2 4) w18 λ v19 w20=>
 U R (loadAt 25 v19) w20 λ v21 w22=>
 U R (len_ #[25] 3 #[v21]) w22 λ v23 w24=>
 U R (bins .add 3 (.const (.int .i64 96)) (.tmp 26) (.int .i64 96) x1) w24 λ v25 w26=>
 U R (bins .gtr 3 (.tmp 25) (.tmp 27) v23 v25) w26 λ v27 w28=>
 SPL v27
 (b5 R x1 x2 (.bool true) w28)
 (b4_2 R x1 x2 w28)
def b4_4 (_:T (R):=Q _):=
 U R (fieldAt 27 x2 0) w10 λ v11 w12=>
 U R (loadAt 22 v11) w12 λ v13 w14=>
 U R (len_ #[22] 3 #[v13]) w14 λ v15 w16=>
 U R (bC .gtr 3 19 65 v15) w16 λ v17 w18=>
 SPL v17
 (b5 R x1 x2 (.bool true) w18)
 (b4_3 R x1 x2 w18)
def b4 (_:T (R):=Q _):=
 U R (fieldAt 27 x2 1) w λ v1 w2=>
 U R (loadAt 23 v1) w2 λ v3 w4=>
 U R (len_ #[23] 3 #[v3]) w4 λ v5 w6=>
 U R (bins .add 3 (.const (.int .i64 64)) (.tmp 13) (.int .i64 64) x1) w6 λ v7 w8=>
 U R (bins .gtr 3 (.tmp 12) (.tmp 14) v5 v7) w8 λ v9 w10=>
 SPL v9
 (b5 R x1 x2 (.bool true) w10)
 (b4_4 R x1 x2 w10)
def b1 (_:T (R):=Q _):=
 U R (box 27 x0) w λ v1 w2=>
 b4 R x1 v1 w2
theorem tie (R:EP):TI prog R (Zp f40) (QQ (λ z w=>R (.returned (z 4)) w)) λ z w=>b1 R (z 0) (z 1) w:=aT 0 (λ z w=>b4 R (z 1) (z 2) w) (sT (λ z w=>b3 R (z 1) (z 2) w) (aT 0 (λ z w=>b5 R (z 1) (z 2) (z 43) w) ofT) ofT)
def run (R:EP)(a0 a1:Value)(w:World):=b1 R a0 a1 w
theorem ct:Cta2 prog id run:=Zcd call40 func40 λ R a0 a1 w h=>tie R _ w h
attribute [irreducible,go_sem] b3_1 b3_2 b3_3 b3_4 b3_5 b3_6 b3_7 b3_8 b3 b5 b4_1 b4_2 b4_3 b4_4 b4 b1 run
end Zeh
namespace Zb5
variable (R:EP) (x0:Value) (w:World)
def b1 (_:T (R):=Q _):=
 U R (box 27 x0) w λ v1 w2=>
 U R (fieldAt 27 v1 0) w2 λ v3 w4=>
 U R (loadAt 22 v3) w4 λ v5 w6=>
 U R (len_ #[22] 3 #[v5]) w6 λ v7 w8=>
 U R (fieldAt 27 v1 1) w8 λ v9 w10=>
 U R (loadAt 23 v9) w10 λ v11 w12=>
 U R (len_ #[23] 3 #[v11]) w12 λ v13 w14=>
 U R (bins .add 3 (.tmp 5) (.tmp 8) v7 v13) w14 λ v15 w16=>
 R (.returned v15) w16
theorem tie (R:EP):TI prog R (Zp f44) (QQ (λ z w=>R (.returned (z 2)) w)) λ z w=>b1 R (z 0) w:=ofT
def run (R:EP)(a0:Value)(w:World):=b1 R a0 w
theorem ct:Cta1 prog id run:=Zbj call44 func44 λ R a0 w h=>tie R _ w h
attribute [irreducible,go_sem] b1 run
end Zb5
namespace Zdh
variable (R:EP) (C6:Value->VP) (C16:Value->VP) (x0 x1 x2 x5 x6 x7 x8:Value) (w w2 w4:World)
def b3 (_:T (R):=Q _):=
 R (.returned x5) w
def b9 (_:T (R,C6):=Q _):=
 U R (bC .add 3 15 1 x6) w λ v1 w2=>
 C6 x5 v1 w2
def b13_1 (_:T (R,C6):=Q _):=
 U R (fieldAt 27 x2 4) w2 λ v3 w4=>
 U R (loadAt 25 v3) w4 λ v5 w6=>
 U R (indexAt 25 v5 x6) w6 λ v7 w8=>
 U R (fieldAt 103 v7 0) w8 λ v9 w10=>
 U R (loadAt 3 v9) w10 λ v11 w12=>
 U R (buildSlice 24 1 #[(0,v11)]) w12 λ v13 w14=>
 U R (append_ #[24,24] 24 #[x5,v13]) w14 λ v15 w16=>
 b9 R C6 v15 x6 w16
def b13 (_:T (R,C6):=Q _):=
 U R (Op.unary .not x7) w λ v1 w2=>
 SPL v1
 (b13_1 R C6 x2 x5 x6 w2)
 (b9 R C6 x5 x6 w2)
def b18 (_:T (R,C6,C16):=Q _):=
 U R (bC .add 3 21 1 x8) w λ v1 w2=>
 C16 x7 v1 w2
def b17_1 (_:T (R,C6,C16):=Q _):=
 Y (indexAt 24 x5 x8) λ v5=>
 L (loadAt 3 v5) w4.drew λ v6=>
 Y (fieldAt 27 x2 4) λ v7=>
 L (loadAt 25 v7) w4.drew λ v8=>
 Y (indexAt 25 v8 x6) λ v9=>
 Y (fieldAt 103 v9 0) λ v10=>
 L (loadAt 3 v10) w4.drew λ v11=>
 Y (bins .eql 3 (.tmp 28) (.tmp 34) v6 v11) λ v12=>
 b18 R C6 C16 v12 x8 w4.drew
def b17 (_:T (R,C6,C16):=Q _):=
 U R (len_ #[24] 3 #[x5]) w λ v1 w2=>
 U R (bins .lss 3 (.tmp 17) (.tmp 19) x8 v1) w2 λ v3 w4=>
 SPL v3
 (SPL x7
 (b18 R C6 C16 (.bool true) x8 w4.drew)
 (b17_1 R C6 C16 x2 x5 x6 x8 w4))
 (b13 R C6 x2 x5 x6 x7 w4)
def l16 (_:T (R,C6):=Q _):Prop :=
 LP2 (λ C16 y7 y8 w0=>b17 R C6 C16 x2 x5 x6 y7 y8 w0) x7 x8 w
theorem l16_intro:LS2 (λ C16 y7 y8 w0=>b17 R C6 C16 x2 x5 x6 y7 y8 w0) x7 x8 w (l16 R C6 x2 x5 x6 x7 x8 w):=LI2 _ x7 x8 w
def b14 (_:T (R,C6):=Q _):=
 l16 R C6 x2 x5 x6 x7 (.int .i64 0) w
def b11 (_:T (R,C6):=Q _):=
 b14 R C6 x2 x5 x6 (.bool false) w
def b7 (_:T (R,C6):=Q _):=
 U R (fieldAt 27 x2 4) w λ v1 w2=>
 U R (loadAt 25 v1) w2 λ v3 w4=>
 U R (len_ #[25] 3 #[v3]) w4 λ v5 w6=>
 U R (bins .lss 3 (.tmp 10) (.tmp 13) x6 v5) w6 λ v7 w8=>
 SPL v7
 (b11 R C6 x2 x5 x6 w8)
 (b3 R x5 w8)
def l6 (_:T (R):=Q _):Prop :=
 LP2 (λ C6 y5 y6 w0=>b7 R C6 x2 y5 y6 w0) x5 x6 w
theorem l6_intro:LS2 (λ C6 y5 y6 w0=>b7 R C6 x2 y5 y6 w0) x5 x6 w (l6 R x2 x5 x6 w):=LI2 _ x5 x6 w
def b4 (_:T (R):=Q _):=
 l6 R x2 x5 x1 w
def b1 (_:T (R):=Q _):=
 U R (box 27 x0) w λ v1 w2=>
 b4 R x1 v1 (.slice none 0 0) w2
theorem tie (R:EP):TI prog R (Zp f57) (QQ (λ z w=>R (.returned (z 4)) w)) λ z w=>b1 R (z 0) (z 1) w:=aT 1 (λ z w=>b4 R (z 1) (z 2) (z 5) w) (sT (λ z w=>b3 R (z 5) w) (aT 0 (λ z w=>l6 R (z 2) (z 5) (z 6) w) (Zk 0 (lT2 5 6 (λ z C6 y5 y6 w0=>b7 R C6 (z 2) y5 y6 w0) λ C6=>aT 0 (λ z w=>b11 R C6 (z 2) (z 5) (z 6) w) (sT (λ z w=>b9 R C6 (z 5) (z 6) w) (Zk 1 (aT 0 (λ z w=>b14 R C6 (z 2) (z 5) (z 6) (z 7) w) (sT (λ z w=>b13 R C6 (z 2) (z 5) (z 6) (z 7) w) (aT 0 (λ z w=>l16 R C6 (z 2) (z 5) (z 6) (z 7) (z 8) w) (Zk 2 (lT2 7 8 (λ z C16 y7 y8 w0=>b17 R C6 C16 (z 2) (z 5) (z 6) y7 y8 w0) λ C16=>aT 1 (λ z w=>b18 R C6 C16 (z 7) (z 8) w) ofT))) ofT))) ofT)))) ofT)
def run (R:EP)(a0 a1:Value)(w:World):=b1 R a0 a1 w
theorem ct:Cta2 prog id run:=Zcd call57 func57 λ R a0 a1 w h=>tie R _ w h
attribute [irreducible] l16 l6
attribute [irreducible,go_sem] b3 b9 b13_1 b13 b18 b17_1 b17 b14 b11 b7 b4 b1 run
end Zdh
namespace Zcx
variable (R:EP) (C7:VP) (C16:VP) (x0 x1 x3 x4 x5 x25 x62:Value) (w w2 w8 w20:World)
def b4 (_:T (R):=Q _):=
 R (.returned (.bool true)) w
def b10 (_:T (R,C7):=Q _):=
 U R (bC .add 3 31 1 x3) w λ v1 w2=>
 C7 v1 w2
def b17_1 (_:T (R,C16):=Q _):=
 Y (fieldAt 27 x1 0) λ v3=>
 L (loadAt 22 v3) w2.drew λ v4=>
 Y (indexAt 22 v4 x5) λ v5=>
 Y (fieldAt 268 v5 0) λ v6=>
 L (loadAt 9 v6) w2.drew λ v7=>
 Y (fieldAt 27 x1 0) λ v8=>
 L (loadAt 22 v8) w2.drew λ v9=>
 Y (indexAt 22 v9 x3) λ v10=>
 Y (fieldAt 268 v10 0) λ v11=>
 L (loadAt 9 v11) w2.drew λ v12=>
 Y (bins .eql 9 (.tmp 73) (.tmp 79) v7 v12) λ v13=>
 SPL v13
 (R (.returned (.bool false)) w2.drew)
 (U R (bC .add 3 66 1 x5) w2.drew λ v14 w15=>
 C16 v14 w15)
def b17 (_:T (R,C7,C16):=Q _):=
 U R (bins .lss 3 (.tmp 63) (.tmp 64) x5 x3) w λ v1 w2=>
 SPL v1
 (b17_1 R C16 x1 x3 x5 w2)
 (b10 R C7 x3 w2)
def l16 (_:T (R,C7):=Q _):Prop :=
 LP1 (λ C16 y5 w0=>b17 R C7 C16 x1 x3 y5 w0) x5 w
theorem l16_intro:LS1 (λ C16 y5 w0=>b17 R C7 C16 x1 x3 y5 w0) x5 w (l16 R C7 x1 x3 x5 w):=LI1 _ x5 w
def b14 (_:T (R,C7):=Q _):=
 l16 R C7 x1 x3 (.int .i64 1) w
def b19 (_:T (R,C7):=Q _):=
 SPL x62
 (R (.returned (.bool false)) w)
 (b14 R C7 x1 x3 w)
def b18_1 (_:T (R,C7):=Q _):=
 Y (fieldAt 27 x1 0) λ v8=>
 L (loadAt 22 v8) w.drew λ v9=>
 Y (indexAt 22 v9 x3) λ v10=>
 Y (fieldAt 268 v10 1) λ v11=>
 L (loadAt 3 v11) w.drew λ v12=>
 Y (fieldAt 27 x1 2) λ v13=>
 L (loadAt 24 v13) w.drew λ v14=>
 L (len_ #[24] 3 #[v14]) w.drew λ v15=>
 Y (bins .gtr 3 (.tmp 57) (.tmp 60) v12 v15) λ v16=>
 b19 R C7 x1 x3 v16 w.drew
def b18_2 (_:T (R,C7):=Q _):=
 Y (fieldAt 27 x1 0) λ v2=>
 L (loadAt 22 v2) w.drew λ v3=>
 Y (indexAt 22 v3 x3) λ v4=>
 Y (fieldAt 268 v4 1) λ v5=>
 L (loadAt 3 v5) w.drew λ v6=>
 Y (bC .lss 3 48 0 v6) λ v7=>
 SPL v7
 (b19 R C7 x1 x3 (.bool true) w.drew)
 (b18_1 R C7 x1 x3 w)
def b18 (_:T (R,C7):=Q _):=
 Y (Op.unary .not x4) λ v1=>
 SPL v1
 (b19 R C7 x1 x3 (.bool true) w.drew)
 (b18_2 R C7 x1 x3 w)
def b12 (_:T (R,C7):=Q _):=
 U R (fieldAt 27 x1 0) w λ v1 w2=>
 U R (loadAt 22 v1) w2 λ v3 w4=>
 U R (indexAt 22 v3 x3) w4 λ v5 w6=>
 U R (fieldAt 268 v5 0) w6 λ v7 w8=>
 U R (loadAt 9 v7) w8 λ v9 w10=>
 K R Zbr.id #[v9] w10 λ v11 w12=>
 b18 R C7 x1 x3 v11 w12
def b8 (_:T (R,C7):=Q _):=
 U R (fieldAt 27 x1 0) w λ v1 w2=>
 U R (loadAt 22 v1) w2 λ v3 w4=>
 U R (len_ #[22] 3 #[v3]) w4 λ v5 w6=>
 U R (bins .lss 3 (.tmp 26) (.tmp 29) x3 v5) w6 λ v7 w8=>
 SPL v7
 (b12 R C7 x1 x3 w8)
 (b4 R w8)
def l7 (_:T (R):=Q _):Prop :=
 LP1 (λ C7 y3 w0=>b8 R C7 x1 y3 w0) x3 w
theorem l7_intro:LS1 (λ C7 y3 w0=>b8 R C7 x1 y3 w0) x3 w (l7 R x1 x3 w):=LI1 _ x3 w
def b5 (_:T (R):=Q _):=
 l7 R x1 (.int .i64 1) w
def b21 (_:T (R):=Q _):=
 SPL x25
 (R (.returned (.bool false)) w)
 (b5 R x1 w)
def b20_1 (_:T (R):=Q _):=
 U R (fieldAt 27 x1 0) w20 λ v21 w22=>
 U R (loadAt 22 v21) w22 λ v23 w24=>
 U R (indexAt 22 v23 (.int .i64 0)) w24 λ v25 w26=>
 U R (fieldAt 268 v25 1) w26 λ v27 w28=>
 U R (loadAt 3 v27) w28 λ v29 w30=>
 U R (bC .neq 3 23 0 v29) w30 λ v31 w32=>
 b21 R x1 v31 w32
def Zwi (_:T (R):=Q _):Prop :=
 U R (fieldAt 27 x1 0) w8 λ v9 w10=>
 U R (loadAt 22 v9) w10 λ v11 w12=>
 U R (indexAt 22 v11 (.int .i64 0)) w12 λ v13 w14=>
 U R (fieldAt 268 v13 0) w14 λ v15 w16=>
 U R (loadAt 9 v15) w16 λ v17 w18=>
 U R (bins .neq 9 (.tmp 15) (.const (.string ⟨#[]⟩)) v17 (.string ⟨#[]⟩)) w18 λ v19 w20=>
 SPL v19
 (b21 R x1 (.bool true) w20)
 (b20_1 R x1 w20)
def b20 (_:T (R):=Q _):=
 U R (fieldAt 27 x1 0) w λ v1 w2=>
 U R (loadAt 22 v1) w2 λ v3 w4=>
 U R (len_ #[22] 3 #[v3]) w4 λ v5 w6=>
 U R (bC .eql 3 8 0 v5) w6 λ v7 w8=>
 SPL v7
 (b21 R x1 (.bool true) w8)
 (Zwi R x1 w8)
def b1 (_:T (R):=Q _):=
 U R (box 27 x0) w λ v1 w2=>
 b20 R v1 w2
theorem tie (R:EP):TI prog R (Zp f99) (QQ (λ z w=>R (.returned (z 2)) w)) λ z w=>b1 R (z 0) w:=aT 0 (λ z w=>b20 R (z 1) w) (sT (λ z w=>b5 R (z 1) w) (aT 0 (λ z w=>b21 R (z 1) (z 25) w) ofT) (sT (λ z w=>b4 R  w) (aT 0 (λ z w=>l7 R (z 1) (z 3) w) (Zk 0 (lT1 3 (λ z C7 y3 w0=>b8 R C7 (z 1) y3 w0) λ C7=>aT 0 (λ z w=>b12 R C7 (z 1) (z 3) w) (sT (λ z w=>b10 R C7 (z 3) w) (Zk 1 (aT 0 (λ z w=>b18 R C7 (z 1) (z 3) (z 4) w) (sT (λ z w=>b14 R C7 (z 1) (z 3) w) (aT 0 (λ z w=>b19 R C7 (z 1) (z 3) (z 62) w) ofT) (aT 0 (λ z w=>l16 R C7 (z 1) (z 3) (z 5) w) (Zk 2 (lT1 5 (λ z C16 y5 w0=>b17 R C7 C16 (z 1) (z 3) y5 w0) λ C16=>ofT)))))) ofT)))) ofT))
def run (R:EP)(a0:Value)(w:World):=b1 R a0 w
theorem ct:Cta1 prog id run:=Zbj call99 func99 λ R a0 w h=>tie R _ w h
attribute [irreducible] l16 l7
attribute [irreducible,go_sem] b4 b10 b17_1 b17 b14 b19 b18_1 b18_2 b18 b12 b8 b5 b21 b20_1 Zwi b20 b1 run
end Zcx
namespace Zco
variable (R:EP) (C6:VP) (C17:Value->VP) (x0 x1 x3 x4 x5 x49:Value) (w w2 w8 w12:World)
def b3 (_:T (R):=Q _):=
 R (.returned (.bool true)) w
def b9 (_:T (R,C6):=Q _):=
 U R (bC .add 3 11 1 x3) w λ v1 w2=>
 C6 v1 w2
def b14 (_:T (R,C6):=Q _):=
 SPL x49
 (R (.returned (.bool false)) w)
 (b9 R C6 x3 w)
def b13_1 (_:T (R,C6):=Q _):=
 U R (fieldAt 27 x1 2) w12 λ v13 w14=>
 U R (loadAt 24 v13) w14 λ v15 w16=>
 U R (indexAt 24 v15 x3) w16 λ v17 w18=>
 U R (loadAt 3 v17) w18 λ v19 w20=>
 U R (bC .gtr 3 47 3 v19) w20 λ v21 w22=>
 b14 R C6 x3 v21 w22
def b13_2 (_:T (R,C6):=Q _):=
 U R (fieldAt 27 x1 2) w2 λ v3 w4=>
 U R (loadAt 24 v3) w4 λ v5 w6=>
 U R (indexAt 24 v5 x3) w6 λ v7 w8=>
 U R (loadAt 3 v7) w8 λ v9 w10=>
 U R (bC .lss 3 39 1 v9) w10 λ v11 w12=>
 SPL v11
 (b14 R C6 x3 (.bool true) w12)
 (b13_1 R C6 x1 x3 w12)
def b13 (_:T (R,C6):=Q _):=
 U R (Op.unary .not x4) w λ v1 w2=>
 SPL v1
 (b14 R C6 x3 (.bool true) w2)
 (b13_2 R C6 x1 x3 w2)
def b19 (_:T (R,C6,C17):=Q _):=
 U R (bC .add 3 18 1 x5) w λ v1 w2=>
 C17 x4 v1 w2
def b18_1 (_:T (R,C6,C17):=Q _):=
 U R (fieldAt 27 x1 0) w8 λ v9 w10=>
 U R (loadAt 22 v9) w10 λ v11 w12=>
 U R (indexAt 22 v11 x5) w12 λ v13 w14=>
 U R (fieldAt 268 v13 1) w14 λ v15 w16=>
 U R (loadAt 3 v15) w16 λ v17 w18=>
 U R (bC .add 3 28 1 x3) w18 λ v19 w20=>
 U R (bins .eql 3 (.tmp 27) (.tmp 29) v17 v19) w20 λ v21 w22=>
 b19 R C6 C17 v21 x5 w22
def b18 (_:T (R,C6,C17):=Q _):=
 U R (fieldAt 27 x1 0) w λ v1 w2=>
 U R (loadAt 22 v1) w2 λ v3 w4=>
 U R (len_ #[22] 3 #[v3]) w4 λ v5 w6=>
 U R (bins .lss 3 (.tmp 13) (.tmp 16) x5 v5) w6 λ v7 w8=>
 SPL v7
 (SPL x4
 (b19 R C6 C17 (.bool true) x5 w8)
 (b18_1 R C6 C17 x1 x3 x5 w8))
 (b13 R C6 x1 x3 x4 w8)
def l17 (_:T (R,C6):=Q _):Prop :=
 LP2 (λ C17 y4 y5 w0=>b18 R C6 C17 x1 x3 y4 y5 w0) x4 x5 w
theorem l17_intro:LS2 (λ C17 y4 y5 w0=>b18 R C6 C17 x1 x3 y4 y5 w0) x4 x5 w (l17 R C6 x1 x3 x4 x5 w):=LI2 _ x4 x5 w
def b15 (_:T (R,C6):=Q _):=
 l17 R C6 x1 x3 x4 (.int .i64 0) w
def b11 (_:T (R,C6):=Q _):=
 b15 R C6 x1 x3 (.bool false) w
def b7 (_:T (R,C6):=Q _):=
 U R (fieldAt 27 x1 2) w λ v1 w2=>
 U R (loadAt 24 v1) w2 λ v3 w4=>
 U R (len_ #[24] 3 #[v3]) w4 λ v5 w6=>
 U R (bins .lss 3 (.tmp 6) (.tmp 9) x3 v5) w6 λ v7 w8=>
 SPL v7
 (b11 R C6 x1 x3 w8)
 (b3 R w8)
def l6 (_:T (R):=Q _):Prop :=
 LP1 (λ C6 y3 w0=>b7 R C6 x1 y3 w0) x3 w
theorem l6_intro:LS1 (λ C6 y3 w0=>b7 R C6 x1 y3 w0) x3 w (l6 R x1 x3 w):=LI1 _ x3 w
def b4 (_:T (R):=Q _):=
 l6 R x1 (.int .i64 0) w
def b1 (_:T (R):=Q _):=
 U R (box 27 x0) w λ v1 w2=>
 b4 R v1 w2
theorem tie (R:EP):TI prog R (Zp f100) (QQ (λ z w=>R (.returned (z 2)) w)) λ z w=>b1 R (z 0) w:=aT 0 (λ z w=>b4 R (z 1) w) (sT (λ z w=>b3 R  w) (aT 0 (λ z w=>l6 R (z 1) (z 3) w) (Zk 0 (lT1 3 (λ z C6 y3 w0=>b7 R C6 (z 1) y3 w0) λ C6=>aT 0 (λ z w=>b11 R C6 (z 1) (z 3) w) (sT (λ z w=>b9 R C6 (z 3) w) (Zk 1 (aT 0 (λ z w=>b15 R C6 (z 1) (z 3) (z 4) w) (sT (λ z w=>b13 R C6 (z 1) (z 3) (z 4) w) (aT 0 (λ z w=>l17 R C6 (z 1) (z 3) (z 4) (z 5) w) (Zk 2 (lT2 4 5 (λ z C17 y4 y5 w0=>b18 R C6 C17 (z 1) (z 3) y4 y5 w0) λ C17=>aT 1 (λ z w=>b19 R C6 C17 (z 4) (z 5) w) ofT))) (aT 0 (λ z w=>b14 R C6 (z 3) (z 49) w) ofT)))) ofT)))) ofT)
def run (R:EP)(a0:Value)(w:World):=b1 R a0 w
theorem ct:Cta1 prog id run:=Zbj call100 func100 λ R a0 w h=>tie R _ w h
attribute [irreducible] l17 l6
attribute [irreducible,go_sem] b3 b9 b14 b13_1 b13_2 b13 b19 b18_1 b18 b15 b11 b7 b4 b1 run
end Zco
namespace Zc2
variable (R:EP) (C6:VP) (C13:VP) (x0 x1 x2 x5 x7:Value) (w w2:World)
def b3 (_:T (R):=Q _):=
 R (.returned (.bool true)) w
def b9 (_:T (R,C6):=Q _):=
 U R (bC .add 3 14 1 x5) w λ v1 w2=>
 C6 v1 w2
def b14_1 (_:T (R,C13):=Q _):=
 Y (fieldAt 27 x2 1) λ v3=>
 L (loadAt 23 v3) w2.drew λ v4=>
 Y (indexAt 23 v4 x7) λ v5=>
 L (loadAt 9 v5) w2.drew λ v6=>
 Y (fieldAt 27 x2 1) λ v7=>
 L (loadAt 23 v7) w2.drew λ v8=>
 Y (indexAt 23 v8 x5) λ v9=>
 L (loadAt 9 v9) w2.drew λ v10=>
 Y (bins .eql 9 (.tmp 34) (.tmp 39) v6 v10) λ v11=>
 SPL v11
 (R (.returned (.bool false)) w2.drew)
 (U R (bC .add 3 28 1 x7) w2.drew λ v12 w13=>
 C13 v12 w13)
def b14 (_:T (R,C6,C13):=Q _):=
 U R (bins .lss 3 (.tmp 25) (.tmp 26) x7 x5) w λ v1 w2=>
 SPL v1
 (b14_1 R C13 x2 x5 x7 w2)
 (b9 R C6 x5 w2)
def l13 (_:T (R,C6):=Q _):Prop :=
 LP1 (λ C13 y7 w0=>b14 R C6 C13 x2 x5 y7 w0) x7 w
theorem l13_intro:LS1 (λ C13 y7 w0=>b14 R C6 C13 x2 x5 y7 w0) x7 w (l13 R C6 x2 x5 x7 w):=LI1 _ x7 w
def b11 (_:T (R,C6):=Q _):=
 U R (fieldAt 27 x2 1) w λ v1 w2=>
 U R (loadAt 23 v1) w2 λ v3 w4=>
 U R (indexAt 23 v3 x5) w4 λ v5 w6=>
 U R (loadAt 9 v5) w6 λ v7 w8=>
 K R Zav.id #[v7] w8 λ v9 w10=>
 U R (Op.unary .not v9) w10 λ v11 w12=>
 SPL v11
 (R (.returned (.bool false)) w12)
 (l13 R C6 x2 x5 x1 w12)
def b7 (_:T (R,C6):=Q _):=
 U R (fieldAt 27 x2 1) w λ v1 w2=>
 U R (loadAt 23 v1) w2 λ v3 w4=>
 U R (len_ #[23] 3 #[v3]) w4 λ v5 w6=>
 U R (bins .lss 3 (.tmp 9) (.tmp 12) x5 v5) w6 λ v7 w8=>
 SPL v7
 (b11 R C6 x1 x2 x5 w8)
 (b3 R w8)
def l6 (_:T (R):=Q _):Prop :=
 LP1 (λ C6 y5 w0=>b7 R C6 x1 x2 y5 w0) x5 w
theorem l6_intro:LS1 (λ C6 y5 w0=>b7 R C6 x1 x2 y5 w0) x5 w (l6 R x1 x2 x5 w):=LI1 _ x5 w
def b4 (_:T (R):=Q _):=
 l6 R x1 x2 x1 w
def b1 (_:T (R):=Q _):=
 U R (box 27 x0) w λ v1 w2=>
 b4 R x1 v1 w2
theorem tie (R:EP):TI prog R (Zp f101) (QQ (λ z w=>R (.returned (z 4)) w)) λ z w=>b1 R (z 0) (z 1) w:=aT 0 (λ z w=>b4 R (z 1) (z 2) w) (sT (λ z w=>b3 R  w) (aT 0 (λ z w=>l6 R (z 1) (z 2) (z 5) w) (Zk 0 (lT1 5 (λ z C6 y5 w0=>b7 R C6 (z 1) (z 2) y5 w0) λ C6=>aT 0 (λ z w=>b11 R C6 (z 1) (z 2) (z 5) w) (sT (λ z w=>b9 R C6 (z 5) w) (Zk 1 (aT 2 (λ z w=>l13 R C6 (z 2) (z 5) (z 7) w) (Zk 2 (lT1 7 (λ z C13 y7 w0=>b14 R C6 C13 (z 2) (z 5) y7 w0) λ C13=>ofT)))) ofT)))) ofT)
def run (R:EP)(a0 a1:Value)(w:World):=b1 R a0 a1 w
theorem ct:Cta2 prog id run:=Zcd call101 func101 λ R a0 a1 w h=>tie R _ w h
attribute [irreducible] l13 l6
attribute [irreducible,go_sem] b3 b9 b14_1 b14 b11 b7 b4 b1 run
end Zc2
namespace Zcw
variable (R:EP) (C6:VP) (C15:VP) (x0 x1 x2 x3 x7 x8 x9 x47 x79 v7:Value) (w w8 w10 w16:World)
def b3 (_:T (R):=Q _):=
 R (.returned (.bool true)) w
def b9 (_:T (R,C6):=Q _):=
 U R (bC .add 3 17 1 x7) w λ v1 w2=>
 C6 v1 w2
def b18 (_:T (R,C6,C15):=Q _):=
 U R (bC .add 3 53 1 x9) w λ v1 w2=>
 C15 v1 w2
def b21 (_:T (R,C6,C15):=Q _):=
 SPL x79
 (R (.returned (.bool false)) w)
 (b18 R C6 C15 x9 w)
def b20_1 (_:T (R,C6,C15):=Q _):=
 U R (fieldAt 27 x3 0) w16 λ v17 w18=>
 U R (loadAt 22 v17) w18 λ v19 w20=>
 U R (len_ #[22] 3 #[v19]) w20 λ v21 w22=>
 U R (bins .geq 3 (.tmp 69) (.tmp 72) v7 v21) w22 λ v23 w24=>
 SPL v23
 (U R (bins .lss 3 (.tmp 75) (.tmp 76) v7 x2) w24 λ v25 w26=>
 b21 R C6 C15 x9 v25 w26)
 (b21 R C6 C15 x9 (.bool false) w24)
def Zwi (_:T (R,C6,C15):=Q _):Prop :=
 U R (loadAt 27 x3) w10 λ v11 w12=>
 K R Zb5.id #[v11] w12 λ v13 w14=>
 U R (bins .geq 3 (.tmp 63) (.tmp 65) v7 v13) w14 λ v15 w16=>
 SPL v15
 (b21 R C6 C15 x9 (.bool true) w16)
 (b20_1 R C6 C15 x2 x3 x9 v7 w16)
def b20 (_:T (R,C6,C15):=Q _):=
 U R (fieldAt 103 x8 1) w λ v1 w2=>
 U R (loadAt 24 v1) w2 λ v3 w4=>
 U R (indexAt 24 v3 x9) w4 λ v5 w6=>
 U R (loadAt 3 v5) w6 λ v7 w8=>
 U R (bC .lss 3 60 1 v7) w8 λ v9 w10=>
 SPL v9
 (b21 R C6 C15 x9 (.bool true) w10)
 (Zwi R C6 C15 x2 x3 x9 v7 w10)
def b16 (_:T (R,C6,C15):=Q _):=
 U R (fieldAt 103 x8 1) w λ v1 w2=>
 U R (loadAt 24 v1) w2 λ v3 w4=>
 U R (len_ #[24] 3 #[v3]) w4 λ v5 w6=>
 U R (bins .lss 3 (.tmp 48) (.tmp 51) x9 v5) w6 λ v7 w8=>
 SPL v7
 (b20 R C6 C15 x2 x3 x8 x9 w8)
 (b9 R C6 x7 w8)
def l15 (_:T (R,C6):=Q _):Prop :=
 LP1 (λ C15 y9 w0=>b16 R C6 C15 x2 x3 x7 x8 y9 w0) x9 w
theorem l15_intro:LS1 (λ C15 y9 w0=>b16 R C6 C15 x2 x3 x7 x8 y9 w0) x9 w (l15 R C6 x2 x3 x7 x8 x9 w):=LI1 _ x9 w
def b13 (_:T (R,C6):=Q _):=
 l15 R C6 x2 x3 x7 x8 (.int .i64 0) w
def b23 (_:T (R,C6):=Q _):=
 SPL x47
 (R (.returned (.bool false)) w)
 (b13 R C6 x2 x3 x7 x8 w)
def b22_1 (_:T (R,C6):=Q _):=
 Y (fieldAt 103 x8 2) λ v13=>
 L (loadAt 3 v13) w8 λ v14=>
 Y (fieldAt 27 x3 2) λ v15=>
 L (loadAt 24 v15) w8 λ v16=>
 L (len_ #[24] 3 #[v16]) w8 λ v17=>
 Y (bins .gtr 3 (.tmp 42) (.tmp 45) v14 v17) λ v18=>
 b23 R C6 x2 x3 x7 x8 v18 w8
def b22_2 (_:T (R,C6):=Q _):=
 Y (fieldAt 103 x8 2) λ v10=>
 L (loadAt 3 v10) w8 λ v11=>
 Y (bC .lss 3 37 0 v11) λ v12=>
 SPL v12
 (b23 R C6 x2 x3 x7 x8 (.bool true) w8)
 (b22_1 R C6 x2 x3 x7 x8 w8)
def b22_3 (_:T (R,C6):=Q _):=
 Y (fieldAt 103 x8 0) λ v4=>
 L (loadAt 3 v4) w.drew λ v5=>
 L (loadAt 27 x3) w.drew λ v6=>
 K R Zb5.id #[v6] w.drew λ v7 w8=>
 Sem.run prog (loadAt 3 v4) w8 = .ok v5 w8/\(Y (bins .geq 3 (.tmp 30) (.tmp 32) v5 v7) λ v9=>
 SPL v9
 (b23 R C6 x2 x3 x7 x8 (.bool true) w8)
 (b22_2 R C6 x2 x3 x7 x8 w8))
def b22 (_:T (R,C6):=Q _):=
 Y (fieldAt 103 x8 0) λ v1=>
 L (loadAt 3 v1) w.drew λ v2=>
 Y (bins .lss 3 (.tmp 25) (.tmp 26) v2 x2) λ v3=>
 SPL v3
 (b23 R C6 x2 x3 x7 x8 (.bool true) w.drew)
 (b22_3 R C6 x2 x3 x7 x8 w)
def b11 (_:T (R,C6):=Q _):=
 U R (fieldAt 27 x3 4) w λ v1 w2=>
 U R (loadAt 25 v1) w2 λ v3 w4=>
 U R (indexAt 25 v3 x7) w4 λ v5 w6=>
 U R (loadAt 103 v5) w6 λ v7 w8=>
 U R (alloc 103 true (.tuple #[])) w8 λ v9 w10=>
 RUNU prog R (storeAt 103 v9 v7) w10 λ w11=>
 b22 R C6 x2 x3 x7 v9 w11
def b7 (_:T (R,C6):=Q _):=
 U R (fieldAt 27 x3 4) w λ v1 w2=>
 U R (loadAt 25 v1) w2 λ v3 w4=>
 U R (len_ #[25] 3 #[v3]) w4 λ v5 w6=>
 U R (bins .lss 3 (.tmp 12) (.tmp 15) x7 v5) w6 λ v7 w8=>
 SPL v7
 (b11 R C6 x2 x3 x7 w8)
 (b3 R w8)
def l6 (_:T (R):=Q _):Prop :=
 LP1 (λ C6 y7 w0=>b7 R C6 x2 x3 y7 w0) x7 w
theorem l6_intro:LS1 (λ C6 y7 w0=>b7 R C6 x2 x3 y7 w0) x7 w (l6 R x2 x3 x7 w):=LI1 _ x7 w
def b4 (_:T (R):=Q _):=
 l6 R x2 x3 x1 w
def b1 (_:T (R):=Q _):=
 U R (box 27 x0) w λ v1 w2=>
 b4 R x1 x2 v1 w2
theorem tie (R:EP):TI prog R (Zp f102) (QQ (λ z w=>R (.returned (z 6)) w)) λ z w=>b1 R (z 0) (z 1) (z 2) w:=aT 0 (λ z w=>b4 R (z 1) (z 2) (z 3) w) (sT (λ z w=>b3 R  w) (aT 0 (λ z w=>l6 R (z 2) (z 3) (z 7) w) (Zk 0 (lT1 7 (λ z C6 y7 w0=>b7 R C6 (z 2) (z 3) y7 w0) λ C6=>aT 0 (λ z w=>b11 R C6 (z 2) (z 3) (z 7) w) (sT (λ z w=>b9 R C6 (z 7) w) (Zk 1 (aT 0 (λ z w=>b22 R C6 (z 2) (z 3) (z 7) (z 8) w) (sT (λ z w=>b13 R C6 (z 2) (z 3) (z 7) (z 8) w) (aT 0 (λ z w=>b23 R C6 (z 2) (z 3) (z 7) (z 8) (z 47) w) ofT) (aT 0 (λ z w=>l15 R C6 (z 2) (z 3) (z 7) (z 8) (z 9) w) (Zk 2 (lT1 9 (λ z C15 y9 w0=>b16 R C6 C15 (z 2) (z 3) (z 7) (z 8) y9 w0) λ C15=>aT 0 (λ z w=>b20 R C6 C15 (z 2) (z 3) (z 8) (z 9) w) (sT (λ z w=>b18 R C6 C15 (z 9) w) (Zk 3 (aT 1 (λ z w=>b21 R C6 C15 (z 9) (z 79) w) ofT)) ofT))))))) ofT)))) ofT)
def run (R:EP)(a0 a1 a2:Value)(w:World):=b1 R a0 a1 a2 w
theorem ct:Cta3 prog id run:=Zkc call102 func102 λ R a0 a1 a2 w h=>tie R _ w h
attribute [irreducible] l15 l6
attribute [irreducible,go_sem] b3 b9 b18 b21 b20_1 Zwi b20 b16 b13 b23 b22_1 b22_2 b22_3 b22 b11 b7 b4 b1 run
end Zcw
namespace Zdq
variable (R:EP) (x0 x1 v1:Value) (w w10:World)
def b1_1 (_:T (R):=Q _):=
 U R (loadAt 27 v1) w10 λ v11 w12=>
 K R Zb5.id #[v11] w12 λ v13 w14=>
 U R (bins .lss 3 (.tmp 11) (.tmp 13) x1 v13) w14 λ v15 w16=>
 R (.returned v15) w16
def b1 (_:T (R):=Q _):=
 U R (box 27 x0) w λ v1 w2=>
 U R (fieldAt 27 v1 0) w2 λ v3 w4=>
 U R (loadAt 22 v3) w4 λ v5 w6=>
 U R (len_ #[22] 3 #[v5]) w6 λ v7 w8=>
 U R (bins .geq 3 (.tmp 5) (.tmp 8) x1 v7) w8 λ v9 w10=>
 SPL v9
 (b1_1 R x1 v1 w10)
 (R (.returned (.bool false)) w10)
theorem tie (R:EP):TI prog R (Zp f105) (QQ (λ z w=>R (.returned (z 4)) w)) λ z w=>b1 R (z 0) (z 1) w:=ofT
def run (R:EP)(a0 a1:Value)(w:World):=b1 R a0 a1 w
theorem ct:Cta2 prog id run:=Zcd call105 func105 λ R a0 a1 w h=>tie R _ w h
attribute [irreducible,go_sem] b1_1 b1 run
end Zdq
end Go.Proofs.YtjibcckpehdbhaaGreatDoor
