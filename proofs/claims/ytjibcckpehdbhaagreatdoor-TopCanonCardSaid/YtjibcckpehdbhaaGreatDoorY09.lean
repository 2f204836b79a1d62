/-
  Texts of this claim: TCT, TC_trans, TC_first, TCR7.
-/
import Derived.Test.YtjibcckpehdbhaaGreatDoorY05
set_option linter.unusedVariables false
set_option maxRecDepth 100000
namespace Go.Proofs.YtjibcckpehdbhaaGreatDoor
open Go.Px Tryz Instr Builtin
namespace Zaa
variable (R:EP) (x0 v1 v5 v7 v9 v13 v19 v26 v54 v56:Value) (w w6 w14 w23 w29 w33 w43 w55 w61:World)
def b1_1 (_:T (R):=Q _):=
 U R (bC .eql 29 34 11 v9) w33 λ v34 w35=>
 U R (bins .eql 4 (.tmp 33) (.tmp 35) v26 v34) w35 λ v36 w37=>
 R (.returned v36) w37
def b1_2 (_:T (R):=Q _):=
 U R (len_ #[28] 3 #[v7]) w29 λ v30 w31=>
 U R (bC .eql 3 30 0 v30) w31 λ v32 w33=>
 SPL v32
 (b1_1 R v9 v26 w33)
 (R (.returned (.bool false)) w33)
def b1_3 (_:T (R):=Q _):=
 U R (fieldAt 34 v19 0) w43 λ v44 w45=>
 U R (loadAt 32 v44) w45 λ v46 w47=>
 U R (len_ #[32] 3 #[v46]) w47 λ v48 w49=>
 U R (bC .gtr 3 44 1 v48) w49 λ v50 w51=>
 R (.returned v50) w51
def b1_4 (_:T (R):=Q _):=
 U R (fieldAt 34 v19 0) w61 λ v62 w63=>
 U R (loadAt 32 v62) w63 λ v64 w65=>
 U R (len_ #[32] 3 #[v64]) w65 λ v66 w67=>
 U R (bC .gtr 3 55 1 v66) w67 λ v68 w69=>
 R (.returned v68) w69
def b1_5 (_:T (R):=Q _):=
 U R (loadAt 27 v1) w61 λ v70 w71=>
 U R (loadAt 34 v19) w71 λ v72 w73=>
 K R Zg.id #[v70,v72,v56] w73 λ v74 w75=>
 K R Zbd.id #[v7,v74] w75 λ v76 w77=>
 R (.returned v76) w77
def b1_6 (_:T (R):=Q _):=
 U R (extract v54 0) w55 λ v56 w57=>
 U R (extract v54 1) w57 λ v58 w59=>
 U R (Op.unary .not v58) w59 λ v60 w61=>
 SPL v60
 (b1_4 R v19 w61)
 (b1_5 R v1 v7 v19 v56 w61)
def b1_7 (_:T (R):=Q _):=
 U R (loadAt 27 v1) w43 λ v52 w53=>
 K R Ze.id #[v52,(.int .i64 150)] w53 λ v54 w55=>
 b1_6 R v1 v7 v19 v54 w55
def b1_8 (_:T (R):=Q _):=
 U R (loadAt 27 v1) w29 λ v38 w39=>
 K R Zci.id #[v38] w39 λ v40 w41=>
 U R (Op.unary .not v40) w41 λ v42 w43=>
 SPL v42
 (b1_3 R v19 w43)
 (b1_7 R v1 v7 v19 w43)
def b1_9 (_:T (R):=Q _):=
 U R (loadAt 27 v1) w23 λ v24 w25=>
 K R Zdn.id #[v24] w25 λ v26 w27=>
 U R (bC .neq 29 27 0 v9) w27 λ v28 w29=>
 SPL v28
 (b1_2 R v7 v9 v26 w29)
 (b1_8 R v1 v7 v19 w29)
def b1_10 (_:T (R):=Q _):=
 U R (extract v13 0) w14 λ v15 w16=>
 U R (extract v13 1) w16 λ v17 w18=>
 U R (alloc 34 true (.tuple #[])) w18 λ v19 w20=>
 RUNU prog R (storeAt 34 v19 v15) w20 λ w21=>
 U R (bins .neq 29 (.tmp 22) (.tmp 23) v9 v17) w21 λ v22 w23=>
 SPL v22
 (R (.returned (.bool false)) w23)
 (b1_9 R v1 v7 v9 v19 w23)
def b1_11 (_:T (R):=Q _):=
 U R (extract v5 0) w6 λ v7 w8=>
 U R (extract v5 1) w8 λ v9 w10=>
 U R (loadAt 27 v1) w10 λ v11 w12=>
 K R Zn.id #[v11] w12 λ v13 w14=>
 b1_10 R v1 v7 v9 v13 w14
def b1 (_:T (R):=Q _):=
 U R (box 27 x0) w λ v1 w2=>
 U R (loadAt 27 v1) w2 λ v3 w4=>
 K R Zt.id #[v3] w4 λ v5 w6=>
 b1_11 R v1 v5 w6
theorem tie (R:EP):TI prog R (Zp f3) (QQ (λ z w=>R (.returned (z 2)) w)) λ z w=>b1 R (z 0) w:=ofT
def run (R:EP)(a0:Value)(w:World):=b1 R a0 w
theorem ct:Cta1 prog id run:=Zbj call3 func3 λ R a0 w h=>tie R _ w h
attribute [irreducible,go_sem] b1_1 b1_2 b1_3 b1_4 b1_5 b1_6 b1_7 b1_8 b1_9 b1_10 b1_11 b1 run
end Zaa
namespace Zci
variable (R:EP) (C6:VP) (x0 x3 x4 x5 v5:Value) (w w4 w6:World)
def b3 (_:T (R):=Q _):=
 U R (bC .eql 29 22 0 x4) w λ v1 w2=>
 R (.returned v1) w2
def b7_1 (_:T (R,C6):=Q _):=
 U R (indexAt 105 x3 x5) w4 λ v5 w6=>
 U R (loadAt 4 v5) w6 λ v7 w8=>
 U R (Op.unary .not v7) w8 λ v9 w10=>
 SPL v9
 (R (.returned (.bool false)) w10)
 (U R (bC .add 3 15 1 x5) w10 λ v11 w12=>
 C6 v11 w12)
def b7 (_:T (R,C6):=Q _):=
 U R (len_ #[105] 3 #[x3]) w λ v1 w2=>
 U R (bins .lss 3 (.tmp 11) (.tmp 13) x5 v1) w2 λ v3 w4=>
 SPL v3
 (b7_1 R C6 x3 x5 w4)
 (b3 R x4 w4)
def l6 (_:T (R):=Q _):Prop :=
 LP1 (λ C6 y5 w0=>b7 R C6 x3 x4 y5 w0) x5 w
theorem l6_intro:LS1 (λ C6 y5 w0=>b7 R C6 x3 x4 y5 w0) x5 w (l6 R x3 x4 x5 w):=LI1 _ x5 w
def b4 (_:T (R):=Q _):=
 l6 R x3 x4 (.int .i64 0) w
def b1_1 (_:T (R):=Q _):=
 U R (extract v5 0) w6 λ v7 w8=>
 U R (extract v5 1) w8 λ v9 w10=>
 b4 R v7 v9 w10
def b1 (_:T (R):=Q _):=
 U R (box 27 x0) w λ v1 w2=>
 U R (loadAt 27 v1) w2 λ v3 w4=>
 K R Zbm.id #[v3] w4 λ v5 w6=>
 b1_1 R v5 w6
theorem tie (R:EP):TI prog R (Zp f9) (QQ (λ z w=>R (.returned (z 2)) w)) λ z w=>b1 R (z 0) w:=aT 1 (λ z w=>b4 R (z 3) (z 4) w) (sT (λ z w=>b3 R (z 4) w) (aT 0 (λ z w=>l6 R (z 3) (z 4) (z 5) w) (Zk 0 (lT1 5 (λ z C6 y5 w0=>b7 R C6 (z 3) (z 4) y5 w0) λ C6=>ofT))) ofT)
def run (R:EP)(a0:Value)(w:World):=b1 R a0 w
theorem ct:Cta1 prog id run:=Zbj call9 func9 λ R a0 w h=>tie R _ w h
attribute [irreducible] l6
attribute [irreducible,go_sem] b3 b7_1 b7 b4 b1_1 b1 run
end Zci
namespace Ze
variable (R:EP) (C6:Value->VP) (C13:Value->VP) (C27:Value->VP) (x0 x1 x2 x6 x7 x8 x9 x10 x11 x12 x52 x72 v1 v3 v5:Value) (w w4 w6:World)
def b3 (_:T (R):=Q _):=
 NILC x6 λ v1=>
 Y (fieldAt 112 v1 2) λ v2=>
 L (loadAt 3 v2) w.drew λ v3=>
 Y (bC .gtr 3 81 0 v3) λ v4=>
 R (.returned (.tuple #[x7,v4])) w.drew
def b9 (_:T (R,C6):=Q _):=
 U R (bC .add 3 27 1 x8) w λ v1 w2=>
 C6 x7 v1 w2
def b16 (_:T (R,C6,C13):=Q _):=
 U R (bC .add 3 33 1 x9) w λ v1 w2=>
 C13 x7 v1 w2
def b22 (_:T (R,C6,C13):=Q _):=
 U R (buildSlice 38 1 #[(0,x10)]) w λ v1 w2=>
 U R (append_ #[38,38] 38 #[x7,v1]) w2 λ v3 w4=>
 b16 R C6 C13 v3 x9 w4
def b24 (_:T (R,C6,C13):=Q _):=
 SPL x72
 (R (.returned (.tuple #[(.slice none 0 0),(.bool false)])) w)
 (b22 R C6 C13 x7 x9 x10 w)
def b23_1 (_:T (R,C6,C13):=Q _):=
 NILC x6 λ v5=>
 U R (fieldAt 112 v5 2) w4 λ v6 w7=>
 U R (loadAt 3 v6) w7 λ v8 w9=>
 U R (bC .leq 3 70 0 v8) w9 λ v10 w11=>
 b24 R C6 C13 x7 x9 x10 v10 w11
def b23 (_:T (R,C6,C13):=Q _):=
 U R (len_ #[38] 3 #[x7]) w λ v1 w2=>
 U R (bins .geq 3 (.tmp 63) (.tmp 64) v1 x1) w2 λ v3 w4=>
 SPL v3
 (b24 R C6 C13 x7 x9 x10 (.bool true) w4)
 (b23_1 R C6 C13 x6 x7 x9 x10 w4)
def b20 (_:T (R,C6,C13):=Q _):=
 SPL x11
 (b16 R C6 C13 x7 x9 w)
 (b23 R C6 C13 x1 x6 x7 x9 x10 w)
def b29 (_:T (R,C6,C13,C27):=Q _):=
 U R (indexAt 38 x7 x12) w λ v1 w2=>
 U R (loadAt 114 v1) w2 λ v3 w4=>
 K R Zdb.id #[v3,x10] w4 λ v5 w6=>
 U R (bC .add 3 53 1 x12) w6 λ v7 w8=>
 C27 v5 v7 w8
def b31 (_:T (R,C6,C13,C27):=Q _):=
 SPL x52
 (b29 R C6 C13 C27 x7 x10 x12 w)
 (b20 R C6 C13 x1 x6 x7 x9 x10 x11 w)
def b30 (_:T (R,C6,C13,C27):=Q _):=
 U R (len_ #[38] 3 #[x7]) w λ v1 w2=>
 U R (bins .lss 3 (.tmp 45) (.tmp 47) x12 v1) w2 λ v3 w4=>
 SPL v3
 (U R (Op.unary .not x11) w4 λ v5 w6=>
 b31 R C6 C13 C27 x1 x6 x7 x9 x10 x11 x12 v5 w6)
 (b31 R C6 C13 C27 x1 x6 x7 x9 x10 x11 x12 (.bool false) w4)
def l27 (_:T (R,C6,C13):=Q _):Prop :=
 LP2 (λ C27 y11 y12 w0=>b30 R C6 C13 C27 x1 x6 x7 x9 x10 y11 y12 w0) x11 x12 w
theorem l27_intro:LS2 (λ C27 y11 y12 w0=>b30 R C6 C13 C27 x1 x6 x7 x9 x10 y11 y12 w0) x11 x12 w (l27 R C6 C13 x1 x6 x7 x9 x10 x11 x12 w):=LI2 _ x11 x12 w
def b25 (_:T (R,C6,C13):=Q _):=
 l27 R C6 C13 x1 x6 x7 x9 x10 x11 (.int .i64 0) w
def b18_1 (_:T (R,C6,C13):=Q _):=
 U R (len_ #[114] 3 #[v5]) w6 λ v7 w8=>
 U R (bC .eql 3 43 0 v7) w8 λ v9 w10=>
 b25 R C6 C13 x1 x6 x7 x9 v5 v9 w10
def b18 (_:T (R,C6,C13):=Q _):=
 U R (indexAt 38 x7 x8) w λ v1 w2=>
 U R (loadAt 114 v1) w2 λ v3 w4=>
 K R Zao.id #[x6,v3,x9] w4 λ v5 w6=>
 b18_1 R C6 C13 x1 x6 x7 x9 v5 w6
def b14 (_:T (R,C6,C13):=Q _):=
 U R (loadAt 27 x2) w λ v1 w2=>
 K R Zb5.id #[v1] w2 λ v3 w4=>
 U R (bins .lss 3 (.tmp 29) (.tmp 31) x9 v3) w4 λ v5 w6=>
 SPL v5
 (b18 R C6 C13 x1 x6 x7 x8 x9 w6)
 (b9 R C6 x7 x8 w6)
def l13 (_:T (R,C6):=Q _):Prop :=
 LP2 (λ C13 y7 y9 w0=>b14 R C6 C13 x1 x2 x6 y7 x8 y9 w0) x7 x9 w
theorem l13_intro:LS2 (λ C13 y7 y9 w0=>b14 R C6 C13 x1 x2 x6 y7 x8 y9 w0) x7 x9 w (l13 R C6 x1 x2 x6 x7 x8 x9 w):=LI2 _ x7 x9 w
def b11 (_:T (R,C6):=Q _):=
 l13 R C6 x1 x2 x6 x7 x8 (.int .i64 1) w
def b7 (_:T (R,C6):=Q _):=
 U R (len_ #[38] 3 #[x7]) w λ v1 w2=>
 U R (bins .lss 3 (.tmp 23) (.tmp 25) x8 v1) w2 λ v3 w4=>
 SPL v3
 (b11 R C6 x1 x2 x6 x7 x8 w4)
 (b3 R x6 x7 w4)
def l6 (_:T (R):=Q _):Prop :=
 LP2 (λ C6 y7 y8 w0=>b7 R C6 x1 x2 x6 y7 y8 w0) x7 x8 w
theorem l6_intro:LS2 (λ C6 y7 y8 w0=>b7 R C6 x1 x2 x6 y7 y8 w0) x7 x8 w (l6 R x1 x2 x6 x7 x8 w):=LI2 _ x7 x8 w
def b4 (_:T (R):=Q _):=
 l6 R x1 x2 x6 x7 (.int .i64 0) w
def b1_1 (_:T (R):=Q _):=
 Sem.run prog (loadAt 27 v1) w6 = .ok v3 w6/\(Y (build 112 #[(0,v3),(1,v5),(2,(.int .i64 20000))]) λ v7=>
 U R (box 112 v7) w6 λ v8 w9=>
 U R (build 117 #[]) w9 λ v10 w11=>
 U R (buildSlice 113 1 #[(0,v10)]) w11 λ v12 w13=>
 K R Zb.id #[v8,v12] w13 λ v14 w15=>
 U R (buildSlice 38 1 #[(0,v14)]) w15 λ v16 w17=>
 b4 R x1 v1 v8 v16 w17)
def b1 (_:T (R):=Q _):=
 U R (box 27 x0) w λ v1 w2=>
 L (loadAt 27 v1) w2.drew λ v3=>
 L (loadAt 27 v1) w2.drew λ v4=>
 K R Zo.id #[v4] w2.drew λ v5 w6=>
 b1_1 R x1 v1 v3 v5 w6
theorem tie (R:EP):TI prog R (Zp f10) (QQ (λ z w=>R (.returned (.tuple #[(z 4),(z 5)])) w)) λ z w=>b1 R (z 0) (z 1) w:=aT 2 (λ z w=>b4 R (z 1) (z 2) (z 6) (z 7) w) (sT (λ z w=>b3 R (z 6) (z 7) w) (aT 0 (λ z w=>l6 R (z 1) (z 2) (z 6) (z 7) (z 8) w) (Zk 0 (lT2 7 8 (λ z C6 y7 y8 w0=>b7 R C6 (z 1) (z 2) (z 6) y7 y8 w0) λ C6=>aT 0 (λ z w=>b11 R C6 (z 1) (z 2) (z 6) (z 7) (z 8) w) (sT (λ z w=>b9 R C6 (z 7) (z 8) w) (Zk 1 (aT 0 (λ z w=>l13 R C6 (z 1) (z 2) (z 6) (z 7) (z 8) (z 9) w) (Zk 2 (lT2 7 9 (λ z C13 y7 y9 w0=>b14 R C6 C13 (z 1) (z 2) (z 6) y7 (z 8) y9 w0) λ C13=>aT 0 (λ z w=>b18 R C6 C13 (z 1) (z 6) (z 7) (z 8) (z 9) w) (sT (λ z w=>b16 R C6 C13 (z 7) (z 9) w) (Zk 3 (aT 1 (λ z w=>b25 R C6 C13 (z 1) (z 6) (z 7) (z 9) (z 10) (z 11) w) (sT (λ z w=>b20 R C6 C13 (z 1) (z 6) (z 7) (z 9) (z 10) (z 11) w) (aT 0 (λ z w=>l27 R C6 C13 (z 1) (z 6) (z 7) (z 9) (z 10) (z 11) (z 12) w) (Zk 4 (lT2 11 12 (λ z C27 y11 y12 w0=>b30 R C6 C13 C27 (z 1) (z 6) (z 7) (z 9) (z 10) y11 y12 w0) λ C27=>sT (λ z w=>b29 R C6 C13 C27 (z 7) (z 10) (z 12) w) (aT 0 (λ z w=>b31 R C6 C13 C27 (z 1) (z 6) (z 7) (z 9) (z 10) (z 11) (z 12) (z 52) w) ofT) ofT))) (aT 0 (λ z w=>b23 R C6 C13 (z 1) (z 6) (z 7) (z 9) (z 10) w) (sT (λ z w=>b22 R C6 C13 (z 7) (z 9) (z 10) w) (aT 0 (λ z w=>b24 R C6 C13 (z 7) (z 9) (z 10) (z 72) w) ofT) ofT))))) ofT))))) ofT)))) ofT)
def run (R:EP)(a0 a1:Value)(w:World):=b1 R a0 a1 w
theorem ct:Cta2 prog id run:=Zia call10 func10 λ R a0 a1 w h=>tie R _ w h
attribute [irreducible] l27 l13 l6
attribute [irreducible,go_sem] b3 b9 b16 b22 b24 b23_1 b23 b20 b29 b31 b30 b25 b18_1 b18 b14 b11 b7 b4 b1_1 b1 run
end Ze
namespace Zg
variable (R:EP) (C6:Value->VP) (C15:VP) (C22:VP) (C29:VP) (C40:Value->VP) (x0 x1 x2 x3 x4 x7 x8 x9 x10 x11 x12 x13 x14 x15 x54 x87 x118 v9 v11:Value) (w w10 w13:World)
def b3 (_:T (R):=Q _):=
 R (.returned x7) w
def b9 (_:T (R,C6):=Q _):=
 U R (bC .add 3 22 1 x8) w λ v1 w2=>
 C6 x7 v1 w2
def b18 (_:T (R,C6,C15):=Q _):=
 U R (bC .add 3 69 1 x12) w λ v1 w2=>
 C15 v1 w2
def b25 (_:T (R,C6,C15,C22):=Q _):=
 U R (bC .add 3 88 1 x14) w λ v1 w2=>
 C22 v1 w2
def b32 (_:T (R,C6,C15,C22,C29):=Q _):=
 U R (bC .add 3 95 1 x15) w λ v1 w2=>
 C29 v1 w2
def b35_1 (_:T (R,C6,C15,C22,C29):=Q _):=
 Y (indexAt 28 x7 x15) λ v11=>
 Y (fieldAt 79 v11 2) λ v12=>
 RUNU prog R (storeAt 24 v12 v9) w10 λ w13=>
 b32 R C6 C15 C22 C29 x15 w13
def b35_2 (_:T (R,C6,C15,C22,C29):=Q _):=
 Y (indexAt 28 x7 x15) λ v1=>
 Y (fieldAt 79 v1 2) λ v2=>
 L (loadAt 24 v2) w.drew λ v3=>
 Y (indexAt 38 x2 x12) λ v4=>
 L (loadAt 114 v4) w.drew λ v5=>
 Y (indexAt 114 v5 x14) λ v6=>
 Y (fieldAt 117 v6 1) λ v7=>
 L (loadAt 3 v7) w.drew λ v8=>
 K R Zbh.id #[v3,v8] w.drew λ v9 w10=>
 b35_1 R C6 C15 C22 C29 x7 x15 v9 w10
def b35 (_:T (R,C6,C15,C22,C29):=Q _):=
 SPL x118
 (b35_2 R C6 C15 C22 C29 x2 x7 x12 x14 x15 w)
 (b32 R C6 C15 C22 C29 x15 w)
def b34_1 (_:T (R,C6,C15,C22,C29):=Q _):=
 L (loadAt 27 x3) w13.drew λ v20=>
 L (loadAt 89 v11) w13.drew λ v21=>
 K R Zct.id #[v20,v21] w13.drew λ v22 w23=>
 Y (bC .lss 3 116 0 v22) λ v24=>
 b35 R C6 C15 C22 C29 x2 x7 x12 x14 x15 v24 w23
def b34 (_:T (R,C6,C15,C22,C29):=Q _):=
 U R (indexAt 38 x2 x12) w λ v1 w2=>
 U R (loadAt 114 v1) w2 λ v3 w4=>
 U R (indexAt 114 v3 x14) w4 λ v5 w6=>
 U R (fieldAt 117 v5 0) w6 λ v7 w8=>
 U R (loadAt 89 v7) w8 λ v9 w10=>
 U R (alloc 89 true (.tuple #[])) w10 λ v11 w12=>
 RUNU prog R (storeAt 89 v11 v9) w12 λ w13=>
 Y (fieldAt 89 v11 0) λ v14=>
 L (loadAt 3 v14) w13.drew λ v15=>
 Y (indexAt 28 x7 x15) λ v16=>
 Y (fieldAt 79 v16 1) λ v17=>
 L (loadAt 3 v17) w13.drew λ v18=>
 Y (bins .eql 3 (.tmp 106) (.tmp 111) v15 v18) λ v19=>
 SPL v19
 (b34_1 R C6 C15 C22 C29 x2 x3 x7 x12 x14 x15 v11 w13)
 (b35 R C6 C15 C22 C29 x2 x7 x12 x14 x15 (.bool false) w13.drew)
def b30 (_:T (R,C6,C15,C22,C29):=Q _):=
 U R (len_ #[28] 3 #[x7]) w λ v1 w2=>
 U R (bins .lss 3 (.tmp 91) (.tmp 93) x15 v1) w2 λ v3 w4=>
 SPL v3
 (b34 R C6 C15 C22 C29 x2 x3 x7 x12 x14 x15 w4)
 (b25 R C6 C15 C22 x14 w4)
def l29 (_:T (R,C6,C15,C22):=Q _):Prop :=
 LP1 (λ C29 y15 w0=>b30 R C6 C15 C22 C29 x2 x3 x7 x12 x14 y15 w0) x15 w
theorem l29_intro:LS1 (λ C29 y15 w0=>b30 R C6 C15 C22 C29 x2 x3 x7 x12 x14 y15 w0) x15 w (l29 R C6 C15 C22 x2 x3 x7 x12 x14 x15 w):=LI1 _ x15 w
def b27 (_:T (R,C6,C15,C22):=Q _):=
 l29 R C6 C15 C22 x2 x3 x7 x12 x14 x10 w
def b37 (_:T (R,C6,C15,C22):=Q _):=
 SPL x87
 (b27 R C6 C15 C22 x2 x3 x7 x10 x12 x14 w)
 (b18 R C6 C15 x12 w)
def b36 (_:T (R,C6,C15,C22):=Q _):=
 U R (indexAt 38 x2 x12) w λ v1 w2=>
 U R (loadAt 114 v1) w2 λ v3 w4=>
 U R (len_ #[114] 3 #[v3]) w4 λ v5 w6=>
 U R (bins .lss 3 (.tmp 78) (.tmp 83) x14 v5) w6 λ v7 w8=>
 SPL v7
 (b37 R C6 C15 C22 x2 x3 x7 x10 x12 x14 x13 w8)
 (b37 R C6 C15 C22 x2 x3 x7 x10 x12 x14 (.bool false) w8)
def l22 (_:T (R,C6,C15):=Q _):Prop :=
 LP1 (λ C22 y14 w0=>b36 R C6 C15 C22 x2 x3 x7 x10 x12 x13 y14 w0) x14 w
theorem l22_intro:LS1 (λ C22 y14 w0=>b36 R C6 C15 C22 x2 x3 x7 x10 x12 x13 y14 w0) x14 w (l22 R C6 C15 x2 x3 x7 x10 x12 x13 x14 w):=LI1 _ x14 w
def b20 (_:T (R,C6,C15):=Q _):=
 U R (indexAt 38 x2 x12) w λ v1 w2=>
 U R (loadAt 114 v1) w2 λ v3 w4=>
 K R Zbq.id #[v3] w4 λ v5 w6=>
 K R Zba.id #[v5,x9] w6 λ v7 w8=>
 l22 R C6 C15 x2 x3 x7 x10 x12 v7 (.int .i64 0) w8
def b16 (_:T (R,C6,C15):=Q _):=
 U R (len_ #[38] 3 #[x2]) w λ v1 w2=>
 U R (bins .lss 3 (.tmp 65) (.tmp 67) x12 v1) w2 λ v3 w4=>
 SPL v3
 (b20 R C6 C15 x2 x3 x7 x9 x10 x12 w4)
 (b9 R C6 x7 x8 w4)
def l15 (_:T (R,C6):=Q _):Prop :=
 LP1 (λ C15 y12 w0=>b16 R C6 C15 x2 x3 x7 x8 x9 x10 y12 w0) x12 w
theorem l15_intro:LS1 (λ C15 y12 w0=>b16 R C6 C15 x2 x3 x7 x8 x9 x10 y12 w0) x12 w (l15 R C6 x2 x3 x7 x8 x9 x10 x12 w):=LI1 _ x12 w
def b13 (_:T (R,C6):=Q _):=
 l15 R C6 x2 x3 x7 x8 x9 x10 (.int .i64 0) w
def b43 (_:T (R,C6,C40):=Q _):=
 U R (bC .add 3 38 1 x11) w λ v1 w2=>
 C40 x7 v1 w2
def b46_1 (_:T (R,C6,C40):=Q _):=
 U R (indexAt 90 x9 x11) w λ v1 w2=>
 U R (fieldAt 89 v1 0) w2 λ v3 w4=>
 U R (loadAt 3 v3) w4 λ v5 w6=>
 U R (build 79 #[(0,x8),(1,v5)]) w6 λ v7 w8=>
 U R (buildSlice 28 1 #[(0,v7)]) w8 λ v9 w10=>
 U R (append_ #[28,28] 28 #[x7,v9]) w10 λ v11 w12=>
 b43 R C6 C40 v11 x11 w12
def b46 (_:T (R,C6,C40):=Q _):=
 SPL x54
 (b46_1 R C6 C40 x7 x8 x9 x11 w)
 (b43 R C6 C40 x7 x11 w)
def b45_1 (_:T (R,C6,C40):=Q _):=
 L (loadAt 27 x3) w.drew λ v5=>
 Y (indexAt 90 x9 x11) λ v6=>
 L (loadAt 89 v6) w.drew λ v7=>
 K R Zct.id #[v5,v7] w.drew λ v8 w9=>
 Y (bC .lss 3 52 0 v8) λ v10=>
 b46 R C6 C40 x7 x8 x9 x11 v10 w9
def b45 (_:T (R,C6,C40):=Q _):=
 Y (indexAt 90 x9 x11) λ v1=>
 Y (fieldAt 89 v1 0) λ v2=>
 L (loadAt 3 v2) w.drew λ v3=>
 Y (bC .gtr 3 44 0 v3) λ v4=>
 SPL v4
 (b45_1 R C6 C40 x3 x7 x8 x9 x11 w)
 (b46 R C6 C40 x7 x8 x9 x11 (.bool false) w.drew)
def b41 (_:T (R,C6,C40):=Q _):=
 U R (len_ #[90] 3 #[x9]) w λ v1 w2=>
 U R (bins .lss 3 (.tmp 34) (.tmp 36) x11 v1) w2 λ v3 w4=>
 SPL v3
 (b45 R C6 C40 x3 x7 x8 x9 x11 w4)
 (b13 R C6 x2 x3 x7 x8 x9 x10 w4)
def l40 (_:T (R,C6):=Q _):Prop :=
 LP2 (λ C40 y7 y11 w0=>b41 R C6 C40 x2 x3 y7 x8 x9 x10 y11 w0) x7 x11 w
theorem l40_intro:LS2 (λ C40 y7 y11 w0=>b41 R C6 C40 x2 x3 y7 x8 x9 x10 y11 w0) x7 x11 w (l40 R C6 x2 x3 x7 x8 x9 x10 x11 w):=LI2 _ x7 x11 w
def b38 (_:T (R,C6):=Q _):=
 l40 R C6 x2 x3 x7 x8 x9 x10 (.int .i64 0) w
def b11 (_:T (R,C6):=Q _):=
 L (loadAt 27 x3) w.drew λ v1=>
 Y (fieldAt 34 x4 0) λ v2=>
 L (loadAt 32 v2) w.drew λ v3=>
 Y (indexAt 32 v3 x8) λ v4=>
 Y (fieldAt 95 v4 0) λ v5=>
 L (loadAt 90 v5) w.drew λ v6=>
 K R Zu.id #[v1,v6] w.drew λ v7 w8=>
 U R (len_ #[28] 3 #[x7]) w8 λ v9 w10=>
 b38 R C6 x2 x3 x7 x8 v7 v9 w10
def b7 (_:T (R,C6):=Q _):=
 U R (fieldAt 34 x4 0) w λ v1 w2=>
 U R (loadAt 32 v1) w2 λ v3 w4=>
 U R (len_ #[32] 3 #[v3]) w4 λ v5 w6=>
 U R (bins .lss 3 (.tmp 17) (.tmp 20) x8 v5) w6 λ v7 w8=>
 SPL v7
 (b11 R C6 x2 x3 x4 x7 x8 w8)
 (b3 R x7 w8)
def l6 (_:T (R):=Q _):Prop :=
 LP2 (λ C6 y7 y8 w0=>b7 R C6 x2 x3 x4 y7 y8 w0) x7 x8 w
theorem l6_intro:LS2 (λ C6 y7 y8 w0=>b7 R C6 x2 x3 x4 y7 y8 w0) x7 x8 w (l6 R x2 x3 x4 x7 x8 w):=LI2 _ x7 x8 w
def b4 (_:T (R):=Q _):=
 l6 R x2 x3 x4 x7 (.int .i64 0) w
def b1 (_:T (R):=Q _):=
 U R (box 27 x0) w λ v1 w2=>
 U R (box 34 x1) w2 λ v3 w4=>
 b4 R x2 v1 v3 (.slice none 0 0) w4
theorem tie (R:EP):TI prog R (Zp f11) (QQ (λ z w=>R (.returned (z 6)) w)) λ z w=>b1 R (z 0) (z 1) (z 2) w:=aT 1 (λ z w=>b4 R (z 2) (z 3) (z 4) (z 7) w) (sT (λ z w=>b3 R (z 7) w) (aT 0 (λ z w=>l6 R (z 2) (z 3) (z 4) (z 7) (z 8) w) (Zk 0 (lT2 7 8 (λ z C6 y7 y8 w0=>b7 R C6 (z 2) (z 3) (z 4) y7 y8 w0) λ C6=>aT 0 (λ z w=>b11 R C6 (z 2) (z 3) (z 4) (z 7) (z 8) w) (sT (λ z w=>b9 R C6 (z 7) (z 8) w) (Zk 1 (aT 1 (λ z w=>b38 R C6 (z 2) (z 3) (z 7) (z 8) (z 9) (z 10) w) (sT (λ z w=>b13 R C6 (z 2) (z 3) (z 7) (z 8) (z 9) (z 10) w) (aT 0 (λ z w=>l40 R C6 (z 2) (z 3) (z 7) (z 8) (z 9) (z 10) (z 11) w) (Zk 2 (lT2 7 11 (λ z C40 y7 y11 w0=>b41 R C6 C40 (z 2) (z 3) y7 (z 8) (z 9) (z 10) y11 w0) λ C40=>aT 0 (λ z w=>b45 R C6 C40 (z 3) (z 7) (z 8) (z 9) (z 11) w) (sT (λ z w=>b43 R C6 C40 (z 7) (z 11) w) (Zk 3 (aT 0 (λ z w=>b46 R C6 C40 (z 7) (z 8) (z 9) (z 11) (z 54) w) ofT)) ofT)))) (aT 0 (λ z w=>l15 R C6 (z 2) (z 3) (z 7) (z 8) (z 9) (z 10) (z 12) w) (Zk 4 (lT1 12 (λ z C15 y12 w0=>b16 R C6 C15 (z 2) (z 3) (z 7) (z 8) (z 9) (z 10) y12 w0) λ C15=>aT 0 (λ z w=>b20 R C6 C15 (z 2) (z 3) (z 7) (z 9) (z 10) (z 12) w) (sT (λ z w=>b18 R C6 C15 (z 12) w) (Zk 5 (aT 1 (λ z w=>l22 R C6 C15 (z 2) (z 3) (z 7) (z 10) (z 12) (z 13) (z 14) w) (Zk 6 (lT1 14 (λ z C22 y14 w0=>b36 R C6 C15 C22 (z 2) (z 3) (z 7) (z 10) (z 12) (z 13) y14 w0) λ C22=>sT (λ z w=>b27 R C6 C15 C22 (z 2) (z 3) (z 7) (z 10) (z 12) (z 14) w) (aT 0 (λ z w=>b37 R C6 C15 C22 (z 2) (z 3) (z 7) (z 10) (z 12) (z 14) (z 87) w) ofT) (sT (λ z w=>b25 R C6 C15 C22 (z 14) w) (Zk 7 (aT 0 (λ z w=>l29 R C6 C15 C22 (z 2) (z 3) (z 7) (z 12) (z 14) (z 15) w) (Zk 8 (lT1 15 (λ z C29 y15 w0=>b30 R C6 C15 C22 C29 (z 2) (z 3) (z 7) (z 12) (z 14) y15 w0) λ C29=>aT 0 (λ z w=>b34 R C6 C15 C22 C29 (z 2) (z 3) (z 7) (z 12) (z 14) (z 15) w) (sT (λ z w=>b32 R C6 C15 C22 C29 (z 15) w) (Zk 9 (aT 1 (λ z w=>b35 R C6 C15 C22 C29 (z 2) (z 7) (z 12) (z 14) (z 15) (z 118) w) ofT)) ofT))))) ofT))))) ofT))))))) ofT)))) ofT)
def run (R:EP)(a0 a1 a2:Value)(w:World):=b1 R a0 a1 a2 w
theorem ct:Cta3 prog id run:=Zkc call11 func11 λ R a0 a1 a2 w h=>tie R _ w h
attribute [irreducible] l29 l22 l15 l40 l6
attribute [irreducible,go_sem] b3 b9 b18 b25 b32 b35_1 b35_2 b35 b34_1 b34 b30 b27 b37 b36 b20 b16 b13 b43 b46_1 b46 b45_1 b45 b41 b38 b11 b7 b4 b1 run
end Zg
namespace Zb
variable (R:EP) (C5:Value->VP) (C10:Value->VP) (C17:Value->VP) (x0 x1 x5 x6 x7 x9 x11 x12 x13 x14 x25 x124 v5 v8 v12 v14 v36 v65:Value) (w w4 w13 w19 w37 w46 w66:World)
def b3 (_:T (R):=Q _):=
 R (.returned x5) w
def b13 (_:T (R,C5,C10):=Q _):=
 U R (bC .add 3 93 1 x13) w λ v1 w2=>
 C10 x6 v1 w2
def b20 (_:T (R,C5,C10,C17):=Q _):=
 U R (bC .add 3 110 1 x14) w λ v1 w2=>
 C17 x6 v1 w2
def b23_1 (_:T (R,C5,C10,C17):=Q _):=
 U R (build 89 #[(0,x13)]) w λ v1 w2=>
 U R (build 117 #[(0,v1),(1,x14)]) w2 λ v3 w4=>
 U R (buildSlice 113 1 #[(0,v3)]) w4 λ v5 w6=>
 U R (append_ #[113,113] 113 #[x6,v5]) w6 λ v7 w8=>
 b20 R C5 C10 C17 v7 x14 w8
def b23 (_:T (R,C5,C10,C17):=Q _):=
 SPL x124
 (b23_1 R C5 C10 C17 x6 x13 x14 w)
 (b20 R C5 C10 C17 x6 x14 w)
def b22_1 (_:T (R,C5,C10,C17):=Q _):=
 U R (fieldAt 117 x7 1) w4 λ v5 w6=>
 U R (loadAt 3 v5) w6 λ v7 w8=>
 U R (bins .eql 3 (.tmp 119) (.tmp 121) x14 v7) w8 λ v9 w10=>
 b23 R C5 C10 C17 x6 x13 x14 v9 w10
def b22 (_:T (R,C5,C10,C17):=Q _):=
 U R (indexAt 105 x11 x14) w λ v1 w2=>
 U R (loadAt 4 v1) w2 λ v3 w4=>
 SPL v3
 (b23 R C5 C10 C17 x6 x13 x14 (.bool true) w4)
 (SPL x12
 (b22_1 R C5 C10 C17 x6 x7 x13 x14 w4)
 (b23 R C5 C10 C17 x6 x13 x14 (.bool false) w4))
def b18 (_:T (R,C5,C10,C17):=Q _):=
 U R (len_ #[105] 3 #[x11]) w λ v1 w2=>
 U R (bins .lss 3 (.tmp 106) (.tmp 108) x14 v1) w2 λ v3 w4=>
 SPL v3
 (b22 R C5 C10 C17 x6 x7 x11 x12 x13 x14 w4)
 (b13 R C5 C10 x6 x13 w4)
def l17 (_:T (R,C5,C10):=Q _):Prop :=
 LP2 (λ C17 y6 y14 w0=>b18 R C5 C10 C17 y6 x7 x11 x12 x13 y14 w0) x6 x14 w
theorem l17_intro:LS2 (λ C17 y6 y14 w0=>b18 R C5 C10 C17 y6 x7 x11 x12 x13 y14 w0) x6 x14 w (l17 R C5 C10 x6 x7 x11 x12 x13 x14 w):=LI2 _ x6 x14 w
def b15 (_:T (R,C5,C10):=Q _):=
 NILC x0 λ v1=>
 U R (fieldAt 112 v1 0) w λ v2 w3=>
 U R (fieldAt 27 v2 4) w3 λ v4 w5=>
 U R (loadAt 25 v4) w5 λ v6 w7=>
 U R (indexAt 25 v6 x13) w7 λ v8 w9=>
 U R (fieldAt 103 v8 0) w9 λ v10 w11=>
 U R (loadAt 3 v10) w11 λ v12 w13=>
 U R (bins .neq 3 (.tmp 103) (.tmp 104) v12 x9) w13 λ v14 w15=>
 SPL v14
 (b13 R C5 C10 x6 x13 w15)
 (l17 R C5 C10 x6 x7 x11 x12 x13 (.int .i64 0) w15)
def b11 (_:T (R,C5,C10):=Q _):=
 NILC x0 λ v1=>
 U R (fieldAt 112 v1 0) w λ v2 w3=>
 U R (fieldAt 27 v2 4) w3 λ v4 w5=>
 U R (loadAt 25 v4) w5 λ v6 w7=>
 U R (len_ #[25] 3 #[v6]) w7 λ v8 w9=>
 U R (bins .lss 3 (.tmp 85) (.tmp 91) x13 v8) w9 λ v10 w11=>
 SPL v10
 (b15 R C5 C10 x0 x6 x7 x9 x11 x12 x13 w11)
 (C5 x5 x6 w11)
def l10 (_:T (R,C5):=Q _):Prop :=
 LP2 (λ C10 y6 y13 w0=>b11 R C5 C10 x0 x5 y6 x7 x9 x11 x12 y13 w0) x6 x13 w
theorem l10_intro:LS2 (λ C10 y6 y13 w0=>b11 R C5 C10 x0 x5 y6 x7 x9 x11 x12 y13 w0) x6 x13 w (l10 R C5 x0 x5 x6 x7 x9 x11 x12 x13 w):=LI2 _ x6 x13 w
def b8_1 (_:T (R,C5):=Q _):=
 Y (extract v65 0) λ v67=>
 Y (extract v65 1) λ v68=>
 l10 R C5 x0 v14 v8 v5 v36 v67 v68 (.int .i64 0) w66
def b8_2 (_:T (R,C5):=Q _):=
 NILC x0 λ v47=>
 Y (fieldAt 112 v47 1) λ v48=>
 L (loadAt 109 v48) w46.drew λ v49=>
 NILC x0 λ v50=>
 Y (fieldAt 112 v50 0) λ v51=>
 Y (fieldAt 27 v51 4) λ v52=>
 L (loadAt 25 v52) w46.drew λ v53=>
 Y (fieldAt 117 v5 0) λ v54=>
 Y (fieldAt 89 v54 0) λ v55=>
 L (loadAt 3 v55) w46.drew λ v56=>
 Y (indexAt 25 v53 v56) λ v57=>
 Y (fieldAt 103 v57 1) λ v58=>
 L (loadAt 24 v58) w46.drew λ v59=>
 Y (fieldAt 117 v5 0) λ v60=>
 Y (fieldAt 89 v60 1) λ v61=>
 L (loadAt 3 v61) w46.drew λ v62=>
 Y (bC .add 3 79 1 v62) λ v63=>
 Y (sliceAt 24 v59 (some v63) none none) λ v64=>
 K R Zcm.id #[v49,v64] w46.drew λ v65 w66=>
 b8_1 R C5 x0 v5 v8 v14 v36 v65 w66
def b8_3 (_:T (R,C5):=Q _):=
 NILC x0 λ v38=>
 U R (fieldAt 112 v38 0) w37 λ v39 w40=>
 U R (loadAt 27 v39) w40 λ v41 w42=>
 K R Zdq.id #[v41,v36] w42 λ v43 w44=>
 U R (Op.unary .not v43) w44 λ v45 w46=>
 SPL v45
 (C5 v14 v8 w46)
 (b8_2 R C5 x0 v5 v8 v14 v36 w46)
def b8_4 (_:T (R,C5):=Q _):=
 NILC x0 λ v20=>
 U R (fieldAt 112 v20 2) w19 λ v21 w22=>
 U R (loadAt 3 v21) w22 λ v23 w24=>
 U R (bC .sub 3 42 1 v23) w24 λ v25 w26=>
 NILC x0 λ v27=>
 U R (fieldAt 112 v27 2) w26 λ v28 w29=>
 RUNU prog R (storeAt 3 v28 v25) w29 λ w30=>
 NILC x0 λ v31=>
 Y (fieldAt 112 v31 0) λ v32=>
 L (loadAt 27 v32) w30.drew λ v33=>
 Y (fieldAt 117 v5 0) λ v34=>
 L (loadAt 89 v34) w30.drew λ v35=>
 K R Zct.id #[v33,v35] w30.drew λ v36 w37=>
 b8_3 R C5 x0 v5 v8 v14 v36 w37
def b8_5 (_:T (R,C5):=Q _):=
 U R (extract v12 0) w13 λ v14 w15=>
 U R (extract v12 1) w15 λ v16 w17=>
 U R (Op.unary .not v16) w17 λ v18 w19=>
 SPL v18
 (C5 v14 v8 w19)
 (b8_4 R C5 x0 v5 v8 v14 w19)
def b8 (_:T (R,C5):=Q _):=
 U R (indexAt 113 x6 (.int .i64 0)) w λ v1 w2=>
 U R (loadAt 117 v1) w2 λ v3 w4=>
 U R (alloc 117 true (.tuple #[])) w4 λ v5 w6=>
 RUNU prog R (storeAt 117 v5 v3) w6 λ w7=>
 U R (sliceAt 113 x6 (some (.int .i64 1)) none none) w7 λ v8 w9=>
 U R (loadAt 117 v5) w9 λ v10 w11=>
 K R Za4.id #[x5,v10] w11 λ v12 w13=>
 b8_5 R C5 x0 v5 v8 v12 w13
def b25 (_:T (R,C5):=Q _):=
 SPL x25
 (b8 R C5 x0 x5 x6 w)
 (b3 R x5 w)
def b24_1 (_:T (R,C5):=Q _):=
 NILC x0 λ v5=>
 U R (fieldAt 112 v5 2) w4 λ v6 w7=>
 U R (loadAt 3 v6) w7 λ v8 w9=>
 U R (bC .gtr 3 23 0 v8) w9 λ v10 w11=>
 b25 R C5 x0 x5 x6 v10 w11
def b24 (_:T (R,C5):=Q _):=
 U R (len_ #[113] 3 #[x6]) w λ v1 w2=>
 U R (bC .gtr 3 17 0 v1) w2 λ v3 w4=>
 SPL v3
 (b24_1 R C5 x0 x5 x6 w4)
 (b25 R C5 x0 x5 x6 (.bool false) w4)
def l5 (_:T (R):=Q _):Prop :=
 LP2 (λ C5 y5 y6 w0=>b24 R C5 x0 y5 y6 w0) x5 x6 w
theorem l5_intro:LS2 (λ C5 y5 y6 w0=>b24 R C5 x0 y5 y6 w0) x5 x6 w (l5 R x0 x5 x6 w):=LI2 _ x5 x6 w
def b1 (_:T (R):=Q _):=
 l5 R x0 (.slice none 0 0) x1 w
theorem tie (R:EP):TI prog R (Zp f43) (QQ (λ z w=>R (.returned (z 4)) w)) λ z w=>b1 R (z 0) (z 1) w:=aT 2 (λ z w=>l5 R (z 0) (z 5) (z 6) w) (sT (λ z w=>b3 R (z 5) w) (Zk 0 (lT2 5 6 (λ z C5 y5 y6 w0=>b24 R C5 (z 0) y5 y6 w0) λ C5=>sT (λ z w=>b8 R C5 (z 0) (z 5) (z 6) w) (aT 0 (λ z w=>b25 R C5 (z 0) (z 5) (z 6) (z 25) w) ofT) (Zk 1 (aT 10 (λ z w=>l10 R C5 (z 0) (z 5) (z 6) (z 7) (z 9) (z 11) (z 12) (z 13) w) (Zk 2 (lT2 6 13 (λ z C10 y6 y13 w0=>b11 R C5 C10 (z 0) (z 5) y6 (z 7) (z 9) (z 11) (z 12) y13 w0) λ C10=>aT 0 (λ z w=>b15 R C5 C10 (z 0) (z 6) (z 7) (z 9) (z 11) (z 12) (z 13) w) (sT (λ z w=>b13 R C5 C10 (z 6) (z 13) w) (Zk 3 (aT 1 (λ z w=>l17 R C5 C10 (z 6) (z 7) (z 11) (z 12) (z 13) (z 14) w) (Zk 4 (lT2 6 14 (λ z C17 y6 y14 w0=>b18 R C5 C10 C17 y6 (z 7) (z 11) (z 12) (z 13) y14 w0) λ C17=>aT 0 (λ z w=>b22 R C5 C10 C17 (z 6) (z 7) (z 11) (z 12) (z 13) (z 14) w) (sT (λ z w=>b20 R C5 C10 C17 (z 6) (z 14) w) (Zk 5 (aT 0 (λ z w=>b23 R C5 C10 C17 (z 6) (z 13) (z 14) (z 124) w) ofT)) ofT))))) ofT))))))) ofT)
def run (R:EP)(a0 a1:Value)(w:World):=b1 R a0 a1 w
theorem ct:Cta2 prog id run:=Zcd call43 func43 λ R a0 a1 w h=>tie R _ w h
attribute [irreducible] l17 l10 l5
attribute [irreducible,go_sem] b3 b13 b20 b23_1 b23 b22_1 b22 b18 b15 b11 b8_1 b8_2 b8_3 b8_4 b8_5 b8 b25 b24_1 b24 b1 run
end Zb
namespace Zao
variable (R:EP) (C6:Value->VP) (x0 x1 x2 x7 x8:Value) (w w4 w12:World)
def b3 (_:T (R):=Q _):=
 K R Zb.id #[x0,x7] w λ v1 w2=>
 R (.returned v1) w2
def b8 (_:T (R,C6):=Q _):=
 U R (bC .add 3 13 1 x8) w λ v1 w2=>
 C6 x7 v1 w2
def b7_1 (_:T (R,C6):=Q _):=
 Y (indexAt 114 x1 x8) λ v14=>
 Y (fieldAt 117 v14 0) λ v15=>
 Y (fieldAt 89 v15 0) λ v16=>
 L (loadAt 3 v16) w12.drew λ v17=>
 Y (indexAt 114 x1 x8) λ v18=>
 Y (fieldAt 117 v18 0) λ v19=>
 Y (fieldAt 89 v19 1) λ v20=>
 L (loadAt 3 v20) w12.drew λ v21=>
 Y (bC .add 3 39 1 v21) λ v22=>
 Y (build 89 #[(0,v17),(1,v22)]) λ v23=>
 Y (indexAt 114 x1 x8) λ v24=>
 Y (fieldAt 117 v24 1) λ v25=>
 L (loadAt 3 v25) w12.drew λ v26=>
 Y (build 117 #[(0,v23),(1,v26)]) λ v27=>
 U R (buildSlice 113 1 #[(0,v27)]) w12.drew λ v28 w29=>
 U R (append_ #[113,113] 113 #[x7,v28]) w29 λ v30 w31=>
 b8 R C6 v30 x8 w31
def b7_2 (_:T (R,C6):=Q _):=
 NILC x0 λ v5=>
 Y (fieldAt 112 v5 0) λ v6=>
 L (loadAt 27 v6) w4.drew λ v7=>
 Y (indexAt 114 x1 x8) λ v8=>
 Y (fieldAt 117 v8 0) λ v9=>
 L (loadAt 89 v9) w4.drew λ v10=>
 K R Zct.id #[v7,v10] w4.drew λ v11 w12=>
 Y (bins .eql 3 (.tmp 24) (.tmp 25) v11 x2) λ v13=>
 SPL v13
 (b7_1 R C6 x1 x7 x8 w12)
 (b8 R C6 x7 x8 w12)
def b7 (_:T (R,C6):=Q _):=
 U R (len_ #[114] 3 #[x1]) w λ v1 w2=>
 U R (bins .lss 3 (.tmp 9) (.tmp 11) x8 v1) w2 λ v3 w4=>
 SPL v3
 (b7_2 R C6 x0 x1 x2 x7 x8 w4)
 (b3 R x0 x7 w4)
def l6 (_:T (R):=Q _):Prop :=
 LP2 (λ C6 y7 y8 w0=>b7 R C6 x0 x1 x2 y7 y8 w0) x7 x8 w
theorem l6_intro:LS2 (λ C6 y7 y8 w0=>b7 R C6 x0 x1 x2 y7 y8 w0) x7 x8 w (l6 R x0 x1 x2 x7 x8 w):=LI2 _ x7 x8 w
def b4 (_:T (R):=Q _):=
 l6 R x0 x1 x2 x7 (.int .i64 0) w
def b1 (_:T (R):=Q _):=
 b4 R x0 x1 x2 (.slice none 0 0) w
theorem tie (R:EP):TI prog R (Zp f45) (QQ (λ z w=>R (.returned (z 6)) w)) λ z w=>b1 R (z 0) (z 1) (z 2) w:=aT 1 (λ z w=>b4 R (z 0) (z 1) (z 2) (z 7) w) (sT (λ z w=>b3 R (z 0) (z 7) w) (aT 0 (λ z w=>l6 R (z 0) (z 1) (z 2) (z 7) (z 8) w) (Zk 0 (lT2 7 8 (λ z C6 y7 y8 w0=>b7 R C6 (z 0) (z 1) (z 2) y7 y8 w0) λ C6=>aT 1 (λ z w=>b8 R C6 (z 7) (z 8) w) ofT))) ofT)
def run (R:EP)(a0 a1 a2:Value)(w:World):=b1 R a0 a1 a2 w
theorem ct:Cta3 prog id run:=Zkc call45 func45 λ R a0 a1 a2 w h=>tie R _ w h
attribute [irreducible] l6
attribute [irreducible,go_sem] b3 b8 b7_1 b7_2 b7 b4 b1 run
end Zao
namespace Zdb
variable (R:EP) (C6:VP) (x0 x1 x5:Value) (w w4:World)
def b3 (_:T (R):=Q _):=
 R (.returned (.bool true)) w
def b7_1 (_:T (R,C6):=Q _):=
 Y (indexAt 114 x0 x5) λ v5=>
 L (loadAt 117 v5) w4.drew λ v6=>
 Y (indexAt 114 x1 x5) λ v7=>
 L (loadAt 117 v7) w4.drew λ v8=>
 Y (bins .neq 117 (.tmp 20) (.tmp 24) v6 v8) λ v9=>
 SPL v9
 (R (.returned (.bool false)) w4.drew)
 (U R (bC .add 3 15 1 x5) w4.drew λ v10 w11=>
 C6 v10 w11)
def b7 (_:T (R,C6):=Q _):=
 U R (len_ #[114] 3 #[x0]) w λ v1 w2=>
 U R (bins .lss 3 (.tmp 11) (.tmp 13) x5 v1) w2 λ v3 w4=>
 SPL v3
 (b7_1 R C6 x0 x1 x5 w4)
 (b3 R w4)
def l6 (_:T (R):=Q _):Prop :=
 LP1 (λ C6 y5 w0=>b7 R C6 x0 x1 y5 w0) x5 w
theorem l6_intro:LS1 (λ C6 y5 w0=>b7 R C6 x0 x1 y5 w0) x5 w (l6 R x0 x1 x5 w):=LI1 _ x5 w
def b4 (_:T (R):=Q _):=
 l6 R x0 x1 (.int .i64 0) w
def b1 (_:T (R):=Q _):=
 U R (len_ #[114] 3 #[x0]) w λ v1 w2=>
 U R (len_ #[114] 3 #[x1]) w2 λ v3 w4=>
 U R (bins .neq 3 (.tmp 7) (.tmp 9) v1 v3) w4 λ v5 w6=>
 SPL v5
 (R (.returned (.bool false)) w6)
 (b4 R x0 x1 w6)
theorem tie (R:EP):TI prog R (Zp f46) (QQ (λ z w=>R (.returned (z 4)) w)) λ z w=>b1 R (z 0) (z 1) w:=aT 1 (λ z w=>b4 R (z 0) (z 1) w) (sT (λ z w=>b3 R  w) (aT 0 (λ z w=>l6 R (z 0) (z 1) (z 5) w) (Zk 0 (lT1 5 (λ z C6 y5 w0=>b7 R C6 (z 0) (z 1) y5 w0) λ C6=>ofT))) ofT)
def run (R:EP)(a0 a1:Value)(w:World):=b1 R a0 a1 w
theorem ct:Cta2 prog id run:=Zcd call46 func46 λ R a0 a1 w h=>tie R _ w h
attribute [irreducible] l6
attribute [irreducible,go_sem] b3 b7_1 b7 b4 b1 run
end Zdb
namespace Zbq
variable (R:EP) (C6:Value->VP) (x0 x3 x4 x27:Value) (w:World)
def b3 (_:T (R):=Q _):=
 R (.returned x3) w
def b9 (_:T (R,C6):=Q _):=
 U R (bC .add 3 9 1 x4) w λ v1 w2=>
 C6 x3 v1 w2
def b12_1 (_:T (R,C6):=Q _):=
 U R (indexAt 114 x0 x4) w λ v1 w2=>
 U R (fieldAt 117 v1 0) w2 λ v3 w4=>
 U R (loadAt 89 v3) w4 λ v5 w6=>
 U R (buildSlice 90 1 #[(0,v5)]) w6 λ v7 w8=>
 U R (append_ #[90,90] 90 #[x3,v7]) w8 λ v9 w10=>
 b9 R C6 v9 x4 w10
def b12 (_:T (R,C6):=Q _):=
 SPL x27
 (b12_1 R C6 x0 x3 x4 w)
 (b9 R C6 x3 x4 w)
def b11_1 (_:T (R,C6):=Q _):=
 L (len_ #[90] 3 #[x3]) w.drew λ v3=>
 Y (bC .sub 3 17 1 v3) λ v4=>
 Y (indexAt 90 x3 v4) λ v5=>
 L (loadAt 89 v5) w.drew λ v6=>
 Y (indexAt 114 x0 x4) λ v7=>
 Y (fieldAt 117 v7 0) λ v8=>
 L (loadAt 89 v8) w.drew λ v9=>
 Y (bins .neq 89 (.tmp 20) (.tmp 25) v6 v9) λ v10=>
 b12 R C6 x0 x3 x4 v10 w.drew
def b11 (_:T (R,C6):=Q _):=
 L (len_ #[90] 3 #[x3]) w.drew λ v1=>
 Y (bC .eql 3 12 0 v1) λ v2=>
 SPL v2
 (b12 R C6 x0 x3 x4 (.bool true) w.drew)
 (b11_1 R C6 x0 x3 x4 w)
def b7 (_:T (R,C6):=Q _):=
 U R (len_ #[114] 3 #[x0]) w λ v1 w2=>
 U R (bins .lss 3 (.tmp 5) (.tmp 7) x4 v1) w2 λ v3 w4=>
 SPL v3
 (b11 R C6 x0 x3 x4 w4)
 (b3 R x3 w4)
def l6 (_:T (R):=Q _):Prop :=
 LP2 (λ C6 y3 y4 w0=>b7 R C6 x0 y3 y4 w0) x3 x4 w
theorem l6_intro:LS2 (λ C6 y3 y4 w0=>b7 R C6 x0 y3 y4 w0) x3 x4 w (l6 R x0 x3 x4 w):=LI2 _ x3 x4 w
def b4 (_:T (R):=Q _):=
 l6 R x0 x3 (.int .i64 0) w
def b1 (_:T (R):=Q _):=
 b4 R x0 (.slice none 0 0) w
theorem tie (R:EP):TI prog R (Zp f50) (QQ (λ z w=>R (.returned (z 2)) w)) λ z w=>b1 R (z 0) w:=aT 1 (λ z w=>b4 R (z 0) (z 3) w) (sT (λ z w=>b3 R (z 3) w) (aT 0 (λ z w=>l6 R (z 0) (z 3) (z 4) w) (Zk 0 (lT2 3 4 (λ z C6 y3 y4 w0=>b7 R C6 (z 0) y3 y4 w0) λ C6=>aT 0 (λ z w=>b11 R C6 (z 0) (z 3) (z 4) w) (sT (λ z w=>b9 R C6 (z 3) (z 4) w) (Zk 1 (aT 0 (λ z w=>b12 R C6 (z 0) (z 3) (z 4) (z 27) w) ofT)) ofT)))) ofT)
def run (R:EP)(a0:Value)(w:World):=b1 R a0 w
theorem ct:Cta1 prog id run:=Zbj call50 func50 λ R a0 w h=>tie R _ w h
attribute [irreducible] l6
attribute [irreducible,go_sem] b3 b9 b12_1 b12 b11_1 b11 b7 b4 b1 run
end Zbq
namespace Za4
variable (R:EP) (C8:Value->VP) (x0 x1 x3 x6 x7 x39:Value) (w w2:World)
def b4 (_:T (R):=Q _):=
 U R (sliceAt 114 x0 none (some x6) none) w λ v1 w2=>
 U R (append_ #[114,114] 114 #[(.slice none 0 0),v1]) w2 λ v3 w4=>
 U R (loadAt 117 x3) w4 λ v5 w6=>
 U R (buildSlice 114 1 #[(0,v5)]) w6 λ v7 w8=>
 U R (append_ #[114,114] 114 #[v3,v7]) w8 λ v9 w10=>
 U R (sliceAt 114 x0 (some x6) none none) w10 λ v11 w12=>
 U R (append_ #[114,114] 114 #[v9,v11]) w12 λ v13 w14=>
 R (.returned (.tuple #[v13,(.bool true)])) w14
def b6 (_:T (R):=Q _):=
 SPL x39
 (R (.returned (.tuple #[x0,(.bool false)])) w)
 (b4 R x0 x3 x6 w)
def b5_1 (_:T (R):=Q _):=
 Y (indexAt 114 x0 x6) λ v3=>
 L (loadAt 117 v3) w.drew λ v4=>
 L (loadAt 117 x3) w.drew λ v5=>
 Y (bins .eql 117 (.tmp 36) (.tmp 37) v4 v5) λ v6=>
 b6 R x0 x3 x6 v6 w.drew
def b5 (_:T (R):=Q _):=
 L (len_ #[114] 3 #[x0]) w.drew λ v1=>
 Y (bins .lss 3 (.tmp 28) (.tmp 30) x6 v1) λ v2=>
 SPL v2
 (b5_1 R x0 x3 x6 w)
 (b6 R x0 x3 x6 (.bool false) w.drew)
def b9_1 (_:T (R,C8):=Q _):=
 U R (bins .add 3 (.tmp 15) (.tmp 16) x6 x7) w2 λ v3 w4=>
 U R (bC .quo 3 17 2 v3) w4 λ v5 w6=>
 Y (indexAt 114 x0 v5) λ v7=>
 L (loadAt 117 v7) w6.drew λ v8=>
 L (loadAt 117 x3) w6.drew λ v9=>
 K R Zcs.id #[v8,v9] w6.drew λ v10 w11=>
 SPL v10
 (U R (bC .add 3 25 1 v5) w11 λ v12 w13=>
 C8 v12 x7 w13)
 (C8 x6 v5 w11)
def b9 (_:T (R,C8):=Q _):=
 U R (bins .lss 3 (.tmp 12) (.tmp 13) x6 x7) w λ v1 w2=>
 SPL v1
 (b9_1 R C8 x0 x3 x6 x7 w2)
 (b5 R x0 x3 x6 w2)
def l8 (_:T (R):=Q _):Prop :=
 LP2 (λ C8 y6 y7 w0=>b9 R C8 x0 x3 y6 y7 w0) x6 x7 w
theorem l8_intro:LS2 (λ C8 y6 y7 w0=>b9 R C8 x0 x3 y6 y7 w0) x6 x7 w (l8 R x0 x3 x6 x7 w):=LI2 _ x6 x7 w
def b1 (_:T (R):=Q _):=
 U R (box 117 x1) w λ v1 w2=>
 U R (len_ #[114] 3 #[x0]) w2 λ v3 w4=>
 l8 R x0 v1 (.int .i64 0) v3 w4
theorem tie (R:EP):TI prog R (Zp f104) (QQ (λ z w=>R (.returned (.tuple #[(z 4),(z 5)])) w)) λ z w=>b1 R (z 0) (z 1) w:=aT 2 (λ z w=>l8 R (z 0) (z 3) (z 6) (z 7) w) (sT (λ z w=>b5 R (z 0) (z 3) (z 6) w) (Zk 0 (lT2 6 7 (λ z C8 y6 y7 w0=>b9 R C8 (z 0) (z 3) y6 y7 w0) λ C8=>ofT)) (sT (λ z w=>b4 R (z 0) (z 3) (z 6) w) (aT 0 (λ z w=>b6 R (z 0) (z 3) (z 6) (z 39) w) ofT) ofT))
def run (R:EP)(a0 a1:Value)(w:World):=b1 R a0 a1 w
theorem ct:Cta2 prog id run:=Zia call104 func104 λ R a0 a1 w h=>tie R _ w h
attribute [irreducible] l8
attribute [irreducible,go_sem] b4 b6 b5_1 b5 b9_1 b9 b1 run
end Za4
namespace Zcs
variable (R:EP) (x0 x1 v1 v3:Value) (w w18 w46:World)
def b1_1 (_:T (R):=Q _):=
 U R (fieldAt 117 v1 0) w18 λ v19 w20=>
 U R (fieldAt 89 v19 0) w20 λ v21 w22=>
 U R (loadAt 3 v21) w22 λ v23 w24=>
 U R (fieldAt 117 v3 0) w24 λ v25 w26=>
 U R (fieldAt 89 v25 0) w26 λ v27 w28=>
 U R (loadAt 3 v27) w28 λ v29 w30=>
 U R (bins .lss 3 (.tmp 14) (.tmp 17) v23 v29) w30 λ v31 w32=>
 R (.returned v31) w32
def b1_2 (_:T (R):=Q _):=
 U R (fieldAt 117 v1 0) w46 λ v47 w48=>
 U R (fieldAt 89 v47 1) w48 λ v49 w50=>
 U R (loadAt 3 v49) w50 λ v51 w52=>
 U R (fieldAt 117 v3 0) w52 λ v53 w54=>
 U R (fieldAt 89 v53 1) w54 λ v55 w56=>
 U R (loadAt 3 v55) w56 λ v57 w58=>
 U R (bins .lss 3 (.tmp 28) (.tmp 31) v51 v57) w58 λ v59 w60=>
 R (.returned v59) w60
def b1_3 (_:T (R):=Q _):=
 U R (fieldAt 117 v1 1) w46 λ v61 w62=>
 U R (loadAt 3 v61) w62 λ v63 w64=>
 U R (fieldAt 117 v3 1) w64 λ v65 w66=>
 U R (loadAt 3 v65) w66 λ v67 w68=>
 U R (bins .lss 3 (.tmp 34) (.tmp 36) v63 v67) w68 λ v69 w70=>
 R (.returned v69) w70
def b1_4 (_:T (R):=Q _):=
 U R (fieldAt 117 v1 0) w18 λ v33 w34=>
 U R (fieldAt 89 v33 1) w34 λ v35 w36=>
 U R (loadAt 3 v35) w36 λ v37 w38=>
 U R (fieldAt 117 v3 0) w38 λ v39 w40=>
 U R (fieldAt 89 v39 1) w40 λ v41 w42=>
 U R (loadAt 3 v41) w42 λ v43 w44=>
 U R (bins .neq 3 (.tmp 21) (.tmp 24) v37 v43) w44 λ v45 w46=>
 SPL v45
 (b1_2 R v1 v3 w46)
 (b1_3 R v1 v3 w46)
def b1 (_:T (R):=Q _):=
 U R (box 117 x0) w λ v1 w2=>
 U R (box 117 x1) w2 λ v3 w4=>
 U R (fieldAt 117 v1 0) w4 λ v5 w6=>
 U R (fieldAt 89 v5 0) w6 λ v7 w8=>
 U R (loadAt 3 v7) w8 λ v9 w10=>
 U R (fieldAt 117 v3 0) w10 λ v11 w12=>
 U R (fieldAt 89 v11 0) w12 λ v13 w14=>
 U R (loadAt 3 v13) w14 λ v15 w16=>
 U R (bins .neq 3 (.tmp 7) (.tmp 10) v9 v15) w16 λ v17 w18=>
 SPL v17
 (b1_1 R v1 v3 w18)
 (b1_4 R v1 v3 w18)
theorem tie (R:EP):TI prog R (Zp f170) (QQ (λ z w=>R (.returned (z 4)) w)) λ z w=>b1 R (z 0) (z 1) w:=ofT
def run (R:EP)(a0 a1:Value)(w:World):=b1 R a0 a1 w
theorem ct:Cta2 prog id run:=Zcd call170 func170 λ R a0 a1 w h=>tie R _ w h
attribute [irreducible,go_sem] b1_1 b1_2 b1_3 b1_4 b1 run
end Zcs
namespace Zm
variable (R:EP) (C6:Value->VP) (C16:Value->VP) (x0 x1 x4 x6 x8 x9 x21 x22 x23 x48 x49 x50 v1 v5 v7:Value) (w w2 w6 w17 w21:World)
def b3 (_:T (R):=Q _):=
 K R Zbx.id #[x6] w λ v1 w2=>
 R (.returned (.tuple #[v1,(.int .i64 0)])) w2
def b9 (_:T (R,C6):=Q _):=
 U R (bC .add 3 23 1 x23) w λ v1 w2=>
 C6 x6 v1 w2
def b13_1 (_:T (R,C6):=Q _):=
 U R (buildSlice 50 1 #[(0,v1)]) w2 λ v3 w4=>
 U R (append_ #[50,50] 50 #[x6,v3]) w4 λ v5 w6=>
 b9 R C6 v5 x23 w6
def b13 (_:T (R,C6):=Q _):=
 K R Zbt.id #[x9] w λ v1 w2=>
 b13_1 R C6 x6 x23 v1 w2
def b18 (_:T (R,C6,C16):=Q _):=
 U R (bC .add 3 50 1 x50) w λ v1 w2=>
 C16 x9 v1 w2
def b17_1 (_:T (R,C6,C16):=Q _):=
 U R (fieldAt 99 v7 0) w21 λ v22 w23=>
 U R (loadAt 3 v22) w23 λ v24 w25=>
 U R (buildSlice 24 1 #[(0,v24)]) w25 λ v26 w27=>
 U R (append_ #[24,24] 24 #[x9,v26]) w27 λ v28 w29=>
 b18 R C6 C16 v28 x50 w29
def b17_2 (_:T (R,C6,C16):=Q _):=
 U R (indexAt 93 x48 x50) w2 λ v3 w4=>
 U R (loadAt 99 v3) w4 λ v5 w6=>
 U R (alloc 99 true (.tuple #[])) w6 λ v7 w8=>
 RUNU prog R (storeAt 99 v7 v5) w8 λ w9=>
 U R (fieldAt 99 v7 0) w9 λ v10 w11=>
 U R (loadAt 3 v10) w11 λ v12 w13=>
 U R (fieldAt 27 x1 0) w13 λ v14 w15=>
 U R (loadAt 22 v14) w15 λ v16 w17=>
 U R (len_ #[22] 3 #[v16]) w17 λ v18 w19=>
 U R (bins .lss 3 (.tmp 55) (.tmp 58) v12 v18) w19 λ v20 w21=>
 SPL v20
 (b17_1 R C6 C16 x9 x50 v7 w21)
 (b18 R C6 C16 x9 x50 w21)
def b17 (_:T (R,C6,C16):=Q _):=
 U R (bins .lss 3 (.tmp 50) (.tmp 49) x50 x49) w λ v1 w2=>
 SPL v1
 (b17_2 R C6 C16 x1 x9 x48 x50 w2)
 (b13 R C6 x6 x9 x23 w2)
def l16 (_:T (R,C6):=Q _):Prop :=
 LP2 (λ C16 y9 y50 w0=>b17 R C6 C16 x1 x6 y9 x23 x48 x49 y50 w0) x9 x50 w
theorem l16_intro:LS2 (λ C16 y9 y50 w0=>b17 R C6 C16 x1 x6 y9 x23 x48 x49 y50 w0) x9 x50 w (l16 R C6 x1 x6 x9 x23 x48 x49 x50 w):=LI2 _ x9 x50 w
def b14 (_:T (R,C6):=Q _):=
 NILC x4 λ v1=>
 Y (fieldAt 340 v1 1) λ v2=>
 Y (fieldAt 34 v2 0) λ v3=>
 L (loadAt 32 v3) w.drew λ v4=>
 NILC x4 λ v5=>
 Y (fieldAt 340 v5 2) λ v6=>
 L (loadAt 185 v6) w.drew λ v7=>
 L (loadAt 190 x8) w.drew λ v8=>
 L (lookup 185 v7 v8 false) w.drew λ v9=>
 Y (indexAt 32 v4 v9) λ v10=>
 Y (fieldAt 95 v10 1) λ v11=>
 L (loadAt 93 v11) w.drew λ v12=>
 L (len_ #[93] 3 #[v12]) w.drew λ v13=>
 l16 R C6 x1 x6 x9 x23 v12 v13 (.int .i64 0) w.drew
def b11_1 (_:T (R,C6):=Q _):=
 U R (buildSlice 24 1 #[(0,(.int .i64 0))]) w17 λ v18 w19=>
 U R (append_ #[24,24] 24 #[(.slice none 0 0),v18]) w19 λ v20 w21=>
 b14 R C6 x1 x4 x6 v5 v20 x23 w21
def b11 (_:T (R,C6):=Q _):=
 U R (indexAt 184 x21 x23) w λ v1 w2=>
 U R (loadAt 190 v1) w2 λ v3 w4=>
 U R (alloc 190 true (.tuple #[])) w4 λ v5 w6=>
 RUNU prog R (storeAt 190 v5 v3) w6 λ w7=>
 U R (loadAt 190 v5) w7 λ v8 w9=>
 U R (fieldAt 27 x1 3) w9 λ v10 w11=>
 U R (loadAt 3 v10) w11 λ v12 w13=>
 U R (build 190 #[(1,v12)]) w13 λ v14 w15=>
 U R (bins .eql 190 (.tmp 27) (.tmp 30) v8 v14) w15 λ v16 w17=>
 SPL v16
 (b11_1 R C6 x1 x4 x6 x23 v5 w17)
 (b14 R C6 x1 x4 x6 v5 (.slice none 0 0) x23 w17)
def b7 (_:T (R,C6):=Q _):=
 U R (bins .lss 3 (.tmp 23) (.tmp 22) x23 x22) w λ v1 w2=>
 SPL v1
 (b11 R C6 x1 x4 x6 x21 x23 w2)
 (b3 R x6 w2)
def l6 (_:T (R):=Q _):Prop :=
 LP2 (λ C6 y6 y23 w0=>b7 R C6 x1 x4 y6 x21 x22 y23 w0) x6 x23 w
theorem l6_intro:LS2 (λ C6 y6 y23 w0=>b7 R C6 x1 x4 y6 x21 x22 y23 w0) x6 x23 w (l6 R x1 x4 x6 x21 x22 x23 w):=LI2 _ x6 x23 w
def b4 (_:T (R):=Q _):=
 K R Zy.id #[x4] w λ v1 w2=>
 U R (len_ #[184] 3 #[v1]) w2 λ v3 w4=>
 l6 R x1 x4 x6 v1 v3 (.int .i64 0) w4
def b1_1 (_:T (R):=Q _):=
 U R (extract v5 0) w6 λ v7 w8=>
 U R (extract v5 1) w8 λ v9 w10=>
 U R (bC .neq 29 17 0 v9) w10 λ v11 w12=>
 SPL v11
 (R (.returned (.tuple #[(.slice none 0 0),v9])) w12)
 (b4 R v1 v7 (.slice none 0 0) w12)
def b1 (_:T (R):=Q _):=
 U R (box 27 x0) w λ v1 w2=>
 U R (loadAt 27 v1) w2 λ v3 w4=>
 K R Zby.id #[v3] w4 λ v5 w6=>
 b1_1 R v1 v5 w6
theorem tie (R:EP):TI prog R (Zp f138) (QQ (λ z w=>R (.returned (.tuple #[(z 2),(z 3)])) w)) λ z w=>b1 R (z 0) w:=aT 3 (λ z w=>b4 R (z 1) (z 4) (z 6) w) (sT (λ z w=>b3 R (z 6) w) (aT 0 (λ z w=>l6 R (z 1) (z 4) (z 6) (z 21) (z 22) (z 23) w) (Zk 0 (lT2 6 23 (λ z C6 y6 y23 w0=>b7 R C6 (z 1) (z 4) y6 (z 21) (z 22) y23 w0) λ C6=>aT 1 (λ z w=>b11 R C6 (z 1) (z 4) (z 6) (z 21) (z 23) w) (sT (λ z w=>b9 R C6 (z 6) (z 23) w) (Zk 1 (aT 2 (λ z w=>b14 R C6 (z 1) (z 4) (z 6) (z 8) (z 9) (z 23) w) (sT (λ z w=>b13 R C6 (z 6) (z 9) (z 23) w) (aT 0 (λ z w=>l16 R C6 (z 1) (z 6) (z 9) (z 23) (z 48) (z 49) (z 50) w) (Zk 2 (lT2 9 50 (λ z C16 y9 y50 w0=>b17 R C6 C16 (z 1) (z 6) y9 (z 23) (z 48) (z 49) y50 w0) λ C16=>aT 2 (λ z w=>b18 R C6 C16 (z 9) (z 50) w) ofT))) ofT))) ofT)))) ofT)
def run (R:EP)(a0:Value)(w:World):=b1 R a0 w
theorem ct:Cta1 prog id run:=Zem call138 func138 λ R a0 w h=>tie R _ w h
attribute [irreducible] l16 l6
attribute [irreducible,go_sem] b3 b9 b13_1 b13 b18 b17_1 b17_2 b17 b14 b11_1 b11 b7 b4 b1_1 b1 run
end Zm
namespace Zei
variable (R:EP) (x0 v5:Value) (w w6:World)
def b1_1 (_:T (R):=Q _):=
 U R (extract v5 0) w6 λ v7 w8=>
 U R (extract v5 1) w8 λ v9 w10=>
 U R (bC .neq 29 11 0 v9) w10 λ v11 w12=>
 SPL v11
 (R (.returned (.tuple #[(.slice none 0 0),v9])) w12)
 (K R Zy.id #[v7] w12 λ v13 w14=>
 R (.returned (.tuple #[v13,(.int .i64 0)])) w14)
def b1 (_:T (R):=Q _):=
 U R (box 27 x0) w λ v1 w2=>
 U R (loadAt 27 v1) w2 λ v3 w4=>
 K R Zby.id #[v3] w4 λ v5 w6=>
 b1_1 R v5 w6
theorem tie (R:EP):TI prog R (Zp f143) (QQ (λ z w=>R (.returned (.tuple #[(z 2),(z 3)])) w)) λ z w=>b1 R (z 0) w:=ofT
def run (R:EP)(a0:Value)(w:World):=b1 R a0 w
theorem ct:Cta1 prog id run:=Zem call143 func143 λ R a0 w h=>tie R _ w h
attribute [irreducible,go_sem] b1_1 b1 run
end Zei
namespace Zby
variable (R:EP) (C6:VP) (C13:VP) (x0 x4 x6 x7 x25 x26 x27 x33 x34 x35 v1 v5 v11:Value) (w w2 w6 w15:World)
def b3 (_:T (R):=Q _):=
 R (.returned (.tuple #[x6,(.int .i64 0)])) w
def b9 (_:T (R,C6):=Q _):=
 U R (bC .add 3 27 1 x27) w λ v1 w2=>
 C6 v1 w2
def b14_1 (_:T (R,C13):=Q _):=
 U R (indexAt 93 x33 x35) w2 λ v3 w4=>
 U R (loadAt 99 v3) w4 λ v5 w6=>
 U R (alloc 99 true (.tuple #[])) w6 λ v7 w8=>
 RUNU prog R (storeAt 99 v7 v5) w8 λ w9=>
 NILC x6 λ v10=>
 Y (fieldAt 340 v10 2) λ v11=>
 L (loadAt 185 v11) w9.drew λ v12=>
 Y (fieldAt 99 v7 0) λ v13=>
 L (loadAt 3 v13) w9.drew λ v14=>
 Y (build 190 #[(0,x7),(1,v14)]) λ v15=>
 Y (fieldAt 99 v7 1) λ v16=>
 L (loadAt 3 v16) w9.drew λ v17=>
 RUNU prog R (mapUpdate 185 v12 v15 v17) w9.drew λ w18=>
 U R (bC .add 3 35 1 x35) w18 λ v19 w20=>
 C13 v19 w20
def b14 (_:T (R,C6,C13):=Q _):=
 U R (bins .lss 3 (.tmp 35) (.tmp 34) x35 x34) w λ v1 w2=>
 SPL v1
 (b14_1 R C13 x6 x7 x33 x35 w2)
 (b9 R C6 x27 w2)
def l13 (_:T (R,C6):=Q _):Prop :=
 LP1 (λ C13 y35 w0=>b14 R C6 C13 x6 x7 x27 x33 x34 y35 w0) x35 w
theorem l13_intro:LS1 (λ C13 y35 w0=>b14 R C6 C13 x6 x7 x27 x33 x34 y35 w0) x35 w (l13 R C6 x6 x7 x27 x33 x34 x35 w):=LI1 _ x35 w
def b11 (_:T (R,C6):=Q _):=
 U R (indexAt 32 x25 x27) w λ v1 w2=>
 U R (loadAt 95 v1) w2 λ v3 w4=>
 U R (alloc 95 true (.tuple #[])) w4 λ v5 w6=>
 RUNU prog R (storeAt 95 v5 v3) w6 λ w7=>
 U R (fieldAt 95 v5 1) w7 λ v8 w9=>
 U R (loadAt 93 v8) w9 λ v10 w11=>
 U R (len_ #[93] 3 #[v10]) w11 λ v12 w13=>
 l13 R C6 x6 x27 x27 v10 v12 (.int .i64 0) w13
def b7 (_:T (R,C6):=Q _):=
 U R (bins .lss 3 (.tmp 27) (.tmp 26) x27 x26) w λ v1 w2=>
 SPL v1
 (b11 R C6 x6 x25 x27 w2)
 (b3 R x6 w2)
def l6 (_:T (R):=Q _):Prop :=
 LP1 (λ C6 y27 w0=>b7 R C6 x6 x25 x26 y27 w0) x27 w
theorem l6_intro:LS1 (λ C6 y27 w0=>b7 R C6 x6 x25 x26 y27 w0) x27 w (l6 R x6 x25 x26 x27 w):=LI1 _ x27 w
def b4 (_:T (R):=Q _):=
 U R (fieldAt 34 x4 0) w λ v1 w2=>
 U R (loadAt 32 v1) w2 λ v3 w4=>
 U R (len_ #[32] 3 #[v3]) w4 λ v5 w6=>
 l6 R x6 v3 v5 (.int .i64 0) w6
def b1_1 (_:T (R):=Q _):=
 U R (loadAt 27 v1) w15 λ v16 w17=>
 U R (loadAt 34 v11) w17 λ v18 w19=>
 U R (makeMap 185 none) w19 λ v20 w21=>
 U R (build 340 #[(0,v16),(1,v18),(2,v20)]) w21 λ v22 w23=>
 U R (box 340 v22) w23 λ v24 w25=>
 b4 R v11 v24 w25
def b1_2 (_:T (R):=Q _):=
 U R (extract v5 0) w6 λ v7 w8=>
 U R (extract v5 1) w8 λ v9 w10=>
 U R (alloc 34 true (.tuple #[])) w10 λ v11 w12=>
 RUNU prog R (storeAt 34 v11 v7) w12 λ w13=>
 U R (bC .neq 29 16 0 v9) w13 λ v14 w15=>
 SPL v14
 (R (.returned (.tuple #[(.pointer none),v9])) w15)
 (b1_1 R v1 v11 w15)
def b1 (_:T (R):=Q _):=
 U R (box 27 x0) w λ v1 w2=>
 U R (loadAt 27 v1) w2 λ v3 w4=>
 K R Zn.id #[v3] w4 λ v5 w6=>
 b1_2 R v1 v5 w6
theorem tie (R:EP):TI prog R (Zp f205) (QQ (λ z w=>R (.returned (.tuple #[(z 2),(z 3)])) w)) λ z w=>b1 R (z 0) w:=aT 3 (λ z w=>b4 R (z 4) (z 6) w) (sT (λ z w=>b3 R (z 6) w) (aT 0 (λ z w=>l6 R (z 6) (z 25) (z 26) (z 27) w) (Zk 0 (lT1 27 (λ z C6 y27 w0=>b7 R C6 (z 6) (z 25) (z 26) y27 w0) λ C6=>aT 1 (λ z w=>b11 R C6 (z 6) (z 25) (z 27) w) (sT (λ z w=>b9 R C6 (z 27) w) (Zk 1 (aT 1 (λ z w=>l13 R C6 (z 6) (z 7) (z 27) (z 33) (z 34) (z 35) w) (Zk 2 (lT1 35 (λ z C13 y35 w0=>b14 R C6 C13 (z 6) (z 7) (z 27) (z 33) (z 34) y35 w0) λ C13=>ofT)))) ofT)))) ofT)
def run (R:EP)(a0:Value)(w:World):=b1 R a0 w
theorem ct:Cta1 prog id run:=Zem call205 func205 λ R a0 w h=>tie R _ w h
attribute [irreducible] l13 l6
attribute [irreducible,go_sem] b3 b9 b14_1 b14 b11 b7 b4 b1_1 b1_2 b1 run
end Zby
namespace Zy
variable (R:EP) (C6:Value->VP) (C13:Value->VP) (x0 x3 x4 x12 x13 x14 x20 x21 x22 v7:Value) (w w2 w9:World)
def b3 (_:T (R):=Q _):=
 K R Zaw.id #[x3] w λ v1 w2=>
 R (.returned v1) w2
def b9 (_:T (R,C6):=Q _):=
 U R (bC .add 3 14 1 x14) w λ v1 w2=>
 C6 x3 v1 w2
def b15 (_:T (R,C6,C13):=Q _):=
 U R (bC .add 3 22 1 x22) w λ v1 w2=>
 C13 x3 v1 w2
def b14_1 (_:T (R,C6,C13):=Q _):=
 U R (fieldAt 99 v7 0) w9.drew λ v18 w19=>
 U R (loadAt 3 v18) w19 λ v20 w21=>
 U R (build 190 #[(0,x4),(1,v20)]) w21 λ v22 w23=>
 U R (buildSlice 184 1 #[(0,v22)]) w23 λ v24 w25=>
 U R (append_ #[184,184] 184 #[x3,v24]) w25 λ v26 w27=>
 b15 R C6 C13 v26 x22 w27
def b14_2 (_:T (R,C6,C13):=Q _):=
 U R (indexAt 93 x20 x22) w2 λ v3 w4=>
 U R (loadAt 99 v3) w4 λ v5 w6=>
 U R (alloc 99 true (.tuple #[])) w6 λ v7 w8=>
 RUNU prog R (storeAt 99 v7 v5) w8 λ w9=>
 Y (fieldAt 99 v7 0) λ v10=>
 L (loadAt 3 v10) w9.drew λ v11=>
 NILC x0 λ v12=>
 Y (fieldAt 340 v12 0) λ v13=>
 Y (fieldAt 27 v13 0) λ v14=>
 L (loadAt 22 v14) w9.drew λ v15=>
 L (len_ #[22] 3 #[v15]) w9.drew λ v16=>
 Y (bins .geq 3 (.tmp 27) (.tmp 33) v11 v16) λ v17=>
 SPL v17
 (b14_1 R C6 C13 x3 x4 x22 v7 w9)
 (b15 R C6 C13 x3 x22 w9.drew)
def b14 (_:T (R,C6,C13):=Q _):=
 U R (bins .lss 3 (.tmp 22) (.tmp 21) x22 x21) w λ v1 w2=>
 SPL v1
 (b14_2 R C6 C13 x0 x3 x4 x20 x22 w2)
 (b9 R C6 x3 x14 w2)
def l13 (_:T (R,C6):=Q _):Prop :=
 LP2 (λ C13 y3 y22 w0=>b14 R C6 C13 x0 y3 x4 x14 x20 x21 y22 w0) x3 x22 w
theorem l13_intro:LS2 (λ C13 y3 y22 w0=>b14 R C6 C13 x0 y3 x4 x14 x20 x21 y22 w0) x3 x22 w (l13 R C6 x0 x3 x4 x14 x20 x21 x22 w):=LI2 _ x3 x22 w
def b11 (_:T (R,C6):=Q _):=
 U R (indexAt 32 x12 x14) w λ v1 w2=>
 U R (loadAt 95 v1) w2 λ v3 w4=>
 U R (alloc 95 true (.tuple #[])) w4 λ v5 w6=>
 RUNU prog R (storeAt 95 v5 v3) w6 λ w7=>
 U R (fieldAt 95 v5 1) w7 λ v8 w9=>
 U R (loadAt 93 v8) w9 λ v10 w11=>
 U R (len_ #[93] 3 #[v10]) w11 λ v12 w13=>
 l13 R C6 x0 x3 x14 x14 v10 v12 (.int .i64 0) w13
def b7 (_:T (R,C6):=Q _):=
 U R (bins .lss 3 (.tmp 14) (.tmp 13) x14 x13) w λ v1 w2=>
 SPL v1
 (b11 R C6 x0 x3 x12 x14 w2)
 (b3 R x3 w2)
def l6 (_:T (R):=Q _):Prop :=
 LP2 (λ C6 y3 y14 w0=>b7 R C6 x0 y3 x12 x13 y14 w0) x3 x14 w
theorem l6_intro:LS2 (λ C6 y3 y14 w0=>b7 R C6 x0 y3 x12 x13 y14 w0) x3 x14 w (l6 R x0 x3 x12 x13 x14 w):=LI2 _ x3 x14 w
def b4 (_:T (R):=Q _):=
 NILC x0 λ v1=>
 U R (fieldAt 340 v1 1) w λ v2 w3=>
 U R (fieldAt 34 v2 0) w3 λ v4 w5=>
 U R (loadAt 32 v4) w5 λ v6 w7=>
 U R (len_ #[32] 3 #[v6]) w7 λ v8 w9=>
 l6 R x0 x3 v6 v8 (.int .i64 0) w9
def b1 (_:T (R):=Q _):=
 b4 R x0 (.slice none 0 0) w
theorem tie (R:EP):TI prog R (Zp f206) (QQ (λ z w=>R (.returned (z 2)) w)) λ z w=>b1 R (z 0) w:=aT 1 (λ z w=>b4 R (z 0) (z 3) w) (sT (λ z w=>b3 R (z 3) w) (aT 0 (λ z w=>l6 R (z 0) (z 3) (z 12) (z 13) (z 14) w) (Zk 0 (lT2 3 14 (λ z C6 y3 y14 w0=>b7 R C6 (z 0) y3 (z 12) (z 13) y14 w0) λ C6=>aT 1 (λ z w=>b11 R C6 (z 0) (z 3) (z 12) (z 14) w) (sT (λ z w=>b9 R C6 (z 3) (z 14) w) (Zk 1 (aT 1 (λ z w=>l13 R C6 (z 0) (z 3) (z 4) (z 14) (z 20) (z 21) (z 22) w) (Zk 2 (lT2 3 22 (λ z C13 y3 y22 w0=>b14 R C6 C13 (z 0) y3 (z 4) (z 14) (z 20) (z 21) y22 w0) λ C13=>aT 2 (λ z w=>b15 R C6 C13 (z 3) (z 22) w) ofT)))) ofT)))) ofT)
def run (R:EP)(a0:Value)(w:World):=b1 R a0 w
theorem ct:Cta1 prog id run:=Zbj call206 func206 λ R a0 w h=>tie R _ w h
attribute [irreducible] l13 l6
attribute [irreducible,go_sem] b3 b9 b15 b14_1 b14_2 b14 b11 b7 b4 b1 run
end Zy
namespace Zc6
variable (R:EP) (x0 v1 v10 v11 v12 v13:Value) (w w8 w14:World)
def b1_1 (_:T (R):=Q _):=
 Sem.run prog (len_ #[22] 3 #[v11]) w14 = .ok v12 w14/\(Sem.run prog (loadAt 22 v10) w14 = .ok v11 w14/\(NILC v13 λ v15=>
 Y (fieldAt 317 v15 1) λ v16=>
 L (loadAt 105 v16) w14 λ v17=>
 Y (sliceAt 105 v17 (some v12) none none) λ v18=>
 R (.returned (.tuple #[v18,(.int .i64 0)])) w14))
def b1_2 (_:T (R):=Q _):=
 L (loadAt 27 v1) w8.drew λ v9=>
 Y (fieldAt 27 v1 0) λ v10=>
 L (loadAt 22 v10) w8.drew λ v11=>
 L (len_ #[22] 3 #[v11]) w8.drew λ v12=>
 K R Zaj.id #[v9] w8.drew λ v13 w14=>
 b1_1 R v10 v11 v12 v13 w14
def b1 (_:T (R):=Q _):=
 U R (box 27 x0) w λ v1 w2=>
 U R (loadAt 27 v1) w2 λ v3 w4=>
 K R Zd8.id #[v3] w4 λ v5 w6=>
 U R (Op.unary .not v5) w6 λ v7 w8=>
 SPL v7
 (R (.returned (.tuple #[(.slice none 0 0),(.int .i64 1)])) w8)
 (b1_2 R v1 w8)
theorem tie (R:EP):TI prog R (Zp f124) (QQ (λ z w=>R (.returned (.tuple #[(z 2),(z 3)])) w)) λ z w=>b1 R (z 0) w:=ofT
def run (R:EP)(a0:Value)(w:World):=b1 R a0 w
theorem ct:Cta1 prog id run:=Zem call124 func124 λ R a0 w h=>tie R _ w h
attribute [irreducible,go_sem] b1_1 b1_2 b1 run
end Zc6
namespace Zd8
variable (R:EP) (x0 v1:Value) (w w6:World)
def b1_1 (_:T (R):=Q _):=
 U R (loadAt 27 v1) w6 λ v7 w8=>
 K R Zd6.id #[v7] w8 λ v9 w10=>
 R (.returned v9) w10
def b1 (_:T (R):=Q _):=
 U R (box 27 x0) w λ v1 w2=>
 U R (loadAt 27 v1) w2 λ v3 w4=>
 K R Zev.id #[v3] w4 λ v5 w6=>
 SPL v5
 (R (.returned (.bool true)) w6)
 (b1_1 R v1 w6)
theorem tie (R:EP):TI prog R (Zp f195) (QQ (λ z w=>R (.returned (z 2)) w)) λ z w=>b1 R (z 0) w:=ofT
def run (R:EP)(a0:Value)(w:World):=b1 R a0 w
theorem ct:Cta1 prog id run:=Zbj call195 func195 λ R a0 w h=>tie R _ w h
attribute [irreducible,go_sem] b1_1 b1 run
end Zd8
namespace Zaj
variable (R:EP) (C7:VP) (C12:Value->VP) (C21:VP) (x0 x1 x3 x4 x6 x8 x23 x24 x46 x47 x48 x81 v4 v5 v11 v17 v21:Value) (w w2 w12 w18 w22:World)
def b4 (_:T (R):=Q _):=
 R (.returned x4) w
def b15 (_:T (R,C7,C12):=Q _):=
 U R (bC .add 3 48 1 x48) w λ v1 w2=>
 C12 x6 v1 w2
def b18_1 (_:T (R,C7,C12):=Q _):=
 NILC x4 λ v1=>
 Y (fieldAt 317 v1 1) λ v2=>
 L (loadAt 105 v2) w.drew λ v3=>
 Y (fieldAt 103 x8 0) λ v4=>
 L (loadAt 3 v4) w.drew λ v5=>
 Y (indexAt 105 v3 v5) λ v6=>
 RUNU prog R (storeAt 4 v6 (.bool true)) w.drew λ w7=>
 U R (bC .add 3 89 1 x6) w7 λ v8 w9=>
 b15 R C7 C12 v8 x48 w9
def b18 (_:T (R,C7,C12):=Q _):=
 SPL x81
 (b18_1 R C7 C12 x4 x6 x8 x48 w)
 (b15 R C7 C12 x6 x48 w)
def b17_1 (_:T (R,C7,C12):=Q _):=
 NILC x4 λ v23=>
 Y (fieldAt 317 v23 1) λ v24=>
 L (loadAt 105 v24) w22.drew λ v25=>
 Y (fieldAt 103 v5 0) λ v26=>
 L (loadAt 3 v26) w22.drew λ v27=>
 Y (indexAt 105 v25 v27) λ v28=>
 L (loadAt 4 v28) w22.drew λ v29=>
 Y (Op.unary .not v29) λ v30=>
 b18 R C7 C12 x4 v21 v5 x48 v30 w22.drew
def b17_2 (_:T (R,C7,C12):=Q _):=
 Y (extract v17 0) λ v19=>
 Y (extract v17 1) λ v20=>
 U R (bins .add 3 (.tmp 67) (.tmp 68) x6 v19) w18 λ v21 w22=>
 SPL v20
 (b17_1 R C7 C12 x4 x48 v5 v21 w22)
 (b18 R C7 C12 x4 v21 v5 x48 (.bool false) w22.drew)
def b17 (_:T (R,C7,C12):=Q _):=
 U R (indexAt 25 x46 x48) w λ v1 w2=>
 U R (loadAt 103 v1) w2 λ v3 w4=>
 U R (alloc 103 true (.tuple #[])) w4 λ v5 w6=>
 RUNU prog R (storeAt 103 v5 v3) w6 λ w7=>
 NILC x4 λ v8=>
 Y (fieldAt 317 v8 2) λ v9=>
 L (loadAt 158 v9) w7.drew λ v10=>
 Y (fieldAt 103 v5 0) λ v11=>
 L (loadAt 3 v11) w7.drew λ v12=>
 Y (indexAt 158 v10 v12) λ v13=>
 L (loadAt 74 v13) w7.drew λ v14=>
 Y (fieldAt 103 v5 1) λ v15=>
 L (loadAt 24 v15) w7.drew λ v16=>
 K R Zbl.id #[x4,v14,v16] w7.drew λ v17 w18=>
 b17_2 R C7 C12 x4 x6 x48 v5 v17 w18
def b13 (_:T (R,C7,C12):=Q _):=
 U R (bins .lss 3 (.tmp 48) (.tmp 47) x48 x47) w λ v1 w2=>
 SPL v1
 (b17 R C7 C12 x4 x6 x46 x48 w2)
 (C7 x6 w2)
def l12 (_:T (R,C7):=Q _):Prop :=
 LP2 (λ C12 y6 y48 w0=>b13 R C7 C12 x4 y6 x46 x47 y48 w0) x6 x48 w
theorem l12_intro:LS2 (λ C12 y6 y48 w0=>b13 R C7 C12 x4 y6 x46 x47 y48 w0) x6 x48 w (l12 R C7 x4 x6 x46 x47 x48 w):=LI2 _ x6 x48 w
def b10 (_:T (R,C7):=Q _):=
 U R (fieldAt 27 x1 4) w λ v1 w2=>
 U R (loadAt 25 v1) w2 λ v3 w4=>
 U R (len_ #[25] 3 #[v3]) w4 λ v5 w6=>
 l12 R C7 x4 (.int .i64 0) v3 v5 (.int .i64 0) w6
def b8 (_:T (R,C7):=Q _):=
 U R (bC .gtr 3 43 0 x6) w λ v1 w2=>
 SPL v1
 (b10 R C7 x1 x4 w2)
 (b4 R x4 w2)
def l7 (_:T (R):=Q _):Prop :=
 LP1 (λ C7 y6 w0=>b8 R C7 x1 x4 y6 w0) x6 w
theorem l7_intro:LS1 (λ C7 y6 w0=>b8 R C7 x1 x4 y6 w0) x6 w (l7 R x1 x4 x6 w):=LI1 _ x6 w
def b5 (_:T (R):=Q _):=
 l7 R x1 x4 (.int .i64 1) w
def b22_1 (_:T (R,C21):=Q _):=
 Sem.run prog (loadAt 158 v4) w12 = .ok v5 w12/\(U R (buildSlice 158 1 #[(0,v11)]) w12 λ v13 w14=>
 Sem.run prog (loadAt 158 v4) w14 = .ok v5 w14/\(U R (append_ #[158,158] 158 #[v5,v13]) w14 λ v15 w16=>
 NILC x4 λ v17=>
 Y (fieldAt 317 v17 2) λ v18=>
 RUNU prog R (storeAt 158 v18 v15) w16 λ w19=>
 U R (bC .add 3 24 1 x24) w19 λ v20 w21=>
 C21 v20 w21))
def b22_2 (_:T (R,C21):=Q _):=
 NILC x4 λ v3=>
 Y (fieldAt 317 v3 2) λ v4=>
 L (loadAt 158 v4) w2.drew λ v5=>
 Y (fieldAt 27 x1 0) λ v6=>
 L (loadAt 22 v6) w2.drew λ v7=>
 L (len_ #[22] 3 #[v7]) w2.drew λ v8=>
 U R (buildSlice 24 1 #[(0,x24)]) w2.drew λ v9 w10=>
 Sem.run prog (len_ #[22] 3 #[v7]) w10 = .ok v8 w10/\(Sem.run prog (loadAt 22 v6) w10 = .ok v7 w10/\(Sem.run prog (loadAt 158 v4) w10 = .ok v5 w10/\(K R Zfp.id #[v8,v9] w10 λ v11 w12=>
 b22_1 R C21 x4 x24 v4 v5 v11 w12)))
def b22 (_:T (R,C21):=Q _):=
 U R (bins .lss 3 (.tmp 24) (.tmp 23) x24 x23) w λ v1 w2=>
 SPL v1
 (b22_2 R C21 x1 x4 x24 w2)
 (b5 R x1 x4 w2)
def l21 (_:T (R):=Q _):Prop :=
 LP1 (λ C21 y24 w0=>b22 R C21 x1 x4 x23 y24 w0) x24 w
theorem l21_intro:LS1 (λ C21 y24 w0=>b22 R C21 x1 x4 x23 y24 w0) x24 w (l21 R x1 x4 x23 x24 w):=LI1 _ x24 w
def b19 (_:T (R):=Q _):=
 l21 R x1 x4 x3 (.int .i64 0) w
def b1 (_:T (R):=Q _):=
 U R (box 27 x0) w λ v1 w2=>
 U R (fieldAt 27 v1 0) w2 λ v3 w4=>
 U R (loadAt 22 v3) w4 λ v5 w6=>
 U R (len_ #[22] 3 #[v5]) w6 λ v7 w8=>
 U R (fieldAt 27 v1 1) w8 λ v9 w10=>
 U R (loadAt 23 v9) w10 λ v11 w12=>
 U R (len_ #[23] 3 #[v11]) w12 λ v13 w14=>
 U R (bins .add 3 (.tmp 13) (.tmp 16) v7 v13) w14 λ v15 w16=>
 L (loadAt 27 v1) w16.drew λ v17=>
 U R (makeSlice 105 v15 v15) w16.drew λ v18 w19=>
 Sem.run prog (loadAt 27 v1) w19 = .ok v17 w19/\(Y (build 317 #[(0,v17),(1,v18)]) λ v20=>
 U R (box 317 v20) w19 λ v21 w22=>
 b19 R v1 v15 v21 w22)
theorem tie (R:EP):TI prog R (Zp f196) (QQ (λ z w=>R (.returned (z 2)) w)) λ z w=>b1 R (z 0) w:=aT 2 (λ z w=>b19 R (z 1) (z 3) (z 4) w) (sT (λ z w=>b5 R (z 1) (z 4) w) (aT 0 (λ z w=>l21 R (z 1) (z 4) (z 23) (z 24) w) (Zk 0 (lT1 24 (λ z C21 y24 w0=>b22 R C21 (z 1) (z 4) (z 23) y24 w0) λ C21=>ofT))) (sT (λ z w=>b4 R (z 4) w) (aT 0 (λ z w=>l7 R (z 1) (z 4) (z 6) w) (Zk 2 (lT1 6 (λ z C7 y6 w0=>b8 R C7 (z 1) (z 4) y6 w0) λ C7=>aT 0 (λ z w=>b10 R C7 (z 1) (z 4) w) (Zk 3 (aT 1 (λ z w=>l12 R C7 (z 4) (z 6) (z 46) (z 47) (z 48) w) (Zk 4 (lT2 6 48 (λ z C12 y6 y48 w0=>b13 R C7 C12 (z 4) y6 (z 46) (z 47) y48 w0) λ C12=>aT 1 (λ z w=>b17 R C7 C12 (z 4) (z 6) (z 46) (z 48) w) (sT (λ z w=>b15 R C7 C12 (z 6) (z 48) w) (Zk 5 (aT 3 (λ z w=>b18 R C7 C12 (z 4) (z 6) (z 8) (z 48) (z 81) w) ofT)) ofT)))))))) ofT))
def run (R:EP)(a0:Value)(w:World):=b1 R a0 w
theorem ct:Cta1 prog id run:=Zbj call196 func196 λ R a0 w h=>tie R _ w h
attribute [irreducible] l12 l7 l21
attribute [irreducible,go_sem] b4 b15 b18_1 b18 b17_1 b17_2 b17 b13 b10 b8 b5 b22_1 b22_2 b22 b19 b1 run
end Zaj
namespace Zbl
variable (R:EP) (C6:Value->VP) (x0 x1 x2 x8 x11 x12 x13 v5 v18:Value) (w w2 w19:World)
def b3 (_:T (R):=Q _):=
 R (.returned (.tuple #[x8,(.bool true)])) w
def b7_1 (_:T (R,C6):=Q _):=
 U R (bins .add 3 (.tmp 17) (.tmp 27) x8 v18) w19 λ v20 w21=>
 NILC x0 λ v22=>
 U R (fieldAt 317 v22 1) w21 λ v23 w24=>
 U R (loadAt 105 v23) w24 λ v25 w26=>
 U R (indexAt 105 v25 v5) w26 λ v27 w28=>
 U R (loadAt 4 v27) w28 λ v29 w30=>
 U R (Op.unary .not v29) w30 λ v31 w32=>
 SPL v31
 (R (.returned (.tuple #[v20,(.bool false)])) w32)
 (U R (bC .add 3 13 1 x13) w32 λ v33 w34=>
 C6 v20 v33 w34)
def b7_2 (_:T (R,C6):=Q _):=
 U R (indexAt 24 x11 x13) w2 λ v3 w4=>
 U R (loadAt 3 v3) w4 λ v5 w6=>
 NILC x0 λ v7=>
 U R (fieldAt 317 v7 2) w6 λ v8 w9=>
 U R (loadAt 158 v8) w9 λ v10 w11=>
 U R (indexAt 158 v10 v5) w11 λ v12 w13=>
 U R (loadAt 74 v12) w13 λ v14 w15=>
 U R (buildSlice 158 1 #[(0,v14)]) w15 λ v16 w17=>
 K R Ze6.id #[x1,v16] w17 λ v18 w19=>
 b7_1 R C6 x0 x8 x13 v5 v18 w19
def b7 (_:T (R,C6):=Q _):=
 U R (bins .lss 3 (.tmp 13) (.tmp 12) x13 x12) w λ v1 w2=>
 SPL v1
 (b7_2 R C6 x0 x1 x8 x11 x13 w2)
 (b3 R x8 w2)
def l6 (_:T (R):=Q _):Prop :=
 LP2 (λ C6 y8 y13 w0=>b7 R C6 x0 x1 y8 x11 x12 y13 w0) x8 x13 w
theorem l6_intro:LS2 (λ C6 y8 y13 w0=>b7 R C6 x0 x1 y8 x11 x12 y13 w0) x8 x13 w (l6 R x0 x1 x8 x11 x12 x13 w):=LI2 _ x8 x13 w
def b4 (_:T (R):=Q _):=
 U R (len_ #[24] 3 #[x2]) w λ v1 w2=>
 l6 R x0 x1 x8 x2 v1 (.int .i64 0) w2
def b1 (_:T (R):=Q _):=
 b4 R x0 x1 x2 (.int .i64 0) w
theorem tie (R:EP):TI prog R (Zp f252) (QQ (λ z w=>R (.returned (.tuple #[(z 6),(z 7)])) w)) λ z w=>b1 R (z 0) (z 1) (z 2) w:=aT 1 (λ z w=>b4 R (z 0) (z 1) (z 2) (z 8) w) (sT (λ z w=>b3 R (z 8) w) (aT 0 (λ z w=>l6 R (z 0) (z 1) (z 8) (z 11) (z 12) (z 13) w) (Zk 0 (lT2 8 13 (λ z C6 y8 y13 w0=>b7 R C6 (z 0) (z 1) y8 (z 11) (z 12) y13 w0) λ C6=>ofT))) ofT)
def run (R:EP)(a0 a1 a2:Value)(w:World):=b1 R a0 a1 a2 w
theorem ct:Cta3 prog id run:=ZZ60 call252 func252 λ R a0 a1 a2 w h=>tie R _ w h
attribute [irreducible] l6
attribute [irreducible,go_sem] b3 b7_1 b7_2 b7 b4 b1 run
end Zbl
namespace Zo
variable (R:EP) (C7:VP) (C12:Value->VP) (C17:VP) (x0 x1 x3 x4 x5 x6 x7 v1 v3 v5 v7:Value) (w w6 w8 w16:World)
def b4 (_:T (R):=Q _):=
 R (.returned x3) w
def b14 (_:T (R,C7,C12):=Q _):=
 U R (bC .add 3 48 1 x7) w λ v1 w2=>
 C12 x6 v1 w2
def b13_1 (_:T (R,C7,C12):=Q _):=
 Y (fieldAt 27 x1 4) λ v9=>
 L (loadAt 25 v9) w8.drew λ v10=>
 Y (indexAt 25 v10 x7) λ v11=>
 Y (fieldAt 103 v11 1) λ v12=>
 L (loadAt 24 v12) w8.drew λ v13=>
 NILC x3 λ v14=>
 Y (fieldAt 217 v14 2) λ v15=>
 L (loadAt 170 v15) w8.drew λ v16=>
 Y (fieldAt 27 x1 4) λ v17=>
 L (loadAt 25 v17) w8.drew λ v18=>
 Y (indexAt 25 v18 x7) λ v19=>
 Y (fieldAt 103 v19 0) λ v20=>
 L (loadAt 3 v20) w8.drew λ v21=>
 Y (indexAt 170 v16 v21) λ v22=>
 L (loadAt 105 v22) w8.drew λ v23=>
 K R Zh.id #[x3,v13,v23] w8.drew λ v24 w25=>
 SPL x6
 (b14 R C7 C12 (.bool true) x7 w25)
 (b14 R C7 C12 v24 x7 w25)
def b13 (_:T (R,C7,C12):=Q _):=
 U R (fieldAt 27 x1 4) w λ v1 w2=>
 U R (loadAt 25 v1) w2 λ v3 w4=>
 U R (len_ #[25] 3 #[v3]) w4 λ v5 w6=>
 U R (bins .lss 3 (.tmp 43) (.tmp 46) x7 v5) w6 λ v7 w8=>
 SPL v7
 (b13_1 R C7 C12 x1 x3 x6 x7 w8)
 (C7 x6 w8)
def l12 (_:T (R,C7):=Q _):Prop :=
 LP2 (λ C12 y6 y7 w0=>b13 R C7 C12 x1 x3 y6 y7 w0) x6 x7 w
theorem l12_intro:LS2 (λ C12 y6 y7 w0=>b13 R C7 C12 x1 x3 y6 y7 w0) x6 x7 w (l12 R C7 x1 x3 x6 x7 w):=LI2 _ x6 x7 w
def b10 (_:T (R,C7):=Q _):=
 l12 R C7 x1 x3 (.bool false) (.int .i64 0) w
def b8 (_:T (R,C7):=Q _):=
 SPL x6
 (b10 R C7 x1 x3 w)
 (b4 R x3 w)
def l7 (_:T (R):=Q _):Prop :=
 LP1 (λ C7 y6 w0=>b8 R C7 x1 x3 y6 w0) x6 w
theorem l7_intro:LS1 (λ C7 y6 w0=>b8 R C7 x1 x3 y6 w0) x6 w (l7 R x1 x3 x6 w):=LI1 _ x6 w
def b5 (_:T (R):=Q _):=
 l7 R x1 x3 (.bool true) w
def b20 (_:T (R,C17):=Q _):=
 U R (bC .add 3 18 1 x4) w λ v1 w2=>
 C17 v1 w2
def b23 (_:T (R,C17):=Q _):=
 NILC x3 λ v1=>
 U R (fieldAt 217 v1 2) w λ v2 w3=>
 U R (loadAt 170 v2) w3 λ v4 w5=>
 U R (buildSlice 170 1 #[(0,x5)]) w5 λ v6 w7=>
 U R (append_ #[170,170] 170 #[v4,v6]) w7 λ v8 w9=>
 NILC x3 λ v10=>
 U R (fieldAt 217 v10 2) w9 λ v11 w12=>
 RUNU prog R (storeAt 170 v11 v8) w12 λ w13=>
 b20 R C17 x4 w13
def b22_1 (_:T (R,C17):=Q _):=
 U R (indexAt 105 v7 x4) w16 λ v17 w18=>
 RUNU prog R (storeAt 4 v17 (.bool true)) w18 λ w19=>
 b23 R C17 x3 x4 v7 w19
def b22 (_:T (R,C17):=Q _):=
 U R (fieldAt 27 x1 0) w λ v1 w2=>
 U R (loadAt 22 v1) w2 λ v3 w4=>
 U R (len_ #[22] 3 #[v3]) w4 λ v5 w6=>
 U R (makeSlice 105 v5 v5) w6 λ v7 w8=>
 U R (fieldAt 27 x1 0) w8 λ v9 w10=>
 U R (loadAt 22 v9) w10 λ v11 w12=>
 U R (len_ #[22] 3 #[v11]) w12 λ v13 w14=>
 U R (bins .lss 3 (.tmp 24) (.tmp 27) x4 v13) w14 λ v15 w16=>
 SPL v15
 (b22_1 R C17 x3 x4 v7 w16)
 (b23 R C17 x3 x4 v7 w16)
def b18 (_:T (R,C17):=Q _):=
 U R (loadAt 27 x1) w λ v1 w2=>
 K R Zb5.id #[v1] w2 λ v3 w4=>
 U R (bins .lss 3 (.tmp 14) (.tmp 16) x4 v3) w4 λ v5 w6=>
 SPL v5
 (b22 R C17 x1 x3 x4 w6)
 (b5 R x1 x3 w6)
def l17 (_:T (R):=Q _):Prop :=
 LP1 (λ C17 y4 w0=>b18 R C17 x1 x3 y4 w0) x4 w
theorem l17_intro:LS1 (λ C17 y4 w0=>b18 R C17 x1 x3 y4 w0) x4 w (l17 R x1 x3 x4 w):=LI1 _ x4 w
def b15 (_:T (R):=Q _):=
 l17 R x1 x3 (.int .i64 0) w
def b1_1 (_:T (R):=Q _):=
 Sem.run prog (loadAt 27 v1) w6 = .ok v3 w6/\(Y (build 217 #[(0,v3),(1,v5)]) λ v7=>
 U R (box 217 v7) w6 λ v8 w9=>
 b15 R v1 v8 w9)
def b1 (_:T (R):=Q _):=
 U R (box 27 x0) w λ v1 w2=>
 L (loadAt 27 v1) w2.drew λ v3=>
 L (loadAt 27 v1) w2.drew λ v4=>
 K R Zbe.id #[v4] w2.drew λ v5 w6=>
 b1_1 R v1 v3 v5 w6
theorem tie (R:EP):TI prog R (Zp f42) (QQ (λ z w=>R (.returned (z 2)) w)) λ z w=>b1 R (z 0) w:=aT 1 (λ z w=>b15 R (z 1) (z 3) w) (sT (λ z w=>b5 R (z 1) (z 3) w) (aT 0 (λ z w=>l17 R (z 1) (z 3) (z 4) w) (Zk 0 (lT1 4 (λ z C17 y4 w0=>b18 R C17 (z 1) (z 3) y4 w0) λ C17=>aT 0 (λ z w=>b22 R C17 (z 1) (z 3) (z 4) w) (sT (λ z w=>b20 R C17 (z 4) w) (Zk 1 (aT 1 (λ z w=>b23 R C17 (z 3) (z 4) (z 5) w) ofT)) ofT)))) (sT (λ z w=>b4 R (z 3) w) (aT 0 (λ z w=>l7 R (z 1) (z 3) (z 6) w) (Zk 2 (lT1 6 (λ z C7 y6 w0=>b8 R C7 (z 1) (z 3) y6 w0) λ C7=>aT 0 (λ z w=>b10 R C7 (z 1) (z 3) w) (Zk 3 (aT 1 (λ z w=>l12 R C7 (z 1) (z 3) (z 6) (z 7) w) (Zk 4 (lT2 6 7 (λ z C12 y6 y7 w0=>b13 R C7 C12 (z 1) (z 3) y6 y7 w0) λ C12=>aT 1 (λ z w=>b14 R C7 C12 (z 6) (z 7) w) ofT))))))) ofT))
def run (R:EP)(a0:Value)(w:World):=b1 R a0 w
theorem ct:Cta1 prog id run:=Zbj call42 func42 λ R a0 w h=>tie R _ w h
attribute [irreducible] l12 l7 l17
attribute [irreducible,go_sem] b4 b14 b13_1 b13 b10 b8 b5 b20 b23 b22_1 b22 b18 b15 b1_1 b1 run
end Zo
namespace Zbe
variable (R:EP) (C6:VP) (C11:Value->VP) (x0 x1 x3 x4 x5 v17:Value) (w w8 w21 w29:World)
def b3 (_:T (R):=Q _):=
 R (.returned x3) w
def b13 (_:T (R,C6,C11):=Q _):=
 U R (bC .add 3 17 1 x5) w λ v1 w2=>
 C11 x4 v1 w2
def b12_1 (_:T (R,C6,C11):=Q _):=
 U R (indexAt 105 x3 v17) w29 λ v30 w31=>
 RUNU prog R (storeAt 4 v30 (.bool true)) w31 λ w32=>
 b13 R C6 C11 (.bool true) x5 w32
def b12_2 (_:T (R,C6,C11):=Q _):=
 L (loadAt 27 x1) w21.drew λ v22=>
 Y (fieldAt 27 x1 4) λ v23=>
 L (loadAt 25 v23) w21.drew λ v24=>
 Y (indexAt 25 v24 x5) λ v25=>
 Y (fieldAt 103 v25 1) λ v26=>
 L (loadAt 24 v26) w21.drew λ v27=>
 K R Zap.id #[v22,x3,v27] w21.drew λ v28 w29=>
 SPL v28
 (b12_1 R C6 C11 x3 x5 v17 w29)
 (b13 R C6 C11 x4 x5 w29)
def b12_3 (_:T (R,C6,C11):=Q _):=
 Y (fieldAt 27 x1 4) λ v9=>
 L (loadAt 25 v9) w8.drew λ v10=>
 Y (indexAt 25 v10 x5) λ v11=>
 Y (fieldAt 103 v11 0) λ v12=>
 L (loadAt 3 v12) w8.drew λ v13=>
 Y (fieldAt 27 x1 0) λ v14=>
 L (loadAt 22 v14) w8.drew λ v15=>
 L (len_ #[22] 3 #[v15]) w8.drew λ v16=>
 Y (bins .sub 3 (.tmp 24) (.tmp 27) v13 v16) λ v17=>
 U R (indexAt 105 x3 v17) w8.drew λ v18 w19=>
 U R (loadAt 4 v18) w19 λ v20 w21=>
 SPL v20
 (b13 R C6 C11 x4 x5 w21)
 (b12_2 R C6 C11 x1 x3 x4 x5 v17 w21)
def b12 (_:T (R,C6,C11):=Q _):=
 U R (fieldAt 27 x1 4) w λ v1 w2=>
 U R (loadAt 25 v1) w2 λ v3 w4=>
 U R (len_ #[25] 3 #[v3]) w4 λ v5 w6=>
 U R (bins .lss 3 (.tmp 12) (.tmp 15) x5 v5) w6 λ v7 w8=>
 SPL v7
 (b12_3 R C6 C11 x1 x3 x4 x5 w8)
 (C6 x4 w8)
def l11 (_:T (R,C6):=Q _):Prop :=
 LP2 (λ C11 y4 y5 w0=>b12 R C6 C11 x1 x3 y4 y5 w0) x4 x5 w
theorem l11_intro:LS2 (λ C11 y4 y5 w0=>b12 R C6 C11 x1 x3 y4 y5 w0) x4 x5 w (l11 R C6 x1 x3 x4 x5 w):=LI2 _ x4 x5 w
def b9 (_:T (R,C6):=Q _):=
 l11 R C6 x1 x3 (.bool false) (.int .i64 0) w
def b7 (_:T (R,C6):=Q _):=
 SPL x4
 (b9 R C6 x1 x3 w)
 (b3 R x3 w)
def l6 (_:T (R):=Q _):Prop :=
 LP1 (λ C6 y4 w0=>b7 R C6 x1 x3 y4 w0) x4 w
theorem l6_intro:LS1 (λ C6 y4 w0=>b7 R C6 x1 x3 y4 w0) x4 w (l6 R x1 x3 x4 w):=LI1 _ x4 w
def b4 (_:T (R):=Q _):=
 l6 R x1 x3 (.bool true) w
def b1 (_:T (R):=Q _):=
 U R (box 27 x0) w λ v1 w2=>
 U R (fieldAt 27 v1 1) w2 λ v3 w4=>
 U R (loadAt 23 v3) w4 λ v5 w6=>
 U R (len_ #[23] 3 #[v5]) w6 λ v7 w8=>
 U R (makeSlice 105 v7 v7) w8 λ v9 w10=>
 b4 R v1 v9 w10
theorem tie (R:EP):TI prog R (Zp f62) (QQ (λ z w=>R (.returned (z 2)) w)) λ z w=>b1 R (z 0) w:=aT 1 (λ z w=>b4 R (z 1) (z 3) w) (sT (λ z w=>b3 R (z 3) w) (aT 0 (λ z w=>l6 R (z 1) (z 3) (z 4) w) (Zk 0 (lT1 4 (λ z C6 y4 w0=>b7 R C6 (z 1) (z 3) y4 w0) λ C6=>aT 0 (λ z w=>b9 R C6 (z 1) (z 3) w) (Zk 1 (aT 1 (λ z w=>l11 R C6 (z 1) (z 3) (z 4) (z 5) w) (Zk 2 (lT2 4 5 (λ z C11 y4 y5 w0=>b12 R C6 C11 (z 1) (z 3) y4 y5 w0) λ C11=>aT 1 (λ z w=>b13 R C6 C11 (z 4) (z 5) w) ofT))))))) ofT)
def run (R:EP)(a0:Value)(w:World):=b1 R a0 w
theorem ct:Cta1 prog id run:=Zbj call62 func62 λ R a0 w h=>tie R _ w h
attribute [irreducible] l11 l6
attribute [irreducible,go_sem] b3 b13 b12_1 b12_2 b12_3 b12 b9 b7 b4 b1 run
end Zbe
namespace Zh
variable (R:EP) (C6:Value->VP) (C17:Value->VP) (x0 x1 x2 x7 x8 x9 x10 x43 x77:Value) (w w4:World)
def b3 (_:T (R):=Q _):=
 R (.returned x7) w
def b9 (_:T (R,C6):=Q _):=
 U R (bC .add 3 15 1 x8) w λ v1 w2=>
 C6 x7 v1 w2
def b14 (_:T (R,C6):=Q _):=
 SPL x77
 (b3 R x7 w)
 (b9 R C6 x7 x8 w)
def b13_1 (_:T (R,C6):=Q _):=
 NILC x0 λ v9=>
 Y (fieldAt 217 v9 1) λ v10=>
 L (loadAt 105 v10) w.drew λ v11=>
 Y (indexAt 24 x1 x8) λ v12=>
 L (loadAt 3 v12) w.drew λ v13=>
 NILC x0 λ v14=>
 Y (fieldAt 217 v14 0) λ v15=>
 Y (fieldAt 27 v15 0) λ v16=>
 L (loadAt 22 v16) w.drew λ v17=>
 L (len_ #[22] 3 #[v17]) w.drew λ v18=>
 Y (bins .sub 3 (.tmp 66) (.tmp 72) v13 v18) λ v19=>
 Y (indexAt 105 v11 v19) λ v20=>
 L (loadAt 4 v20) w.drew λ v21=>
 Y (Op.unary .not v21) λ v22=>
 b14 R C6 x7 x8 v22 w.drew
def b13 (_:T (R,C6):=Q _):=
 Y (indexAt 24 x1 x8) λ v1=>
 L (loadAt 3 v1) w.drew λ v2=>
 NILC x0 λ v3=>
 Y (fieldAt 217 v3 0) λ v4=>
 Y (fieldAt 27 v4 0) λ v5=>
 L (loadAt 22 v5) w.drew λ v6=>
 L (len_ #[22] 3 #[v6]) w.drew λ v7=>
 Y (bins .lss 3 (.tmp 50) (.tmp 56) v2 v7) λ v8=>
 SPL v8
 (b14 R C6 x7 x8 (.bool true) w.drew)
 (b13_1 R C6 x0 x1 x7 x8 w)
def b20 (_:T (R,C6,C17):=Q _):=
 U R (bC .add 3 31 1 x10) w λ v1 w2=>
 C17 x7 v1 w2
def b23_1 (_:T (R,C6,C17):=Q _):=
 U R (indexAt 105 x2 x10) w λ v1 w2=>
 RUNU prog R (storeAt 4 v1 (.bool true)) w2 λ w3=>
 b20 R C6 C17 (.bool true) x10 w3
def b23 (_:T (R,C6,C17):=Q _):=
 SPL x43
 (b23_1 R C6 C17 x2 x10 w)
 (b20 R C6 C17 x7 x10 w)
def b22_1 (_:T (R,C6,C17):=Q _):=
 U R (indexAt 105 x2 x10) w4 λ v5 w6=>
 U R (loadAt 4 v5) w6 λ v7 w8=>
 U R (Op.unary .not v7) w8 λ v9 w10=>
 b23 R C6 C17 x2 x7 x10 v9 w10
def b22 (_:T (R,C6,C17):=Q _):=
 U R (indexAt 105 x9 x10) w λ v1 w2=>
 U R (loadAt 4 v1) w2 λ v3 w4=>
 SPL v3
 (b22_1 R C6 C17 x2 x7 x10 w4)
 (b23 R C6 C17 x2 x7 x10 (.bool false) w4)
def b18 (_:T (R,C6,C17):=Q _):=
 U R (len_ #[105] 3 #[x9]) w λ v1 w2=>
 U R (bins .lss 3 (.tmp 27) (.tmp 29) x10 v1) w2 λ v3 w4=>
 SPL v3
 (b22 R C6 C17 x2 x7 x9 x10 w4)
 (b13 R C6 x0 x1 x7 x8 w4)
def l17 (_:T (R,C6):=Q _):Prop :=
 LP2 (λ C17 y7 y10 w0=>b18 R C6 C17 x0 x1 x2 y7 x8 x9 y10 w0) x7 x10 w
theorem l17_intro:LS2 (λ C17 y7 y10 w0=>b18 R C6 C17 x0 x1 x2 y7 x8 x9 y10 w0) x7 x10 w (l17 R C6 x0 x1 x2 x7 x8 x9 x10 w):=LI2 _ x7 x10 w
def b15 (_:T (R,C6):=Q _):=
 l17 R C6 x0 x1 x2 x7 x8 x9 (.int .i64 0) w
def b11 (_:T (R,C6):=Q _):=
 NILC x0 λ v1=>
 Y (fieldAt 217 v1 2) λ v2=>
 L (loadAt 170 v2) w.drew λ v3=>
 Y (indexAt 24 x1 x8) λ v4=>
 L (loadAt 3 v4) w.drew λ v5=>
 Y (indexAt 170 v3 v5) λ v6=>
 L (loadAt 105 v6) w.drew λ v7=>
 b15 R C6 x0 x1 x2 x7 x8 v7 w.drew
def b7 (_:T (R,C6):=Q _):=
 U R (len_ #[24] 3 #[x1]) w λ v1 w2=>
 U R (bins .lss 3 (.tmp 11) (.tmp 13) x8 v1) w2 λ v3 w4=>
 SPL v3
 (b11 R C6 x0 x1 x2 x7 x8 w4)
 (b3 R x7 w4)
def l6 (_:T (R):=Q _):Prop :=
 LP2 (λ C6 y7 y8 w0=>b7 R C6 x0 x1 x2 y7 y8 w0) x7 x8 w
theorem l6_intro:LS2 (λ C6 y7 y8 w0=>b7 R C6 x0 x1 x2 y7 y8 w0) x7 x8 w (l6 R x0 x1 x2 x7 x8 w):=LI2 _ x7 x8 w
def b4 (_:T (R):=Q _):=
 l6 R x0 x1 x2 x7 (.int .i64 0) w
def b1 (_:T (R):=Q _):=
 b4 R x0 x1 x2 (.bool false) w
theorem tie (R:EP):TI prog R (Zp f103) (QQ (λ z w=>R (.returned (z 6)) w)) λ z w=>b1 R (z 0) (z 1) (z 2) w:=aT 1 (λ z w=>b4 R (z 0) (z 1) (z 2) (z 7) w) (sT (λ z w=>b3 R (z 7) w) (aT 0 (λ z w=>l6 R (z 0) (z 1) (z 2) (z 7) (z 8) w) (Zk 0 (lT2 7 8 (λ z C6 y7 y8 w0=>b7 R C6 (z 0) (z 1) (z 2) y7 y8 w0) λ C6=>aT 0 (λ z w=>b11 R C6 (z 0) (z 1) (z 2) (z 7) (z 8) w) (sT (λ z w=>b9 R C6 (z 7) (z 8) w) (Zk 1 (aT 0 (λ z w=>b15 R C6 (z 0) (z 1) (z 2) (z 7) (z 8) (z 9) w) (sT (λ z w=>b13 R C6 (z 0) (z 1) (z 7) (z 8) w) (aT 0 (λ z w=>l17 R C6 (z 0) (z 1) (z 2) (z 7) (z 8) (z 9) (z 10) w) (Zk 2 (lT2 7 10 (λ z C17 y7 y10 w0=>b18 R C6 C17 (z 0) (z 1) (z 2) y7 (z 8) (z 9) y10 w0) λ C17=>aT 0 (λ z w=>b22 R C6 C17 (z 2) (z 7) (z 9) (z 10) w) (sT (λ z w=>b20 R C6 C17 (z 7) (z 10) w) (Zk 3 (aT 0 (λ z w=>b23 R C6 C17 (z 2) (z 7) (z 10) (z 43) w) ofT)) ofT)))) (aT 0 (λ z w=>b14 R C6 (z 7) (z 8) (z 77) w) ofT)))) ofT)))) ofT)
def run (R:EP)(a0 a1 a2:Value)(w:World):=b1 R a0 a1 a2 w
theorem ct:Cta3 prog id run:=Zkc call103 func103 λ R a0 a1 a2 w h=>tie R _ w h
attribute [irreducible] l17 l6
attribute [irreducible,go_sem] b3 b9 b14 b13_1 b13 b20 b23_1 b23 b22_1 b22 b18 b15 b11 b7 b4 b1 run
end Zh
namespace Zcm
variable (R:EP) (x0 x1 v10:Value) (w w13:World)
def b1_1 (_:T (R):=Q _):=
 NILC x0 λ v14=>
 Y (fieldAt 217 v14 0) λ v15=>
 L (loadAt 27 v15) w13.drew λ v16=>
 NILC x0 λ v17=>
 Y (fieldAt 217 v17 1) λ v18=>
 L (loadAt 105 v18) w13.drew λ v19=>
 K R Zap.id #[v16,v19,x1] w13.drew λ v20 w21=>
 R (.returned (.tuple #[v10,v20])) w21
def b1 (_:T (R):=Q _):=
 NILC x0 λ v1=>
 U R (fieldAt 217 v1 0) w λ v2 w3=>
 U R (fieldAt 27 v2 0) w3 λ v4 w5=>
 U R (loadAt 22 v4) w5 λ v6 w7=>
 U R (len_ #[22] 3 #[v6]) w7 λ v8 w9=>
 U R (makeSlice 105 v8 v8) w9 λ v10 w11=>
 K R Zh.id #[x0,x1,v10] w11 λ v12 w13=>
 b1_1 R x0 x1 v10 w13
theorem tie (R:EP):TI prog R (Zp f106) (QQ (λ z w=>R (.returned (.tuple #[(z 4),(z 5)])) w)) λ z w=>b1 R (z 0) (z 1) w:=ofT
def run (R:EP)(a0 a1:Value)(w:World):=b1 R a0 a1 w
theorem ct:Cta2 prog id run:=Zia call106 func106 λ R a0 a1 w h=>tie R _ w h
attribute [irreducible,go_sem] b1_1 b1 run
end Zcm
namespace Zap
variable (R:EP) (C6:VP) (x0 x1 x2 x3 x7 x35:Value) (w:World)
def b3 (_:T (R):=Q _):=
 R (.returned (.bool true)) w
def b9 (_:T (R,C6):=Q _):=
 U R (bC .add 3 12 1 x7) w λ v1 w2=>
 C6 v1 w2
def b12 (_:T (R,C6):=Q _):=
 SPL x35
 (R (.returned (.bool false)) w)
 (b9 R C6 x7 w)
def b11_1 (_:T (R,C6):=Q _):=
 Y (indexAt 24 x2 x7) λ v7=>
 L (loadAt 3 v7) w.drew λ v8=>
 Y (fieldAt 27 x3 0) λ v9=>
 L (loadAt 22 v9) w.drew λ v10=>
 L (len_ #[22] 3 #[v10]) w.drew λ v11=>
 Y (bins .sub 3 (.tmp 27) (.tmp 30) v8 v11) λ v12=>
 Y (indexAt 105 x1 v12) λ v13=>
 L (loadAt 4 v13) w.drew λ v14=>
 Y (Op.unary .not v14) λ v15=>
 b12 R C6 x7 v15 w.drew
def b11 (_:T (R,C6):=Q _):=
 Y (indexAt 24 x2 x7) λ v1=>
 L (loadAt 3 v1) w.drew λ v2=>
 Y (fieldAt 27 x3 0) λ v3=>
 L (loadAt 22 v3) w.drew λ v4=>
 L (len_ #[22] 3 #[v4]) w.drew λ v5=>
 Y (bins .lss 3 (.tmp 17) (.tmp 20) v2 v5) λ v6=>
 SPL v6
 (b12 R C6 x7 (.bool true) w.drew)
 (b11_1 R C6 x1 x2 x3 x7 w)
def b7 (_:T (R,C6):=Q _):=
 U R (len_ #[24] 3 #[x2]) w λ v1 w2=>
 U R (bins .lss 3 (.tmp 8) (.tmp 10) x7 v1) w2 λ v3 w4=>
 SPL v3
 (b11 R C6 x1 x2 x3 x7 w4)
 (b3 R w4)
def l6 (_:T (R):=Q _):Prop :=
 LP1 (λ C6 y7 w0=>b7 R C6 x1 x2 x3 y7 w0) x7 w
theorem l6_intro:LS1 (λ C6 y7 w0=>b7 R C6 x1 x2 x3 y7 w0) x7 w (l6 R x1 x2 x3 x7 w):=LI1 _ x7 w
def b4 (_:T (R):=Q _):=
 l6 R x1 x2 x3 (.int .i64 0) w
def b1 (_:T (R):=Q _):=
 U R (box 27 x0) w λ v1 w2=>
 b4 R x1 x2 v1 w2
theorem tie (R:EP):TI prog R (Zp f123) (QQ (λ z w=>R (.returned (z 6)) w)) λ z w=>b1 R (z 0) (z 1) (z 2) w:=aT 0 (λ z w=>b4 R (z 1) (z 2) (z 3) w) (sT (λ z w=>b3 R  w) (aT 0 (λ z w=>l6 R (z 1) (z 2) (z 3) (z 7) w) (Zk 0 (lT1 7 (λ z C6 y7 w0=>b7 R C6 (z 1) (z 2) (z 3) y7 w0) λ C6=>aT 0 (λ z w=>b11 R C6 (z 1) (z 2) (z 3) (z 7) w) (sT (λ z w=>b9 R C6 (z 7) w) (Zk 1 (aT 0 (λ z w=>b12 R C6 (z 7) (z 35) w) ofT)) ofT)))) ofT)
def run (R:EP)(a0 a1 a2:Value)(w:World):=b1 R a0 a1 a2 w
theorem ct:Cta3 prog id run:=Zkc call123 func123 λ R a0 a1 a2 w h=>tie R _ w h
attribute [irreducible] l6
attribute [irreducible,go_sem] b3 b9 b12 b11_1 b11 b7 b4 b1 run
end Zap
end Go.Proofs.YtjibcckpehdbhaaGreatDoor
