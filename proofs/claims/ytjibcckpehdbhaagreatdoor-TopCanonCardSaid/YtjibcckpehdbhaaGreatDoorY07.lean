/-
  Texts of this claim: TCR6, TCR9, TCR1.
-/
import Derived.Test.YtjibcckpehdbhaaGreatDoorY05
set_option linter.unusedVariables false
set_option maxRecDepth 100000
namespace Go.Proofs.YtjibcckpehdbhaaGreatDoor
open Go.Px Tryz Instr Builtin
namespace Zbm
variable (R:EP) (x0 x1 x11:Value) (w w6:World)
def b3 (_:T (R):=Q _):=
 U R (loadAt 27 x1) w λ v1 w2=>
 K R Zr.id #[v1] w2 λ v3 w4=>
 R (.returned (.tuple #[v3,(.int .i64 0)])) w4
def b5 (_:T (R):=Q _):=
 SPL x11
 (R (.returned (.tuple #[(.slice none 0 0),(.int .i64 1)])) w)
 (b3 R x1 w)
def b4_1 (_:T (R):=Q _):=
 U R (loadAt 27 x1) w6 λ v7 w8=>
 K R Zdn.id #[v7] w8 λ v9 w10=>
 U R (Op.unary .not v9) w10 λ v11 w12=>
 b5 R x1 v11 w12
def b4 (_:T (R):=Q _):=
 U R (loadAt 27 x1) w λ v1 w2=>
 K R Zd3.id #[v1] w2 λ v3 w4=>
 U R (Op.unary .not v3) w4 λ v5 w6=>
 SPL v5
 (b4_1 R x1 w6)
 (b5 R x1 (.bool false) w6)
def b1 (_:T (R):=Q _):=
 U R (box 27 x0) w λ v1 w2=>
 b4 R v1 w2
theorem tie (R:EP):TI prog R (Zp f41) (QQ (λ z w=>R (.returned (.tuple #[(z 2),(z 3)])) w)) λ z w=>b1 R (z 0) w:=aT 0 (λ z w=>b4 R (z 1) w) (sT (λ z w=>b3 R (z 1) w) (aT 0 (λ z w=>b5 R (z 1) (z 11) w) ofT) ofT)
def run (R:EP)(a0:Value)(w:World):=b1 R a0 w
theorem ct:Cta1 prog id run:=Zem call41 func41 λ R a0 w h=>tie R _ w h
attribute [irreducible,go_sem] b3 b5 b4_1 b4 b1 run
end Zbm
namespace Za8
variable (R:EP) (C6:VP) (C11:Value->VP) (x0 x1 x3 x4 x5 x6 x40 v9:Value) (w w29:World)
def b3 (_:T (R):=Q _):=
 R (.returned x3) w
def b14 (_:T (R,C6,C11):=Q _):=
 U R (bC .add 3 17 1 x5) w λ v1 w2=>
 C11 x4 v1 w2
def b17_1 (_:T (R,C6,C11):=Q _):=
 U R (fieldAt 103 x6 0) w λ v1 w2=>
 U R (loadAt 3 v1) w2 λ v3 w4=>
 U R (fieldAt 27 x1 0) w4 λ v5 w6=>
 U R (loadAt 22 v5) w6 λ v7 w8=>
 U R (len_ #[22] 3 #[v7]) w8 λ v9 w10=>
 U R (bins .sub 3 (.tmp 43) (.tmp 46) v3 v9) w10 λ v11 w12=>
 U R (indexAt 105 x3 v11) w12 λ v13 w14=>
 RUNU prog R (storeAt 4 v13 (.bool true)) w14 λ w15=>
 b14 R C6 C11 (.bool true) x5 w15
def b17 (_:T (R,C6,C11):=Q _):=
 SPL x40
 (b17_1 R C6 C11 x1 x3 x5 x6 w)
 (b14 R C6 C11 x4 x5 w)
def b16_1 (_:T (R,C6,C11):=Q _):=
 U R (loadAt 27 x1) w29 λ v30 w31=>
 U R (fieldAt 103 v9 1) w31 λ v32 w33=>
 U R (loadAt 24 v32) w33 λ v34 w35=>
 K R Zcy.id #[v30,x3,v34] w35 λ v36 w37=>
 b17 R C6 C11 x1 x3 x4 x5 v9 v36 w37
def b16 (_:T (R,C6,C11):=Q _):=
 U R (fieldAt 27 x1 4) w λ v1 w2=>
 U R (loadAt 25 v1) w2 λ v3 w4=>
 U R (indexAt 25 v3 x5) w4 λ v5 w6=>
 U R (loadAt 103 v5) w6 λ v7 w8=>
 U R (alloc 103 true (.tuple #[])) w8 λ v9 w10=>
 RUNU prog R (storeAt 103 v9 v7) w10 λ w11=>
 U R (fieldAt 103 v9 0) w11 λ v12 w13=>
 U R (loadAt 3 v12) w13 λ v14 w15=>
 U R (fieldAt 27 x1 0) w15 λ v16 w17=>
 U R (loadAt 22 v16) w17 λ v18 w19=>
 U R (len_ #[22] 3 #[v18]) w19 λ v20 w21=>
 U R (bins .sub 3 (.tmp 26) (.tmp 29) v14 v20) w21 λ v22 w23=>
 U R (indexAt 105 x3 v22) w23 λ v24 w25=>
 U R (loadAt 4 v24) w25 λ v26 w27=>
 U R (Op.unary .not v26) w27 λ v28 w29=>
 SPL v28
 (b16_1 R C6 C11 x1 x3 x4 x5 v9 w29)
 (b17 R C6 C11 x1 x3 x4 x5 v9 (.bool false) w29)
def b12 (_:T (R,C6,C11):=Q _):=
 U R (fieldAt 27 x1 4) w λ v1 w2=>
 U R (loadAt 25 v1) w2 λ v3 w4=>
 U R (len_ #[25] 3 #[v3]) w4 λ v5 w6=>
 U R (bins .lss 3 (.tmp 12) (.tmp 15) x5 v5) w6 λ v7 w8=>
 SPL v7
 (b16 R C6 C11 x1 x3 x4 x5 w8)
 (C6 x4 w8)
def l11 (_:T (R,C6):=Q _):Prop :=
 LP2 (λ C11 y4 y5 w0=>b12 R C6 C11 x1 x3 y4 y5 w0) x4 x5 w
theorem l11_intro:LS2 (λ C11 y4 y5 w0=>b12 R C6 C11 x1 x3 y4 y5 w0) x4 x5 w (l11 R C6 x1 x3 x4 x5 w):=LI2 _ x4 x5 w
def b9 (_:T (R,C6):=Q _):=
 l11 R C6 x1 x3 (.bool false) (.int .i64 0) w
def b7 (_:T (R,C6):=Q _):=
 SPL x4
 (b9 R C6 x1 x3 w)
 (b3 R x3 w)
def l6 (_:T (R):=Q _):Prop :=
 LP1 (λ C6 y4 w0=>b7 R C6 x1 x3 y4 w0) x4 w
theorem l6_intro:LS1 (λ C6 y4 w0=>b7 R C6 x1 x3 y4 w0) x4 w (l6 R x1 x3 x4 w):=LI1 _ x4 w
def b4 (_:T (R):=Q _):=
 l6 R x1 x3 (.bool true) w
def b1 (_:T (R):=Q _):=
 U R (box 27 x0) w λ v1 w2=>
 U R (fieldAt 27 v1 1) w2 λ v3 w4=>
 U R (loadAt 23 v3) w4 λ v5 w6=>
 U R (len_ #[23] 3 #[v5]) w6 λ v7 w8=>
 U R (makeSlice 105 v7 v7) w8 λ v9 w10=>
 b4 R v1 v9 w10
theorem tie (R:EP):TI prog R (Zp f58) (QQ (λ z w=>R (.returned (z 2)) w)) λ z w=>b1 R (z 0) w:=aT 1 (λ z w=>b4 R (z 1) (z 3) w) (sT (λ z w=>b3 R (z 3) w) (aT 0 (λ z w=>l6 R (z 1) (z 3) (z 4) w) (Zk 0 (lT1 4 (λ z C6 y4 w0=>b7 R C6 (z 1) (z 3) y4 w0) λ C6=>aT 0 (λ z w=>b9 R C6 (z 1) (z 3) w) (Zk 1 (aT 1 (λ z w=>l11 R C6 (z 1) (z 3) (z 4) (z 5) w) (Zk 2 (lT2 4 5 (λ z C11 y4 y5 w0=>b12 R C6 C11 (z 1) (z 3) y4 y5 w0) λ C11=>aT 0 (λ z w=>b16 R C6 C11 (z 1) (z 3) (z 4) (z 5) w) (sT (λ z w=>b14 R C6 C11 (z 4) (z 5) w) (Zk 3 (aT 1 (λ z w=>b17 R C6 C11 (z 1) (z 3) (z 4) (z 5) (z 6) (z 40) w) ofT)) ofT)))))))) ofT)
def run (R:EP)(a0:Value)(w:World):=b1 R a0 w
theorem ct:Cta1 prog id run:=Zbj call58 func58 λ R a0 w h=>tie R _ w h
attribute [irreducible] l11 l6
attribute [irreducible,go_sem] b3 b14 b17_1 b17 b16_1 b16 b12 b9 b7 b4 b1 run
end Za8
namespace Zr
variable (R:EP) (C6:VP) (C11:Value->VP) (C20:Value->VP) (x0 x1 x3 x4 x5 x6 x7 x8 x9 x79 x104 v1 v5 v8 v13:Value) (w w6 w10 w18 w40:World)
def b3 (_:T (R):=Q _):=
 R (.returned x4) w
def b14 (_:T (R,C6,C11):=Q _):=
 U R (bC .add 3 55 1 x6) w λ v1 w2=>
 C11 x5 v1 w2
def b23 (_:T (R,C6,C11,C20):=Q _):=
 U R (bC .add 3 85 1 x8) w λ v1 w2=>
 C20 x5 v1 w2
def b26_1 (_:T (R,C6,C11,C20):=Q _):=
 U R (indexAt 105 x4 x9) w λ v1 w2=>
 RUNU prog R (storeAt 4 v1 (.bool true)) w2 λ w3=>
 b23 R C6 C11 C20 (.bool true) x8 w3
def b26 (_:T (R,C6,C11,C20):=Q _):=
 SPL x104
 (b26_1 R C6 C11 C20 x4 x8 x9 w)
 (b23 R C6 C11 C20 x5 x8 w)
def b25_1 (_:T (R,C6,C11,C20):=Q _):=
 U R (indexAt 105 x4 v8) w10 λ v11 w12=>
 U R (loadAt 4 v11) w12 λ v13 w14=>
 U R (Op.unary .not v13) w14 λ v15 w16=>
 b26 R C6 C11 C20 x4 x5 x8 v8 v15 w16
def b25 (_:T (R,C6,C11,C20):=Q _):=
 Y (fieldAt 103 x7 1) λ v1=>
 L (loadAt 24 v1) w.drew λ v2=>
 Y (indexAt 24 v2 x8) λ v3=>
 L (loadAt 3 v3) w.drew λ v4=>
 Y (fieldAt 27 x1 0) λ v5=>
 L (loadAt 22 v5) w.drew λ v6=>
 L (len_ #[22] 3 #[v6]) w.drew λ v7=>
 Y (bins .sub 3 (.tmp 91) (.tmp 94) v4 v7) λ v8=>
 U R (bC .geq 3 96 0 v8) w.drew λ v9 w10=>
 SPL v9
 (b25_1 R C6 C11 C20 x4 x5 x8 v8 w10)
 (b26 R C6 C11 C20 x4 x5 x8 v8 (.bool false) w10)
def b21 (_:T (R,C6,C11,C20):=Q _):=
 U R (fieldAt 103 x7 1) w λ v1 w2=>
 U R (loadAt 24 v1) w2 λ v3 w4=>
 U R (len_ #[24] 3 #[v3]) w4 λ v5 w6=>
 U R (bins .lss 3 (.tmp 80) (.tmp 83) x8 v5) w6 λ v7 w8=>
 SPL v7
 (b25 R C6 C11 C20 x1 x4 x5 x7 x8 w8)
 (b14 R C6 C11 x5 x6 w8)
def l20 (_:T (R,C6,C11):=Q _):Prop :=
 LP2 (λ C20 y5 y8 w0=>b21 R C6 C11 C20 x1 x4 y5 x6 x7 y8 w0) x5 x8 w
theorem l20_intro:LS2 (λ C20 y5 y8 w0=>b21 R C6 C11 C20 x1 x4 y5 x6 x7 y8 w0) x5 x8 w (l20 R C6 C11 x1 x4 x5 x6 x7 x8 w):=LI2 _ x5 x8 w
def b18 (_:T (R,C6,C11):=Q _):=
 l20 R C6 C11 x1 x4 x5 x6 x7 (.int .i64 0) w
def b28 (_:T (R,C6,C11):=Q _):=
 SPL x79
 (b14 R C6 C11 x5 x6 w)
 (b18 R C6 C11 x1 x4 x5 x6 x7 w)
def b27_1 (_:T (R,C6,C11):=Q _):=
 U R (loadAt 27 x1) w18 λ v19 w20=>
 U R (fieldAt 103 x7 1) w20 λ v21 w22=>
 U R (loadAt 24 v21) w22 λ v23 w24=>
 K R Zcy.id #[v19,x3,v23] w24 λ v25 w26=>
 U R (Op.unary .not v25) w26 λ v27 w28=>
 b28 R C6 C11 x1 x4 x5 x6 x7 v27 w28
def b27 (_:T (R,C6,C11):=Q _):=
 U R (fieldAt 103 x7 0) w λ v1 w2=>
 U R (loadAt 3 v1) w2 λ v3 w4=>
 U R (fieldAt 27 x1 0) w4 λ v5 w6=>
 U R (loadAt 22 v5) w6 λ v7 w8=>
 U R (len_ #[22] 3 #[v7]) w8 λ v9 w10=>
 U R (bins .sub 3 (.tmp 64) (.tmp 67) v3 v9) w10 λ v11 w12=>
 U R (indexAt 105 x4 v11) w12 λ v13 w14=>
 U R (loadAt 4 v13) w14 λ v15 w16=>
 U R (Op.unary .not v15) w16 λ v17 w18=>
 SPL v17
 (b28 R C6 C11 x1 x4 x5 x6 x7 (.bool true) w18)
 (b27_1 R C6 C11 x1 x3 x4 x5 x6 x7 w18)
def b16 (_:T (R,C6,C11):=Q _):=
 U R (fieldAt 27 x1 4) w λ v1 w2=>
 U R (loadAt 25 v1) w2 λ v3 w4=>
 U R (indexAt 25 v3 x6) w4 λ v5 w6=>
 U R (loadAt 103 v5) w6 λ v7 w8=>
 U R (alloc 103 true (.tuple #[])) w8 λ v9 w10=>
 RUNU prog R (storeAt 103 v9 v7) w10 λ w11=>
 b27 R C6 C11 x1 x3 x4 x5 x6 v9 w11
def b12 (_:T (R,C6,C11):=Q _):=
 U R (fieldAt 27 x1 4) w λ v1 w2=>
 U R (loadAt 25 v1) w2 λ v3 w4=>
 U R (len_ #[25] 3 #[v3]) w4 λ v5 w6=>
 U R (bins .lss 3 (.tmp 50) (.tmp 53) x6 v5) w6 λ v7 w8=>
 SPL v7
 (b16 R C6 C11 x1 x3 x4 x5 x6 w8)
 (C6 x5 w8)
def l11 (_:T (R,C6):=Q _):Prop :=
 LP2 (λ C11 y5 y6 w0=>b12 R C6 C11 x1 x3 x4 y5 y6 w0) x5 x6 w
theorem l11_intro:LS2 (λ C11 y5 y6 w0=>b12 R C6 C11 x1 x3 x4 y5 y6 w0) x5 x6 w (l11 R C6 x1 x3 x4 x5 x6 w):=LI2 _ x5 x6 w
def b9 (_:T (R,C6):=Q _):=
 l11 R C6 x1 x3 x4 (.bool false) (.int .i64 0) w
def b7 (_:T (R,C6):=Q _):=
 SPL x5
 (b9 R C6 x1 x3 x4 w)
 (b3 R x4 w)
def l6 (_:T (R):=Q _):Prop :=
 LP1 (λ C6 y5 w0=>b7 R C6 x1 x3 x4 y5 w0) x5 w
theorem l6_intro:LS1 (λ C6 y5 w0=>b7 R C6 x1 x3 x4 y5 w0) x5 w (l6 R x1 x3 x4 x5 w):=LI1 _ x5 w
def b4 (_:T (R):=Q _):=
 l6 R x1 x3 x4 (.bool true) w
def b1_1 (_:T (R):=Q _):=
 U R (fieldAt 27 v1 3) w40 λ v41 w42=>
 U R (loadAt 3 v41) w42 λ v43 w44=>
 U R (fieldAt 27 v1 0) w44 λ v45 w46=>
 U R (loadAt 22 v45) w46 λ v47 w48=>
 U R (len_ #[22] 3 #[v47]) w48 λ v49 w50=>
 U R (bins .sub 3 (.tmp 41) (.tmp 44) v43 v49) w50 λ v51 w52=>
 U R (indexAt 105 v5 v51) w52 λ v53 w54=>
 U R (loadAt 4 v53) w54 λ v55 w56=>
 U R (indexAt 105 v13 (.int .i64 0)) w56 λ v57 w58=>
 RUNU prog R (storeAt 4 v57 v55) w58 λ w59=>
 b4 R v1 v5 v13 w59
def b1_2 (_:T (R):=Q _):=
 U R (fieldAt 27 v1 1) w6 λ v7 w8=>
 U R (loadAt 23 v7) w8 λ v9 w10=>
 U R (len_ #[23] 3 #[v9]) w10 λ v11 w12=>
 U R (makeSlice 105 v11 v11) w12 λ v13 w14=>
 Y (fieldAt 27 v1 3) λ v15=>
 L (loadAt 3 v15) w14.drew λ v16=>
 Y (fieldAt 27 v1 0) λ v17=>
 L (loadAt 22 v17) w14.drew λ v18=>
 L (len_ #[22] 3 #[v18]) w14.drew λ v19=>
 Y (bins .sub 3 (.tmp 18) (.tmp 21) v16 v19) λ v20=>
 Y (fieldAt 27 v1 3) λ v21=>
 L (loadAt 3 v21) w14.drew λ v22=>
 Y (fieldAt 27 v1 0) λ v23=>
 L (loadAt 22 v23) w14.drew λ v24=>
 L (len_ #[22] 3 #[v24]) w14.drew λ v25=>
 Y (bins .sub 3 (.tmp 25) (.tmp 28) v22 v25) λ v26=>
 Y (indexAt 105 v5 v26) λ v27=>
 L (loadAt 4 v27) w14.drew λ v28=>
 Y (indexAt 105 v13 v20) λ v29=>
 RUNU prog R (storeAt 4 v29 v28) w14.drew λ w30=>
 U R (fieldAt 27 v1 1) w30 λ v31 w32=>
 U R (loadAt 23 v31) w32 λ v33 w34=>
 U R (indexAt 23 v33 (.int .i64 0)) w34 λ v35 w36=>
 U R (loadAt 9 v35) w36 λ v37 w38=>
 U R (bins .eql 9 (.tmp 36) (.const (.string ⟨#[]⟩)) v37 (.string ⟨#[]⟩)) w38 λ v39 w40=>
 SPL v39
 (b1_1 R v1 v5 v13 w40)
 (b4 R v1 v5 v13 w40)
def b1 (_:T (R):=Q _):=
 U R (box 27 x0) w λ v1 w2=>
 U R (loadAt 27 v1) w2 λ v3 w4=>
 K R Za8.id #[v3] w4 λ v5 w6=>
 b1_2 R v1 v5 w6
theorem tie (R:EP):TI prog R (Zp f59) (QQ (λ z w=>R (.returned (z 2)) w)) λ z w=>b1 R (z 0) w:=aT 4 (λ z w=>b4 R (z 1) (z 3) (z 4) w) (sT (λ z w=>b3 R (z 4) w) (aT 0 (λ z w=>l6 R (z 1) (z 3) (z 4) (z 5) w) (Zk 0 (lT1 5 (λ z C6 y5 w0=>b7 R C6 (z 1) (z 3) (z 4) y5 w0) λ C6=>aT 0 (λ z w=>b9 R C6 (z 1) (z 3) (z 4) w) (Zk 1 (aT 1 (λ z w=>l11 R C6 (z 1) (z 3) (z 4) (z 5) (z 6) w) (Zk 2 (lT2 5 6 (λ z C11 y5 y6 w0=>b12 R C6 C11 (z 1) (z 3) (z 4) y5 y6 w0) λ C11=>aT 0 (λ z w=>b16 R C6 C11 (z 1) (z 3) (z 4) (z 5) (z 6) w) (sT (λ z w=>b14 R C6 C11 (z 5) (z 6) w) (Zk 3 (aT 0 (λ z w=>b27 R C6 C11 (z 1) (z 3) (z 4) (z 5) (z 6) (z 7) w) (sT (λ z w=>b18 R C6 C11 (z 1) (z 4) (z 5) (z 6) (z 7) w) (aT 0 (λ z w=>b28 R C6 C11 (z 1) (z 4) (z 5) (z 6) (z 7) (z 79) w) ofT) (aT 0 (λ z w=>l20 R C6 C11 (z 1) (z 4) (z 5) (z 6) (z 7) (z 8) w) (Zk 4 (lT2 5 8 (λ z C20 y5 y8 w0=>b21 R C6 C11 C20 (z 1) (z 4) y5 (z 6) (z 7) y8 w0) λ C20=>aT 0 (λ z w=>b25 R C6 C11 C20 (z 1) (z 4) (z 5) (z 7) (z 8) w) (sT (λ z w=>b23 R C6 C11 C20 (z 5) (z 8) w) (Zk 5 (aT 1 (λ z w=>b26 R C6 C11 C20 (z 4) (z 5) (z 8) (z 9) (z 104) w) ofT)) ofT))))))) ofT)))))))) ofT)
def run (R:EP)(a0:Value)(w:World):=b1 R a0 w
theorem ct:Cta1 prog id run:=Zbj call59 func59 λ R a0 w h=>tie R _ w h
attribute [irreducible] l20 l11 l6
attribute [irreducible,go_sem] b3 b14 b23 b26_1 b26 b25_1 b25 b21 b18 b28 b27_1 b27 b16 b12 b9 b7 b4 b1_1 b1_2 b1 run
end Zr
namespace Zcy
variable (R:EP) (C6:VP) (x0 x1 x2 x3 x7 x35:Value) (w:World)
def b3 (_:T (R):=Q _):=
 R (.returned (.bool true)) w
def b9 (_:T (R,C6):=Q _):=
 U R (bC .add 3 12 1 x7) w λ v1 w2=>
 C6 v1 w2
def b12 (_:T (R,C6):=Q _):=
 SPL x35
 (R (.returned (.bool false)) w)
 (b9 R C6 x7 w)
def b11_1 (_:T (R,C6):=Q _):=
 Y (indexAt 24 x2 x7) λ v7=>
 L (loadAt 3 v7) w.drew λ v8=>
 Y (fieldAt 27 x3 0) λ v9=>
 L (loadAt 22 v9) w.drew λ v10=>
 L (len_ #[22] 3 #[v10]) w.drew λ v11=>
 Y (bins .sub 3 (.tmp 27) (.tmp 30) v8 v11) λ v12=>
 Y (indexAt 105 x1 v12) λ v13=>
 L (loadAt 4 v13) w.drew λ v14=>
 Y (Op.unary .not v14) λ v15=>
 b12 R C6 x7 v15 w.drew
def b11 (_:T (R,C6):=Q _):=
 Y (indexAt 24 x2 x7) λ v1=>
 L (loadAt 3 v1) w.drew λ v2=>
 Y (fieldAt 27 x3 0) λ v3=>
 L (loadAt 22 v3) w.drew λ v4=>
 L (len_ #[22] 3 #[v4]) w.drew λ v5=>
 Y (bins .geq 3 (.tmp 17) (.tmp 20) v2 v5) λ v6=>
 SPL v6
 (b11_1 R C6 x1 x2 x3 x7 w)
 (b12 R C6 x7 (.bool false) w.drew)
def b7 (_:T (R,C6):=Q _):=
 U R (len_ #[24] 3 #[x2]) w λ v1 w2=>
 U R (bins .lss 3 (.tmp 8) (.tmp 10) x7 v1) w2 λ v3 w4=>
 SPL v3
 (b11 R C6 x1 x2 x3 x7 w4)
 (b3 R w4)
def l6 (_:T (R):=Q _):Prop :=
 LP1 (λ C6 y7 w0=>b7 R C6 x1 x2 x3 y7 w0) x7 w
theorem l6_intro:LS1 (λ C6 y7 w0=>b7 R C6 x1 x2 x3 y7 w0) x7 w (l6 R x1 x2 x3 x7 w):=LI1 _ x7 w
def b4 (_:T (R):=Q _):=
 l6 R x1 x2 x3 (.int .i64 0) w
def b1 (_:T (R):=Q _):=
 U R (box 27 x0) w λ v1 w2=>
 b4 R x1 x2 v1 w2
theorem tie (R:EP):TI prog R (Zp f61) (QQ (λ z w=>R (.returned (z 6)) w)) λ z w=>b1 R (z 0) (z 1) (z 2) w:=aT 0 (λ z w=>b4 R (z 1) (z 2) (z 3) w) (sT (λ z w=>b3 R  w) (aT 0 (λ z w=>l6 R (z 1) (z 2) (z 3) (z 7) w) (Zk 0 (lT1 7 (λ z C6 y7 w0=>b7 R C6 (z 1) (z 2) (z 3) y7 w0) λ C6=>aT 0 (λ z w=>b11 R C6 (z 1) (z 2) (z 3) (z 7) w) (sT (λ z w=>b9 R C6 (z 7) w) (Zk 1 (aT 0 (λ z w=>b12 R C6 (z 7) (z 35) w) ofT)) ofT)))) ofT)
def run (R:EP)(a0 a1 a2:Value)(w:World):=b1 R a0 a1 a2 w
theorem ct:Cta3 prog id run:=Zkc call61 func61 λ R a0 a1 a2 w h=>tie R _ w h
attribute [irreducible] l6
attribute [irreducible,go_sem] b3 b9 b12 b11_1 b11 b7 b4 b1 run
end Zcy
namespace Zu
variable (R:EP) (C6:Value->VP) (C15:Value->VP) (x0 x1 x2 x5 x6 x7 x8 x9 x39 v1 v3 v11:Value) (w w4 w8 w25 w31:World)
def b3 (_:T (R):=Q _):=
 K R Zab.id #[x5] w λ v1 w2=>
 R (.returned v1) w2
def b9 (_:T (R,C6):=Q _):=
 U R (bC .add 3 21 1 x7) w λ v1 w2=>
 C6 x5 v1 w2
def b17 (_:T (R,C6,C15):=Q _):=
 U R (bC .add 3 48 1 x9) w λ v1 w2=>
 C15 x5 v1 w2
def b16_1 (_:T (R,C6,C15):=Q _):=
 U R (loadAt 89 v11) w31 λ v32 w33=>
 U R (buildSlice 90 1 #[(0,v32)]) w33 λ v34 w35=>
 U R (append_ #[90,90] 90 #[x5,v34]) w35 λ v36 w37=>
 b17 R C6 C15 v36 x9 w37
def b16_2 (_:T (R,C6,C15):=Q _):=
 U R (loadAt 89 v11) w25 λ v26 w27=>
 K R Zdm.id #[x5,v26] w27 λ v28 w29=>
 U R (Op.unary .not v28) w29 λ v30 w31=>
 SPL v30
 (b16_1 R C6 C15 x5 x9 v11 w31)
 (b17 R C6 C15 x5 x9 w31)
def b16_3 (_:T (R,C6,C15):=Q _):=
 U R (build 89 #[(0,x9)]) w8 λ v9 w10=>
 U R (alloc 89 true (.tuple #[])) w10 λ v11 w12=>
 RUNU prog R (storeAt 89 v11 v9) w12 λ w13=>
 U R (fieldAt 27 x2 4) w13 λ v14 w15=>
 U R (loadAt 25 v14) w15 λ v16 w17=>
 U R (indexAt 25 v16 x9) w17 λ v18 w19=>
 U R (fieldAt 103 v18 0) w19 λ v20 w21=>
 U R (loadAt 3 v20) w21 λ v22 w23=>
 U R (bins .neq 3 (.tmp 57) (.tmp 58) v22 x8) w23 λ v24 w25=>
 SPL v24
 (b17 R C6 C15 x5 x9 w25)
 (b16_2 R C6 C15 x5 x9 v11 w25)
def b16 (_:T (R,C6,C15):=Q _):=
 U R (fieldAt 27 x2 4) w λ v1 w2=>
 U R (loadAt 25 v1) w2 λ v3 w4=>
 U R (len_ #[25] 3 #[v3]) w4 λ v5 w6=>
 U R (bins .lss 3 (.tmp 43) (.tmp 46) x9 v5) w6 λ v7 w8=>
 SPL v7
 (b16_3 R C6 C15 x2 x5 x8 x9 w8)
 (b9 R C6 x5 x7 w8)
def l15 (_:T (R,C6):=Q _):Prop :=
 LP2 (λ C15 y5 y9 w0=>b16 R C6 C15 x2 y5 x7 x8 y9 w0) x5 x9 w
theorem l15_intro:LS2 (λ C15 y5 y9 w0=>b16 R C6 C15 x2 y5 x7 x8 y9 w0) x5 x9 w (l15 R C6 x2 x5 x7 x8 x9 w):=LI2 _ x5 x9 w
def b13 (_:T (R,C6):=Q _):=
 U R (indexAt 105 x6 x8) w λ v1 w2=>
 RUNU prog R (storeAt 4 v1 (.bool true)) w2 λ w3=>
 l15 R C6 x2 x5 x7 x8 (.int .i64 0) w3
def b19 (_:T (R,C6):=Q _):=
 SPL x39
 (b9 R C6 x5 x7 w)
 (b13 R C6 x2 x5 x6 x7 x8 w)
def b18_1 (_:T (R,C6):=Q _):=
 U R (indexAt 105 x6 x8) w8 λ v9 w10=>
 U R (loadAt 4 v9) w10 λ v11 w12=>
 b19 R C6 x2 x5 x6 x7 x8 v11 w12
def b18 (_:T (R,C6):=Q _):=
 U R (fieldAt 27 x2 0) w λ v1 w2=>
 U R (loadAt 22 v1) w2 λ v3 w4=>
 U R (len_ #[22] 3 #[v3]) w4 λ v5 w6=>
 U R (bins .lss 3 (.tmp 29) (.tmp 32) x8 v5) w6 λ v7 w8=>
 SPL v7
 (b19 R C6 x2 x5 x6 x7 x8 (.bool true) w8)
 (b18_1 R C6 x2 x5 x6 x7 x8 w8)
def b11 (_:T (R,C6):=Q _):=
 L (loadAt 27 x2) w.drew λ v1=>
 Y (indexAt 90 x5 x7) λ v2=>
 L (loadAt 89 v2) w.drew λ v3=>
 K R Zct.id #[v1,v3] w.drew λ v4 w5=>
 b18 R C6 x2 x5 x6 x7 v4 w5
def b7 (_:T (R,C6):=Q _):=
 U R (len_ #[90] 3 #[x5]) w λ v1 w2=>
 U R (bins .lss 3 (.tmp 17) (.tmp 19) x7 v1) w2 λ v3 w4=>
 SPL v3
 (b11 R C6 x2 x5 x6 x7 w4)
 (b3 R x5 w4)
def l6 (_:T (R):=Q _):Prop :=
 LP2 (λ C6 y5 y7 w0=>b7 R C6 x2 y5 x6 y7 w0) x5 x7 w
theorem l6_intro:LS2 (λ C6 y5 y7 w0=>b7 R C6 x2 y5 x6 y7 w0) x5 x7 w (l6 R x2 x5 x6 x7 w):=LI2 _ x5 x7 w
def b4 (_:T (R):=Q _):=
 l6 R x2 x5 x6 (.int .i64 0) w
def b1_1 (_:T (R):=Q _):=
 U R (loadAt 27 v1) w4 λ v5 w6=>
 K R Zb5.id #[v5] w6 λ v7 w8=>
 U R (makeSlice 105 v7 v7) w8 λ v9 w10=>
 b4 R v1 v3 v9 w10
def b1 (_:T (R):=Q _):=
 U R (box 27 x0) w λ v1 w2=>
 K R Zab.id #[x1] w2 λ v3 w4=>
 b1_1 R v1 v3 w4
theorem tie (R:EP):TI prog R (Zp f47) (QQ (λ z w=>R (.returned (z 4)) w)) λ z w=>b1 R (z 0) (z 1) w:=aT 2 (λ z w=>b4 R (z 2) (z 5) (z 6) w) (sT (λ z w=>b3 R (z 5) w) (aT 0 (λ z w=>l6 R (z 2) (z 5) (z 6) (z 7) w) (Zk 0 (lT2 5 7 (λ z C6 y5 y7 w0=>b7 R C6 (z 2) y5 (z 6) y7 w0) λ C6=>aT 0 (λ z w=>b11 R C6 (z 2) (z 5) (z 6) (z 7) w) (sT (λ z w=>b9 R C6 (z 5) (z 7) w) (Zk 1 (aT 0 (λ z w=>b18 R C6 (z 2) (z 5) (z 6) (z 7) (z 8) w) (sT (λ z w=>b13 R C6 (z 2) (z 5) (z 6) (z 7) (z 8) w) (aT 0 (λ z w=>b19 R C6 (z 2) (z 5) (z 6) (z 7) (z 8) (z 39) w) ofT) (aT 1 (λ z w=>l15 R C6 (z 2) (z 5) (z 7) (z 8) (z 9) w) (Zk 2 (lT2 5 9 (λ z C15 y5 y9 w0=>b16 R C6 C15 (z 2) y5 (z 7) (z 8) y9 w0) λ C15=>aT 1 (λ z w=>b17 R C6 C15 (z 5) (z 9) w) ofT)))))) ofT)))) ofT)
def run (R:EP)(a0 a1:Value)(w:World):=b1 R a0 a1 w
theorem ct:Cta2 prog id run:=Zcd call47 func47 λ R a0 a1 w h=>tie R _ w h
attribute [irreducible] l15 l6
attribute [irreducible,go_sem] b3 b9 b17 b16_1 b16_2 b16_3 b16 b13 b19 b18_1 b18 b11 b7 b4 b1_1 b1 run
end Zu
namespace Zct
variable (R:EP) (x0 x1 v3 v17:Value) (w w26:World)
def b1_1 (_:T (R):=Q _):=
 U R (fieldAt 89 v3 1) w26 λ v27 w28=>
 U R (loadAt 3 v27) w28 λ v29 w30=>
 U R (indexAt 24 v17 v29) w30 λ v31 w32=>
 U R (loadAt 3 v31) w32 λ v33 w34=>
 R (.returned v33) w34
def b1 (_:T (R):=Q _):=
 U R (box 27 x0) w λ v1 w2=>
 U R (box 89 x1) w2 λ v3 w4=>
 U R (fieldAt 27 v1 4) w4 λ v5 w6=>
 U R (loadAt 25 v5) w6 λ v7 w8=>
 U R (fieldAt 89 v3 0) w8 λ v9 w10=>
 U R (loadAt 3 v9) w10 λ v11 w12=>
 U R (indexAt 25 v7 v11) w12 λ v13 w14=>
 U R (fieldAt 103 v13 1) w14 λ v15 w16=>
 U R (loadAt 24 v15) w16 λ v17 w18=>
 U R (fieldAt 89 v3 1) w18 λ v19 w20=>
 U R (loadAt 3 v19) w20 λ v21 w22=>
 U R (len_ #[24] 3 #[v17]) w22 λ v23 w24=>
 U R (bins .eql 3 (.tmp 14) (.tmp 16) v21 v23) w24 λ v25 w26=>
 SPL v25
 (R (.returned (.int .i64 (-1))) w26)
 (b1_1 R v3 v17 w26)
theorem tie (R:EP):TI prog R (Zp f48) (QQ (λ z w=>R (.returned (z 4)) w)) λ z w=>b1 R (z 0) (z 1) w:=ofT
def run (R:EP)(a0 a1:Value)(w:World):=b1 R a0 a1 w
theorem ct:Cta2 prog id run:=Zcd call48 func48 λ R a0 a1 w h=>tie R _ w h
attribute [irreducible,go_sem] b1_1 b1 run
end Zct
namespace Zba
variable (R:EP) (C6:VP) (x0 x1 x5:Value) (w w4:World)
def b3 (_:T (R):=Q _):=
 R (.returned (.bool true)) w
def b7_1 (_:T (R,C6):=Q _):=
 Y (indexAt 90 x0 x5) λ v5=>
 L (loadAt 89 v5) w4.drew λ v6=>
 Y (indexAt 90 x1 x5) λ v7=>
 L (loadAt 89 v7) w4.drew λ v8=>
 Y (bins .neq 89 (.tmp 20) (.tmp 24) v6 v8) λ v9=>
 SPL v9
 (R (.returned (.bool false)) w4.drew)
 (U R (bC .add 3 15 1 x5) w4.drew λ v10 w11=>
 C6 v10 w11)
def b7 (_:T (R,C6):=Q _):=
 U R (len_ #[90] 3 #[x0]) w λ v1 w2=>
 U R (bins .lss 3 (.tmp 11) (.tmp 13) x5 v1) w2 λ v3 w4=>
 SPL v3
 (b7_1 R C6 x0 x1 x5 w4)
 (b3 R w4)
def l6 (_:T (R):=Q _):Prop :=
 LP1 (λ C6 y5 w0=>b7 R C6 x0 x1 y5 w0) x5 w
theorem l6_intro:LS1 (λ C6 y5 w0=>b7 R C6 x0 x1 y5 w0) x5 w (l6 R x0 x1 x5 w):=LI1 _ x5 w
def b4 (_:T (R):=Q _):=
 l6 R x0 x1 (.int .i64 0) w
def b1 (_:T (R):=Q _):=
 U R (len_ #[90] 3 #[x0]) w λ v1 w2=>
 U R (len_ #[90] 3 #[x1]) w2 λ v3 w4=>
 U R (bins .neq 3 (.tmp 7) (.tmp 9) v1 v3) w4 λ v5 w6=>
 SPL v5
 (R (.returned (.bool false)) w6)
 (b4 R x0 x1 w6)
theorem tie (R:EP):TI prog R (Zp f49) (QQ (λ z w=>R (.returned (z 4)) w)) λ z w=>b1 R (z 0) (z 1) w:=aT 1 (λ z w=>b4 R (z 0) (z 1) w) (sT (λ z w=>b3 R  w) (aT 0 (λ z w=>l6 R (z 0) (z 1) (z 5) w) (Zk 0 (lT1 5 (λ z C6 y5 w0=>b7 R C6 (z 0) (z 1) y5 w0) λ C6=>ofT))) ofT)
def run (R:EP)(a0 a1:Value)(w:World):=b1 R a0 a1 w
theorem ct:Cta2 prog id run:=Zcd call49 func49 λ R a0 a1 w h=>tie R _ w h
attribute [irreducible] l6
attribute [irreducible,go_sem] b3 b7_1 b7 b4 b1 run
end Zba
namespace Zab
variable (R:EP) (C6:Value->VP) (C18:VP) (x0 x3 x4 x5 x55 x72:Value) (w:World)
def b3 (_:T (R):=Q _):=
 R (.returned x3) w
def b9 (_:T (R,C6):=Q _):=
 U R (bC .add 3 11 1 x4) w λ v1 w2=>
 C6 x3 v1 w2
def b14 (_:T (R,C6):=Q _):=
 U R (sliceAt 90 x3 none (some x5) none) w λ v1 w2=>
 U R (append_ #[90,90] 90 #[(.slice none 0 0),v1]) w2 λ v3 w4=>
 U R (indexAt 90 x0 x4) w4 λ v5 w6=>
 U R (loadAt 89 v5) w6 λ v7 w8=>
 U R (buildSlice 90 1 #[(0,v7)]) w8 λ v9 w10=>
 U R (append_ #[90,90] 90 #[v3,v9]) w10 λ v11 w12=>
 U R (sliceAt 90 x3 (some x5) none none) w12 λ v13 w14=>
 U R (append_ #[90,90] 90 #[v11,v13]) w14 λ v15 w16=>
 b9 R C6 v15 x4 w16
def b16 (_:T (R,C6):=Q _):=
 SPL x72
 (b9 R C6 x3 x4 w)
 (b14 R C6 x0 x3 x4 x5 w)
def b15_1 (_:T (R,C6):=Q _):=
 Y (indexAt 90 x3 x5) λ v3=>
 L (loadAt 89 v3) w.drew λ v4=>
 Y (indexAt 90 x0 x4) λ v5=>
 L (loadAt 89 v5) w.drew λ v6=>
 Y (bins .eql 89 (.tmp 66) (.tmp 70) v4 v6) λ v7=>
 b16 R C6 x0 x3 x4 x5 v7 w.drew
def b15 (_:T (R,C6):=Q _):=
 L (len_ #[90] 3 #[x3]) w.drew λ v1=>
 Y (bins .lss 3 (.tmp 58) (.tmp 60) x5 v1) λ v2=>
 SPL v2
 (b15_1 R C6 x0 x3 x4 x5 w)
 (b16 R C6 x0 x3 x4 x5 (.bool false) w.drew)
def b20 (_:T (R,C6,C18):=Q _):=
 U R (bC .add 3 56 1 x5) w λ v1 w2=>
 C18 v1 w2
def b22 (_:T (R,C6,C18):=Q _):=
 SPL x55
 (b20 R C6 C18 x5 w)
 (b15 R C6 x0 x3 x4 x5 w)
def b21_1 (_:T (R,C6,C18):=Q _):=
 Y (indexAt 90 x3 x5) λ v17=>
 Y (fieldAt 89 v17 1) λ v18=>
 L (loadAt 3 v18) w.drew λ v19=>
 Y (indexAt 90 x0 x4) λ v20=>
 Y (fieldAt 89 v20 1) λ v21=>
 L (loadAt 3 v21) w.drew λ v22=>
 Y (bins .lss 3 (.tmp 46) (.tmp 51) v19 v22) λ v23=>
 b22 R C6 C18 x0 x3 x4 x5 v23 w.drew
def b21_2 (_:T (R,C6,C18):=Q _):=
 Y (indexAt 90 x3 x5) λ v10=>
 Y (fieldAt 89 v10 0) λ v11=>
 L (loadAt 3 v11) w.drew λ v12=>
 Y (indexAt 90 x0 x4) λ v13=>
 Y (fieldAt 89 v13 0) λ v14=>
 L (loadAt 3 v14) w.drew λ v15=>
 Y (bins .eql 3 (.tmp 34) (.tmp 39) v12 v15) λ v16=>
 SPL v16
 (b21_1 R C6 C18 x0 x3 x4 x5 w)
 (b22 R C6 C18 x0 x3 x4 x5 (.bool false) w.drew)
def b21_3 (_:T (R,C6,C18):=Q _):=
 Y (indexAt 90 x3 x5) λ v3=>
 Y (fieldAt 89 v3 0) λ v4=>
 L (loadAt 3 v4) w.drew λ v5=>
 Y (indexAt 90 x0 x4) λ v6=>
 Y (fieldAt 89 v6 0) λ v7=>
 L (loadAt 3 v7) w.drew λ v8=>
 Y (bins .lss 3 (.tmp 22) (.tmp 27) v5 v8) λ v9=>
 SPL v9
 (b22 R C6 C18 x0 x3 x4 x5 (.bool true) w.drew)
 (b21_2 R C6 C18 x0 x3 x4 x5 w)
def b21 (_:T (R,C6,C18):=Q _):=
 L (len_ #[90] 3 #[x3]) w.drew λ v1=>
 Y (bins .lss 3 (.tmp 13) (.tmp 15) x5 v1) λ v2=>
 SPL v2
 (b21_3 R C6 C18 x0 x3 x4 x5 w)
 (b22 R C6 C18 x0 x3 x4 x5 (.bool false) w.drew)
def l18 (_:T (R,C6):=Q _):Prop :=
 LP1 (λ C18 y5 w0=>b21 R C6 C18 x0 x3 x4 y5 w0) x5 w
theorem l18_intro:LS1 (λ C18 y5 w0=>b21 R C6 C18 x0 x3 x4 y5 w0) x5 w (l18 R C6 x0 x3 x4 x5 w):=LI1 _ x5 w
def b11 (_:T (R,C6):=Q _):=
 l18 R C6 x0 x3 x4 (.int .i64 0) w
def b7 (_:T (R,C6):=Q _):=
 U R (len_ #[90] 3 #[x0]) w λ v1 w2=>
 U R (bins .lss 3 (.tmp 7) (.tmp 9) x4 v1) w2 λ v3 w4=>
 SPL v3
 (b11 R C6 x0 x3 x4 w4)
 (b3 R x3 w4)
def l6 (_:T (R):=Q _):Prop :=
 LP2 (λ C6 y3 y4 w0=>b7 R C6 x0 y3 y4 w0) x3 x4 w
theorem l6_intro:LS2 (λ C6 y3 y4 w0=>b7 R C6 x0 y3 y4 w0) x3 x4 w (l6 R x0 x3 x4 w):=LI2 _ x3 x4 w
def b4 (_:T (R):=Q _):=
 l6 R x0 x3 (.int .i64 0) w
def b1 (_:T (R):=Q _):=
 b4 R x0 (.slice none 0 0) w
theorem tie (R:EP):TI prog R (Zp f107) (QQ (λ z w=>R (.returned (z 2)) w)) λ z w=>b1 R (z 0) w:=aT 1 (λ z w=>b4 R (z 0) (z 3) w) (sT (λ z w=>b3 R (z 3) w) (aT 0 (λ z w=>l6 R (z 0) (z 3) (z 4) w) (Zk 0 (lT2 3 4 (λ z C6 y3 y4 w0=>b7 R C6 (z 0) y3 y4 w0) λ C6=>aT 0 (λ z w=>b11 R C6 (z 0) (z 3) (z 4) w) (sT (λ z w=>b9 R C6 (z 3) (z 4) w) (Zk 1 (aT 0 (λ z w=>l18 R C6 (z 0) (z 3) (z 4) (z 5) w) (sT (λ z w=>b15 R C6 (z 0) (z 3) (z 4) (z 5) w) (Zk 2 (lT1 5 (λ z C18 y5 w0=>b21 R C6 C18 (z 0) (z 3) (z 4) y5 w0) λ C18=>sT (λ z w=>b20 R C6 C18 (z 5) w) (aT 0 (λ z w=>b22 R C6 C18 (z 0) (z 3) (z 4) (z 5) (z 55) w) ofT) ofT)) (sT (λ z w=>b14 R C6 (z 0) (z 3) (z 4) (z 5) w) (aT 0 (λ z w=>b16 R C6 (z 0) (z 3) (z 4) (z 5) (z 72) w) ofT) ofT)))) ofT)))) ofT)
def run (R:EP)(a0:Value)(w:World):=b1 R a0 w
theorem ct:Cta1 prog id run:=Zbj call107 func107 λ R a0 w h=>tie R _ w h
attribute [irreducible] l18 l6
attribute [irreducible,go_sem] b3 b9 b14 b16 b15_1 b15 b20 b22 b21_1 b21_2 b21_3 b21 b11 b7 b4 b1 run
end Zab
namespace Zdm
variable (R:EP) (C6:VP) (x0 x1 x3 x5:Value) (w w4:World)
def b3 (_:T (R):=Q _):=
 R (.returned (.bool false)) w
def b7_1 (_:T (R,C6):=Q _):=
 Y (indexAt 90 x0 x5) λ v5=>
 L (loadAt 89 v5) w4.drew λ v6=>
 L (loadAt 89 x3) w4.drew λ v7=>
 Y (bins .eql 89 (.tmp 15) (.tmp 16) v6 v7) λ v8=>
 SPL v8
 (R (.returned (.bool true)) w4.drew)
 (U R (bC .add 3 10 1 x5) w4.drew λ v9 w10=>
 C6 v9 w10)
def b7 (_:T (R,C6):=Q _):=
 U R (len_ #[90] 3 #[x0]) w λ v1 w2=>
 U R (bins .lss 3 (.tmp 6) (.tmp 8) x5 v1) w2 λ v3 w4=>
 SPL v3
 (b7_1 R C6 x0 x3 x5 w4)
 (b3 R w4)
def l6 (_:T (R):=Q _):Prop :=
 LP1 (λ C6 y5 w0=>b7 R C6 x0 x3 y5 w0) x5 w
theorem l6_intro:LS1 (λ C6 y5 w0=>b7 R C6 x0 x3 y5 w0) x5 w (l6 R x0 x3 x5 w):=LI1 _ x5 w
def b4 (_:T (R):=Q _):=
 l6 R x0 x3 (.int .i64 0) w
def b1 (_:T (R):=Q _):=
 U R (box 89 x1) w λ v1 w2=>
 b4 R x0 v1 w2
theorem tie (R:EP):TI prog R (Zp f108) (QQ (λ z w=>R (.returned (z 4)) w)) λ z w=>b1 R (z 0) (z 1) w:=aT 0 (λ z w=>b4 R (z 0) (z 3) w) (sT (λ z w=>b3 R  w) (aT 0 (λ z w=>l6 R (z 0) (z 3) (z 5) w) (Zk 0 (lT1 5 (λ z C6 y5 w0=>b7 R C6 (z 0) (z 3) y5 w0) λ C6=>ofT))) ofT)
def run (R:EP)(a0 a1:Value)(w:World):=b1 R a0 a1 w
theorem ct:Cta2 prog id run:=Zcd call108 func108 λ R a0 a1 w h=>tie R _ w h
attribute [irreducible] l6
attribute [irreducible,go_sem] b3 b7_1 b7 b4 b1 run
end Zdm
namespace Zbd
variable (R:EP) (C6:VP) (x0 x1 x5 x56:Value) (w w8:World)
def b3 (_:T (R):=Q _):=
 R (.returned (.bool true)) w
def b9 (_:T (R,C6):=Q _):=
 U R (bC .add 3 16 1 x5) w λ v1 w2=>
 C6 v1 w2
def b12 (_:T (R,C6):=Q _):=
 SPL x56
 (R (.returned (.bool false)) w)
 (b9 R C6 x5 w)
def b11_1 (_:T (R,C6):=Q _):=
 Y (indexAt 28 x0 x5) λ v17=>
 Y (fieldAt 79 v17 1) λ v18=>
 L (loadAt 3 v18) w8.drew λ v19=>
 Y (indexAt 28 x1 x5) λ v20=>
 Y (fieldAt 79 v20 1) λ v21=>
 L (loadAt 3 v21) w8.drew λ v22=>
 Y (bins .neq 3 (.tmp 49) (.tmp 54) v19 v22) λ v23=>
 b12 R C6 x5 v23 w8.drew
def b11_2 (_:T (R,C6):=Q _):=
 Y (indexAt 28 x0 x5) λ v10=>
 Y (fieldAt 79 v10 0) λ v11=>
 L (loadAt 3 v11) w8.drew λ v12=>
 Y (indexAt 28 x1 x5) λ v13=>
 Y (fieldAt 79 v13 0) λ v14=>
 L (loadAt 3 v14) w8.drew λ v15=>
 Y (bins .neq 3 (.tmp 36) (.tmp 41) v12 v15) λ v16=>
 SPL v16
 (b12 R C6 x5 (.bool true) w8.drew)
 (b11_1 R C6 x0 x1 x5 w8)
def b11 (_:T (R,C6):=Q _):=
 Y (indexAt 28 x0 x5) λ v1=>
 Y (fieldAt 79 v1 2) λ v2=>
 L (loadAt 24 v2) w.drew λ v3=>
 Y (indexAt 28 x1 x5) λ v4=>
 Y (fieldAt 79 v4 2) λ v5=>
 L (loadAt 24 v5) w.drew λ v6=>
 K R Zca.id #[v3,v6] w.drew λ v7 w8=>
 Y (Op.unary .not v7) λ v9=>
 SPL v9
 (b12 R C6 x5 (.bool true) w8.drew)
 (b11_2 R C6 x0 x1 x5 w8)
def b7 (_:T (R,C6):=Q _):=
 U R (len_ #[28] 3 #[x0]) w λ v1 w2=>
 U R (bins .lss 3 (.tmp 12) (.tmp 14) x5 v1) w2 λ v3 w4=>
 SPL v3
 (b11 R C6 x0 x1 x5 w4)
 (b3 R w4)
def l6 (_:T (R):=Q _):Prop :=
 LP1 (λ C6 y5 w0=>b7 R C6 x0 x1 y5 w0) x5 w
theorem l6_intro:LS1 (λ C6 y5 w0=>b7 R C6 x0 x1 y5 w0) x5 w (l6 R x0 x1 x5 w):=LI1 _ x5 w
def b4 (_:T (R):=Q _):=
 l6 R x0 x1 (.int .i64 0) w
def b1 (_:T (R):=Q _):=
 U R (len_ #[28] 3 #[x0]) w λ v1 w2=>
 U R (len_ #[28] 3 #[x1]) w2 λ v3 w4=>
 U R (bins .neq 3 (.tmp 8) (.tmp 10) v1 v3) w4 λ v5 w6=>
 SPL v5
 (R (.returned (.bool false)) w6)
 (b4 R x0 x1 w6)
theorem tie (R:EP):TI prog R (Zp f12) (QQ (λ z w=>R (.returned (z 4)) w)) λ z w=>b1 R (z 0) (z 1) w:=aT 1 (λ z w=>b4 R (z 0) (z 1) w) (sT (λ z w=>b3 R  w) (aT 0 (λ z w=>l6 R (z 0) (z 1) (z 5) w) (Zk 0 (lT1 5 (λ z C6 y5 w0=>b7 R C6 (z 0) (z 1) y5 w0) λ C6=>aT 0 (λ z w=>b11 R C6 (z 0) (z 1) (z 5) w) (sT (λ z w=>b9 R C6 (z 5) w) (Zk 1 (aT 1 (λ z w=>b12 R C6 (z 5) (z 56) w) ofT)) ofT)))) ofT)
def run (R:EP)(a0 a1:Value)(w:World):=b1 R a0 a1 w
theorem ct:Cta2 prog id run:=Zcd call12 func12 λ R a0 a1 w h=>tie R _ w h
attribute [irreducible] l6
attribute [irreducible,go_sem] b3 b9 b12 b11_1 b11_2 b11 b7 b4 b1 run
end Zbd
namespace Zbh
variable (R:EP) (C8:VP) (x0 x1 x5 x18 x32:Value) (w w4:World)
def b4 (_:T (R):=Q _):=
 U R (sliceAt 24 x0 none (some x5) none) w λ v1 w2=>
 U R (append_ #[24,24] 24 #[(.slice none 0 0),v1]) w2 λ v3 w4=>
 U R (buildSlice 24 1 #[(0,x1)]) w4 λ v5 w6=>
 U R (append_ #[24,24] 24 #[v3,v5]) w6 λ v7 w8=>
 U R (sliceAt 24 x0 (some x5) none none) w8 λ v9 w10=>
 U R (append_ #[24,24] 24 #[v7,v9]) w10 λ v11 w12=>
 R (.returned v11) w12
def b6 (_:T (R):=Q _):=
 SPL x32
 (R (.returned x0) w)
 (b4 R x0 x1 x5 w)
def b5_1 (_:T (R):=Q _):=
 U R (indexAt 24 x0 x5) w4 λ v5 w6=>
 U R (loadAt 3 v5) w6 λ v7 w8=>
 U R (bins .eql 3 (.tmp 29) (.tmp 30) v7 x1) w8 λ v9 w10=>
 b6 R x0 x1 x5 v9 w10
def b5 (_:T (R):=Q _):=
 U R (len_ #[24] 3 #[x0]) w λ v1 w2=>
 U R (bins .lss 3 (.tmp 21) (.tmp 23) x5 v1) w2 λ v3 w4=>
 SPL v3
 (b5_1 R x0 x1 x5 w4)
 (b6 R x0 x1 x5 (.bool false) w4)
def b10 (_:T (R,C8):=Q _):=
 U R (bC .add 3 19 1 x5) w λ v1 w2=>
 C8 v1 w2
def b12 (_:T (R,C8):=Q _):=
 SPL x18
 (b10 R C8 x5 w)
 (b5 R x0 x1 x5 w)
def b11_1 (_:T (R,C8):=Q _):=
 U R (indexAt 24 x0 x5) w4 λ v5 w6=>
 U R (loadAt 3 v5) w6 λ v7 w8=>
 U R (bins .lss 3 (.tmp 15) (.tmp 16) v7 x1) w8 λ v9 w10=>
 b12 R C8 x0 x1 x5 v9 w10
def b11 (_:T (R,C8):=Q _):=
 U R (len_ #[24] 3 #[x0]) w λ v1 w2=>
 U R (bins .lss 3 (.tmp 7) (.tmp 9) x5 v1) w2 λ v3 w4=>
 SPL v3
 (b11_1 R C8 x0 x1 x5 w4)
 (b12 R C8 x0 x1 x5 (.bool false) w4)
def l8 (_:T (R):=Q _):Prop :=
 LP1 (λ C8 y5 w0=>b11 R C8 x0 x1 y5 w0) x5 w
theorem l8_intro:LS1 (λ C8 y5 w0=>b11 R C8 x0 x1 y5 w0) x5 w (l8 R x0 x1 x5 w):=LI1 _ x5 w
def b1 (_:T (R):=Q _):=
 l8 R x0 x1 (.int .i64 0) w
theorem tie (R:EP):TI prog R (Zp f51) (QQ (λ z w=>R (.returned (z 4)) w)) λ z w=>b1 R (z 0) (z 1) w:=aT 1 (λ z w=>l8 R (z 0) (z 1) (z 5) w) (sT (λ z w=>b5 R (z 0) (z 1) (z 5) w) (Zk 0 (lT1 5 (λ z C8 y5 w0=>b11 R C8 (z 0) (z 1) y5 w0) λ C8=>sT (λ z w=>b10 R C8 (z 5) w) (aT 0 (λ z w=>b12 R C8 (z 0) (z 1) (z 5) (z 18) w) ofT) ofT)) (sT (λ z w=>b4 R (z 0) (z 1) (z 5) w) (aT 0 (λ z w=>b6 R (z 0) (z 1) (z 5) (z 32) w) ofT) ofT))
def run (R:EP)(a0 a1:Value)(w:World):=b1 R a0 a1 w
theorem ct:Cta2 prog id run:=Zcd call51 func51 λ R a0 a1 w h=>tie R _ w h
attribute [irreducible] l8
attribute [irreducible,go_sem] b4 b6 b5_1 b5 b10 b12 b11_1 b11 b1 run
end Zbh
end Go.Proofs.YtjibcckpehdbhaaGreatDoor
