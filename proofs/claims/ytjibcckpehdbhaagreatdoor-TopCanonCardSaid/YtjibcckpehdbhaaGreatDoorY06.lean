/-
  Texts of this claim: T02H, T02Lib2.
-/
import Derived.Test.YtjibcckpehdbhaaGreatDoorY05
set_option linter.unusedVariables false
set_option maxRecDepth 100000
namespace Go.Proofs.YtjibcckpehdbhaaGreatDoor
open Go.Px Tryz Instr Builtin
namespace Zdp
variable (R:EP) (C6:VP) (x0 x3 x7 x8 x9:Value) (w w2:World)
def b3 (_:T (R):=Q _):=
 U R (len_ #[84] 3 #[x3]) w λ v1 w2=>
 U R (len_ #[23] 3 #[x0]) w2 λ v3 w4=>
 U R (bins .eql 3 (.tmp 19) (.tmp 21) v1 v3) w4 λ v5 w6=>
 R (.returned v5) w6
def b7_1 (_:T (R,C6):=Q _):=
 U R (indexAt 23 x7 x9) w2 λ v3 w4=>
 U R (loadAt 9 v3) w4 λ v5 w6=>
 U R (lookup 84 x3 v5 false) w6 λ v7 w8=>
 U R (bC .add 3 15 1 v7) w8 λ v9 w10=>
 RUNU prog R (mapUpdate 84 x3 v5 v9) w10 λ w11=>
 U R (bC .add 3 9 1 x9) w11 λ v12 w13=>
 C6 v12 w13
def b7 (_:T (R,C6):=Q _):=
 U R (bins .lss 3 (.tmp 9) (.tmp 8) x9 x8) w λ v1 w2=>
 SPL v1
 (b7_1 R C6 x3 x7 x9 w2)
 (b3 R x0 x3 w2)
def l6 (_:T (R):=Q _):Prop :=
 LP1 (λ C6 y9 w0=>b7 R C6 x0 x3 x7 x8 y9 w0) x9 w
theorem l6_intro:LS1 (λ C6 y9 w0=>b7 R C6 x0 x3 x7 x8 y9 w0) x9 w (l6 R x0 x3 x7 x8 x9 w):=LI1 _ x9 w
def b4 (_:T (R):=Q _):=
 U R (len_ #[23] 3 #[x0]) w λ v1 w2=>
 l6 R x0 x3 x0 v1 (.int .i64 0) w2
def b1 (_:T (R):=Q _):=
 U R (makeMap 84 none) w λ v1 w2=>
 b4 R x0 v1 w2
theorem tie (R:EP):TI prog R (Zp f149) (QQ (λ z w=>R (.returned (z 2)) w)) λ z w=>b1 R (z 0) w:=aT 1 (λ z w=>b4 R (z 0) (z 3) w) (sT (λ z w=>b3 R (z 0) (z 3) w) (aT 0 (λ z w=>l6 R (z 0) (z 3) (z 7) (z 8) (z 9) w) (Zk 0 (lT1 9 (λ z C6 y9 w0=>b7 R C6 (z 0) (z 3) (z 7) (z 8) y9 w0) λ C6=>ofT))) ofT)
def run (R:EP)(a0:Value)(w:World):=b1 R a0 w
theorem ct:Cta1 prog id run:=Zbj call149 func149 λ R a0 w h=>tie R _ w h
attribute [irreducible] l6
attribute [irreducible,go_sem] b3 b7_1 b7 b4 b1 run
end Zdp
namespace Zcp
variable (R:EP) (C9:VP) (C18:Value->VP) (x0 x1 x2 x5 x6 x8 x57 x61 x62 x63 x83 x94 x95 x96 x113 v5:Value) (w w8 w10 w14 w20 w28 w36 w46:World)
def b6_1 (_:T (R):=Q _):=
 K R Zas.id #[v5,(.func (.func Zdw.id) #[] #[])] w10 λ v11 w12=>
 U R (Op.unary .not v11) w12 λ v13 w14=>
 R (.returned v13) w14
def b6 (_:T (R):=Q _):=
 U R (fieldAt 27 x2 1) w λ v1 w2=>
 U R (loadAt 23 v1) w2 λ v3 w4=>
 U R (sliceAt 23 v3 (some x1) none none) w4 λ v5 w6=>
 K R Zdp.id #[x5] w6 λ v7 w8=>
 SPL v7
 (K R Zdp.id #[v5] w8 λ v9 w10=>
 SPL v9
 (b6_1 R v5 w10)
 (R (.returned (.bool false)) w10))
 (R (.returned (.bool false)) w8)
def b12 (_:T (R,C9):=Q _):=
 U R (bC .add 3 96 1 x96) w λ v1 w2=>
 C9 v1 w2
def b15 (_:T (R,C9):=Q _):=
 SPL x113
 (R (.returned (.bool false)) w)
 (b12 R C9 x96 w)
def b14_1 (_:T (R,C9):=Q _):=
 U R (bC .add 3 109 1 x96) w8 λ v9 w10=>
 U R (lookup 269 x6 v9 false) w10 λ v11 w12=>
 U R (bC .eql 3 111 0 v11) w12 λ v13 w14=>
 b15 R C9 x96 v13 w14
def b14 (_:T (R,C9):=Q _):=
 U R (indexAt 24 x94 x96) w λ v1 w2=>
 U R (loadAt 3 v1) w2 λ v3 w4=>
 U R (bC .lss 3 101 1 v3) w4 λ v5 w6=>
 SPL v5
 (b15 R C9 x96 (.bool true) w6)
 (U R (bC .gtr 3 104 3 v3) w6 λ v7 w8=>
 SPL v7
 (b15 R C9 x96 (.bool true) w8)
 (b14_1 R C9 x6 x96 w8))
def b10 (_:T (R,C9):=Q _):=
 U R (bins .lss 3 (.tmp 96) (.tmp 95) x96 x95) w λ v1 w2=>
 SPL v1
 (b14 R C9 x6 x94 x96 w2)
 (b6 R x1 x2 x5 w2)
def l9 (_:T (R):=Q _):Prop :=
 LP1 (λ C9 y96 w0=>b10 R C9 x1 x2 x5 x6 x94 x95 y96 w0) x96 w
theorem l9_intro:LS1 (λ C9 y96 w0=>b10 R C9 x1 x2 x5 x6 x94 x95 y96 w0) x96 w (l9 R x1 x2 x5 x6 x94 x95 x96 w):=LI1 _ x96 w
def b7 (_:T (R):=Q _):=
 U R (fieldAt 27 x2 2) w λ v1 w2=>
 U R (loadAt 24 v1) w2 λ v3 w4=>
 U R (len_ #[24] 3 #[v3]) w4 λ v5 w6=>
 l9 R x1 x2 x5 x6 v3 v5 (.int .i64 0) w6
def b21 (_:T (R,C18):=Q _):=
 U R (bC .add 3 63 1 x63) w λ v1 w2=>
 C18 x5 v1 w2
def b25 (_:T (R,C18):=Q _):=
 U R (fieldAt 268 x8 0) w λ v1 w2=>
 U R (loadAt 9 v1) w2 λ v3 w4=>
 U R (buildSlice 23 1 #[(0,v3)]) w4 λ v5 w6=>
 U R (append_ #[23,23] 23 #[x5,v5]) w6 λ v7 w8=>
 U R (fieldAt 268 x8 1) w8 λ v9 w10=>
 U R (loadAt 3 v9) w10 λ v11 w12=>
 RUNU prog R (mapUpdate 269 x6 v11 (.int .i64 1)) w12 λ w13=>
 b21 R C18 v7 x63 w13
def b27 (_:T (R,C18):=Q _):=
 SPL x83
 (R (.returned (.bool false)) w)
 (b25 R C18 x5 x6 x8 x63 w)
def b26_1 (_:T (R,C18):=Q _):=
 U R (fieldAt 268 x8 1) w14 λ v15 w16=>
 U R (loadAt 3 v15) w16 λ v17 w18=>
 U R (fieldAt 27 x2 2) w18 λ v19 w20=>
 U R (loadAt 24 v19) w20 λ v21 w22=>
 U R (len_ #[24] 3 #[v21]) w22 λ v23 w24=>
 U R (bins .gtr 3 (.tmp 78) (.tmp 81) v17 v23) w24 λ v25 w26=>
 b27 R C18 x5 x6 x8 x63 v25 w26
def Zuh (_:T (R,C18):=Q _):Prop :=
 U R (fieldAt 268 x8 1) w8 λ v9 w10=>
 U R (loadAt 3 v9) w10 λ v11 w12=>
 U R (bC .lss 3 73 0 v11) w12 λ v13 w14=>
 SPL v13
 (b27 R C18 x5 x6 x8 x63 (.bool true) w14)
 (b26_1 R C18 x2 x5 x6 x8 x63 w14)
def b26 (_:T (R,C18):=Q _):=
 U R (fieldAt 268 x8 0) w λ v1 w2=>
 U R (loadAt 9 v1) w2 λ v3 w4=>
 K R Zd4.id #[v3] w4 λ v5 w6=>
 U R (Op.unary .not v5) w6 λ v7 w8=>
 SPL v7
 (b27 R C18 x5 x6 x8 x63 (.bool true) w8)
 (Zuh R C18 x2 x5 x6 x8 x63 w8)
def b23 (_:T (R,C18):=Q _):=
 U R (indexAt 22 x61 x63) w λ v1 w2=>
 U R (loadAt 268 v1) w2 λ v3 w4=>
 U R (alloc 268 true (.tuple #[])) w4 λ v5 w6=>
 RUNU prog R (storeAt 268 v5 v3) w6 λ w7=>
 b26 R C18 x2 x5 x6 v5 x63 w7
def b19 (_:T (R,C18):=Q _):=
 U R (bins .lss 3 (.tmp 63) (.tmp 62) x63 x62) w λ v1 w2=>
 SPL v1
 (b23 R C18 x2 x5 x6 x61 x63 w2)
 (b7 R x1 x2 x5 x6 w2)
def l18 (_:T (R):=Q _):Prop :=
 LP2 (λ C18 y5 y63 w0=>b19 R C18 x1 x2 y5 x6 x61 x62 y63 w0) x5 x63 w
theorem l18_intro:LS2 (λ C18 y5 y63 w0=>b19 R C18 x1 x2 y5 x6 x61 x62 y63 w0) x5 x63 w (l18 R x1 x2 x5 x6 x61 x62 x63 w):=LI2 _ x5 x63 w
def b16 (_:T (R):=Q _):=
 U R (fieldAt 27 x2 0) w λ v1 w2=>
 U R (loadAt 22 v1) w2 λ v3 w4=>
 U R (sliceAt 22 v3 (some (.int .i64 1)) none none) w4 λ v5 w6=>
 U R (len_ #[22] 3 #[v5]) w6 λ v7 w8=>
 l18 R x1 x2 x5 x6 v5 v7 (.int .i64 0) w8
def b3 (_:T (R):=Q _):=
 U R (makeMap 269 none) w λ v1 w2=>
 b16 R x1 x2 (.slice none 0 0) v1 w2
def b29 (_:T (R):=Q _):=
 SPL x57
 (R (.returned (.bool false)) w)
 (b3 R x1 x2 w)
def b28_1 (_:T (R):=Q _):=
 U R (fieldAt 27 x2 0) w46 λ v47 w48=>
 U R (loadAt 22 v47) w48 λ v49 w50=>
 U R (len_ #[22] 3 #[v49]) w50 λ v51 w52=>
 U R (bC .sub 3 48 1 v51) w52 λ v53 w54=>
 U R (fieldAt 27 x2 1) w54 λ v55 w56=>
 U R (loadAt 23 v55) w56 λ v57 w58=>
 U R (len_ #[23] 3 #[v57]) w58 λ v59 w60=>
 U R (bins .add 3 (.tmp 49) (.tmp 52) v53 v59) w60 λ v61 w62=>
 U R (bins .sub 3 (.tmp 53) (.tmp 54) v61 x1) w62 λ v63 w64=>
 U R (bC .gtr 3 55 64 v63) w64 λ v65 w66=>
 b29 R x1 x2 v65 w66
def b28_2 (_:T (R):=Q _):=
 U R (fieldAt 27 x2 1) w36 λ v37 w38=>
 U R (loadAt 23 v37) w38 λ v39 w40=>
 U R (len_ #[23] 3 #[v39]) w40 λ v41 w42=>
 U R (bins .add 3 (.const (.int .i64 64)) (.tmp 41) (.int .i64 64) x1) w42 λ v43 w44=>
 U R (bins .gtr 3 (.tmp 40) (.tmp 42) v41 v43) w44 λ v45 w46=>
 SPL v45
 (b29 R x1 x2 (.bool true) w46)
 (b28_1 R x1 x2 w46)
def b28_3 (_:T (R):=Q _):=
 U R (fieldAt 27 x2 0) w28 λ v29 w30=>
 U R (loadAt 22 v29) w30 λ v31 w32=>
 U R (len_ #[22] 3 #[v31]) w32 λ v33 w34=>
 U R (bC .gtr 3 34 65 v33) w34 λ v35 w36=>
 SPL v35
 (b29 R x1 x2 (.bool true) w36)
 (b28_2 R x1 x2 w36)
def b28_4 (_:T (R):=Q _):=
 U R (fieldAt 27 x2 1) w20 λ v21 w22=>
 U R (loadAt 23 v21) w22 λ v23 w24=>
 U R (len_ #[23] 3 #[v23]) w24 λ v25 w26=>
 U R (bins .leq 3 (.tmp 27) (.tmp 28) v25 x1) w26 λ v27 w28=>
 SPL v27
 (b29 R x1 x2 (.bool true) w28)
 (b28_3 R x1 x2 w28)
def b28_5 (_:T (R):=Q _):=
 U R (fieldAt 27 x2 0) w8 λ v9 w10=>
 U R (loadAt 22 v9) w10 λ v11 w12=>
 U R (indexAt 22 v11 (.int .i64 0)) w12 λ v13 w14=>
 U R (loadAt 268 v13) w14 λ v15 w16=>
 U R (build 268 #[]) w16 λ v17 w18=>
 U R (bins .neq 268 (.tmp 20) (.tmp 21) v15 v17) w18 λ v19 w20=>
 SPL v19
 (b29 R x1 x2 (.bool true) w20)
 (b28_4 R x1 x2 w20)
def b28 (_:T (R):=Q _):=
 U R (fieldAt 27 x2 0) w λ v1 w2=>
 U R (loadAt 22 v1) w2 λ v3 w4=>
 U R (len_ #[22] 3 #[v3]) w4 λ v5 w6=>
 U R (bC .eql 3 14 0 v5) w6 λ v7 w8=>
 SPL v7
 (b29 R x1 x2 (.bool true) w8)
 (b28_5 R x1 x2 w8)
def b1 (_:T (R):=Q _):=
 U R (box 27 x0) w λ v1 w2=>
 b28 R x1 v1 w2
theorem tie (R:EP):TI prog R (Zp f86) (QQ (λ z w=>R (.returned (z 4)) w)) λ z w=>b1 R (z 0) (z 1) w:=aT 0 (λ z w=>b28 R (z 1) (z 2) w) (sT (λ z w=>b3 R (z 1) (z 2) w) (aT 0 (λ z w=>b29 R (z 1) (z 2) (z 57) w) ofT) (aT 1 (λ z w=>b16 R (z 1) (z 2) (z 5) (z 6) w) (sT (λ z w=>b7 R (z 1) (z 2) (z 5) (z 6) w) (aT 0 (λ z w=>l18 R (z 1) (z 2) (z 5) (z 6) (z 61) (z 62) (z 63) w) (Zk 0 (lT2 5 63 (λ z C18 y5 y63 w0=>b19 R C18 (z 1) (z 2) y5 (z 6) (z 61) (z 62) y63 w0) λ C18=>aT 1 (λ z w=>b23 R C18 (z 2) (z 5) (z 6) (z 61) (z 63) w) (sT (λ z w=>b21 R C18 (z 5) (z 63) w) (Zk 1 (aT 0 (λ z w=>b26 R C18 (z 2) (z 5) (z 6) (z 8) (z 63) w) (sT (λ z w=>b25 R C18 (z 5) (z 6) (z 8) (z 63) w) (aT 0 (λ z w=>b27 R C18 (z 5) (z 6) (z 8) (z 63) (z 83) w) ofT) ofT))) ofT)))) (sT (λ z w=>b6 R (z 1) (z 2) (z 5) w) (aT 0 (λ z w=>l9 R (z 1) (z 2) (z 5) (z 6) (z 94) (z 95) (z 96) w) (Zk 2 (lT1 96 (λ z C9 y96 w0=>b10 R C9 (z 1) (z 2) (z 5) (z 6) (z 94) (z 95) y96 w0) λ C9=>aT 1 (λ z w=>b14 R C9 (z 6) (z 94) (z 96) w) (sT (λ z w=>b12 R C9 (z 96) w) (Zk 3 (aT 1 (λ z w=>b15 R C9 (z 96) (z 113) w) ofT)) ofT)))) ofT))))
def run (R:EP)(a0 a1:Value)(w:World):=b1 R a0 a1 w
theorem ct:Cta2 prog id run:=Zcd call86 func86 λ R a0 a1 w h=>tie R _ w h
attribute [irreducible] l9 l18
attribute [irreducible,go_sem] b6_1 b6 b12 b15 b14_1 b14 b10 b7 b21 b25 b27 b26_1 Zuh b26 b23 b19 b16 b3 b29 b28_1 b28_2 b28_3 b28_4 b28_5 b28 b1 run
end Zcp
namespace Zdw
variable (R:EP) (x0:Value) (w:World)
def b1 (_:T (R):=Q _):=
 K R Za9.id #[x0] w λ v1 w2=>
 U R (Op.unary .not v1) w2 λ v3 w4=>
 R (.returned v3) w4
theorem tie (R:EP):TI prog R (Zp f151) (QQ (λ z w=>R (.returned (z 2)) w)) λ z w=>b1 R (z 0) w:=ofT
def run (R:EP)(a0:Value)(w:World):=b1 R a0 w
theorem ct:Cta1 prog id run:=Zbj call151 func151 λ R a0 w h=>tie R _ w h
attribute [irreducible,go_sem] b1 run
end Zdw
namespace Zbu
variable (R:EP) (C8:Value->VP) (C19:VP) (x0 x1 x2 x6 x7 x8 x10 x25 x41 x42 x43 x69 x71 x72 x73 x95 v3:Value) (w w6 w8 w12 w18:World)
def b5_1 (_:T (R):=Q _):=
 Y (fieldAt 27 x2 3) λ v10=>
 L (loadAt 3 v10) w.drew λ v11=>
 Y (bins .lss 3 (.tmp 125) (.tmp 126) v11 x6) λ v12=>
 R (.returned (.tuple #[x8,v12])) w.drew
def b5_2 (_:T (R):=Q _):=
 Y (fieldAt 27 x2 3) λ v7=>
 L (loadAt 3 v7) w.drew λ v8=>
 Y (bins .geq 3 (.tmp 119) (.tmp 120) v8 x7) λ v9=>
 SPL v9
 (b5_1 R x2 x6 x8 w)
 (R (.returned (.tuple #[x8,(.bool false)])) w.drew)
def b5 (_:T (R):=Q _):=
 L (len_ #[24] 3 #[x8]) w.drew λ v1=>
 Y (fieldAt 27 x2 1) λ v2=>
 L (loadAt 23 v2) w.drew λ v3=>
 L (len_ #[23] 3 #[v3]) w.drew λ v4=>
 Y (bins .sub 3 (.tmp 113) (.tmp 114) v4 x1) λ v5=>
 Y (bins .eql 3 (.tmp 110) (.tmp 115) v1 v5) λ v6=>
 SPL v6
 (b5_2 R x2 x6 x7 x8 w)
 (R (.returned (.tuple #[x8,(.bool false)])) w.drew)
def b11 (_:T (R,C8):=Q _):=
 U R (bC .add 3 43 1 x43) w λ v1 w2=>
 C8 x8 v1 w2
def b16_1 (_:T (R,C8):=Q _):=
 U R (fieldAt 103 x10 0) w8 λ v9 w10=>
 U R (loadAt 3 v9) w10 λ v11 w12=>
 U R (buildSlice 24 1 #[(0,v11)]) w12 λ v13 w14=>
 U R (append_ #[24,24] 24 #[x8,v13]) w14 λ v15 w16=>
 b11 R C8 v15 x43 w16
def b16 (_:T (R,C8):=Q _):=
 U R (fieldAt 103 x10 0) w λ v1 w2=>
 U R (loadAt 3 v1) w2 λ v3 w4=>
 K R Zbw.id #[x8,v3] w4 λ v5 w6=>
 U R (Op.unary .not v5) w6 λ v7 w8=>
 SPL v7
 (b16_1 R C8 x8 x10 x43 w8)
 (b11 R C8 x8 x43 w8)
def b22 (_:T (R,C8,C19):=Q _):=
 U R (bC .add 3 73 1 x73) w λ v1 w2=>
 C19 v1 w2
def b25 (_:T (R,C8,C19):=Q _):=
 SPL x95
 (R (.returned (.tuple #[(.slice none 0 0),(.bool false)])) w)
 (b22 R C8 C19 x73 w)
def b24_1 (_:T (R,C8,C19):=Q _):=
 U R (fieldAt 27 x2 0) w8 λ v9 w10=>
 U R (loadAt 22 v9) w10 λ v11 w12=>
 U R (len_ #[22] 3 #[v11]) w12 λ v13 w14=>
 U R (bins .geq 3 (.tmp 85) (.tmp 88) v3 v13) w14 λ v15 w16=>
 SPL v15
 (U R (bins .lss 3 (.tmp 91) (.tmp 92) v3 x7) w16 λ v17 w18=>
 b25 R C8 C19 x73 v17 w18)
 (b25 R C8 C19 x73 (.bool false) w16)
def b24 (_:T (R,C8,C19):=Q _):=
 U R (indexAt 24 x71 x73) w λ v1 w2=>
 U R (loadAt 3 v1) w2 λ v3 w4=>
 U R (bC .lss 3 77 1 v3) w4 λ v5 w6=>
 SPL v5
 (b25 R C8 C19 x73 (.bool true) w6)
 (U R (bins .geq 3 (.tmp 80) (.tmp 81) v3 x6) w6 λ v7 w8=>
 SPL v7
 (b25 R C8 C19 x73 (.bool true) w8)
 (b24_1 R C8 C19 x2 x7 x73 v3 w8))
def b20 (_:T (R,C8,C19):=Q _):=
 U R (bins .lss 3 (.tmp 73) (.tmp 72) x73 x72) w λ v1 w2=>
 SPL v1
 (b24 R C8 C19 x2 x6 x7 x71 x73 w2)
 (b16 R C8 x8 x10 x43 w2)
def l19 (_:T (R,C8):=Q _):Prop :=
 LP1 (λ C19 y73 w0=>b20 R C8 C19 x2 x6 x7 x8 x10 x43 x71 x72 y73 w0) x73 w
theorem l19_intro:LS1 (λ C19 y73 w0=>b20 R C8 C19 x2 x6 x7 x8 x10 x43 x71 x72 y73 w0) x73 w (l19 R C8 x2 x6 x7 x8 x10 x43 x71 x72 x73 w):=LI1 _ x73 w
def b17 (_:T (R,C8):=Q _):=
 U R (fieldAt 103 x10 1) w λ v1 w2=>
 U R (loadAt 24 v1) w2 λ v3 w4=>
 U R (len_ #[24] 3 #[v3]) w4 λ v5 w6=>
 l19 R C8 x2 x6 x7 x8 x10 x43 v3 v5 (.int .i64 0) w6
def b27 (_:T (R,C8):=Q _):=
 SPL x69
 (R (.returned (.tuple #[(.slice none 0 0),(.bool false)])) w)
 (b17 R C8 x2 x6 x7 x8 x10 x43 w)
def b26_1 (_:T (R,C8):=Q _):=
 U R (fieldAt 103 x10 2) w18 λ v19 w20=>
 U R (loadAt 3 v19) w20 λ v21 w22=>
 U R (fieldAt 27 x2 2) w22 λ v23 w24=>
 U R (loadAt 24 v23) w24 λ v25 w26=>
 U R (len_ #[24] 3 #[v25]) w26 λ v27 w28=>
 U R (bins .gtr 3 (.tmp 64) (.tmp 67) v21 v27) w28 λ v29 w30=>
 b27 R C8 x2 x6 x7 x8 x10 x43 v29 w30
def Zuh (_:T (R,C8):=Q _):Prop :=
 U R (fieldAt 103 x10 2) w12 λ v13 w14=>
 U R (loadAt 3 v13) w14 λ v15 w16=>
 U R (bC .lss 3 59 0 v15) w16 λ v17 w18=>
 SPL v17
 (b27 R C8 x2 x6 x7 x8 x10 x43 (.bool true) w18)
 (b26_1 R C8 x2 x6 x7 x8 x10 x43 w18)
def b26_3 (_:T (R,C8):=Q _):=
 U R (fieldAt 103 x10 0) w6 λ v7 w8=>
 U R (loadAt 3 v7) w8 λ v9 w10=>
 U R (bins .geq 3 (.tmp 53) (.tmp 54) v9 x6) w10 λ v11 w12=>
 SPL v11
 (b27 R C8 x2 x6 x7 x8 x10 x43 (.bool true) w12)
 (Zuh R C8 x2 x6 x7 x8 x10 x43 w12)
def b26 (_:T (R,C8):=Q _):=
 U R (fieldAt 103 x10 0) w λ v1 w2=>
 U R (loadAt 3 v1) w2 λ v3 w4=>
 U R (bins .lss 3 (.tmp 48) (.tmp 49) v3 x7) w4 λ v5 w6=>
 SPL v5
 (b27 R C8 x2 x6 x7 x8 x10 x43 (.bool true) w6)
 (b26_3 R C8 x2 x6 x7 x8 x10 x43 w6)
def b13 (_:T (R,C8):=Q _):=
 U R (indexAt 25 x41 x43) w λ v1 w2=>
 U R (loadAt 103 v1) w2 λ v3 w4=>
 U R (alloc 103 true (.tuple #[])) w4 λ v5 w6=>
 RUNU prog R (storeAt 103 v5 v3) w6 λ w7=>
 b26 R C8 x2 x6 x7 x8 v5 x43 w7
def b9 (_:T (R,C8):=Q _):=
 U R (bins .lss 3 (.tmp 43) (.tmp 42) x43 x42) w λ v1 w2=>
 SPL v1
 (b13 R C8 x2 x6 x7 x8 x41 x43 w2)
 (b5 R x1 x2 x6 x7 x8 w2)
def l8 (_:T (R):=Q _):Prop :=
 LP2 (λ C8 y8 y43 w0=>b9 R C8 x1 x2 x6 x7 y8 x41 x42 y43 w0) x8 x43 w
theorem l8_intro:LS2 (λ C8 y8 y43 w0=>b9 R C8 x1 x2 x6 x7 y8 x41 x42 y43 w0) x8 x43 w (l8 R x1 x2 x6 x7 x8 x41 x42 x43 w):=LI2 _ x8 x43 w
def b6 (_:T (R):=Q _):=
 U R (fieldAt 27 x2 4) w λ v1 w2=>
 U R (loadAt 25 v1) w2 λ v3 w4=>
 U R (sliceAt 25 v3 (some x1) none none) w4 λ v5 w6=>
 U R (len_ #[25] 3 #[v5]) w6 λ v7 w8=>
 l8 R x1 x2 x6 x7 x8 v5 v7 (.int .i64 0) w8
def b3 (_:T (R):=Q _):=
 U R (fieldAt 27 x2 0) w λ v1 w2=>
 U R (loadAt 22 v1) w2 λ v3 w4=>
 U R (len_ #[22] 3 #[v3]) w4 λ v5 w6=>
 U R (fieldAt 27 x2 1) w6 λ v7 w8=>
 U R (loadAt 23 v7) w8 λ v9 w10=>
 U R (len_ #[23] 3 #[v9]) w10 λ v11 w12=>
 U R (bins .add 3 (.tmp 28) (.tmp 31) v5 v11) w12 λ v13 w14=>
 U R (fieldAt 27 x2 0) w14 λ v15 w16=>
 U R (loadAt 22 v15) w16 λ v17 w18=>
 U R (len_ #[22] 3 #[v17]) w18 λ v19 w20=>
 U R (bins .add 3 (.tmp 35) (.tmp 36) v19 x1) w20 λ v21 w22=>
 b6 R x1 x2 v13 v21 (.slice none 0 0) w22
def b29 (_:T (R):=Q _):=
 SPL x25
 (R (.returned (.tuple #[(.slice none 0 0),(.bool false)])) w)
 (b3 R x1 x2 w)
def b28_1 (_:T (R):=Q _):=
 U R (fieldAt 27 x2 4) w8 λ v9 w10=>
 U R (loadAt 25 v9) w10 λ v11 w12=>
 U R (len_ #[25] 3 #[v11]) w12 λ v13 w14=>
 U R (bins .add 3 (.const (.int .i64 96)) (.tmp 22) (.int .i64 96) x1) w14 λ v15 w16=>
 U R (bins .gtr 3 (.tmp 21) (.tmp 23) v13 v15) w16 λ v17 w18=>
 b29 R x1 x2 v17 w18
def b28 (_:T (R):=Q _):=
 U R (fieldAt 27 x2 4) w λ v1 w2=>
 U R (loadAt 25 v1) w2 λ v3 w4=>
 U R (len_ #[25] 3 #[v3]) w4 λ v5 w6=>
 U R (bins .leq 3 (.tmp 15) (.tmp 16) v5 x1) w6 λ v7 w8=>
 SPL v7
 (b29 R x1 x2 (.bool true) w8)
 (b28_1 R x1 x2 w8)
def b1 (_:T (R):=Q _):=
 U R (box 27 x0) w λ v1 w2=>
 b28 R x1 v1 w2
theorem tie (R:EP):TI prog R (Zp f87) (QQ (λ z w=>R (.returned (.tuple #[(z 4),(z 5)])) w)) λ z w=>b1 R (z 0) (z 1) w:=aT 0 (λ z w=>b28 R (z 1) (z 2) w) (sT (λ z w=>b3 R (z 1) (z 2) w) (aT 0 (λ z w=>b29 R (z 1) (z 2) (z 25) w) ofT) (aT 2 (λ z w=>b6 R (z 1) (z 2) (z 6) (z 7) (z 8) w) (sT (λ z w=>b5 R (z 1) (z 2) (z 6) (z 7) (z 8) w) (aT 0 (λ z w=>l8 R (z 1) (z 2) (z 6) (z 7) (z 8) (z 41) (z 42) (z 43) w) (Zk 0 (lT2 8 43 (λ z C8 y8 y43 w0=>b9 R C8 (z 1) (z 2) (z 6) (z 7) y8 (z 41) (z 42) y43 w0) λ C8=>aT 1 (λ z w=>b13 R C8 (z 2) (z 6) (z 7) (z 8) (z 41) (z 43) w) (sT (λ z w=>b11 R C8 (z 8) (z 43) w) (Zk 1 (aT 0 (λ z w=>b26 R C8 (z 2) (z 6) (z 7) (z 8) (z 10) (z 43) w) (sT (λ z w=>b17 R C8 (z 2) (z 6) (z 7) (z 8) (z 10) (z 43) w) (aT 0 (λ z w=>b27 R C8 (z 2) (z 6) (z 7) (z 8) (z 10) (z 43) (z 69) w) ofT) (sT (λ z w=>b16 R C8 (z 8) (z 10) (z 43) w) (aT 0 (λ z w=>l19 R C8 (z 2) (z 6) (z 7) (z 8) (z 10) (z 43) (z 71) (z 72) (z 73) w) (Zk 2 (lT1 73 (λ z C19 y73 w0=>b20 R C8 C19 (z 2) (z 6) (z 7) (z 8) (z 10) (z 43) (z 71) (z 72) y73 w0) λ C19=>aT 1 (λ z w=>b24 R C8 C19 (z 2) (z 6) (z 7) (z 71) (z 73) w) (sT (λ z w=>b22 R C8 C19 (z 73) w) (Zk 3 (aT 1 (λ z w=>b25 R C8 C19 (z 73) (z 95) w) ofT)) ofT)))) ofT)))) ofT)))) ofT)))
def run (R:EP)(a0 a1:Value)(w:World):=b1 R a0 a1 w
theorem ct:Cta2 prog id run:=Zia call87 func87 λ R a0 a1 w h=>tie R _ w h
attribute [irreducible] l19 l8
attribute [irreducible,go_sem] b5_1 b5_2 b5 b11 b16_1 b16 b22 b25 b24_1 b24 b20 b17 b27 b26_1 Zuh b26_3 b26 b13 b9 b6 b3 b29 b28_1 b28 b1 run
end Zbu
namespace Zd6
variable (R:EP) (x0 x1 x21 v3 v11:Value) (w w4 w8 w12 w18:World)
def b3_1 (_:T (R):=Q _):=
 Y (indexAt 25 v11 (.int .i64 0)) λ v33=>
 Y (fieldAt 103 v33 2) λ v34=>
 L (loadAt 3 v34) w12.drew λ v35=>
 Y (bC .eql 3 63 0 v35) λ v36=>
 R (.returned v36) w12.drew
def b3_2 (_:T (R):=Q _):=
 Y (indexAt 25 v11 (.int .i64 0)) λ v25=>
 Y (fieldAt 103 v25 1) λ v26=>
 L (loadAt 24 v26) w12.drew λ v27=>
 Y (indexAt 24 v27 (.int .i64 0)) λ v28=>
 L (loadAt 3 v28) w12.drew λ v29=>
 Y (fieldAt 27 x1 3) λ v30=>
 L (loadAt 3 v30) w12.drew λ v31=>
 Y (bins .eql 3 (.tmp 54) (.tmp 56) v29 v31) λ v32=>
 SPL v32
 (b3_1 R v11 w12)
 (R (.returned (.bool false)) w12.drew)
def b3_3 (_:T (R):=Q _):=
 Y (indexAt 25 v11 (.int .i64 0)) λ v20=>
 Y (fieldAt 103 v20 1) λ v21=>
 L (loadAt 24 v21) w12.drew λ v22=>
 L (len_ #[24] 3 #[v22]) w12.drew λ v23=>
 Y (bC .eql 3 45 1 v23) λ v24=>
 SPL v24
 (b3_2 R x1 v11 w12)
 (R (.returned (.bool false)) w12.drew)
def b3_4 (_:T (R):=Q _):=
 Y (indexAt 25 v11 (.int .i64 0)) λ v13=>
 Y (fieldAt 103 v13 0) λ v14=>
 L (loadAt 3 v14) w12.drew λ v15=>
 Y (fieldAt 27 x1 0) λ v16=>
 L (loadAt 22 v16) w12.drew λ v17=>
 L (len_ #[22] 3 #[v17]) w12.drew λ v18=>
 Y (bins .eql 3 (.tmp 34) (.tmp 37) v15 v18) λ v19=>
 SPL v19
 (b3_3 R x1 v11 w12)
 (R (.returned (.bool false)) w12.drew)
def b3_5 (_:T (R):=Q _):=
 U R (extract v3 0) w4 λ v5 w6=>
 U R (extract v3 1) w6 λ v7 w8=>
 U R (fieldAt 27 x1 4) w8 λ v9 w10=>
 U R (loadAt 25 v9) w10 λ v11 w12=>
 SPL v7
 (b3_4 R x1 v11 w12)
 (R (.returned (.bool false)) w12.drew)
def b3 (_:T (R):=Q _):=
 U R (loadAt 27 x1) w λ v1 w2=>
 K R Zbu.id #[v1,(.int .i64 1)] w2 λ v3 w4=>
 b3_5 R x1 v3 w4
def b5 (_:T (R):=Q _):=
 SPL x21
 (R (.returned (.bool false)) w)
 (b3 R x1 w)
def b4_1 (_:T (R):=Q _):=
 U R (loadAt 27 x1) w18 λ v19 w20=>
 K R Zcp.id #[v19,(.int .i64 1)] w20 λ v21 w22=>
 U R (Op.unary .not v21) w22 λ v23 w24=>
 b5 R x1 v23 w24
def b4_2 (_:T (R):=Q _):=
 U R (fieldAt 27 x1 1) w8 λ v9 w10=>
 U R (loadAt 23 v9) w10 λ v11 w12=>
 U R (indexAt 23 v11 (.int .i64 0)) w12 λ v13 w14=>
 U R (loadAt 9 v13) w14 λ v15 w16=>
 U R (bins .neq 9 (.tmp 14) (.const (.string ⟨#[]⟩)) v15 (.string ⟨#[]⟩)) w16 λ v17 w18=>
 SPL v17
 (b5 R x1 (.bool true) w18)
 (b4_1 R x1 w18)
def b4 (_:T (R):=Q _):=
 U R (fieldAt 27 x1 1) w λ v1 w2=>
 U R (loadAt 23 v1) w2 λ v3 w4=>
 U R (len_ #[23] 3 #[v3]) w4 λ v5 w6=>
 U R (bC .eql 3 8 0 v5) w6 λ v7 w8=>
 SPL v7
 (b5 R x1 (.bool true) w8)
 (b4_2 R x1 w8)
def b1 (_:T (R):=Q _):=
 U R (box 27 x0) w λ v1 w2=>
 b4 R v1 w2
theorem tie (R:EP):TI prog R (Zp f32) (QQ (λ z w=>R (.returned (z 2)) w)) λ z w=>b1 R (z 0) w:=aT 0 (λ z w=>b4 R (z 1) w) (sT (λ z w=>b3 R (z 1) w) (aT 0 (λ z w=>b5 R (z 1) (z 21) w) ofT) ofT)
def run (R:EP)(a0:Value)(w:World):=b1 R a0 w
theorem ct:Cta1 prog id run:=Zbj call32 func32 λ R a0 w h=>tie R _ w h
attribute [irreducible,go_sem] b3_1 b3_2 b3_3 b3_4 b3_5 b3 b5 b4_1 b4_2 b4 b1 run
end Zd6
namespace Zev
variable (R:EP) (x0 v1 v11:Value) (w w8 w12:World)
def b1_1 (_:T (R):=Q _):=
 U R (extract v11 0) w12 λ v13 w14=>
 U R (extract v11 1) w14 λ v15 w16=>
 SPL v15
 (K R Zbf.id #[v13] w16 λ v17 w18=>
 R (.returned v17) w18)
 (R (.returned (.bool false)) w16)
def b1_2 (_:T (R):=Q _):=
 U R (loadAt 27 v1) w8 λ v9 w10=>
 K R Zbu.id #[v9,(.int .i64 0)] w10 λ v11 w12=>
 b1_1 R v11 w12
def b1 (_:T (R):=Q _):=
 U R (box 27 x0) w λ v1 w2=>
 U R (loadAt 27 v1) w2 λ v3 w4=>
 K R Zcp.id #[v3,(.int .i64 0)] w4 λ v5 w6=>
 U R (Op.unary .not v5) w6 λ v7 w8=>
 SPL v7
 (R (.returned (.bool false)) w8)
 (b1_2 R v1 w8)
theorem tie (R:EP):TI prog R (Zp f171) (QQ (λ z w=>R (.returned (z 2)) w)) λ z w=>b1 R (z 0) w:=ofT
def run (R:EP)(a0:Value)(w:World):=b1 R a0 w
theorem ct:Cta1 prog id run:=Zbj call171 func171 λ R a0 w h=>tie R _ w h
attribute [irreducible,go_sem] b1_1 b1_2 b1 run
end Zev
namespace Zbw
variable (R:EP) (x0 x1:Value) (w:World)
def b1 (_:T (R):=Q _):=
 K R Zb1.id #[x0,x1] w λ v1 w2=>
 U R (bC .geq 3 7 0 v1) w2 λ v3 w4=>
 R (.returned v3) w4
theorem tie (R:EP):TI prog R (Zp f153) (QQ (λ z w=>R (.returned (z 4)) w)) λ z w=>b1 R (z 0) (z 1) w:=ofT
def run (R:EP)(a0 a1:Value)(w:World):=b1 R a0 a1 w
theorem ct:Cta2 prog id run:=Zcd call153 func153 λ R a0 a1 w h=>tie R _ w h
attribute [irreducible,go_sem] b1 run
end Zbw
namespace Zb1
variable (R:EP) (C6:VP) (x0 x1 x7 x8:Value) (w w2:World)
def b3 (_:T (R):=Q _):=
 R (.returned (.int .i64 (-1))) w
def b7_1 (_:T (R,C6):=Q _):=
 U R (indexAt 24 x0 x8) w2 λ v3 w4=>
 U R (loadAt 3 v3) w4 λ v5 w6=>
 U R (bins .eql 3 (.tmp 11) (.tmp 15) x1 v5) w6 λ v7 w8=>
 SPL v7
 (R (.returned x8) w8)
 (U R (bC .add 3 8 1 x8) w8 λ v9 w10=>
 C6 v9 w10)
def b7 (_:T (R,C6):=Q _):=
 U R (bins .lss 3 (.tmp 8) (.tmp 7) x8 x7) w λ v1 w2=>
 SPL v1
 (b7_1 R C6 x0 x1 x8 w2)
 (b3 R w2)
def l6 (_:T (R):=Q _):Prop :=
 LP1 (λ C6 y8 w0=>b7 R C6 x0 x1 x7 y8 w0) x8 w
theorem l6_intro:LS1 (λ C6 y8 w0=>b7 R C6 x0 x1 x7 y8 w0) x8 w (l6 R x0 x1 x7 x8 w):=LI1 _ x8 w
def b4 (_:T (R):=Q _):=
 U R (len_ #[24] 3 #[x0]) w λ v1 w2=>
 l6 R x0 x1 v1 (.int .i64 0) w2
def b1 (_:T (R):=Q _):=
 b4 R x0 x1 w
theorem tie (R:EP):TI prog R (Zp f221) (QQ (λ z w=>R (.returned (z 4)) w)) λ z w=>b1 R (z 0) (z 1) w:=aT 0 (λ z w=>b4 R (z 0) (z 1) w) (sT (λ z w=>b3 R  w) (aT 0 (λ z w=>l6 R (z 0) (z 1) (z 7) (z 8) w) (Zk 0 (lT1 8 (λ z C6 y8 w0=>b7 R C6 (z 0) (z 1) (z 7) y8 w0) λ C6=>ofT))) ofT)
def run (R:EP)(a0 a1:Value)(w:World):=b1 R a0 a1 w
theorem ct:Cta2 prog id run:=Zcd call221 func221 λ R a0 a1 w h=>tie R _ w h
attribute [irreducible] l6
attribute [irreducible,go_sem] b3 b7_1 b7 b4 b1 run
end Zb1
namespace Zas
variable (R:EP) (x0 x1:Value) (w:World)
def b1 (_:T (R):=Q _):=
 K R Zaq.id #[x0,x1] w λ v1 w2=>
 U R (bC .geq 3 7 0 v1) w2 λ v3 w4=>
 R (.returned v3) w4
theorem tie (R:EP):TI prog R (Zp f150) (QQ (λ z w=>R (.returned (z 4)) w)) λ z w=>b1 R (z 0) (z 1) w:=ofT
def run (R:EP)(a0 a1:Value)(w:World):=b1 R a0 a1 w
theorem ct:Cta2 prog id run:=Zcd call150 func150 λ R a0 a1 w h=>tie R _ w h
attribute [irreducible,go_sem] b1 run
end Zas
namespace Zaq
variable (R:EP) (C6:VP) (x0 x1 x7 x8:Value) (w w2:World)
def b3 (_:T (R):=Q _):=
 R (.returned (.int .i64 (-1))) w
def b7_1 (_:T (R,C6):=Q _):=
 U R (indexAt 23 x0 x8) w2 λ v3 w4=>
 U R (loadAt 9 v3) w4 λ v5 w6=>
 Zfa prog R x1 [v5] w6 λ v7 w8=>
 SPL v7
 (R (.returned x8) w8)
 (U R (bC .add 3 8 1 x8) w8 λ v9 w10=>
 C6 v9 w10)
def b7 (_:T (R,C6):=Q _):=
 U R (bins .lss 3 (.tmp 8) (.tmp 7) x8 x7) w λ v1 w2=>
 SPL v1
 (b7_1 R C6 x0 x1 x8 w2)
 (b3 R w2)
def l6 (_:T (R):=Q _):Prop :=
 LP1 (λ C6 y8 w0=>b7 R C6 x0 x1 x7 y8 w0) x8 w
theorem l6_intro:LS1 (λ C6 y8 w0=>b7 R C6 x0 x1 x7 y8 w0) x8 w (l6 R x0 x1 x7 x8 w):=LI1 _ x8 w
def b4 (_:T (R):=Q _):=
 U R (len_ #[23] 3 #[x0]) w λ v1 w2=>
 l6 R x0 x1 v1 (.int .i64 0) w2
def b1 (_:T (R):=Q _):=
 b4 R x0 x1 w
theorem tie (R:EP):TI prog R (Zp f220) (QQ (λ z w=>R (.returned (z 4)) w)) λ z w=>b1 R (z 0) (z 1) w:=aT 0 (λ z w=>b4 R (z 0) (z 1) w) (sT (λ z w=>b3 R  w) (aT 0 (λ z w=>l6 R (z 0) (z 1) (z 7) (z 8) w) (Zk 0 (lT1 8 (λ z C6 y8 w0=>b7 R C6 (z 0) (z 1) (z 7) y8 w0) λ C6=>ofT))) ofT)
def run (R:EP)(a0 a1:Value)(w:World):=b1 R a0 a1 w
theorem ct:Cta2 prog id run:=Zcd call220 func220 λ R a0 a1 w h=>tie R _ w h
attribute [irreducible] l6
attribute [irreducible,go_sem] b3 b7_1 b7 b4 b1 run
end Zaq
namespace Zbf
variable (R:EP) (C6:VP) (x0 x3:Value) (w w2:World)
def b3 (_:T (R):=Q _):=
 R (.returned (.bool true)) w
def b7_1 (_:T (R,C6):=Q _):=
 Y (indexAt 24 x0 x3) λ v3=>
 L (loadAt 3 v3) w2.drew λ v4=>
 Y (bC .sub 3 16 1 x3) λ v5=>
 Y (indexAt 24 x0 v5) λ v6=>
 L (loadAt 3 v6) w2.drew λ v7=>
 K R cmp_Less_int.id #[v4,v7] w2.drew λ v8 w9=>
 SPL v8
 (R (.returned (.bool false)) w9)
 (U R (bC .sub 3 9 1 x3) w9 λ v10 w11=>
 C6 v10 w11)
def b7 (_:T (R,C6):=Q _):=
 U R (bC .gtr 3 7 0 x3) w λ v1 w2=>
 SPL v1
 (b7_1 R C6 x0 x3 w2)
 (b3 R w2)
def l6 (_:T (R):=Q _):Prop :=
 LP1 (λ C6 y3 w0=>b7 R C6 x0 y3 w0) x3 w
theorem l6_intro:LS1 (λ C6 y3 w0=>b7 R C6 x0 y3 w0) x3 w (l6 R x0 x3 w):=LI1 _ x3 w
def b4 (_:T (R):=Q _):=
 U R (len_ #[24] 3 #[x0]) w λ v1 w2=>
 U R (bC .sub 3 5 1 v1) w2 λ v3 w4=>
 l6 R x0 v3 w4
def b1 (_:T (R):=Q _):=
 b4 R x0 w
theorem tie (R:EP):TI prog R (Zp f235) (QQ (λ z w=>R (.returned (z 2)) w)) λ z w=>b1 R (z 0) w:=aT 0 (λ z w=>b4 R (z 0) w) (sT (λ z w=>b3 R  w) (aT 0 (λ z w=>l6 R (z 0) (z 3) w) (Zk 0 (lT1 3 (λ z C6 y3 w0=>b7 R C6 (z 0) y3 w0) λ C6=>ofT))) ofT)
def run (R:EP)(a0:Value)(w:World):=b1 R a0 w
theorem ct:Cta1 prog id run:=Zbj call235 func235 λ R a0 w h=>tie R _ w h
attribute [irreducible] l6
attribute [irreducible,go_sem] b3 b7_1 b7 b4 b1 run
end Zbf
namespace cmp_Less_int
variable (R:EP) (x0 x1 v1 v3:Value) (w w2 w4:World)
def b1_1 (_:T (R):=Q _):=
 U R (Op.unary .not v3) w4 λ v5 w6=>
 SPL v5
 (R (.returned (.bool true)) w6)
 (U R (bins .lss 3 (.tmp 13) (.tmp 14) x0 x1) w6 λ v7 w8=>
 R (.returned v7) w8)
def b1_2 (_:T (R):=Q _):=
 SPL v1
 (K R cmp_isNaN_int.id #[x1] w2 λ v3 w4=>
 b1_1 R x0 x1 v3 w4)
 (U R (bins .lss 3 (.tmp 13) (.tmp 14) x0 x1) w2 λ v9 w10=>
 R (.returned v9) w10)
def b1 (_:T (R):=Q _):=
 K R cmp_isNaN_int.id #[x0] w λ v1 w2=>
 b1_2 R x0 x1 v1 w2
theorem tie (R:EP):TI prog R (Zp f161) (QQ (λ z w=>R (.returned (z 4)) w)) λ z w=>b1 R (z 0) (z 1) w:=ofT
def run (R:EP)(a0 a1:Value)(w:World):=b1 R a0 a1 w
theorem ct:Cta2 prog id run:=Zcd call161 func161 λ R a0 a1 w h=>tie R _ w h
attribute [irreducible,go_sem] b1_1 b1_2 b1 run
end cmp_Less_int
namespace cmp_isNaN_int
variable (R:EP) (x0:Value) (w:World)
def b1 (_:T (R):=Q _):=
 U R (bins .neq 3 (.tmp 3) (.tmp 4) x0 x0) w λ v1 w2=>
 R (.returned v1) w2
theorem tie (R:EP):TI prog R (Zp f167) (QQ (λ z w=>R (.returned (z 2)) w)) λ z w=>b1 R (z 0) w:=ofT
def run (R:EP)(a0:Value)(w:World):=b1 R a0 w
theorem ct:Cta1 prog id run:=Zbj call167 func167 λ R a0 w h=>tie R _ w h
attribute [irreducible,go_sem] b1 run
end cmp_isNaN_int
end Go.Proofs.YtjibcckpehdbhaaGreatDoor
