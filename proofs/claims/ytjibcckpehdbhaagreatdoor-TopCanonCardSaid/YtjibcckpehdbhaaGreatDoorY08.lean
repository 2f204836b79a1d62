/-
  Texts of this claim: TC0, TCS.
-/
import Derived.Test.YtjibcckpehdbhaaGreatDoorY05
set_option linter.unusedVariables false
set_option maxRecDepth 100000
namespace Go.Proofs.YtjibcckpehdbhaaGreatDoor
open Go.Px Tryz Instr Builtin
namespace Zn
variable (R:EP) (C6:VP) (C18:Value->VP) (C22:VP) (x0 x2 x4 x5 x6 x7 x8 x10 x48 x59 x60 x61 v1 v3 v4 v5 v8 v11 v16:Value) (w w2 w4 w6 w9 w10 w12 w17 w29:World)
def b3_1 (_:T (R):=Q _):=
 NILC x5 λ v10=>
 U R (fieldAt 86 v10 0) w9 λ v11 w12=>
 U R (fieldAt 34 v11 0) w12 λ v13 w14=>
 RUNU prog R (storeAt 32 v13 v8) w14 λ w15=>
 NILC x5 λ v16=>
 U R (fieldAt 86 v16 0) w15 λ v17 w18=>
 U R (loadAt 34 v17) w18 λ v19 w20=>
 RUNU prog R (storeAt 34 x2 v19) w20 λ w21=>
 L (loadAt 34 x2) w21 λ r0=>R (.returned (.tuple #[r0,(.int .i64 0)])) w21
def b3 (_:T (R):=Q _):=
 NILC x5 λ v1=>
 U R (fieldAt 86 v1 0) w λ v2 w3=>
 U R (fieldAt 34 v2 0) w3 λ v4 w5=>
 U R (loadAt 32 v4) w5 λ v6 w7=>
 K R Zax.id #[v6] w7 λ v8 w9=>
 b3_1 R x2 x5 v8 w9
def b9 (_:T (R,C6):=Q _):=
 U R (bC .add 3 34 1 x6) w λ v1 w2=>
 C6 v1 w2
def b15_1 (_:T (R,C6):=Q _):=
 Sem.run prog (loadAt 32 v3) w6 = .ok v4 w6/\(Y (indexAt 32 v4 x6) λ v7=>
 Y (fieldAt 95 v7 1) λ v8=>
 RUNU prog R (storeAt 93 v8 v5) w6 λ w9=>
 b9 R C6 x6 w9)
def b15 (_:T (R,C6):=Q _):=
 NILC x5 λ v1=>
 Y (fieldAt 86 v1 0) λ v2=>
 Y (fieldAt 34 v2 0) λ v3=>
 L (loadAt 32 v3) w.drew λ v4=>
 K R Za1.id #[x10] w.drew λ v5 w6=>
 b15_1 R C6 x6 v3 v4 v5 w6
def b19_1 (_:T (R):=Q _):=
 U R (build 34 #[]) w29 λ v30 w31=>
 RUNU prog R (storeAt 34 x2 v30) w31 λ w32=>
 L (loadAt 34 x2) w32 λ r0=>R (.returned (.tuple #[r0,(.int .i64 11)])) w32
def b19_2 (_:T (R,C18):=Q _):=
 U R (build 99 #[(0,v5),(1,v11)]) w12 λ v13 w14=>
 U R (buildSlice 93 1 #[(0,v13)]) w14 λ v15 w16=>
 U R (append_ #[93,93] 93 #[x10,v15]) w16 λ v17 w18=>
 NILC x5 λ v19=>
 U R (fieldAt 86 v19 0) w18 λ v20 w21=>
 U R (fieldAt 34 v20 0) w21 λ v22 w23=>
 U R (loadAt 32 v22) w23 λ v24 w25=>
 U R (len_ #[32] 3 #[v24]) w25 λ v26 w27=>
 U R (bC .gtr 3 81 256 v26) w27 λ v28 w29=>
 SPL v28
 (b19_1 R x2 w29)
 (U R (bC .add 3 61 1 x61) w29 λ v33 w34=>
 C18 v17 v33 w34)
def b19_3 (_:T (R,C18):=Q _):=
 U R (indexAt 24 x59 x61) w2 λ v3 w4=>
 U R (loadAt 3 v3) w4 λ v5 w6=>
 U R (lookup 91 x7 v5 false) w6 λ v7 w8=>
 K R Zet.id #[v7] w8 λ v9 w10=>
 K R Zak.id #[x5,v9] w10 λ v11 w12=>
 b19_2 R C18 x2 x5 x10 x61 v5 v11 w12
def b19 (_:T (R,C6,C18):=Q _):=
 U R (bins .lss 3 (.tmp 61) (.tmp 60) x61 x60) w λ v1 w2=>
 SPL v1
 (b19_3 R C18 x2 x5 x7 x10 x59 x61 w2)
 (b15 R C6 x5 x6 x10 w2)
def l18 (_:T (R,C6):=Q _):Prop :=
 LP2 (λ C18 y10 y61 w0=>b19 R C6 C18 x2 x5 x6 x7 y10 x59 x60 y61 w0) x10 x61 w
theorem l18_intro:LS2 (λ C18 y10 y61 w0=>b19 R C6 C18 x2 x5 x6 x7 y10 x59 x60 y61 w0) x10 x61 w (l18 R C6 x2 x5 x6 x7 x10 x59 x60 x61 w):=LI2 _ x10 x61 w
def b16 (_:T (R,C6):=Q _):=
 U R (len_ #[24] 3 #[x8]) w λ v1 w2=>
 l18 R C6 x2 x5 x6 x7 x10 x8 v1 (.int .i64 0) w2
def b13 (_:T (R,C6):=Q _):=
 K R Zcf.id #[x8] w λ v1 w2=>
 b16 R C6 x2 x5 x6 x7 x8 (.slice none 0 0) w2
def b23_1 (_:T (R,C22):=Q _):=
 U R (entry x48) w4 λ v5 w6=>
 U R (extract v5 0) w6 λ v7 w8=>
 U R (buildSlice 24 1 #[(0,v7)]) w8 λ v9 w10=>
 U R (append_ #[24,24] 24 #[x8,v9]) w10 λ v11 w12=>
 C22 v11 w12
def b23 (_:T (R,C6,C22):=Q _):=
 U R (next x48 false 0) w λ v1 w2=>
 U R (extract v1 0) w2 λ v3 w4=>
 SPL v3
 (b23_1 R C22 x8 x48 w4)
 (b13 R C6 x2 x5 x6 x7 x8 w4)
def l22 (_:T (R,C6):=Q _):Prop :=
 LP1 (λ C22 y8 w0=>b23 R C6 C22 x2 x5 x6 x7 y8 x48 w0) x8 w
theorem l22_intro:LS1 (λ C22 y8 w0=>b23 R C6 C22 x2 x5 x6 x7 y8 x48 w0) x8 w (l22 R C6 x2 x5 x6 x7 x8 x48 w):=LI1 _ x8 w
def b20 (_:T (R,C6):=Q _):=
 U R (range 91 x7) w λ v1 w2=>
 l22 R C6 x2 x5 x6 x7 x8 v1 w2
def b11 (_:T (R,C6):=Q _):=
 NILC x5 λ v1=>
 U R (fieldAt 86 v1 0) w λ v2 w3=>
 U R (fieldAt 34 v2 0) w3 λ v4 w5=>
 U R (loadAt 32 v4) w5 λ v6 w7=>
 U R (indexAt 32 v6 x6) w7 λ v8 w9=>
 U R (fieldAt 95 v8 0) w9 λ v10 w11=>
 U R (loadAt 90 v10) w11 λ v12 w13=>
 K R Zae.id #[x4,v12] w13 λ v14 w15=>
 b20 R C6 x2 x5 x6 v14 (.slice none 0 0) w15
def b7 (_:T (R,C6):=Q _):=
 NILC x5 λ v1=>
 U R (fieldAt 86 v1 0) w λ v2 w3=>
 U R (fieldAt 34 v2 0) w3 λ v4 w5=>
 U R (loadAt 32 v4) w5 λ v6 w7=>
 U R (len_ #[32] 3 #[v6]) w7 λ v8 w9=>
 U R (bins .lss 3 (.tmp 26) (.tmp 32) x6 v8) w9 λ v10 w11=>
 SPL v10
 (b11 R C6 x2 x4 x5 x6 w11)
 (b3 R x2 x5 w11)
def l6 (_:T (R):=Q _):Prop :=
 LP1 (λ C6 y6 w0=>b7 R C6 x2 x4 x5 y6 w0) x6 w
theorem l6_intro:LS1 (λ C6 y6 w0=>b7 R C6 x2 x4 x5 y6 w0) x6 w (l6 R x2 x4 x5 x6 w):=LI1 _ x6 w
def b4 (_:T (R):=Q _):=
 l6 R x2 x4 x5 (.int .i64 0) w
def b1_1 (_:T (R):=Q _):=
 U R (build 34 #[]) w10 λ v11 w12=>
 RUNU prog R (storeAt 34 v3 v11) w12 λ w13=>
 L (loadAt 34 v3) w13 λ r0=>R (.returned (.tuple #[r0,(.int .i64 1)])) w13
def b1_2 (_:T (R):=Q _):=
 U R (makeMap 84 none) w17 λ v18 w19=>
 U R (build 86 #[(1,v18)]) w19 λ v20 w21=>
 U R (box 86 v20) w21 λ v22 w23=>
 U R (build 89 #[]) w23 λ v24 w25=>
 U R (buildSlice 90 1 #[(0,v24)]) w25 λ v26 w27=>
 K R Zak.id #[v22,v26] w27 λ v28 w29=>
 b4 R v3 v16 v22 w29
def b1_3 (_:T (R):=Q _):=
 U R (loadAt 27 v1) w10 λ v14 w15=>
 K R Zey.id #[v14] w15 λ v16 w17=>
 b1_2 R v3 v16 w17
def b1 (_:T (R):=Q _):=
 U R (box 27 x0) w λ v1 w2=>
 U R (alloc 34 true (.tuple #[])) w2 λ v3 w4=>
 U R (loadAt 27 v1) w4 λ v5 w6=>
 K R Zd6.id #[v5] w6 λ v7 w8=>
 U R (Op.unary .not v7) w8 λ v9 w10=>
 SPL v9
 (b1_1 R v3 w10)
 (b1_3 R v1 v3 w10)
theorem tie (R:EP):TI prog R (Zp f7) (QQ (λ z w=>L (loadAt 34 (z 2)) w λ r0=>R (.returned (.tuple #[r0,(z 3)])) w)) λ z w=>b1 R (z 0) w:=aT 4 (λ z w=>b4 R (z 2) (z 4) (z 5) w) (sT (λ z w=>b3 R (z 2) (z 5) w) (aT 0 (λ z w=>l6 R (z 2) (z 4) (z 5) (z 6) w) (Zk 0 (lT1 6 (λ z C6 y6 w0=>b7 R C6 (z 2) (z 4) (z 5) y6 w0) λ C6=>aT 0 (λ z w=>b11 R C6 (z 2) (z 4) (z 5) (z 6) w) (sT (λ z w=>b9 R C6 (z 6) w) (Zk 1 (aT 1 (λ z w=>b20 R C6 (z 2) (z 5) (z 6) (z 7) (z 8) w) (sT (λ z w=>b13 R C6 (z 2) (z 5) (z 6) (z 7) (z 8) w) (aT 0 (λ z w=>l22 R C6 (z 2) (z 5) (z 6) (z 7) (z 8) (z 48) w) (Zk 2 (lT1 8 (λ z C22 y8 w0=>b23 R C6 C22 (z 2) (z 5) (z 6) (z 7) y8 (z 48) w0) λ C22=>ofT))) (aT 1 (λ z w=>b16 R C6 (z 2) (z 5) (z 6) (z 7) (z 8) (z 10) w) (sT (λ z w=>b15 R C6 (z 5) (z 6) (z 10) w) (aT 0 (λ z w=>l18 R C6 (z 2) (z 5) (z 6) (z 7) (z 10) (z 59) (z 60) (z 61) w) (Zk 4 (lT2 10 61 (λ z C18 y10 y61 w0=>b19 R C6 C18 (z 2) (z 5) (z 6) (z 7) y10 (z 59) (z 60) y61 w0) λ C18=>ofT))) ofT))))) ofT)))) ofT)
def run (R:EP)(a0:Value)(w:World):=b1 R a0 w
theorem calls (R:EP)(a0:Value)(w:World)(h:run R a0 w):Calls prog id #[a0] w R :=
 Zo3 (f:=id) (fn:=f7) (c:=Zp f7) (by kernel_rfl) func7 (by kernel_rfl) (by kernel_rfl) (args:=[a0]) (Qaf rfl) rfl (tie R (Zfc [a0]) w h)
theorem ct:Cta1 prog id run:=by
 intro a0 w S h
 exact Ct.intro (λ args w=>call7 args w) λ R hR=>calls R a0 w (h R hR)
attribute [irreducible] l18 l22 l6
attribute [irreducible,go_sem] b3_1 b3 b9 b15_1 b15 b19_1 b19_2 b19_3 b19 b16 b13 b23_1 b23 b20 b11 b7 b4 b1_1 b1_2 b1_3 b1 run
end Zn
namespace Zey
variable (R:EP) (C6:VP) (x0 x1 x3 x11 x12 x13:Value) (w w2:World)
def b3 (_:T (R):=Q _):=
 R (.returned x3) w
def b7_1 (_:T (R,C6):=Q _):=
 U R (indexAt 25 x11 x13) w2 λ v3 w4=>
 U R (loadAt 103 v3) w4 λ v5 w6=>
 U R (alloc 103 true (.tuple #[])) w6 λ v7 w8=>
 RUNU prog R (storeAt 103 v7 v5) w8 λ w9=>
 NILC x3 λ v10=>
 Y (fieldAt 206 v10 1) λ v11=>
 L (loadAt 186 v11) w9.drew λ v12=>
 Y (fieldAt 103 v7 0) λ v13=>
 L (loadAt 3 v13) w9.drew λ v14=>
 NILC x3 λ v15=>
 Y (fieldAt 206 v15 1) λ v16=>
 L (loadAt 186 v16) w9.drew λ v17=>
 Y (fieldAt 103 v7 0) λ v18=>
 L (loadAt 3 v18) w9.drew λ v19=>
 L (lookup 186 v17 v19 false) w9.drew λ v20=>
 U R (buildSlice 24 1 #[(0,x13)]) w9.drew λ v21 w22=>
 Sem.run prog (lookup 186 v17 v19 false) w22 = .ok v20 w22/\(Sem.run prog (loadAt 3 v18) w22 = .ok v19 w22/\(Sem.run prog (loadAt 186 v16) w22 = .ok v17 w22/\(Sem.run prog (loadAt 3 v13) w22 = .ok v14 w22/\(Sem.run prog (loadAt 186 v11) w22 = .ok v12 w22/\(U R (append_ #[24,24] 24 #[v20,v21]) w22 λ v23 w24=>
 Sem.run prog (loadAt 3 v13) w24 = .ok v14 w24/\(Sem.run prog (loadAt 186 v11) w24 = .ok v12 w24/\(RUNU prog R (mapUpdate 186 v12 v14 v23) w24 λ w25=>
 U R (bC .add 3 13 1 x13) w25 λ v26 w27=>
 C6 v26 w27)))))))
def b7 (_:T (R,C6):=Q _):=
 U R (bins .lss 3 (.tmp 13) (.tmp 12) x13 x12) w λ v1 w2=>
 SPL v1
 (b7_1 R C6 x3 x11 x13 w2)
 (b3 R x3 w2)
def l6 (_:T (R):=Q _):Prop :=
 LP1 (λ C6 y13 w0=>b7 R C6 x3 x11 x12 y13 w0) x13 w
theorem l6_intro:LS1 (λ C6 y13 w0=>b7 R C6 x3 x11 x12 y13 w0) x13 w (l6 R x3 x11 x12 x13 w):=LI1 _ x13 w
def b4 (_:T (R):=Q _):=
 U R (fieldAt 27 x1 4) w λ v1 w2=>
 U R (loadAt 25 v1) w2 λ v3 w4=>
 U R (len_ #[25] 3 #[v3]) w4 λ v5 w6=>
 l6 R x3 v3 v5 (.int .i64 0) w6
def b1 (_:T (R):=Q _):=
 U R (box 27 x0) w λ v1 w2=>
 U R (loadAt 27 v1) w2 λ v3 w4=>
 U R (makeMap 186 none) w4 λ v5 w6=>
 U R (build 206 #[(0,v3),(1,v5)]) w6 λ v7 w8=>
 U R (box 206 v7) w8 λ v9 w10=>
 b4 R v1 v9 w10
theorem tie (R:EP):TI prog R (Zp f33) (QQ (λ z w=>R (.returned (z 2)) w)) λ z w=>b1 R (z 0) w:=aT 1 (λ z w=>b4 R (z 1) (z 3) w) (sT (λ z w=>b3 R (z 3) w) (aT 0 (λ z w=>l6 R (z 3) (z 11) (z 12) (z 13) w) (Zk 0 (lT1 13 (λ z C6 y13 w0=>b7 R C6 (z 3) (z 11) (z 12) y13 w0) λ C6=>ofT))) ofT)
def run (R:EP)(a0:Value)(w:World):=b1 R a0 w
theorem ct:Cta1 prog id run:=Zbj call33 func33 λ R a0 w h=>tie R _ w h
attribute [irreducible] l6
attribute [irreducible,go_sem] b3 b7_1 b7 b4 b1 run
end Zey
namespace Zak
variable (R:EP) (x0 x1 x5 x46:Value) (w:World)
def b3 (_:T (R):=Q _):=
 NILC x0 λ v1=>
 U R (fieldAt 86 v1 0) w λ v2 w3=>
 U R (fieldAt 34 v2 2) w3 λ v4 w5=>
 U R (loadAt 3 v4) w5 λ v6 w7=>
 U R (bC .add 3 58 1 v6) w7 λ v8 w9=>
 NILC x0 λ v10=>
 U R (fieldAt 86 v10 0) w9 λ v11 w12=>
 U R (fieldAt 34 v11 2) w12 λ v13 w14=>
 RUNU prog R (storeAt 3 v13 v8) w14 λ w15=>
 NILC x0 λ v16=>
 U R (fieldAt 86 v16 0) w15 λ v17 w18=>
 U R (fieldAt 34 v17 0) w18 λ v19 w20=>
 U R (loadAt 32 v19) w20 λ v21 w22=>
 U R (build 95 #[(0,x1)]) w22 λ v23 w24=>
 U R (buildSlice 32 1 #[(0,v23)]) w24 λ v25 w26=>
 U R (append_ #[32,32] 32 #[v21,v25]) w26 λ v27 w28=>
 NILC x0 λ v29=>
 U R (fieldAt 86 v29 0) w28 λ v30 w31=>
 U R (fieldAt 34 v30 0) w31 λ v32 w33=>
 RUNU prog R (storeAt 32 v32 v27) w33 λ w34=>
 NILC x0 λ v35=>
 Y (fieldAt 86 v35 1) λ v36=>
 L (loadAt 84 v36) w34.drew λ v37=>
 NILC x0 λ v38=>
 Y (fieldAt 86 v38 0) λ v39=>
 Y (fieldAt 34 v39 0) λ v40=>
 L (loadAt 32 v40) w34.drew λ v41=>
 L (len_ #[32] 3 #[v41]) w34.drew λ v42=>
 RUNU prog R (mapUpdate 84 v37 x5 v42) w34.drew λ w43=>
 NILC x0 λ v44=>
 U R (fieldAt 86 v44 1) w43 λ v45 w46=>
 U R (loadAt 84 v45) w46 λ v47 w48=>
 U R (lookup 84 v47 x5 false) w48 λ v49 w50=>
 U R (bC .sub 3 92 1 v49) w50 λ v51 w52=>
 R (.returned v51) w52
def b5_1 (_:T (R):=Q _):=
 NILC x0 λ v1=>
 U R (fieldAt 86 v1 1) w λ v2 w3=>
 U R (loadAt 84 v2) w3 λ v4 w5=>
 U R (lookup 84 v4 x5 false) w5 λ v6 w7=>
 U R (bC .sub 3 52 1 v6) w7 λ v8 w9=>
 R (.returned v8) w9
def b5 (_:T (R):=Q _):=
 SPL x46
 (b5_1 R x0 x5 w)
 (b3 R x0 x1 x5 w)
def b4_1 (_:T (R):=Q _):=
 NILC x0 λ v6=>
 Y (fieldAt 86 v6 0) λ v7=>
 Y (fieldAt 34 v7 0) λ v8=>
 L (loadAt 32 v8) w.drew λ v9=>
 NILC x0 λ v10=>
 Y (fieldAt 86 v10 1) λ v11=>
 L (loadAt 84 v11) w.drew λ v12=>
 L (lookup 84 v12 x5 false) w.drew λ v13=>
 Y (bC .sub 3 35 1 v13) λ v14=>
 Y (indexAt 32 v9 v14) λ v15=>
 Y (fieldAt 95 v15 0) λ v16=>
 L (loadAt 90 v16) w.drew λ v17=>
 Y (indexAt 90 v17 (.int .i64 0)) λ v18=>
 L (loadAt 89 v18) w.drew λ v19=>
 Y (indexAt 90 x1 (.int .i64 0)) λ v20=>
 L (loadAt 89 v20) w.drew λ v21=>
 Y (bins .eql 89 (.tmp 41) (.tmp 44) v19 v21) λ v22=>
 b5 R x0 x1 x5 v22 w.drew
def b4 (_:T (R):=Q _):=
 NILC x0 λ v1=>
 Y (fieldAt 86 v1 1) λ v2=>
 L (loadAt 84 v2) w.drew λ v3=>
 L (lookup 84 v3 x5 false) w.drew λ v4=>
 Y (bC .gtr 3 22 0 v4) λ v5=>
 SPL v5
 (b4_1 R x0 x1 x5 w)
 (b5 R x0 x1 x5 (.bool false) w.drew)
def b1 (_:T (R):=Q _):=
 NILC x0 λ v1=>
 U R (fieldAt 86 v1 0) w λ v2 w3=>
 U R (fieldAt 34 v2 1) w3 λ v4 w5=>
 U R (loadAt 3 v4) w5 λ v6 w7=>
 U R (bC .add 3 10 1 v6) w7 λ v8 w9=>
 NILC x0 λ v10=>
 U R (fieldAt 86 v10 0) w9 λ v11 w12=>
 U R (fieldAt 34 v11 1) w12 λ v13 w14=>
 RUNU prog R (storeAt 3 v13 v8) w14 λ w15=>
 K R Zd2.id #[x1] w15 λ v16 w17=>
 b4 R x0 x1 v16 w17
theorem tie (R:EP):TI prog R (Zp f34) (QQ (λ z w=>R (.returned (z 4)) w)) λ z w=>b1 R (z 0) (z 1) w:=aT 2 (λ z w=>b4 R (z 0) (z 1) (z 5) w) (sT (λ z w=>b3 R (z 0) (z 1) (z 5) w) (aT 0 (λ z w=>b5 R (z 0) (z 1) (z 5) (z 46) w) ofT) ofT)
def run (R:EP)(a0 a1:Value)(w:World):=b1 R a0 a1 w
theorem ct:Cta2 prog id run:=Zcd call34 func34 λ R a0 a1 w h=>tie R _ w h
attribute [irreducible,go_sem] b3 b5_1 b5 b4_1 b4 b1 run
end Zak
namespace Zae
variable (R:EP) (C6:VP) (x0 x1 x5 x12 x13 x14 v7 v12:Value) (w w2 w15:World)
def b3 (_:T (R):=Q _):=
 R (.returned x5) w
def b8 (_:T (R,C6):=Q _):=
 U R (bC .add 3 14 1 x14) w λ v1 w2=>
 C6 v1 w2
def b7_1 (_:T (R,C6):=Q _):=
 U R (lookup 91 x5 v12 false) w15 λ v16 w17=>
 U R (fieldAt 89 v7 0) w17 λ v18 w19=>
 U R (loadAt 3 v18) w19 λ v20 w21=>
 U R (fieldAt 89 v7 1) w21 λ v22 w23=>
 U R (loadAt 3 v22) w23 λ v24 w25=>
 U R (bC .add 3 31 1 v24) w25 λ v26 w27=>
 U R (build 89 #[(0,v20),(1,v26)]) w27 λ v28 w29=>
 U R (buildSlice 90 1 #[(0,v28)]) w29 λ v30 w31=>
 U R (append_ #[90,90] 90 #[v16,v30]) w31 λ v32 w33=>
 RUNU prog R (mapUpdate 91 x5 v12 v32) w33 λ w34=>
 b8 R C6 x14 w34
def b7_2 (_:T (R,C6):=Q _):=
 U R (indexAt 90 x12 x14) w2 λ v3 w4=>
 U R (loadAt 89 v3) w4 λ v5 w6=>
 U R (alloc 89 true (.tuple #[])) w6 λ v7 w8=>
 RUNU prog R (storeAt 89 v7 v5) w8 λ w9=>
 U R (loadAt 89 v7) w9 λ v10 w11=>
 K R Zb6.id #[x0,v10] w11 λ v12 w13=>
 U R (bC .geq 3 21 0 v12) w13 λ v14 w15=>
 SPL v14
 (b7_1 R C6 x5 x14 v7 v12 w15)
 (b8 R C6 x14 w15)
def b7 (_:T (R,C6):=Q _):=
 U R (bins .lss 3 (.tmp 14) (.tmp 13) x14 x13) w λ v1 w2=>
 SPL v1
 (b7_2 R C6 x0 x5 x12 x14 w2)
 (b3 R x5 w2)
def l6 (_:T (R):=Q _):Prop :=
 LP1 (λ C6 y14 w0=>b7 R C6 x0 x5 x12 x13 y14 w0) x14 w
theorem l6_intro:LS1 (λ C6 y14 w0=>b7 R C6 x0 x5 x12 x13 y14 w0) x14 w (l6 R x0 x5 x12 x13 x14 w):=LI1 _ x14 w
def b4 (_:T (R):=Q _):=
 K R Zl.id #[x0,x1] w λ v1 w2=>
 U R (len_ #[90] 3 #[v1]) w2 λ v3 w4=>
 l6 R x0 x5 v1 v3 (.int .i64 0) w4
def b1 (_:T (R):=Q _):=
 U R (makeMap 91 none) w λ v1 w2=>
 b4 R x0 x1 v1 w2
theorem tie (R:EP):TI prog R (Zp f35) (QQ (λ z w=>R (.returned (z 4)) w)) λ z w=>b1 R (z 0) (z 1) w:=aT 1 (λ z w=>b4 R (z 0) (z 1) (z 5) w) (sT (λ z w=>b3 R (z 5) w) (aT 0 (λ z w=>l6 R (z 0) (z 5) (z 12) (z 13) (z 14) w) (Zk 0 (lT1 14 (λ z C6 y14 w0=>b7 R C6 (z 0) (z 5) (z 12) (z 13) y14 w0) λ C6=>aT 2 (λ z w=>b8 R C6 (z 14) w) ofT))) ofT)
def run (R:EP)(a0 a1:Value)(w:World):=b1 R a0 a1 w
theorem ct:Cta2 prog id run:=Zcd call35 func35 λ R a0 a1 w h=>tie R _ w h
attribute [irreducible] l6
attribute [irreducible,go_sem] b3 b8 b7_1 b7_2 b7 b4 b1 run
end Zae
namespace Zet
variable (R:EP) (x0:Value) (w w2:World)
def b1_1 (_:T (R):=Q _):=
 K R Zj.id #[x0] w2 λ v3 w4=>
 K R Za0.id #[v3] w4 λ v5 w6=>
 R (.returned v5) w6
def b1 (_:T (R):=Q _):=
 K R Zc3.id #[x0,(.func (.func Zdc.id) #[] #[])] w λ v1 w2=>
 b1_1 R x0 w2
theorem tie (R:EP):TI prog R (Zp f37) (QQ (λ z w=>R (.returned (z 2)) w)) λ z w=>b1 R (z 0) w:=ofT
def run (R:EP)(a0:Value)(w:World):=b1 R a0 w
theorem ct:Cta1 prog id run:=Zbj call37 func37 λ R a0 w h=>tie R _ w h
attribute [irreducible,go_sem] b1_1 b1 run
end Zet
namespace Zd2
variable (R:EP) (C6:Value->VP) (x0 x3 x6 x7 x8:Value) (w w2:World)
def b3 (_:T (R):=Q _):=
 U R (convert 274 9 x3) w λ v1 w2=>
 R (.returned v1) w2
def b7_1 (_:T (R,C6):=Q _):=
 U R (indexAt 90 x6 x8) w2 λ v3 w4=>
 U R (loadAt 89 v3) w4 λ v5 w6=>
 U R (alloc 89 true (.tuple #[])) w6 λ v7 w8=>
 RUNU prog R (storeAt 89 v7 v5) w8 λ w9=>
 U R (fieldAt 89 v7 0) w9 λ v10 w11=>
 U R (loadAt 3 v10) w11 λ v12 w13=>
 U R (convert 3 5 v12) w13 λ v14 w15=>
 U R (fieldAt 89 v7 1) w15 λ v16 w17=>
 U R (loadAt 3 v16) w17 λ v18 w19=>
 U R (convert 3 5 v18) w19 λ v20 w21=>
 U R (fieldAt 89 v7 1) w21 λ v22 w23=>
 U R (loadAt 3 v22) w23 λ v24 w25=>
 U R (bins .shr 3 (.tmp 20) (.const (.int .u64 8)) v24 (.int .u64 8)) w25 λ v26 w27=>
 U R (convert 3 5 v26) w27 λ v28 w29=>
 U R (buildSlice 274 3 #[(0,v14),(1,v20),(2,v28)]) w29 λ v30 w31=>
 U R (append_ #[274,274] 274 #[x3,v30]) w31 λ v32 w33=>
 U R (bC .add 3 8 1 x8) w33 λ v34 w35=>
 C6 v32 v34 w35
def b7 (_:T (R,C6):=Q _):=
 U R (bins .lss 3 (.tmp 8) (.tmp 7) x8 x7) w λ v1 w2=>
 SPL v1
 (b7_1 R C6 x3 x6 x8 w2)
 (b3 R x3 w2)
def l6 (_:T (R):=Q _):Prop :=
 LP2 (λ C6 y3 y8 w0=>b7 R C6 y3 x6 x7 y8 w0) x3 x8 w
theorem l6_intro:LS2 (λ C6 y3 y8 w0=>b7 R C6 y3 x6 x7 y8 w0) x3 x8 w (l6 R x3 x6 x7 x8 w):=LI2 _ x3 x8 w
def b4 (_:T (R):=Q _):=
 U R (len_ #[90] 3 #[x0]) w λ v1 w2=>
 l6 R x3 x0 v1 (.int .i64 0) w2
def b1 (_:T (R):=Q _):=
 b4 R x0 (.slice none 0 0) w
theorem tie (R:EP):TI prog R (Zp f88) (QQ (λ z w=>R (.returned (z 2)) w)) λ z w=>b1 R (z 0) w:=aT 1 (λ z w=>b4 R (z 0) (z 3) w) (sT (λ z w=>b3 R (z 3) w) (aT 0 (λ z w=>l6 R (z 3) (z 6) (z 7) (z 8) w) (Zk 0 (lT2 3 8 (λ z C6 y3 y8 w0=>b7 R C6 y3 (z 6) (z 7) y8 w0) λ C6=>ofT))) ofT)
def run (R:EP)(a0:Value)(w:World):=b1 R a0 w
theorem ct:Cta1 prog id run:=Zbj call88 func88 λ R a0 w h=>tie R _ w h
attribute [irreducible] l6
attribute [irreducible,go_sem] b3 b7_1 b7 b4 b1 run
end Zd2
namespace Zl
variable (R:EP) (C6:Value->VP) (C15:Value->VP) (x0 x1 x5 x6 x7 x8 x33 x43 x44 x45:Value) (w w2:World)
def b3 (_:T (R):=Q _):=
 K R Zet.id #[x5] w λ v1 w2=>
 R (.returned v1) w2
def b9 (_:T (R,C6):=Q _):=
 U R (bC .add 3 18 1 x7) w λ v1 w2=>
 C6 x5 v1 w2
def b16_1 (_:T (R,C15):=Q _):=
 U R (indexAt 24 x43 x45) w2 λ v3 w4=>
 U R (loadAt 3 v3) w4 λ v5 w6=>
 U R (build 89 #[(0,v5)]) w6 λ v7 w8=>
 U R (buildSlice 90 1 #[(0,v7)]) w8 λ v9 w10=>
 U R (append_ #[90,90] 90 #[x5,v9]) w10 λ v11 w12=>
 U R (bC .add 3 45 1 x45) w12 λ v13 w14=>
 C15 v11 v13 w14
def b16 (_:T (R,C6,C15):=Q _):=
 U R (bins .lss 3 (.tmp 45) (.tmp 44) x45 x44) w λ v1 w2=>
 SPL v1
 (b16_1 R C15 x5 x43 x45 w2)
 (b9 R C6 x5 x7 w2)
def l15 (_:T (R,C6):=Q _):Prop :=
 LP2 (λ C15 y5 y45 w0=>b16 R C6 C15 y5 x7 x43 x44 y45 w0) x5 x45 w
theorem l15_intro:LS2 (λ C15 y5 y45 w0=>b16 R C6 C15 y5 x7 x43 x44 y45 w0) x5 x45 w (l15 R C6 x5 x7 x43 x44 x45 w):=LI2 _ x5 x45 w
def b13 (_:T (R,C6):=Q _):=
 U R (lookup 269 x6 x8 false) w λ v1 w2=>
 U R (bC .add 3 36 1 v1) w2 λ v3 w4=>
 RUNU prog R (mapUpdate 269 x6 x8 v3) w4 λ w5=>
 NILC x0 λ v6=>
 U R (fieldAt 206 v6 1) w5 λ v7 w8=>
 U R (loadAt 186 v7) w8 λ v9 w10=>
 U R (lookup 186 v9 x8 false) w10 λ v11 w12=>
 U R (len_ #[24] 3 #[v11]) w12 λ v13 w14=>
 l15 R C6 x5 x7 v11 v13 (.int .i64 0) w14
def b18 (_:T (R,C6):=Q _):=
 SPL x33
 (b9 R C6 x5 x7 w)
 (b13 R C6 x0 x5 x6 x7 x8 w)
def b17_1 (_:T (R,C6):=Q _):=
 U R (lookup 269 x6 x8 false) w2 λ v3 w4=>
 U R (bC .gtr 3 31 0 v3) w4 λ v5 w6=>
 b18 R C6 x0 x5 x6 x7 x8 v5 w6
def b17 (_:T (R,C6):=Q _):=
 U R (bC .lss 3 26 0 x8) w λ v1 w2=>
 SPL v1
 (b18 R C6 x0 x5 x6 x7 x8 (.bool true) w2)
 (b17_1 R C6 x0 x5 x6 x7 x8 w2)
def b11 (_:T (R,C6):=Q _):=
 U R (indexAt 90 x5 x7) w λ v1 w2=>
 U R (loadAt 89 v1) w2 λ v3 w4=>
 K R Zb6.id #[x0,v3] w4 λ v5 w6=>
 b17 R C6 x0 x5 x6 x7 v5 w6
def b7 (_:T (R,C6):=Q _):=
 U R (len_ #[90] 3 #[x5]) w λ v1 w2=>
 U R (bins .lss 3 (.tmp 14) (.tmp 16) x7 v1) w2 λ v3 w4=>
 SPL v3
 (b11 R C6 x0 x5 x6 x7 w4)
 (b3 R x5 w4)
def l6 (_:T (R):=Q _):Prop :=
 LP2 (λ C6 y5 y7 w0=>b7 R C6 x0 y5 x6 y7 w0) x5 x7 w
theorem l6_intro:LS2 (λ C6 y5 y7 w0=>b7 R C6 x0 y5 x6 y7 w0) x5 x7 w (l6 R x0 x5 x6 x7 w):=LI2 _ x5 x7 w
def b4 (_:T (R):=Q _):=
 l6 R x0 x5 x6 (.int .i64 0) w
def b1 (_:T (R):=Q _):=
 K R Zal.id #[x1] w λ v1 w2=>
 U R (makeMap 269 none) w2 λ v3 w4=>
 b4 R x0 v1 v3 w4
theorem tie (R:EP):TI prog R (Zp f89) (QQ (λ z w=>R (.returned (z 4)) w)) λ z w=>b1 R (z 0) (z 1) w:=aT 2 (λ z w=>b4 R (z 0) (z 5) (z 6) w) (sT (λ z w=>b3 R (z 5) w) (aT 0 (λ z w=>l6 R (z 0) (z 5) (z 6) (z 7) w) (Zk 0 (lT2 5 7 (λ z C6 y5 y7 w0=>b7 R C6 (z 0) y5 (z 6) y7 w0) λ C6=>aT 0 (λ z w=>b11 R C6 (z 0) (z 5) (z 6) (z 7) w) (sT (λ z w=>b9 R C6 (z 5) (z 7) w) (Zk 1 (aT 0 (λ z w=>b17 R C6 (z 0) (z 5) (z 6) (z 7) (z 8) w) (sT (λ z w=>b13 R C6 (z 0) (z 5) (z 6) (z 7) (z 8) w) (aT 0 (λ z w=>b18 R C6 (z 0) (z 5) (z 6) (z 7) (z 8) (z 33) w) ofT) (aT 1 (λ z w=>l15 R C6 (z 5) (z 7) (z 43) (z 44) (z 45) w) (Zk 2 (lT2 5 45 (λ z C15 y5 y45 w0=>b16 R C6 C15 y5 (z 7) (z 43) (z 44) y45 w0) λ C15=>ofT)))))) ofT)))) ofT)
def run (R:EP)(a0 a1:Value)(w:World):=b1 R a0 a1 w
theorem ct:Cta2 prog id run:=Zcd call89 func89 λ R a0 a1 w h=>tie R _ w h
attribute [irreducible] l15 l6
attribute [irreducible,go_sem] b3 b9 b16_1 b16 b13 b18 b17_1 b17 b11 b7 b4 b1 run
end Zl
namespace Zb6
variable (R:EP) (x0 x1 v1 v11:Value) (w w19:World)
def b1_1 (_:T (R):=Q _):=
 U R (fieldAt 89 v1 1) w19 λ v20 w21=>
 U R (loadAt 3 v20) w21 λ v22 w23=>
 U R (indexAt 24 v11 v22) w23 λ v24 w25=>
 U R (loadAt 3 v24) w25 λ v26 w27=>
 R (.returned v26) w27
def b1 (_:T (R):=Q _):=
 U R (box 89 x1) w λ v1 w2=>
 NILC x0 λ v3=>
 Y (fieldAt 206 v3 0) λ v4=>
 Y (fieldAt 27 v4 4) λ v5=>
 L (loadAt 25 v5) w2.drew λ v6=>
 Y (fieldAt 89 v1 0) λ v7=>
 L (loadAt 3 v7) w2.drew λ v8=>
 Y (indexAt 25 v6 v8) λ v9=>
 Y (fieldAt 103 v9 1) λ v10=>
 L (loadAt 24 v10) w2.drew λ v11=>
 U R (fieldAt 89 v1 1) w2.drew λ v12 w13=>
 U R (loadAt 3 v12) w13 λ v14 w15=>
 U R (len_ #[24] 3 #[v11]) w15 λ v16 w17=>
 U R (bins .eql 3 (.tmp 17) (.tmp 19) v14 v16) w17 λ v18 w19=>
 SPL v18
 (R (.returned (.int .i64 (-1))) w19)
 (b1_1 R v1 v11 w19)
theorem tie (R:EP):TI prog R (Zp f90) (QQ (λ z w=>R (.returned (z 4)) w)) λ z w=>b1 R (z 0) (z 1) w:=ofT
def run (R:EP)(a0 a1:Value)(w:World):=b1 R a0 a1 w
theorem ct:Cta2 prog id run:=Zcd call90 func90 λ R a0 a1 w h=>tie R _ w h
attribute [irreducible,go_sem] b1_1 b1 run
end Zb6
namespace Zdc
variable (R:EP) (x0 x1 v13 v15:Value) (w w16:World)
def b1_1 (_:T (R):=Q _):=
 U R (buildSlice 24 2 #[(0,v13),(1,v15)]) w16 λ v17 w18=>
 K R Zde.id #[v17] w18 λ v19 w20=>
 R (.returned v19) w20
def b1 (_:T (R):=Q _):=
 U R (box 89 x0) w λ v1 w2=>
 U R (box 89 x1) w2 λ v3 w4=>
 Y (fieldAt 89 v1 0) λ v5=>
 L (loadAt 3 v5) w4.drew λ v6=>
 Y (fieldAt 89 v3 0) λ v7=>
 L (loadAt 3 v7) w4.drew λ v8=>
 Y (fieldAt 89 v1 1) λ v9=>
 L (loadAt 3 v9) w4.drew λ v10=>
 Y (fieldAt 89 v3 1) λ v11=>
 L (loadAt 3 v11) w4.drew λ v12=>
 K R Zcb.id #[v6,v8] w4.drew λ v13 w14=>
 Sem.run prog (loadAt 3 v11) w14 = .ok v12 w14/\(Sem.run prog (loadAt 3 v9) w14 = .ok v10 w14/\(K R Zcb.id #[v10,v12] w14 λ v15 w16=>
 b1_1 R v13 v15 w16))
theorem tie (R:EP):TI prog R (Zp f94) (QQ (λ z w=>R (.returned (z 4)) w)) λ z w=>b1 R (z 0) (z 1) w:=ofT
def run (R:EP)(a0 a1:Value)(w:World):=b1 R a0 a1 w
theorem ct:Cta2 prog id run:=Zcd call94 func94 λ R a0 a1 w h=>tie R _ w h
attribute [irreducible,go_sem] b1_1 b1 run
end Zdc
namespace Za2
variable (R:EP) (x0:Value) (w:World)
def b1 (_:T (R):=Q _):=
 U R (len_ #[28] 3 #[x0]) w λ v1 w2=>
 U R (len_ #[28] 3 #[x0]) w2 λ v3 w4=>
 U R (sliceAt 28 x0 none (some v1) (some v3)) w4 λ v5 w6=>
 R (.returned v5) w6
theorem tie (R:EP):TI prog R (Zp f31) (QQ (λ z w=>R (.returned (z 2)) w)) λ z w=>b1 R (z 0) w:=ofT
def run (R:EP)(a0:Value)(w:World):=b1 R a0 w
theorem ct:Cta1 prog id run:=Zbj call31 func31 λ R a0 w h=>tie R _ w h
attribute [irreducible,go_sem] b1 run
end Za2
namespace Za1
variable (R:EP) (x0:Value) (w:World)
def b1 (_:T (R):=Q _):=
 U R (len_ #[93] 3 #[x0]) w λ v1 w2=>
 U R (len_ #[93] 3 #[x0]) w2 λ v3 w4=>
 U R (sliceAt 93 x0 none (some v1) (some v3)) w4 λ v5 w6=>
 R (.returned v5) w6
theorem tie (R:EP):TI prog R (Zp f38) (QQ (λ z w=>R (.returned (z 2)) w)) λ z w=>b1 R (z 0) w:=ofT
def run (R:EP)(a0:Value)(w:World):=b1 R a0 w
theorem ct:Cta1 prog id run:=Zbj call38 func38 λ R a0 w h=>tie R _ w h
attribute [irreducible,go_sem] b1 run
end Za1
namespace Zax
variable (R:EP) (x0:Value) (w:World)
def b1 (_:T (R):=Q _):=
 U R (len_ #[32] 3 #[x0]) w λ v1 w2=>
 U R (len_ #[32] 3 #[x0]) w2 λ v3 w4=>
 U R (sliceAt 32 x0 none (some v1) (some v3)) w4 λ v5 w6=>
 R (.returned v5) w6
theorem tie (R:EP):TI prog R (Zp f39) (QQ (λ z w=>R (.returned (z 2)) w)) λ z w=>b1 R (z 0) w:=ofT
def run (R:EP)(a0:Value)(w:World):=b1 R a0 w
theorem ct:Cta1 prog id run:=Zbj call39 func39 λ R a0 w h=>tie R _ w h
attribute [irreducible,go_sem] b1 run
end Zax
namespace Zbt
variable (R:EP) (x0:Value) (w:World)
def b1 (_:T (R):=Q _):=
 U R (len_ #[24] 3 #[x0]) w λ v1 w2=>
 U R (len_ #[24] 3 #[x0]) w2 λ v3 w4=>
 U R (sliceAt 24 x0 none (some v1) (some v3)) w4 λ v5 w6=>
 R (.returned v5) w6
theorem tie (R:EP):TI prog R (Zp f79) (QQ (λ z w=>R (.returned (z 2)) w)) λ z w=>b1 R (z 0) w:=ofT
def run (R:EP)(a0:Value)(w:World):=b1 R a0 w
theorem ct:Cta1 prog id run:=Zbj call79 func79 λ R a0 w h=>tie R _ w h
attribute [irreducible,go_sem] b1 run
end Zbt
namespace Za3
variable (R:EP) (x0:Value) (w:World)
def b1 (_:T (R):=Q _):=
 U R (len_ #[69] 3 #[x0]) w λ v1 w2=>
 U R (len_ #[69] 3 #[x0]) w2 λ v3 w4=>
 U R (sliceAt 69 x0 none (some v1) (some v3)) w4 λ v5 w6=>
 R (.returned v5) w6
theorem tie (R:EP):TI prog R (Zp f80) (QQ (λ z w=>R (.returned (z 2)) w)) λ z w=>b1 R (z 0) w:=ofT
def run (R:EP)(a0:Value)(w:World):=b1 R a0 w
theorem ct:Cta1 prog id run:=Zbj call80 func80 λ R a0 w h=>tie R _ w h
attribute [irreducible,go_sem] b1 run
end Za3
namespace Zde
variable (R:EP) (C6:VP) (x0 x3 x6 x7 x8:Value) (w w2:World)
def b3 (_:T (R):=Q _):=
 R (.returned x3) w
def b7_1 (_:T (R,C6):=Q _):=
 U R (indexAt 24 x6 x8) w2 λ v3 w4=>
 U R (loadAt 3 v3) w4 λ v5 w6=>
 U R (bins .neq 3 (.tmp 12) (.tmp 13) v5 x3) w6 λ v7 w8=>
 SPL v7
 (R (.returned v5) w8)
 (U R (bC .add 3 8 1 x8) w8 λ v9 w10=>
 C6 v9 w10)
def b7 (_:T (R,C6):=Q _):=
 U R (bins .lss 3 (.tmp 8) (.tmp 7) x8 x7) w λ v1 w2=>
 SPL v1
 (b7_1 R C6 x3 x6 x8 w2)
 (b3 R x3 w2)
def l6 (_:T (R):=Q _):Prop :=
 LP1 (λ C6 y8 w0=>b7 R C6 x3 x6 x7 y8 w0) x8 w
theorem l6_intro:LS1 (λ C6 y8 w0=>b7 R C6 x3 x6 x7 y8 w0) x8 w (l6 R x3 x6 x7 x8 w):=LI1 _ x8 w
def b4 (_:T (R):=Q _):=
 U R (len_ #[24] 3 #[x0]) w λ v1 w2=>
 l6 R x3 x0 v1 (.int .i64 0) w2
def b1 (_:T (R):=Q _):=
 b4 R x0 (.int .i64 0) w
theorem tie (R:EP):TI prog R (Zp f95) (QQ (λ z w=>R (.returned (z 2)) w)) λ z w=>b1 R (z 0) w:=aT 1 (λ z w=>b4 R (z 0) (z 3) w) (sT (λ z w=>b3 R (z 3) w) (aT 0 (λ z w=>l6 R (z 3) (z 6) (z 7) (z 8) w) (Zk 0 (lT1 8 (λ z C6 y8 w0=>b7 R C6 (z 3) (z 6) (z 7) y8 w0) λ C6=>ofT))) ofT)
def run (R:EP)(a0:Value)(w:World):=b1 R a0 w
theorem ct:Cta1 prog id run:=Zbj call95 func95 λ R a0 w h=>tie R _ w h
attribute [irreducible] l6
attribute [irreducible,go_sem] b3 b7_1 b7 b4 b1 run
end Zde
namespace Zcb
variable (R:EP) (x0 x1:Value) (w w4:World)
def b1_1 (_:T (R):=Q _):=
 U R (bins .lss 3 (.tmp 14) (.tmp 15) x0 x1) w4 λ v5 w6=>
 SPL v5
 (R (.returned (.int .i64 (-1))) w6)
 (U R (bins .gtr 3 (.tmp 17) (.tmp 18) x0 x1) w6 λ v7 w8=>
 SPL v7
 (R (.returned (.int .i64 1)) w8)
 (R (.returned (.int .i64 0)) w8))
def b1 (_:T (R):=Q _):=
 K R cmp_isNaN_int.id #[x0] w λ v1 w2=>
 K R cmp_isNaN_int.id #[x1] w2 λ v3 w4=>
 SPL v1
 (SPL v3
 (R (.returned (.int .i64 0)) w4)
 (R (.returned (.int .i64 (-1))) w4))
 (SPL v3
 (R (.returned (.int .i64 1)) w4)
 (b1_1 R x0 x1 w4))
theorem tie (R:EP):TI prog R (Zp f96) (QQ (λ z w=>R (.returned (z 4)) w)) λ z w=>b1 R (z 0) (z 1) w:=ofT
def run (R:EP)(a0 a1:Value)(w:World):=b1 R a0 a1 w
theorem ct:Cta2 prog id run:=Zcd call96 func96 λ R a0 a1 w h=>tie R _ w h
attribute [irreducible,go_sem] b1_1 b1 run
end Zcb
namespace Za0
variable (R:EP) (x0:Value) (w:World)
def b1 (_:T (R):=Q _):=
 U R (len_ #[90] 3 #[x0]) w λ v1 w2=>
 U R (len_ #[90] 3 #[x0]) w2 λ v3 w4=>
 U R (sliceAt 90 x0 none (some v1) (some v3)) w4 λ v5 w6=>
 R (.returned v5) w6
theorem tie (R:EP):TI prog R (Zp f97) (QQ (λ z w=>R (.returned (z 2)) w)) λ z w=>b1 R (z 0) w:=ofT
def run (R:EP)(a0:Value)(w:World):=b1 R a0 w
theorem ct:Cta1 prog id run:=Zbj call97 func97 λ R a0 w h=>tie R _ w h
attribute [irreducible,go_sem] b1 run
end Za0
namespace Zj
variable (R:EP) (C6:VP) (C18:Value->VP) (x0 x3 x4 x5 x25:Value) (w w4:World)
def b3 (_:T (R):=Q _):=
 R (.returned x0) w
def b9 (_:T (R,C6):=Q _):=
 U R (bC .add 3 14 1 x3) w λ v1 w2=>
 C6 v1 w2
def b15 (_:T (R,C6):=Q _):=
 U R (sliceAt 90 x0 (some x3) none none) w λ v1 w2=>
 U R (clear_ #[90] 0 #[v1]) w2 λ v3 w4=>
 U R (sliceAt 90 x0 none (some x3) none) w4 λ v5 w6=>
 R (.returned v5) w6
def b20 (_:T (R,C6,C18):=Q _):=
 U R (bC .add 3 33 1 x5) w λ v1 w2=>
 C18 x3 v1 w2
def b19_1 (_:T (R,C6,C18):=Q _):=
 U R (indexAt 90 x4 x5) w4.drew λ v11 w12=>
 U R (loadAt 89 v11) w12 λ v13 w14=>
 U R (indexAt 90 x0 x3) w14 λ v15 w16=>
 RUNU prog R (storeAt 89 v15 v13) w16 λ w17=>
 U R (bC .add 3 52 1 x3) w17 λ v18 w19=>
 b20 R C6 C18 v18 x5 w19
def b19_2 (_:T (R,C6,C18):=Q _):=
 Y (indexAt 90 x4 x5) λ v5=>
 L (loadAt 89 v5) w4.drew λ v6=>
 Y (bC .sub 3 40 1 x5) λ v7=>
 Y (indexAt 90 x4 v7) λ v8=>
 L (loadAt 89 v8) w4.drew λ v9=>
 Y (bins .neq 89 (.tmp 38) (.tmp 43) v6 v9) λ v10=>
 SPL v10
 (b19_1 R C6 C18 x0 x3 x4 x5 w4)
 (b20 R C6 C18 x3 x5 w4.drew)
def b19 (_:T (R,C6,C18):=Q _):=
 U R (len_ #[90] 3 #[x4]) w λ v1 w2=>
 U R (bins .lss 3 (.tmp 29) (.tmp 31) x5 v1) w2 λ v3 w4=>
 SPL v3
 (b19_2 R C6 C18 x0 x3 x4 x5 w4)
 (b15 R C6 x0 x3 w4)
def l18 (_:T (R,C6):=Q _):Prop :=
 LP2 (λ C18 y3 y5 w0=>b19 R C6 C18 x0 y3 x4 y5 w0) x3 x5 w
theorem l18_intro:LS2 (λ C18 y3 y5 w0=>b19 R C6 C18 x0 y3 x4 y5 w0) x3 x5 w (l18 R C6 x0 x3 x4 x5 w):=LI2 _ x3 x5 w
def b16 (_:T (R,C6):=Q _):=
 l18 R C6 x0 x3 x4 (.int .i64 1) w
def b13 (_:T (R,C6):=Q _):=
 U R (sliceAt 90 x0 (some x3) none none) w λ v1 w2=>
 b16 R C6 x0 x3 v1 w2
def b21 (_:T (R,C6):=Q _):=
 b9 R C6 x3 w
def b12 (_:T (R,C6):=Q _):=
 SPL x25 (b13 R C6 x0 x3 w) (b21 R C6 x3 w)
def b11 (_:T (R,C6):=Q _):=
 Y (indexAt 90 x0 x3) λ v1=>
 L (loadAt 89 v1) w.drew λ v2=>
 Y (bC .sub 3 21 1 x3) λ v3=>
 Y (indexAt 90 x0 v3) λ v4=>
 L (loadAt 89 v4) w.drew λ v5=>
 Y (bins .eql 89 (.tmp 19) (.tmp 24) v2 v5) λ v6=>
 b12 R C6 x0 x3 v6 w.drew
def b7 (_:T (R,C6):=Q _):=
 U R (len_ #[90] 3 #[x0]) w λ v1 w2=>
 U R (bins .lss 3 (.tmp 10) (.tmp 12) x3 v1) w2 λ v3 w4=>
 SPL v3
 (b11 R C6 x0 x3 w4)
 (b3 R x0 w4)
def l6 (_:T (R):=Q _):Prop :=
 LP1 (λ C6 y3 w0=>b7 R C6 x0 y3 w0) x3 w
theorem l6_intro:LS1 (λ C6 y3 w0=>b7 R C6 x0 y3 w0) x3 w (l6 R x0 x3 w):=LI1 _ x3 w
def b4 (_:T (R):=Q _):=
 l6 R x0 (.int .i64 1) w
def b1 (_:T (R):=Q _):=
 U R (len_ #[90] 3 #[x0]) w λ v1 w2=>
 U R (bC .lss 3 7 2 v1) w2 λ v3 w4=>
 SPL v3
 (R (.returned x0) w4)
 (b4 R x0 w4)
theorem tie (R:EP):TI prog R (Zp f98) (QQ (λ z w=>R (.returned (z 2)) w)) λ z w=>b1 R (z 0) w:=aT 1 (λ z w=>b4 R (z 0) w) (sT (λ z w=>b3 R (z 0) w) (aT 0 (λ z w=>l6 R (z 0) (z 3) w) (Zk 0 (lT1 3 (λ z C6 y3 w0=>b7 R C6 (z 0) y3 w0) λ C6=>aT 0 (λ z w=>b11 R C6 (z 0) (z 3) w) (sT (λ z w=>b9 R C6 (z 3) w) (Zk 1 (aT 0 (λ z w=>b12 R C6 (z 0) (z 3) (z 25) w) (cdT (.tmp 25) (λ z w=>b13 R C6 (z 0) (z 3) w) (λ z w=>b21 R C6 (z 3) w) (aT 0 (λ z w=>b16 R C6 (z 0) (z 3) (z 4) w) (sT (λ z w=>b15 R C6 (z 0) (z 3) w) (aT 0 (λ z w=>l18 R C6 (z 0) (z 3) (z 4) (z 5) w) (Zk 2 (lT2 3 5 (λ z C18 y3 y5 w0=>b19 R C6 C18 (z 0) y3 (z 4) y5 w0) λ C18=>aT 1 (λ z w=>b20 R C6 C18 (z 3) (z 5) w) ofT))) ofT)) ofT))) ofT)))) ofT)
def run (R:EP)(a0:Value)(w:World):=b1 R a0 w
theorem ct:Cta1 prog id run:=Zbj call98 func98 λ R a0 w h=>tie R _ w h
attribute [irreducible] l18 l6
attribute [irreducible,go_sem] b3 b9 b15 b20 b19_1 b19_2 b19 b16 b13 b21 b12 b11 b7 b4 b1 run
end Zj
namespace Zb0
variable (R:EP) (x0:Value) (w w2:World)
def b1_1 (_:T (R):=Q _):=
 U R (buildSlice 24 0 #[]) w2 λ v3 w4=>
 U R (append_ #[24,24] 24 #[v3,x0]) w4 λ v5 w6=>
 R (.returned v5) w6
def b1 (_:T (R):=Q _):=
 U R (bins .eql 24 (.tmp 3) (.const (.slice none 0 0)) x0 (.slice none 0 0)) w λ v1 w2=>
 SPL v1
 (R (.returned (.slice none 0 0)) w2)
 (b1_1 R x0 w2)
theorem tie (R:EP):TI prog R (Zp f129) (QQ (λ z w=>R (.returned (z 2)) w)) λ z w=>b1 R (z 0) w:=ofT
def run (R:EP)(a0:Value)(w:World):=b1 R a0 w
theorem ct:Cta1 prog id run:=Zbj call129 func129 λ R a0 w h=>tie R _ w h
attribute [irreducible,go_sem] b1_1 b1 run
end Zb0
namespace Zay
variable (R:EP) (x0:Value) (w w2:World)
def b1_1 (_:T (R):=Q _):=
 U R (buildSlice 195 0 #[]) w2 λ v3 w4=>
 U R (append_ #[195,195] 195 #[v3,x0]) w4 λ v5 w6=>
 R (.returned v5) w6
def b1 (_:T (R):=Q _):=
 U R (bins .eql 195 (.tmp 3) (.const (.slice none 0 0)) x0 (.slice none 0 0)) w λ v1 w2=>
 SPL v1
 (R (.returned (.slice none 0 0)) w2)
 (b1_1 R x0 w2)
theorem tie (R:EP):TI prog R (Zp f145) (QQ (λ z w=>R (.returned (z 2)) w)) λ z w=>b1 R (z 0) w:=ofT
def run (R:EP)(a0:Value)(w:World):=b1 R a0 w
theorem ct:Cta1 prog id run:=Zbj call145 func145 λ R a0 w h=>tie R _ w h
attribute [irreducible,go_sem] b1_1 b1 run
end Zay
namespace Zal
variable (R:EP) (x0:Value) (w w2:World)
def b1_1 (_:T (R):=Q _):=
 U R (buildSlice 90 0 #[]) w2 λ v3 w4=>
 U R (append_ #[90,90] 90 #[v3,x0]) w4 λ v5 w6=>
 R (.returned v5) w6
def b1 (_:T (R):=Q _):=
 U R (bins .eql 90 (.tmp 3) (.const (.slice none 0 0)) x0 (.slice none 0 0)) w λ v1 w2=>
 SPL v1
 (R (.returned (.slice none 0 0)) w2)
 (b1_1 R x0 w2)
theorem tie (R:EP):TI prog R (Zp f154) (QQ (λ z w=>R (.returned (z 2)) w)) λ z w=>b1 R (z 0) w:=ofT
def run (R:EP)(a0:Value)(w:World):=b1 R a0 w
theorem ct:Cta1 prog id run:=Zbj call154 func154 λ R a0 w h=>tie R _ w h
attribute [irreducible,go_sem] b1_1 b1 run
end Zal
namespace Zbx
variable (R:EP) (x0:Value) (w:World)
def b1 (_:T (R):=Q _):=
 U R (len_ #[50] 3 #[x0]) w λ v1 w2=>
 U R (len_ #[50] 3 #[x0]) w2 λ v3 w4=>
 U R (sliceAt 50 x0 none (some v1) (some v3)) w4 λ v5 w6=>
 R (.returned v5) w6
theorem tie (R:EP):TI prog R (Zp f207) (QQ (λ z w=>R (.returned (z 2)) w)) λ z w=>b1 R (z 0) w:=ofT
def run (R:EP)(a0:Value)(w:World):=b1 R a0 w
theorem ct:Cta1 prog id run:=Zbj call207 func207 λ R a0 w h=>tie R _ w h
attribute [irreducible,go_sem] b1 run
end Zbx
namespace Zaw
variable (R:EP) (x0:Value) (w:World)
def b1 (_:T (R):=Q _):=
 U R (len_ #[184] 3 #[x0]) w λ v1 w2=>
 U R (len_ #[184] 3 #[x0]) w2 λ v3 w4=>
 U R (sliceAt 184 x0 none (some v1) (some v3)) w4 λ v5 w6=>
 R (.returned v5) w6
theorem tie (R:EP):TI prog R (Zp f265) (QQ (λ z w=>R (.returned (z 2)) w)) λ z w=>b1 R (z 0) w:=ofT
def run (R:EP)(a0:Value)(w:World):=b1 R a0 w
theorem ct:Cta1 prog id run:=Zbj call265 func265 λ R a0 w h=>tie R _ w h
attribute [irreducible,go_sem] b1 run
end Zaw
namespace Za7
variable (R:EP) (C6:VP) (C18:Value->VP) (x0 x3 x4 x5 x25:Value) (w w4:World)
def b3 (_:T (R):=Q _):=
 R (.returned x0) w
def b9 (_:T (R,C6):=Q _):=
 U R (bC .add 3 14 1 x3) w λ v1 w2=>
 C6 v1 w2
def b15 (_:T (R,C6):=Q _):=
 U R (sliceAt 24 x0 (some x3) none none) w λ v1 w2=>
 U R (clear_ #[24] 0 #[v1]) w2 λ v3 w4=>
 U R (sliceAt 24 x0 none (some x3) none) w4 λ v5 w6=>
 R (.returned v5) w6
def b20 (_:T (R,C6,C18):=Q _):=
 U R (bC .add 3 33 1 x5) w λ v1 w2=>
 C18 x3 v1 w2
def b19_1 (_:T (R,C6,C18):=Q _):=
 U R (indexAt 24 x4 x5) w4.drew λ v11 w12=>
 U R (loadAt 3 v11) w12 λ v13 w14=>
 U R (indexAt 24 x0 x3) w14 λ v15 w16=>
 RUNU prog R (storeAt 3 v15 v13) w16 λ w17=>
 U R (bC .add 3 52 1 x3) w17 λ v18 w19=>
 b20 R C6 C18 v18 x5 w19
def b19_2 (_:T (R,C6,C18):=Q _):=
 Y (indexAt 24 x4 x5) λ v5=>
 L (loadAt 3 v5) w4.drew λ v6=>
 Y (bC .sub 3 40 1 x5) λ v7=>
 Y (indexAt 24 x4 v7) λ v8=>
 L (loadAt 3 v8) w4.drew λ v9=>
 Y (bins .neq 3 (.tmp 38) (.tmp 43) v6 v9) λ v10=>
 SPL v10
 (b19_1 R C6 C18 x0 x3 x4 x5 w4)
 (b20 R C6 C18 x3 x5 w4.drew)
def b19 (_:T (R,C6,C18):=Q _):=
 U R (len_ #[24] 3 #[x4]) w λ v1 w2=>
 U R (bins .lss 3 (.tmp 29) (.tmp 31) x5 v1) w2 λ v3 w4=>
 SPL v3
 (b19_2 R C6 C18 x0 x3 x4 x5 w4)
 (b15 R C6 x0 x3 w4)
def l18 (_:T (R,C6):=Q _):Prop :=
 LP2 (λ C18 y3 y5 w0=>b19 R C6 C18 x0 y3 x4 y5 w0) x3 x5 w
theorem l18_intro:LS2 (λ C18 y3 y5 w0=>b19 R C6 C18 x0 y3 x4 y5 w0) x3 x5 w (l18 R C6 x0 x3 x4 x5 w):=LI2 _ x3 x5 w
def b16 (_:T (R,C6):=Q _):=
 l18 R C6 x0 x3 x4 (.int .i64 1) w
def b13 (_:T (R,C6):=Q _):=
 U R (sliceAt 24 x0 (some x3) none none) w λ v1 w2=>
 b16 R C6 x0 x3 v1 w2
def b21 (_:T (R,C6):=Q _):=
 b9 R C6 x3 w
def b12 (_:T (R,C6):=Q _):=
 SPL x25 (b13 R C6 x0 x3 w) (b21 R C6 x3 w)
def b11 (_:T (R,C6):=Q _):=
 Y (indexAt 24 x0 x3) λ v1=>
 L (loadAt 3 v1) w.drew λ v2=>
 Y (bC .sub 3 21 1 x3) λ v3=>
 Y (indexAt 24 x0 v3) λ v4=>
 L (loadAt 3 v4) w.drew λ v5=>
 Y (bins .eql 3 (.tmp 19) (.tmp 24) v2 v5) λ v6=>
 b12 R C6 x0 x3 v6 w.drew
def b7 (_:T (R,C6):=Q _):=
 U R (len_ #[24] 3 #[x0]) w λ v1 w2=>
 U R (bins .lss 3 (.tmp 10) (.tmp 12) x3 v1) w2 λ v3 w4=>
 SPL v3
 (b11 R C6 x0 x3 w4)
 (b3 R x0 w4)
def l6 (_:T (R):=Q _):Prop :=
 LP1 (λ C6 y3 w0=>b7 R C6 x0 y3 w0) x3 w
theorem l6_intro:LS1 (λ C6 y3 w0=>b7 R C6 x0 y3 w0) x3 w (l6 R x0 x3 w):=LI1 _ x3 w
def b4 (_:T (R):=Q _):=
 l6 R x0 (.int .i64 1) w
def b1 (_:T (R):=Q _):=
 U R (len_ #[24] 3 #[x0]) w λ v1 w2=>
 U R (bC .lss 3 7 2 v1) w2 λ v3 w4=>
 SPL v3
 (R (.returned x0) w4)
 (b4 R x0 w4)
theorem tie (R:EP):TI prog R (Zp f267) (QQ (λ z w=>R (.returned (z 2)) w)) λ z w=>b1 R (z 0) w:=aT 1 (λ z w=>b4 R (z 0) w) (sT (λ z w=>b3 R (z 0) w) (aT 0 (λ z w=>l6 R (z 0) (z 3) w) (Zk 0 (lT1 3 (λ z C6 y3 w0=>b7 R C6 (z 0) y3 w0) λ C6=>aT 0 (λ z w=>b11 R C6 (z 0) (z 3) w) (sT (λ z w=>b9 R C6 (z 3) w) (Zk 1 (aT 0 (λ z w=>b12 R C6 (z 0) (z 3) (z 25) w) (cdT (.tmp 25) (λ z w=>b13 R C6 (z 0) (z 3) w) (λ z w=>b21 R C6 (z 3) w) (aT 0 (λ z w=>b16 R C6 (z 0) (z 3) (z 4) w) (sT (λ z w=>b15 R C6 (z 0) (z 3) w) (aT 0 (λ z w=>l18 R C6 (z 0) (z 3) (z 4) (z 5) w) (Zk 2 (lT2 3 5 (λ z C18 y3 y5 w0=>b19 R C6 C18 (z 0) y3 (z 4) y5 w0) λ C18=>aT 1 (λ z w=>b20 R C6 C18 (z 3) (z 5) w) ofT))) ofT)) ofT))) ofT)))) ofT)
def run (R:EP)(a0:Value)(w:World):=b1 R a0 w
theorem ct:Cta1 prog id run:=Zbj call267 func267 λ R a0 w h=>tie R _ w h
attribute [irreducible] l18 l6
attribute [irreducible,go_sem] b3 b9 b15 b20 b19_1 b19_2 b19 b16 b13 b21 b12 b11 b7 b4 b1 run
end Za7
end Go.Proofs.YtjibcckpehdbhaaGreatDoor
