/-
  Texts of this claim: TC_relate, TC_digraph, TC_slicesy, TC_look.
-/
import Derived.Test.YtjibcckpehdbhaaGreatDoorY05
set_option linter.unusedVariables false
set_option maxRecDepth 100000
namespace Go.Proofs.YtjibcckpehdbhaaGreatDoor
open Go.Px Tryz Instr Builtin
namespace Zf
variable (R:EP) (C8:Value->VP) (C15:Value->VP) (C20:VP) (C27:VP) (x0 x1 x4 x6 x7 x8 x13 x14 x29 x30 x31 x42 x43 x44 x76 x77 x82 x83 v1 v5 v11 v14:Value) (w w2 w6 w12 w15:World)
def b5 (_:T (R):=Q _):=
 K R Za3.id #[x13] w λ v1 w2=>
 R (.returned (.tuple #[v1,(.int .i64 0)])) w2
def b11 (_:T (R,C8):=Q _):=
 U R (bC .add 3 77 1 x77) w λ v1 w2=>
 C8 x13 v1 w2
def b17 (_:T (R,C8,C15):=Q _):=
 U R (bC .add 3 83 1 x83) w λ v1 w2=>
 C15 x13 v1 w2
def b16_1 (_:T (R,C8,C15):=Q _):=
 U R (build 73 #[(0,x14),(1,x83),(2,v11)]) w12 λ v13 w14=>
 U R (buildSlice 69 1 #[(0,v13)]) w14 λ v15 w16=>
 U R (append_ #[69,69] 69 #[x13,v15]) w16 λ v17 w18=>
 b17 R C8 C15 v17 x83 w18
def b16_2 (_:T (R,C8,C15):=Q _):=
 U R (build 190 #[(0,x14),(1,x83)]) w2 λ v3 w4=>
 U R (lookup 183 x6 v3 false) w4 λ v5 w6=>
 U R (len_ #[24] 3 #[v5]) w6 λ v7 w8=>
 U R (bC .gtr 3 92 0 v7) w8 λ v9 w10=>
 SPL v9
 (K R Zbt.id #[v5] w10 λ v11 w12=>
 b16_1 R C8 C15 x13 x14 x83 v11 w12)
 (b17 R C8 C15 x13 x83 w10)
def b16 (_:T (R,C8,C15):=Q _):=
 U R (bins .lss 3 (.tmp 83) (.tmp 82) x83 x82) w λ v1 w2=>
 SPL v1
 (b16_2 R C8 C15 x6 x13 x14 x83 w2)
 (b11 R C8 x13 x77 w2)
def l15 (_:T (R,C8):=Q _):Prop :=
 LP2 (λ C15 y13 y83 w0=>b16 R C8 C15 x6 y13 x14 x77 x82 y83 w0) x13 x83 w
theorem l15_intro:LS2 (λ C15 y13 y83 w0=>b16 R C8 C15 x6 y13 x14 x77 x82 y83 w0) x13 x83 w (l15 R C8 x6 x13 x14 x77 x82 x83 w):=LI2 _ x13 x83 w
def b13 (_:T (R,C8):=Q _):=
 U R (fieldAt 27 x1 4) w λ v1 w2=>
 U R (loadAt 25 v1) w2 λ v3 w4=>
 U R (len_ #[25] 3 #[v3]) w4 λ v5 w6=>
 l15 R C8 x6 x13 x77 x77 v5 (.int .i64 0) w6
def b9 (_:T (R,C8):=Q _):=
 U R (bins .lss 3 (.tmp 77) (.tmp 76) x77 x76) w λ v1 w2=>
 SPL v1
 (b13 R C8 x1 x6 x13 x77 w2)
 (b5 R x13 w2)
def l8 (_:T (R):=Q _):Prop :=
 LP2 (λ C8 y13 y77 w0=>b9 R C8 x1 x6 y13 x76 y77 w0) x13 x77 w
theorem l8_intro:LS2 (λ C8 y13 y77 w0=>b9 R C8 x1 x6 y13 x76 y77 w0) x13 x77 w (l8 R x1 x6 x13 x76 x77 w):=LI2 _ x13 x77 w
def b6 (_:T (R):=Q _):=
 NILC x4 λ v1=>
 U R (fieldAt 188 v1 1) w λ v2 w3=>
 U R (fieldAt 34 v2 0) w3 λ v4 w5=>
 U R (loadAt 32 v4) w5 λ v6 w7=>
 U R (len_ #[32] 3 #[v6]) w7 λ v8 w9=>
 l8 R x1 x6 x13 v8 (.int .i64 0) w9
def b3 (_:T (R):=Q _):=
 b6 R x1 x4 x6 (.slice none 0 0) w
def b23 (_:T (R,C20):=Q _):=
 U R (bC .add 3 31 1 x31) w λ v1 w2=>
 C20 v1 w2
def b28_1 (_:T (R,C27):=Q _):=
 U R (build 190 #[(0,v14),(1,v5)]) w15 λ v16 w17=>
 U R (alloc 190 true (.tuple #[])) w17 λ v18 w19=>
 RUNU prog R (storeAt 190 v18 v16) w19 λ w20=>
 U R (loadAt 190 v18) w20 λ v21 w22=>
 U R (buildSlice 24 1 #[(0,x7)]) w22 λ v23 w24=>
 U R (mapEntry 183 x6 v21) w24 λ v25 w26=>
 U R (extract v25 0) w26 λ v27 w28=>
 U R (append_ #[24,24] 24 #[v27,v23]) w28 λ v29 w30=>
 U R (extract v25 1) w30 λ v31 w32=>
 RUNU prog R (entryStore 183 x6 v31 v29) w32 λ w33=>
 U R (bC .add 3 44 1 x44) w33 λ v34 w35=>
 C27 v34 w35
def b28_2 (_:T (R,C27):=Q _):=
 U R (indexAt 24 x42 x44) w2 λ v3 w4=>
 U R (loadAt 3 v3) w4 λ v5 w6=>
 Y (fieldAt 190 x8 0) λ v7=>
 L (loadAt 3 v7) w6.drew λ v8=>
 Y (fieldAt 27 x1 4) λ v9=>
 L (loadAt 25 v9) w6.drew λ v10=>
 Y (indexAt 25 v10 v5) λ v11=>
 Y (fieldAt 103 v11 1) λ v12=>
 L (loadAt 24 v12) w6.drew λ v13=>
 K R Zbo.id #[x4,v8,v13,(.func (.func Zc0.id) #[] #[])] w6.drew λ v14 w15=>
 b28_1 R C27 x6 x7 x44 v5 v14 w15
def b28 (_:T (R,C20,C27):=Q _):=
 U R (bins .lss 3 (.tmp 44) (.tmp 43) x44 x43) w λ v1 w2=>
 SPL v1
 (b28_2 R C27 x1 x4 x6 x7 x8 x42 x44 w2)
 (b23 R C20 x31 w2)
def l27 (_:T (R,C20):=Q _):Prop :=
 LP1 (λ C27 y44 w0=>b28 R C20 C27 x1 x4 x6 x7 x8 x31 x42 x43 y44 w0) x44 w
theorem l27_intro:LS1 (λ C27 y44 w0=>b28 R C20 C27 x1 x4 x6 x7 x8 x31 x42 x43 y44 w0) x44 w (l27 R C20 x1 x4 x6 x7 x8 x31 x42 x43 x44 w):=LI1 _ x44 w
def b25 (_:T (R,C20):=Q _):=
 U R (indexAt 184 x29 x31) w λ v1 w2=>
 U R (loadAt 190 v1) w2 λ v3 w4=>
 U R (alloc 190 true (.tuple #[])) w4 λ v5 w6=>
 RUNU prog R (storeAt 190 v5 v3) w6 λ w7=>
 NILC x4 λ v8=>
 Y (fieldAt 188 v8 6) λ v9=>
 L (loadAt 186 v9) w7.drew λ v10=>
 Y (fieldAt 190 v5 1) λ v11=>
 L (loadAt 3 v11) w7.drew λ v12=>
 L (lookup 186 v10 v12 false) w7.drew λ v13=>
 L (len_ #[24] 3 #[v13]) w7.drew λ v14=>
 l27 R C20 x1 x4 x6 x31 v5 x31 v13 v14 (.int .i64 0) w7.drew
def b21 (_:T (R,C20):=Q _):=
 U R (bins .lss 3 (.tmp 31) (.tmp 30) x31 x30) w λ v1 w2=>
 SPL v1
 (b25 R C20 x1 x4 x6 x29 x31 w2)
 (b3 R x1 x4 x6 w2)
def l20 (_:T (R):=Q _):Prop :=
 LP1 (λ C20 y31 w0=>b21 R C20 x1 x4 x6 x29 x30 y31 w0) x31 w
theorem l20_intro:LS1 (λ C20 y31 w0=>b21 R C20 x1 x4 x6 x29 x30 y31 w0) x31 w (l20 R x1 x4 x6 x29 x30 x31 w):=LI1 _ x31 w
def b18 (_:T (R):=Q _):=
 NILC x4 λ v1=>
 U R (fieldAt 188 v1 2) w λ v2 w3=>
 U R (loadAt 184 v2) w3 λ v4 w5=>
 U R (len_ #[184] 3 #[v4]) w5 λ v6 w7=>
 l20 R x1 x4 x6 v4 v6 (.int .i64 0) w7
def b1_1 (_:T (R):=Q _):=
 U R (extract v5 0) w6 λ v7 w8=>
 U R (extract v5 1) w8 λ v9 w10=>
 U R (bC .neq 29 22 0 v9) w10 λ v11 w12=>
 SPL v11
 (R (.returned (.tuple #[(.slice none 0 0),v9])) w12)
 (U R (makeMap 183 none) w12 λ v13 w14=>
 b18 R v1 v7 v13 w14)
def b1 (_:T (R):=Q _):=
 U R (box 27 x0) w λ v1 w2=>
 U R (loadAt 27 v1) w2 λ v3 w4=>
 K R Zs.id #[v3] w4 λ v5 w6=>
 b1_1 R v1 v5 w6
theorem tie (R:EP):TI prog R (Zp f27) (QQ (λ z w=>R (.returned (.tuple #[(z 2),(z 3)])) w)) λ z w=>b1 R (z 0) w:=aT 3 (λ z w=>b18 R (z 1) (z 4) (z 6) w) (sT (λ z w=>b3 R (z 1) (z 4) (z 6) w) (aT 0 (λ z w=>l20 R (z 1) (z 4) (z 6) (z 29) (z 30) (z 31) w) (Zk 0 (lT1 31 (λ z C20 y31 w0=>b21 R C20 (z 1) (z 4) (z 6) (z 29) (z 30) y31 w0) λ C20=>aT 1 (λ z w=>b25 R C20 (z 1) (z 4) (z 6) (z 29) (z 31) w) (sT (λ z w=>b23 R C20 (z 31) w) (Zk 1 (aT 1 (λ z w=>l27 R C20 (z 1) (z 4) (z 6) (z 7) (z 8) (z 31) (z 42) (z 43) (z 44) w) (Zk 2 (lT1 44 (λ z C27 y44 w0=>b28 R C20 C27 (z 1) (z 4) (z 6) (z 7) (z 8) (z 31) (z 42) (z 43) y44 w0) λ C27=>ofT)))) ofT)))) (aT 0 (λ z w=>b6 R (z 1) (z 4) (z 6) (z 13) w) (sT (λ z w=>b5 R (z 13) w) (aT 0 (λ z w=>l8 R (z 1) (z 6) (z 13) (z 76) (z 77) w) (Zk 4 (lT2 13 77 (λ z C8 y13 y77 w0=>b9 R C8 (z 1) (z 6) y13 (z 76) y77 w0) λ C8=>aT 1 (λ z w=>b13 R C8 (z 1) (z 6) (z 13) (z 77) w) (sT (λ z w=>b11 R C8 (z 13) (z 77) w) (Zk 5 (aT 1 (λ z w=>l15 R C8 (z 6) (z 13) (z 14) (z 77) (z 82) (z 83) w) (Zk 6 (lT2 13 83 (λ z C15 y13 y83 w0=>b16 R C8 C15 (z 6) y13 (z 14) (z 77) (z 82) y83 w0) λ C15=>aT 2 (λ z w=>b17 R C8 C15 (z 13) (z 83) w) ofT)))) ofT)))) ofT)))
def run (R:EP)(a0:Value)(w:World):=b1 R a0 w
theorem ct:Cta1 prog id run:=Zem call27 func27 λ R a0 w h=>tie R _ w h
attribute [irreducible] l15 l8 l27 l20
attribute [irreducible,go_sem] b5 b11 b17 b16_1 b16_2 b16 b13 b9 b6 b3 b23 b28_1 b28_2 b28 b25 b21 b18 b1_1 b1 run
end Zf
namespace Zs
variable (R:EP) (C8:VP) (C13:VP) (C20:VP) (C24:VP) (x0 x1 x4 x6 x9 x49 x50 x51 x65 x66 x67 x73 x74 x75 x93 x94 x95 v1 v5 v7 v11 v28 v32 v44:Value) (w w2 w6 w11 w15 w33 w45:World)
def b5 (_:T (R):=Q _):=
 R (.returned (.tuple #[x6,(.int .i64 0)])) w
def b10 (_:T (R,C8):=Q _):=
 U R (bC .add 3 95 1 x95) w λ v1 w2=>
 C8 v1 w2
def b9_1 (_:T (R,C8):=Q _):=
 NILC x6 λ v12=>
 Y (fieldAt 188 v12 6) λ v13=>
 L (loadAt 186 v13) w11.drew λ v14=>
 Y (fieldAt 103 v7 0) λ v15=>
 L (loadAt 3 v15) w11.drew λ v16=>
 NILC x6 λ v17=>
 Y (fieldAt 188 v17 6) λ v18=>
 L (loadAt 186 v18) w11.drew λ v19=>
 Y (fieldAt 103 v7 0) λ v20=>
 L (loadAt 3 v20) w11.drew λ v21=>
 L (lookup 186 v19 v21 false) w11.drew λ v22=>
 U R (buildSlice 24 1 #[(0,x95)]) w11.drew λ v23 w24=>
 Sem.run prog (lookup 186 v19 v21 false) w24 = .ok v22 w24/\(Sem.run prog (loadAt 3 v20) w24 = .ok v21 w24/\(Sem.run prog (loadAt 186 v18) w24 = .ok v19 w24/\(Sem.run prog (loadAt 3 v15) w24 = .ok v16 w24/\(Sem.run prog (loadAt 186 v13) w24 = .ok v14 w24/\(U R (append_ #[24,24] 24 #[v22,v23]) w24 λ v25 w26=>
 Sem.run prog (loadAt 3 v15) w26 = .ok v16 w26/\(Sem.run prog (loadAt 186 v13) w26 = .ok v14 w26/\(RUNU prog R (mapUpdate 186 v14 v16 v25) w26 λ w27=>
 b10 R C8 x95 w27)))))))
def b9_2 (_:T (R,C8):=Q _):=
 U R (indexAt 25 x93 x95) w2 λ v3 w4=>
 U R (loadAt 103 v3) w4 λ v5 w6=>
 U R (alloc 103 true (.tuple #[])) w6 λ v7 w8=>
 RUNU prog R (storeAt 103 v7 v5) w8 λ w9=>
 U R (bC .gtr 3 100 0 x95) w9 λ v10 w11=>
 SPL v10
 (b9_1 R C8 x6 x95 v7 w11)
 (b10 R C8 x95 w11)
def b9 (_:T (R,C8):=Q _):=
 U R (bins .lss 3 (.tmp 95) (.tmp 94) x95 x94) w λ v1 w2=>
 SPL v1
 (b9_2 R C8 x6 x93 x95 w2)
 (b5 R x6 w2)
def l8 (_:T (R):=Q _):Prop :=
 LP1 (λ C8 y95 w0=>b9 R C8 x6 x93 x94 y95 w0) x95 w
theorem l8_intro:LS1 (λ C8 y95 w0=>b9 R C8 x6 x93 x94 y95 w0) x95 w (l8 R x6 x93 x94 x95 w):=LI1 _ x95 w
def b6 (_:T (R):=Q _):=
 U R (fieldAt 27 x1 4) w λ v1 w2=>
 U R (loadAt 25 v1) w2 λ v3 w4=>
 U R (len_ #[25] 3 #[v3]) w4 λ v5 w6=>
 l8 R x6 v3 v5 (.int .i64 0) w6
def b16 (_:T (R,C13):=Q _):=
 U R (bC .add 3 67 1 x67) w λ v1 w2=>
 C13 v1 w2
def b21_1 (_:T (R,C20):=Q _):=
 U R (indexAt 93 x73 x75) w2 λ v3 w4=>
 U R (loadAt 99 v3) w4 λ v5 w6=>
 U R (alloc 99 true (.tuple #[])) w6 λ v7 w8=>
 RUNU prog R (storeAt 99 v7 v5) w8 λ w9=>
 NILC x6 λ v10=>
 Y (fieldAt 188 v10 4) λ v11=>
 L (loadAt 185 v11) w9.drew λ v12=>
 Y (fieldAt 99 v7 0) λ v13=>
 L (loadAt 3 v13) w9.drew λ v14=>
 Y (build 190 #[(0,x9),(1,v14)]) λ v15=>
 Y (fieldAt 99 v7 1) λ v16=>
 L (loadAt 3 v16) w9.drew λ v17=>
 Y (bC .add 3 88 1 v17) λ v18=>
 RUNU prog R (mapUpdate 185 v12 v15 v18) w9.drew λ w19=>
 U R (bC .add 3 75 1 x75) w19 λ v20 w21=>
 C20 v20 w21
def b21 (_:T (R,C13,C20):=Q _):=
 U R (bins .lss 3 (.tmp 75) (.tmp 74) x75 x74) w λ v1 w2=>
 SPL v1
 (b21_1 R C20 x6 x9 x73 x75 w2)
 (b16 R C13 x67 w2)
def l20 (_:T (R,C13):=Q _):Prop :=
 LP1 (λ C20 y75 w0=>b21 R C13 C20 x6 x9 x67 x73 x74 y75 w0) x75 w
theorem l20_intro:LS1 (λ C20 y75 w0=>b21 R C13 C20 x6 x9 x67 x73 x74 y75 w0) x75 w (l20 R C13 x6 x9 x67 x73 x74 x75 w):=LI1 _ x75 w
def b18 (_:T (R,C13):=Q _):=
 U R (indexAt 32 x65 x67) w λ v1 w2=>
 U R (loadAt 95 v1) w2 λ v3 w4=>
 U R (alloc 95 true (.tuple #[])) w4 λ v5 w6=>
 RUNU prog R (storeAt 95 v5 v3) w6 λ w7=>
 U R (fieldAt 95 v5 1) w7 λ v8 w9=>
 U R (loadAt 93 v8) w9 λ v10 w11=>
 U R (len_ #[93] 3 #[v10]) w11 λ v12 w13=>
 l20 R C13 x6 x67 x67 v10 v12 (.int .i64 0) w13
def b14 (_:T (R,C13):=Q _):=
 U R (bins .lss 3 (.tmp 67) (.tmp 66) x67 x66) w λ v1 w2=>
 SPL v1
 (b18 R C13 x6 x65 x67 w2)
 (b6 R x1 x6 w2)
def l13 (_:T (R):=Q _):Prop :=
 LP1 (λ C13 y67 w0=>b14 R C13 x1 x6 x65 x66 y67 w0) x67 w
theorem l13_intro:LS1 (λ C13 y67 w0=>b14 R C13 x1 x6 x65 x66 y67 w0) x67 w (l13 R x1 x6 x65 x66 x67 w):=LI1 _ x67 w
def b11 (_:T (R):=Q _):=
 U R (fieldAt 34 x4 0) w λ v1 w2=>
 U R (loadAt 32 v1) w2 λ v3 w4=>
 U R (len_ #[32] 3 #[v3]) w4 λ v5 w6=>
 l13 R x1 x6 v3 v5 (.int .i64 0) w6
def b25_1 (_:T (R,C24):=Q _):=
 U R (indexAt 184 x49 x51) w2 λ v3 w4=>
 U R (loadAt 190 v3) w4 λ v5 w6=>
 U R (alloc 190 true (.tuple #[])) w6 λ v7 w8=>
 RUNU prog R (storeAt 190 v7 v5) w8 λ w9=>
 NILC x6 λ v10=>
 Y (fieldAt 188 v10 3) λ v11=>
 L (loadAt 185 v11) w9.drew λ v12=>
 L (loadAt 190 v7) w9.drew λ v13=>
 Y (bC .add 3 61 1 x51) λ v14=>
 RUNU prog R (mapUpdate 185 v12 v13 v14) w9.drew λ w15=>
 U R (bC .add 3 51 1 x51) w15 λ v16 w17=>
 C24 v16 w17
def b25 (_:T (R,C24):=Q _):=
 U R (bins .lss 3 (.tmp 51) (.tmp 50) x51 x50) w λ v1 w2=>
 SPL v1
 (b25_1 R C24 x6 x49 x51 w2)
 (b11 R x1 x4 x6 w2)
def l24 (_:T (R):=Q _):Prop :=
 LP1 (λ C24 y51 w0=>b25 R C24 x1 x4 x6 x49 x50 y51 w0) x51 w
theorem l24_intro:LS1 (λ C24 y51 w0=>b25 R C24 x1 x4 x6 x49 x50 y51 w0) x51 w (l24 R x1 x4 x6 x49 x50 x51 w):=LI1 _ x51 w
def b22 (_:T (R):=Q _):=
 NILC x6 λ v1=>
 U R (fieldAt 188 v1 2) w λ v2 w3=>
 U R (loadAt 184 v2) w3 λ v4 w5=>
 U R (len_ #[184] 3 #[v4]) w5 λ v6 w7=>
 l24 R x1 x4 x6 v4 v6 (.int .i64 0) w7
def b1_1 (_:T (R):=Q _):=
 U R (extract v44 0) w45 λ v46 w47=>
 U R (extract v44 1) w47 λ v48 w49=>
 NILC v28 λ v50=>
 U R (fieldAt 188 v50 5) w49 λ v51 w52=>
 RUNU prog R (storeAt 105 v51 v46) w52 λ w53=>
 b22 R v1 v11 v28 w53
def b1_2 (_:T (R):=Q _):=
 U R (extract v32 0) w33 λ v34 w35=>
 U R (extract v32 1) w35 λ v36 w37=>
 NILC v28 λ v38=>
 U R (fieldAt 188 v38 2) w37 λ v39 w40=>
 RUNU prog R (storeAt 184 v39 v34) w40 λ w41=>
 U R (loadAt 27 v1) w41 λ v42 w43=>
 K R Zc6.id #[v42] w43 λ v44 w45=>
 b1_1 R v1 v11 v28 v44 w45
def b1_3 (_:T (R):=Q _):=
 U R (loadAt 27 v1) w15 λ v16 w17=>
 U R (loadAt 34 v11) w17 λ v18 w19=>
 U R (makeMap 185 none) w19 λ v20 w21=>
 U R (makeMap 185 none) w21 λ v22 w23=>
 U R (makeMap 186 none) w23 λ v24 w25=>
 U R (build 188 #[(0,v16),(1,v18),(3,v20),(4,v22),(6,v24)]) w25 λ v26 w27=>
 U R (box 188 v26) w27 λ v28 w29=>
 U R (loadAt 27 v1) w29 λ v30 w31=>
 K R Zei.id #[v30] w31 λ v32 w33=>
 b1_2 R v1 v11 v28 v32 w33
def b1_4 (_:T (R):=Q _):=
 U R (extract v5 0) w6 λ v7 w8=>
 U R (extract v5 1) w8 λ v9 w10=>
 U R (alloc 34 true (.tuple #[])) w10 λ v11 w12=>
 RUNU prog R (storeAt 34 v11 v7) w12 λ w13=>
 U R (bC .neq 29 20 0 v9) w13 λ v14 w15=>
 SPL v14
 (R (.returned (.tuple #[(.pointer none),v9])) w15)
 (b1_3 R v1 v11 w15)
def b1 (_:T (R):=Q _):=
 U R (box 27 x0) w λ v1 w2=>
 U R (loadAt 27 v1) w2 λ v3 w4=>
 K R Zn.id #[v3] w4 λ v5 w6=>
 b1_4 R v1 v5 w6
theorem tie (R:EP):TI prog R (Zp f76) (QQ (λ z w=>R (.returned (.tuple #[(z 2),(z 3)])) w)) λ z w=>b1 R (z 0) w:=aT 5 (λ z w=>b22 R (z 1) (z 4) (z 6) w) (sT (λ z w=>b11 R (z 1) (z 4) (z 6) w) (aT 0 (λ z w=>l24 R (z 1) (z 4) (z 6) (z 49) (z 50) (z 51) w) (Zk 0 (lT1 51 (λ z C24 y51 w0=>b25 R C24 (z 1) (z 4) (z 6) (z 49) (z 50) y51 w0) λ C24=>ofT))) (sT (λ z w=>b6 R (z 1) (z 6) w) (aT 0 (λ z w=>l13 R (z 1) (z 6) (z 65) (z 66) (z 67) w) (Zk 2 (lT1 67 (λ z C13 y67 w0=>b14 R C13 (z 1) (z 6) (z 65) (z 66) y67 w0) λ C13=>aT 1 (λ z w=>b18 R C13 (z 6) (z 65) (z 67) w) (sT (λ z w=>b16 R C13 (z 67) w) (Zk 3 (aT 1 (λ z w=>l20 R C13 (z 6) (z 9) (z 67) (z 73) (z 74) (z 75) w) (Zk 4 (lT1 75 (λ z C20 y75 w0=>b21 R C13 C20 (z 6) (z 9) (z 67) (z 73) (z 74) y75 w0) λ C20=>ofT)))) ofT)))) (sT (λ z w=>b5 R (z 6) w) (aT 0 (λ z w=>l8 R (z 6) (z 93) (z 94) (z 95) w) (Zk 6 (lT1 95 (λ z C8 y95 w0=>b9 R C8 (z 6) (z 93) (z 94) y95 w0) λ C8=>aT 2 (λ z w=>b10 R C8 (z 95) w) ofT))) ofT)))
def run (R:EP)(a0:Value)(w:World):=b1 R a0 w
theorem ct:Cta1 prog id run:=Zem call76 func76 λ R a0 w h=>tie R _ w h
attribute [irreducible] l8 l20 l13 l24
attribute [irreducible,go_sem] b5 b10 b9_1 b9_2 b9 b6 b16 b21_1 b21 b18 b14 b11 b25_1 b25 b22 b1_1 b1_2 b1_3 b1_4 b1 run
end Zs
namespace Zbo
variable (R:EP) (C6:Value->VP) (x0 x1 x2 x3 x11 x12 x13 v5:Value) (w w2 w8:World)
def b3 (_:T (R):=Q _):=
 R (.returned x1) w
def b7_1 (_:T (R,C6):=Q _):=
 NILC x0 λ v9=>
 U R (fieldAt 188 v9 4) w8 λ v10 w11=>
 U R (loadAt 185 v10) w11 λ v12 w13=>
 U R (build 190 #[(0,x1),(1,v5)]) w13 λ v14 w15=>
 U R (lookup 185 v12 v14 false) w15 λ v16 w17=>
 U R (bC .sub 3 29 1 v16) w17 λ v18 w19=>
 U R (bC .add 3 13 1 x13) w19 λ v20 w21=>
 C6 v18 v20 w21
def b7_2 (_:T (R,C6):=Q _):=
 U R (indexAt 24 x11 x13) w2 λ v3 w4=>
 U R (loadAt 3 v3) w4 λ v5 w6=>
 Zfa prog R x3 [x1,x13] w6 λ v7 w8=>
 b7_1 R C6 x0 x1 x13 v5 w8
def b7 (_:T (R,C6):=Q _):=
 U R (bins .lss 3 (.tmp 13) (.tmp 12) x13 x12) w λ v1 w2=>
 SPL v1
 (b7_2 R C6 x0 x1 x3 x11 x13 w2)
 (b3 R x1 w2)
def l6 (_:T (R):=Q _):Prop :=
 LP2 (λ C6 y1 y13 w0=>b7 R C6 x0 y1 x3 x11 x12 y13 w0) x1 x13 w
theorem l6_intro:LS2 (λ C6 y1 y13 w0=>b7 R C6 x0 y1 x3 x11 x12 y13 w0) x1 x13 w (l6 R x0 x1 x3 x11 x12 x13 w):=LI2 _ x1 x13 w
def b4 (_:T (R):=Q _):=
 U R (len_ #[24] 3 #[x2]) w λ v1 w2=>
 l6 R x0 x1 x3 x2 v1 (.int .i64 0) w2
def b1 (_:T (R):=Q _):=
 b4 R x0 x1 x2 x3 w
theorem tie (R:EP):TI prog R (Zp f77) (QQ (λ z w=>R (.returned (z 8)) w)) λ z w=>b1 R (z 0) (z 1) (z 2) (z 3) w:=aT 0 (λ z w=>b4 R (z 0) (z 1) (z 2) (z 3) w) (sT (λ z w=>b3 R (z 1) w) (aT 0 (λ z w=>l6 R (z 0) (z 1) (z 3) (z 11) (z 12) (z 13) w) (Zk 0 (lT2 1 13 (λ z C6 y1 y13 w0=>b7 R C6 (z 0) y1 (z 3) (z 11) (z 12) y13 w0) λ C6=>ofT))) ofT)
def run (R:EP)(a0 a1 a2 a3:Value)(w:World):=b1 R a0 a1 a2 a3 w
theorem ct:Cta4 prog id run:=ZZ162 call77 func77 λ R a0 a1 a2 a3 w h=>tie R _ w h
attribute [irreducible] l6
attribute [irreducible,go_sem] b3 b7_1 b7_2 b7 b4 b1 run
end Zbo
namespace Zc0
variable (R:EP) (w:World)
def b1 (_:T (R):=Q _):=
 R (.returned (.tuple #[])) w
theorem tie (R:EP):TI prog R (Zp f78) (QQ (λ z w=>R (.returned (.tuple #[])) w)) λ z w=>b1 R w:=ofT
def run (R:EP)(a0 a1:Value)(w:World):=b1 R w
theorem ct:Cta2 prog id run:=Zqs call78 func78 λ R a0 a1 w h=>tie R _ w h
attribute [irreducible,go_sem] b1 run
end Zc0
namespace Zb4
variable (R:EP) (x0 v1 v5 v11:Value) (w w6 w15:World)
def b1_1 (_:T (R):=Q _):=
 U R (loadAt 180 v11) w15 λ v16 w17=>
 U R (makeFunc (.func Zad.id) #[] #[v11,v1]) w17 λ v18 w19=>
 K R Zv.id #[v16,v18] w19 λ v20 w21=>
 R (.returned (.tuple #[v20,(.int .i64 0)])) w21
def b1_2 (_:T (R):=Q _):=
 U R (extract v5 0) w6 λ v7 w8=>
 U R (extract v5 1) w8 λ v9 w10=>
 U R (alloc 180 true (.tuple #[])) w10 λ v11 w12=>
 RUNU prog R (storeAt 180 v11 v7) w12 λ w13=>
 U R (bC .neq 29 11 0 v9) w13 λ v14 w15=>
 SPL v14
 (R (.returned (.tuple #[(.slice none 0 0),v9])) w15)
 (b1_1 R v1 v11 w15)
def b1 (_:T (R):=Q _):=
 U R (box 27 x0) w λ v1 w2=>
 U R (loadAt 27 v1) w2 λ v3 w4=>
 K R Zs.id #[v3] w4 λ v5 w6=>
 b1_2 R v1 v5 w6
theorem tie (R:EP):TI prog R (Zp f139) (QQ (λ z w=>R (.returned (.tuple #[(z 2),(z 3)])) w)) λ z w=>b1 R (z 0) w:=ofT
def run (R:EP)(a0:Value)(w:World):=b1 R a0 w
theorem ct:Cta1 prog id run:=Zem call139 func139 λ R a0 w h=>tie R _ w h
attribute [irreducible,go_sem] b1_1 b1_2 b1 run
end Zb4
namespace Za5
variable (R:EP) (x0 v1 v5 v11:Value) (w w6 w15:World)
def b1_1 (_:T (R):=Q _):=
 U R (loadAt 180 v11) w15 λ v16 w17=>
 U R (makeFunc (.func Zag.id) #[] #[v11,v1]) w17 λ v18 w19=>
 K R Zv.id #[v16,v18] w19 λ v20 w21=>
 R (.returned (.tuple #[v20,(.int .i64 0)])) w21
def b1_2 (_:T (R):=Q _):=
 U R (extract v5 0) w6 λ v7 w8=>
 U R (extract v5 1) w8 λ v9 w10=>
 U R (alloc 180 true (.tuple #[])) w10 λ v11 w12=>
 RUNU prog R (storeAt 180 v11 v7) w12 λ w13=>
 U R (bC .neq 29 11 0 v9) w13 λ v14 w15=>
 SPL v14
 (R (.returned (.tuple #[(.slice none 0 0),v9])) w15)
 (b1_1 R v1 v11 w15)
def b1 (_:T (R):=Q _):=
 U R (box 27 x0) w λ v1 w2=>
 U R (loadAt 27 v1) w2 λ v3 w4=>
 K R Zs.id #[v3] w4 λ v5 w6=>
 b1_2 R v1 v5 w6
theorem tie (R:EP):TI prog R (Zp f141) (QQ (λ z w=>R (.returned (.tuple #[(z 2),(z 3)])) w)) λ z w=>b1 R (z 0) w:=ofT
def run (R:EP)(a0:Value)(w:World):=b1 R a0 w
theorem ct:Cta1 prog id run:=Zem call141 func141 λ R a0 w h=>tie R _ w h
attribute [irreducible,go_sem] b1_1 b1_2 b1 run
end Za5
namespace Zv
variable (R:EP) (C6:VP) (x0 x1 x5 x17 x18 v11 v17:Value) (w w2 w10 w18:World)
def b3 (_:T (R):=Q _):=
 U R (loadAt 50 x5) w λ v1 w2=>
 R (.returned v1) w2
def b7_1 (_:T (R,C6):=Q _):=
 Sem.run prog (loadAt 50 x5) w18 = .ok v11 w18/\(Y (indexAt 50 v11 x18) λ v19=>
 RUNU prog R (storeAt 24 v19 v17) w18 λ w20=>
 U R (bC .add 3 18 1 x18) w20 λ v21 w22=>
 C6 v21 w22)
def b7_2 (_:T (R,C6):=Q _):=
 L (loadAt 50 x5) w10.drew λ v11=>
 L (loadAt 50 x5) w10.drew λ v12=>
 Y (indexAt 50 v12 x18) λ v13=>
 L (loadAt 24 v13) w10.drew λ v14=>
 K R Za7.id #[v14] w10.drew λ v15 w16=>
 Sem.run prog (loadAt 50 x5) w16 = .ok v11 w16/\(K R Zbt.id #[v15] w16 λ v17 w18=>
 b7_1 R C6 x5 x18 v11 v17 w18)
def b7_3 (_:T (R,C6):=Q _):=
 U R (loadAt 50 x5) w2 λ v3 w4=>
 U R (indexAt 50 v3 x18) w4 λ v5 w6=>
 U R (loadAt 24 v5) w6 λ v7 w8=>
 K R Zcf.id #[v7] w8 λ v9 w10=>
 b7_2 R C6 x5 x18 w10
def b7 (_:T (R,C6):=Q _):=
 U R (bins .lss 3 (.tmp 18) (.tmp 17) x18 x17) w λ v1 w2=>
 SPL v1
 (b7_3 R C6 x5 x18 w2)
 (b3 R x5 w2)
def l6 (_:T (R):=Q _):Prop :=
 LP1 (λ C6 y18 w0=>b7 R C6 x5 x17 y18 w0) x18 w
theorem l6_intro:LS1 (λ C6 y18 w0=>b7 R C6 x5 x17 y18 w0) x18 w (l6 R x5 x17 x18 w):=LI1 _ x18 w
def b4 (_:T (R):=Q _):=
 U R (loadAt 50 x5) w λ v1 w2=>
 U R (len_ #[50] 3 #[v1]) w2 λ v3 w4=>
 l6 R x5 v3 (.int .i64 0) w4
def b1 (_:T (R):=Q _):=
 NILC x0 λ v1=>
 U R (fieldAt 188 v1 2) w λ v2 w3=>
 U R (loadAt 184 v2) w3 λ v4 w5=>
 U R (len_ #[184] 3 #[v4]) w5 λ v6 w7=>
 U R (makeSlice 50 v6 v6) w7 λ v8 w9=>
 U R (alloc 50 true (.tuple #[])) w9 λ v10 w11=>
 RUNU prog R (storeAt 50 v10 v8) w11 λ w12=>
 U R (makeFunc (.func Za6.id) #[] #[v10]) w12 λ v13 w14=>
 Zfa prog R x1 [v13] w14 λ v15 w16=>
 b4 R v10 w16
theorem tie (R:EP):TI prog R (Zp f208) (QQ (λ z w=>R (.returned (z 4)) w)) λ z w=>b1 R (z 0) (z 1) w:=aT 2 (λ z w=>b4 R (z 5) w) (sT (λ z w=>b3 R (z 5) w) (aT 0 (λ z w=>l6 R (z 5) (z 17) (z 18) w) (Zk 0 (lT1 18 (λ z C6 y18 w0=>b7 R C6 (z 5) (z 17) y18 w0) λ C6=>ofT))) ofT)
def run (R:EP)(a0 a1:Value)(w:World):=b1 R a0 a1 w
theorem ct:Cta2 prog id run:=Zcd call208 func208 λ R a0 a1 w h=>tie R _ w h
attribute [irreducible] l6
attribute [irreducible,go_sem] b3 b7_1 b7_2 b7_3 b7 b4 b1 run
end Zv
namespace Zad
variable (R:EP) (C3:VP) (C10:VP) (x0 x1 x2 x4 x6 x8 x12 x13 x14 x34 x35 x36 x59 v5:Value) (w w7:World)
def b6 (_:T (R,C3):=Q _):=
 U R (bC .add 3 14 1 x14) w λ v1 w2=>
 C3 v1 w2
def b13 (_:T (R,C3,C10):=Q _):=
 U R (bC .add 3 36 1 x36) w λ v1 w2=>
 C10 v1 w2
def b16_1 (_:T (R,C3,C10):=Q _):=
 L (loadAt 180 x1) w.drew λ v1=>
 NILC v1 λ v2=>
 Y (fieldAt 188 v2 3) λ v3=>
 L (loadAt 185 v3) w.drew λ v4=>
 Y (fieldAt 99 x8 0) λ v5=>
 L (loadAt 3 v5) w.drew λ v6=>
 Y (build 190 #[(0,x6),(1,v6)]) λ v7=>
 L (lookup 185 v4 v7 false) w.drew λ v8=>
 Y (bC .sub 3 70 1 v8) λ v9=>
 Zpi prog R x0 [x4,v9] w.drew λ v10 w11=>
 b13 R C3 C10 x36 w11
def b16 (_:T (R,C3,C10):=Q _):=
 SPL x59
 (b16_1 R C3 C10 x0 x1 x4 x6 x8 x36 w)
 (b13 R C3 C10 x36 w)
def b15_1 (_:T (R,C3,C10):=Q _):=
 L (loadAt 180 x1) w7.drew λ v14=>
 NILC v14 λ v15=>
 Y (fieldAt 188 v15 5) λ v16=>
 L (loadAt 105 v16) w7.drew λ v17=>
 Y (fieldAt 99 v5 0) λ v18=>
 L (loadAt 3 v18) w7.drew λ v19=>
 Y (fieldAt 27 x2 0) λ v20=>
 L (loadAt 22 v20) w7.drew λ v21=>
 L (len_ #[22] 3 #[v21]) w7.drew λ v22=>
 Y (bins .sub 3 (.tmp 52) (.tmp 55) v19 v22) λ v23=>
 Y (indexAt 105 v17 v23) λ v24=>
 L (loadAt 4 v24) w7.drew λ v25=>
 b16 R C3 C10 x0 x1 x4 x6 v5 x36 v25 w7.drew
def b15 (_:T (R,C3,C10):=Q _):=
 U R (indexAt 93 x34 x36) w λ v1 w2=>
 U R (loadAt 99 v1) w2 λ v3 w4=>
 U R (alloc 99 true (.tuple #[])) w4 λ v5 w6=>
 RUNU prog R (storeAt 99 v5 v3) w6 λ w7=>
 Y (fieldAt 99 v5 0) λ v8=>
 L (loadAt 3 v8) w7.drew λ v9=>
 Y (fieldAt 27 x2 0) λ v10=>
 L (loadAt 22 v10) w7.drew λ v11=>
 L (len_ #[22] 3 #[v11]) w7.drew λ v12=>
 Y (bins .geq 3 (.tmp 41) (.tmp 44) v9 v12) λ v13=>
 SPL v13
 (b15_1 R C3 C10 x0 x1 x2 x4 x6 x36 v5 w7)
 (b16 R C3 C10 x0 x1 x4 x6 v5 x36 (.bool false) w7.drew)
def b11 (_:T (R,C3,C10):=Q _):=
 U R (bins .lss 3 (.tmp 36) (.tmp 35) x36 x35) w λ v1 w2=>
 SPL v1
 (b15 R C3 C10 x0 x1 x2 x4 x6 x34 x36 w2)
 (b6 R C3 x14 w2)
def l10 (_:T (R,C3):=Q _):Prop :=
 LP1 (λ C10 y36 w0=>b11 R C3 C10 x0 x1 x2 x4 x6 x14 x34 x35 y36 w0) x36 w
theorem l10_intro:LS1 (λ C10 y36 w0=>b11 R C3 C10 x0 x1 x2 x4 x6 x14 x34 x35 y36 w0) x36 w (l10 R C3 x0 x1 x2 x4 x6 x14 x34 x35 x36 w):=LI1 _ x36 w
def b8 (_:T (R,C3):=Q _):=
 U R (indexAt 184 x12 x14) w λ v1 w2=>
 U R (loadAt 190 v1) w2 λ v3 w4=>
 U R (alloc 190 true (.tuple #[])) w4 λ v5 w6=>
 RUNU prog R (storeAt 190 v5 v3) w6 λ w7=>
 L (loadAt 180 x1) w7.drew λ v8=>
 NILC v8 λ v9=>
 Y (fieldAt 188 v9 4) λ v10=>
 L (loadAt 185 v10) w7.drew λ v11=>
 L (loadAt 190 v5) w7.drew λ v12=>
 L (lookup 185 v11 v12 false) w7.drew λ v13=>
 Y (bC .sub 3 24 1 v13) λ v14=>
 U R (loadAt 180 x1) w7.drew λ v15 w16=>
 NILC v15 λ v17=>
 U R (fieldAt 188 v17 1) w16 λ v18 w19=>
 U R (fieldAt 34 v18 0) w19 λ v20 w21=>
 U R (loadAt 32 v20) w21 λ v22 w23=>
 U R (indexAt 32 v22 v14) w23 λ v24 w25=>
 U R (fieldAt 95 v24 1) w25 λ v26 w27=>
 U R (loadAt 93 v26) w27 λ v28 w29=>
 U R (len_ #[93] 3 #[v28]) w29 λ v30 w31=>
 l10 R C3 x0 x1 x2 x14 v14 x14 v28 v30 (.int .i64 0) w31
def b4 (_:T (R,C3):=Q _):=
 U R (bins .lss 3 (.tmp 14) (.tmp 13) x14 x13) w λ v1 w2=>
 SPL v1
 (b8 R C3 x0 x1 x2 x12 x14 w2)
 (R (.returned (.tuple #[])) w2)
def l3 (_:T (R):=Q _):Prop :=
 LP1 (λ C3 y14 w0=>b4 R C3 x0 x1 x2 x12 x13 y14 w0) x14 w
theorem l3_intro:LS1 (λ C3 y14 w0=>b4 R C3 x0 x1 x2 x12 x13 y14 w0) x14 w (l3 R x0 x1 x2 x12 x13 x14 w):=LI1 _ x14 w
def b1 (_:T (R):=Q _):=
 U R (loadAt 180 x1) w λ v1 w2=>
 NILC v1 λ v3=>
 U R (fieldAt 188 v3 2) w2 λ v4 w5=>
 U R (loadAt 184 v4) w5 λ v6 w7=>
 U R (len_ #[184] 3 #[v6]) w7 λ v8 w9=>
 l3 R x0 x1 x2 v6 v8 (.int .i64 0) w9
theorem tie (R:EP):TI prog R (Zp f209) (QQ (λ z w=>R (.returned (.tuple #[])) w)) λ z w=>b1 R (z 0) (z 1) (z 2) w:=aT 0 (λ z w=>l3 R (z 0) (z 1) (z 2) (z 12) (z 13) (z 14) w) (Zk 0 (lT1 14 (λ z C3 y14 w0=>b4 R C3 (z 0) (z 1) (z 2) (z 12) (z 13) y14 w0) λ C3=>aT 1 (λ z w=>b8 R C3 (z 0) (z 1) (z 2) (z 12) (z 14) w) (sT (λ z w=>b6 R C3 (z 14) w) (Zk 1 (aT 2 (λ z w=>l10 R C3 (z 0) (z 1) (z 2) (z 4) (z 6) (z 14) (z 34) (z 35) (z 36) w) (Zk 2 (lT1 36 (λ z C10 y36 w0=>b11 R C3 C10 (z 0) (z 1) (z 2) (z 4) (z 6) (z 14) (z 34) (z 35) y36 w0) λ C10=>aT 1 (λ z w=>b15 R C3 C10 (z 0) (z 1) (z 2) (z 4) (z 6) (z 34) (z 36) w) (sT (λ z w=>b13 R C3 C10 (z 36) w) (Zk 3 (aT 1 (λ z w=>b16 R C3 C10 (z 0) (z 1) (z 4) (z 6) (z 8) (z 36) (z 59) w) ofT)) ofT))))) ofT)))
def run (R:EP)(a0 a1 a2:Value)(w:World):=b1 R a0 a1 a2 w
theorem ct:Cta3 prog id run:=Zva call209 func209 λ R a0 a1 a2 w h=>tie R _ w h
attribute [irreducible] l10 l3
attribute [irreducible,go_sem] b6 b13 b16_1 b16 b15_1 b15 b11 b8 b4 b1 run
end Zad
namespace Zag
variable (R:EP) (C3:VP) (C10:VP) (x0 x1 x2 x3 x4 x5 x12 x13 x14 x25 x26 x27:Value) (w w2:World)
def b6 (_:T (R,C3):=Q _):=
 U R (bC .add 3 14 1 x14) w λ v1 w2=>
 C3 v1 w2
def b11_1 (_:T (R,C10):=Q _):=
 U R (indexAt 24 x25 x27) w2 λ v3 w4=>
 U R (loadAt 3 v3) w4 λ v5 w6=>
 U R (fieldAt 27 x2 4) w6 λ v7 w8=>
 U R (loadAt 25 v7) w8 λ v9 w10=>
 U R (indexAt 25 v9 v5) w10 λ v11 w12=>
 U R (fieldAt 103 v11 1) w12 λ v13 w14=>
 U R (loadAt 24 v13) w14 λ v15 w16=>
 U R (alloc 24 true (.tuple #[])) w16 λ v17 w18=>
 RUNU prog R (storeAt 24 v17 v15) w18 λ w19=>
 U R (loadAt 180 x1) w19 λ v20 w21=>
 U R (fieldAt 190 x5 0) w21 λ v22 w23=>
 U R (loadAt 3 v22) w23 λ v24 w25=>
 U R (loadAt 24 v17) w25 λ v26 w27=>
 U R (makeFunc (.func Zan.id) #[] #[x1,v17,x3,x4]) w27 λ v28 w29=>
 K R Zbo.id #[v20,v24,v26,v28] w29 λ v30 w31=>
 U R (bC .add 3 27 1 x27) w31 λ v32 w33=>
 C10 v32 w33
def b11 (_:T (R,C3,C10):=Q _):=
 U R (bins .lss 3 (.tmp 27) (.tmp 26) x27 x26) w λ v1 w2=>
 SPL v1
 (b11_1 R C10 x1 x2 x3 x4 x5 x25 x27 w2)
 (b6 R C3 x14 w2)
def l10 (_:T (R,C3):=Q _):Prop :=
 LP1 (λ C10 y27 w0=>b11 R C3 C10 x1 x2 x3 x4 x5 x14 x25 x26 y27 w0) x27 w
theorem l10_intro:LS1 (λ C10 y27 w0=>b11 R C3 C10 x1 x2 x3 x4 x5 x14 x25 x26 y27 w0) x27 w (l10 R C3 x1 x2 x3 x4 x5 x14 x25 x26 x27 w):=LI1 _ x27 w
def b8 (_:T (R,C3):=Q _):=
 U R (indexAt 184 x12 x14) w λ v1 w2=>
 U R (loadAt 190 v1) w2 λ v3 w4=>
 U R (alloc 3 true (.tuple #[])) w4 λ v5 w6=>
 U R (alloc 190 true (.tuple #[])) w6 λ v7 w8=>
 RUNU prog R (storeAt 3 v5 x14) w8 λ w9=>
 RUNU prog R (storeAt 190 v7 v3) w9 λ w10=>
 L (loadAt 180 x1) w10.drew λ v11=>
 NILC v11 λ v12=>
 Y (fieldAt 188 v12 6) λ v13=>
 L (loadAt 186 v13) w10.drew λ v14=>
 Y (fieldAt 190 v7 1) λ v15=>
 L (loadAt 3 v15) w10.drew λ v16=>
 L (lookup 186 v14 v16 false) w10.drew λ v17=>
 L (len_ #[24] 3 #[v17]) w10.drew λ v18=>
 l10 R C3 x1 x2 x3 v5 v7 x14 v17 v18 (.int .i64 0) w10.drew
def b4 (_:T (R,C3):=Q _):=
 U R (bins .lss 3 (.tmp 14) (.tmp 13) x14 x13) w λ v1 w2=>
 SPL v1
 (b8 R C3 x1 x2 x3 x12 x14 w2)
 (R (.returned (.tuple #[])) w2)
def l3 (_:T (R):=Q _):Prop :=
 LP1 (λ C3 y14 w0=>b4 R C3 x1 x2 x3 x12 x13 y14 w0) x14 w
theorem l3_intro:LS1 (λ C3 y14 w0=>b4 R C3 x1 x2 x3 x12 x13 y14 w0) x14 w (l3 R x1 x2 x3 x12 x13 x14 w):=LI1 _ x14 w
def b1 (_:T (R):=Q _):=
 U R (box 192 x0) w λ v1 w2=>
 U R (loadAt 180 x1) w2 λ v3 w4=>
 NILC v3 λ v5=>
 U R (fieldAt 188 v5 2) w4 λ v6 w7=>
 U R (loadAt 184 v6) w7 λ v8 w9=>
 U R (len_ #[184] 3 #[v8]) w9 λ v10 w11=>
 l3 R x1 x2 v1 v8 v10 (.int .i64 0) w11
theorem tie (R:EP):TI prog R (Zp f210) (QQ (λ z w=>R (.returned (.tuple #[])) w)) λ z w=>b1 R (z 0) (z 1) (z 2) w:=aT 1 (λ z w=>l3 R (z 1) (z 2) (z 3) (z 12) (z 13) (z 14) w) (Zk 0 (lT1 14 (λ z C3 y14 w0=>b4 R C3 (z 1) (z 2) (z 3) (z 12) (z 13) y14 w0) λ C3=>aT 1 (λ z w=>b8 R C3 (z 1) (z 2) (z 3) (z 12) (z 14) w) (sT (λ z w=>b6 R C3 (z 14) w) (Zk 1 (aT 1 (λ z w=>l10 R C3 (z 1) (z 2) (z 3) (z 4) (z 5) (z 14) (z 25) (z 26) (z 27) w) (Zk 2 (lT1 27 (λ z C10 y27 w0=>b11 R C3 C10 (z 1) (z 2) (z 3) (z 4) (z 5) (z 14) (z 25) (z 26) y27 w0) λ C10=>ofT)))) ofT)))
def run (R:EP)(a0 a1 a2:Value)(w:World):=b1 R a0 a1 a2 w
theorem ct:Cta3 prog id run:=Zva call210 func210 λ R a0 a1 a2 w h=>tie R _ w h
attribute [irreducible] l10 l3
attribute [irreducible,go_sem] b6 b11_1 b11 b8 b4 b1 run
end Zag
namespace Zan
variable (R:EP) (x0 x1 x2 x3 x4 x5 x8 x29 v9:Value) (w:World)
def b2_1 (_:T (R):=Q _):=
 U R (loadAt 192 x4) w λ v1 w2=>
 U R (bC .sub 3 31 1 x8) w2 λ v3 w4=>
 U R (loadAt 3 x5) w4 λ v5 w6=>
 Zfa prog R v1 [v3,v5] w6 λ v7 w8=>
 R (.returned (.tuple #[])) w8
def b2 (_:T (R):=Q _):=
 SPL x29
 (b2_1 R x4 x5 x8 w)
 (R (.returned (.tuple #[])) w)
def b1_1 (_:T (R):=Q _):=
 L (loadAt 180 x2) (World.drew w.drew) λ v11=>
 L (loadAt 24 x3) (World.drew w.drew) λ v12=>
 Y (bC .add 3 25 1 x1) λ v13=>
 Y (sliceAt 24 v12 (some v13) none none) λ v14=>
 K R Zb8.id #[v11,v14] (World.drew w.drew) λ v15 w16=>
 b2 R x4 x5 v9 v15 w16
def b1 (_:T (R):=Q _):=
 L (loadAt 180 x2) w.drew λ v1=>
 NILC v1 λ v2=>
 Y (fieldAt 188 v2 3) λ v3=>
 L (loadAt 185 v3) w.drew λ v4=>
 L (loadAt 24 x3) w.drew λ v5=>
 Y (indexAt 24 v5 x1) λ v6=>
 L (loadAt 3 v6) w.drew λ v7=>
 Y (build 190 #[(0,x0),(1,v7)]) λ v8=>
 L (lookup 185 v4 v8 false) w.drew λ v9=>
 Y (bC .gtr 3 20 0 v9) λ v10=>
 SPL v10
 (b1_1 R x1 x2 x3 x4 x5 v9 w)
 (b2 R x4 x5 v9 (.bool false) (World.drew w.drew))
theorem tie (R:EP):TI prog R (Zp f211) (QQ (λ z w=>R (.returned (.tuple #[])) w)) λ z w=>b1 R (z 0) (z 1) (z 2) (z 3) (z 4) (z 5) w:=aT 1 (λ z w=>b2 R (z 4) (z 5) (z 8) (z 29) w) ofT
def run (R:EP)(a0 a1 a2 a3 a4 a5:Value)(w:World):=b1 R a0 a1 a2 a3 a4 a5 w
theorem ct:Cta6 prog id run:=ZZ152 call211 func211 λ R a0 a1 a2 a3 a4 a5 w h=>tie R _ w h
attribute [irreducible,go_sem] b2_1 b2 b1_1 b1 run
end Zan
namespace Zb8
variable (R:EP) (x0 x1:Value) (w:World)
def b1 (_:T (R):=Q _):=
 U R (box 180 x0) w λ v1 w2=>
 U R (makeFunc (.func Zbz.id) #[] #[v1]) w2 λ v3 w4=>
 K R Zar.id #[x1,v3] w4 λ v5 w6=>
 U R (Op.unary .not v5) w6 λ v7 w8=>
 R (.returned v7) w8
theorem tie (R:EP):TI prog R (Zp f212) (QQ (λ z w=>R (.returned (z 4)) w)) λ z w=>b1 R (z 0) (z 1) w:=ofT
def run (R:EP)(a0 a1:Value)(w:World):=b1 R a0 a1 w
theorem ct:Cta2 prog id run:=Zcd call212 func212 λ R a0 a1 w h=>tie R _ w h
attribute [irreducible,go_sem] b1 run
end Zb8
namespace Za6
variable (R:EP) (x0 x1 x2:Value) (w:World)
def b1 (_:T (R):=Q _):=
 L (loadAt 50 x2) w.drew λ v1=>
 L (loadAt 50 x2) w.drew λ v2=>
 Y (indexAt 50 v2 x0) λ v3=>
 L (loadAt 24 v3) w.drew λ v4=>
 U R (buildSlice 24 1 #[(0,x1)]) w.drew λ v5 w6=>
 Sem.run prog (loadAt 24 v3) w6 = .ok v4 w6/\(Sem.run prog (loadAt 50 x2) w6 = .ok v2 w6/\(Sem.run prog (loadAt 50 x2) w6 = .ok v1 w6/\(U R (append_ #[24,24] 24 #[v4,v5]) w6 λ v7 w8=>
 Sem.run prog (loadAt 50 x2) w8 = .ok v1 w8/\(Y (indexAt 50 v1 x0) λ v9=>
 RUNU prog R (storeAt 24 v9 v7) w8 λ w10=>
 R (.returned (.tuple #[])) w10))))
theorem tie (R:EP):TI prog R (Zp f266) (QQ (λ z w=>R (.returned (.tuple #[])) w)) λ z w=>b1 R (z 0) (z 1) (z 2) w:=ofT
def run (R:EP)(a0 a1 a2:Value)(w:World):=b1 R a0 a1 a2 w
theorem ct:Cta3 prog id run:=Zva call266 func266 λ R a0 a1 a2 w h=>tie R _ w h
attribute [irreducible,go_sem] b1 run
end Za6
namespace Zbz
variable (R:EP) (x0 x1:Value) (w:World)
def b1_1 (_:T (R):=Q _):=
 L (loadAt 180 x1) w.drew λ v8=>
 NILC v8 λ v9=>
 Y (fieldAt 188 v9 5) λ v10=>
 L (loadAt 105 v10) w.drew λ v11=>
 L (loadAt 180 x1) w.drew λ v12=>
 NILC v12 λ v13=>
 Y (fieldAt 188 v13 0) λ v14=>
 Y (fieldAt 27 v14 0) λ v15=>
 L (loadAt 22 v15) w.drew λ v16=>
 L (len_ #[22] 3 #[v16]) w.drew λ v17=>
 Y (bins .sub 3 (.tmp 17) (.tmp 23) x0 v17) λ v18=>
 Y (indexAt 105 v11 v18) λ v19=>
 L (loadAt 4 v19) w.drew λ v20=>
 Y (Op.unary .not v20) λ v21=>
 R (.returned v21) w.drew
def b1 (_:T (R):=Q _):=
 L (loadAt 180 x1) w.drew λ v1=>
 NILC v1 λ v2=>
 Y (fieldAt 188 v2 0) λ v3=>
 Y (fieldAt 27 v3 0) λ v4=>
 L (loadAt 22 v4) w.drew λ v5=>
 L (len_ #[22] 3 #[v5]) w.drew λ v6=>
 Y (bins .lss 3 (.tmp 4) (.tmp 10) x0 v6) λ v7=>
 SPL v7
 (R (.returned (.bool true)) w.drew)
 (b1_1 R x0 x1 w)
theorem tie (R:EP):TI prog R (Zp f268) (QQ (λ z w=>R (.returned (z 3)) w)) λ z w=>b1 R (z 0) (z 1) w:=ofT
def run (R:EP)(a0 a1:Value)(w:World):=b1 R a0 a1 w
theorem ct:Cta2 prog id run:=Zcd call268 func268 λ R a0 a1 w h=>tie R _ w h
attribute [irreducible,go_sem] b1_1 b1 run
end Zbz
namespace Zat
variable (R:EP) (C7:VP) (x0 x1 x2 x3 x19 x20 x21 x22:Value) (w w2 w6:World)
def b4 (_:T (R):=Q _):=
 U R (loadAt 50 x2) w λ v1 w2=>
 U R (len_ #[50] 3 #[v1]) w2 λ v3 w4=>
 U R (makeSlice 158 v3 v3) w4 λ v5 w6=>
 U R (alloc 158 true (.tuple #[])) w6 λ v7 w8=>
 RUNU prog R (storeAt 158 v7 v5) w8 λ w9=>
 U R (loadAt 50 x2) w9 λ v10 w11=>
 U R (len_ #[50] 3 #[v10]) w11 λ v12 w13=>
 U R (makeSlice 50 v12 v12) w13 λ v14 w15=>
 U R (alloc 50 true (.tuple #[])) w15 λ v16 w17=>
 RUNU prog R (storeAt 50 v16 v14) w17 λ w18=>
 U R (loadAt 50 x2) w18 λ v19 w20=>
 U R (makeFunc (.func Zc.id) #[] #[v7,x3,x2,v16]) w20 λ v21 w22=>
 K R Zd.id #[v19,v21] w22 λ v23 w24=>
 U R (loadAt 50 v16) w24 λ v25 w26=>
 R (.returned (.tuple #[v25,(.int .i64 0)])) w26
def b8_1 (_:T (R,C7):=Q _):=
 U R (indexAt 50 x20 x22) w2 λ v3 w4=>
 U R (loadAt 24 v3) w4 λ v5 w6=>
 K R Zar.id #[v5,(.func (.func Zdd.id) #[] #[])] w6 λ v7 w8=>
 SPL v7
 (R (.returned (.tuple #[(.slice none 0 0),(.int .i64 1)])) w8)
 (U R (bC .add 3 22 1 x22) w8 λ v9 w10=>
 C7 v9 w10)
def b8 (_:T (R,C7):=Q _):=
 U R (bins .lss 3 (.tmp 22) (.tmp 21) x22 x21) w λ v1 w2=>
 SPL v1
 (b8_1 R C7 x20 x22 w2)
 (b4 R x2 x3 w2)
def l7 (_:T (R):=Q _):Prop :=
 LP1 (λ C7 y22 w0=>b8 R C7 x2 x3 x20 x21 y22 w0) x22 w
theorem l7_intro:LS1 (λ C7 y22 w0=>b8 R C7 x2 x3 x20 x21 y22 w0) x22 w (l7 R x2 x3 x20 x21 x22 w):=LI1 _ x22 w
def b5 (_:T (R):=Q _):=
 U R (loadAt 50 x3) w λ v1 w2=>
 U R (len_ #[50] 3 #[v1]) w2 λ v3 w4=>
 l7 R x2 x3 v1 v3 (.int .i64 0) w4
def b10 (_:T (R):=Q _):=
 SPL x19
 (R (.returned (.tuple #[(.slice none 0 0),(.int .i64 1)])) w)
 (b5 R x2 x3 w)
def b9_1 (_:T (R):=Q _):=
 U R (loadAt 50 x3) w6 λ v7 w8=>
 U R (len_ #[50] 3 #[v7]) w8 λ v9 w10=>
 U R (loadAt 50 x2) w10 λ v11 w12=>
 U R (len_ #[50] 3 #[v11]) w12 λ v13 w14=>
 U R (bins .neq 3 (.tmp 15) (.tmp 17) v9 v13) w14 λ v15 w16=>
 b10 R x2 x3 v15 w16
def b9 (_:T (R):=Q _):=
 U R (loadAt 50 x2) w λ v1 w2=>
 K R Zds.id #[v1] w2 λ v3 w4=>
 U R (Op.unary .not v3) w4 λ v5 w6=>
 SPL v5
 (b10 R x2 x3 (.bool true) w6)
 (b9_1 R x2 x3 w6)
def b1 (_:T (R):=Q _):=
 U R (box 50 x0) w λ v1 w2=>
 U R (box 50 x1) w2 λ v3 w4=>
 b9 R v1 v3 w4
theorem tie (R:EP):TI prog R (Zp f142) (QQ (λ z w=>R (.returned (.tuple #[(z 4),(z 5)])) w)) λ z w=>b1 R (z 0) (z 1) w:=aT 0 (λ z w=>b9 R (z 2) (z 3) w) (sT (λ z w=>b5 R (z 2) (z 3) w) (aT 0 (λ z w=>b10 R (z 2) (z 3) (z 19) w) ofT) (sT (λ z w=>b4 R (z 2) (z 3) w) (aT 0 (λ z w=>l7 R (z 2) (z 3) (z 20) (z 21) (z 22) w) (Zk 0 (lT1 22 (λ z C7 y22 w0=>b8 R C7 (z 2) (z 3) (z 20) (z 21) y22 w0) λ C7=>ofT))) ofT))
def run (R:EP)(a0 a1:Value)(w:World):=b1 R a0 a1 w
theorem ct:Cta2 prog id run:=Zia call142 func142 λ R a0 a1 w h=>tie R _ w h
attribute [irreducible] l7
attribute [irreducible,go_sem] b4 b8_1 b8 b5 b10 b9_1 b9 b1 run
end Zat
namespace Zds
variable (R:EP) (x0:Value) (w:World)
def b1 (_:T (R):=Q _):=
 U R (box 50 x0) w λ v1 w2=>
 U R (loadAt 50 v1) w2 λ v3 w4=>
 U R (makeFunc (.func Zda.id) #[] #[v1]) w4 λ v5 w6=>
 K R Zbc.id #[v3,v5] w6 λ v7 w8=>
 U R (Op.unary .not v7) w8 λ v9 w10=>
 R (.returned v9) w10
theorem tie (R:EP):TI prog R (Zp f213) (QQ (λ z w=>R (.returned (z 2)) w)) λ z w=>b1 R (z 0) w:=ofT
def run (R:EP)(a0:Value)(w:World):=b1 R a0 w
theorem ct:Cta1 prog id run:=Zbj call213 func213 λ R a0 w h=>tie R _ w h
attribute [irreducible,go_sem] b1 run
end Zds
namespace Zdd
variable (R:EP) (x0:Value) (w:World)
def b1 (_:T (R):=Q _):=
 U R (bC .lss 3 3 0 x0) w λ v1 w2=>
 SPL v1
 (R (.returned (.bool true)) w2)
 (U R (bC .geq 3 6 1024 x0) w2 λ v3 w4=>
 R (.returned v3) w4)
theorem tie (R:EP):TI prog R (Zp f214) (QQ (λ z w=>R (.returned (z 2)) w)) λ z w=>b1 R (z 0) w:=ofT
def run (R:EP)(a0:Value)(w:World):=b1 R a0 w
theorem ct:Cta1 prog id run:=Zbj call214 func214 λ R a0 w h=>tie R _ w h
attribute [irreducible,go_sem] b1 run
end Zdd
namespace Zd
variable (R:EP) (C3:VP) (C12:World->Prop) (C25:VP) (C29:World->Prop) (x0 x1 x4 x5 x6 x7 x8 x9 x10 x11 x13 x15 x25 x26 x154 x168 x169 x170 v4 v9 v20:Value) (w w2 w8 w10 w22 w39:World)
def b6 (_:T (R,C3):=Q _):=
 U R (bC .add 3 26 1 x26) w λ v1 w2=>
 C3 v1 w2
noncomputable abbrev p1:Code:=Zhb 1 (blkC (fstC (Zhb 2 (Zez (blkC (Zhb 5 (Zp f215)))))))
noncomputable abbrev p2:Code:=Zhb 6 (Zt8 p1)
noncomputable abbrev p3:Code:=Zez (blkC p2)
noncomputable abbrev p4:Code:=Zhb 1 p3
noncomputable abbrev p5:Code:=Zhb 1 (blkC p4)
noncomputable abbrev p6:Code:=Zhb 3 (sndC p5)
noncomputable abbrev p7:Code:=Zhb 1 p6
noncomputable abbrev p8:Code:=Zhb 2 (thnC p7)
def b22 (_:T (R,C3,C12):=Q _):=
 Zfa prog R x1 [x15] w λ v1 w2=>
 C12  w2
abbrev q1 (R:EP)(C3:VP)(C12:World->Prop):XP:=QX (λ z w=>C12  w) (λ z w=>R (.returned (.tuple #[])) w) [(6,(λ z w=>C12  w)),(4,(λ z w=>b6 R C3 (z 26) w)),(2,(λ z w=>b6 R C3 (z 26) w)),(0,(λ z w=>R (.returned (.tuple #[])) w))]
theorem ZZ169 (R:EP)(C3:VP)(C12:World->Prop):TI prog R (sndC p8) (q1 R C3 C12) λ z w=>b22 R C3 C12 (z 1) (z 15) w:=ofT
noncomputable abbrev p9:Code:=Zhb 1 (fstC p8)
noncomputable abbrev p10:Code:=Zez (blkC p9)
def b26_1 (_:T (R,C25):=Q _):=
 U R (indexAt 24 x168 x170) w2 λ v3 w4=>
 U R (loadAt 3 v3) w4 λ v5 w6=>
 U R (loadAt 24 x4) w6 λ v7 w8=>
 U R (indexAt 24 v7 v5) w8 λ v9 w10=>
 RUNU prog R (storeAt 3 v9 x5) w10 λ w11=>
 U R (bC .add 3 170 1 x170) w11 λ v12 w13=>
 C25 v12 w13
def b26 (_:T (R,C3,C12,C25):=Q _):=
 U R (bins .lss 3 (.tmp 170) (.tmp 169) x170 x169) w λ v1 w2=>
 SPL v1
 (b26_1 R C25 x4 x5 x168 x170 w2)
 (b22 R C3 C12 x1 x15 w2)
abbrev q2 (R:EP)(C3:VP)(C12:World->Prop)(C25:VP):XP:=QX (λ z w=>C25 (z 170) w) (λ z w=>R (.returned (.tuple #[])) w) [(12,(λ z w=>b22 R C3 C12 (z 1) (z 15) w)),(6,(λ z w=>C12  w)),(4,(λ z w=>b6 R C3 (z 26) w)),(2,(λ z w=>b6 R C3 (z 26) w)),(0,(λ z w=>R (.returned (.tuple #[])) w))]
theorem ZZ174 (R:EP)(C3:VP)(C12:World->Prop)(C25:VP):TI prog R p10 (q2 R C3 C12 C25) λ z w=>b26 R C3 C12 C25 (z 1) (z 4) (z 5) (z 15) (z 168) (z 169) (z 170) w:=ofT
def l25 (_:T (R,C3,C12):=Q _):Prop :=
 ∃(J:VP) (μ:Value->World->Nat),J x170 w/\∀y170 w0,J y170 w0->b26 R C3 C12 (λ z170 w1=>J z170 w1/\μ z170 w1<μ y170 w0) x1 x4 x5 x15 x168 x169 y170 w0
abbrev q3 (R:EP)(C3:VP)(C12:World->Prop):XP:=QX (λ z w=>b22 R C3 C12 (z 1) (z 15) w) (λ z w=>R (.returned (.tuple #[])) w) [(12,(λ z w=>b22 R C3 C12 (z 1) (z 15) w)),(6,(λ z w=>C12  w)),(4,(λ z w=>b6 R C3 (z 26) w)),(2,(λ z w=>b6 R C3 (z 26) w)),(0,(λ z w=>R (.returned (.tuple #[])) w))]
theorem ZZ176 (R:EP)(C3:VP)(C12:World->Prop):TI prog R (blkC p9) (q3 R C3 C12) λ z w=>l25 R C3 C12 (z 1) (z 4) (z 5) (z 15) (z 168) (z 169) (z 170) w:=λ z w h=>by
 unfold l25 at h
 obtain ⟨J,μ,h0,hr⟩:=h
 refine Zsr (λ z' w'=>J (z' 170) w') (λ z' w'=>μ (z' 170) w') h0 λ z' w' hA hI=>ZZ174 R C3 C12 (λ z170 w1=>J z170 w1/\μ z170 w1<μ (z' 170) w') z' w' ?_
 have h1:=hr (z' 170) w' hI
 rwa [<-hA.on 1,<-hA.on 4,<-hA.on 5,<-hA.on 15,<-hA.on 168,<-hA.on 169]at h1
theorem l25_intro (R:EP)(C3:VP)(C12:World->Prop)(x1 x4 x5 x15 x168 x169 x170:Value)(w:World)(J:VP)(μ:Value->World->Nat)(h0:J x170 w)
   (hr:∀y170 w0,J y170 w0->∀C25:VP,(∀z170 w1,J z170 w1->μ z170 w1<μ y170 w0->C25 z170 w1)->b26 R C3 C12 C25 x1 x4 x5 x15 x168 x169 y170 w0):l25 R C3 C12 x1 x4 x5 x15 x168 x169 x170 w:=by
 unfold l25
 exact ⟨J,μ,h0,λ y170 w0 hJ=>hr y170 w0 hJ _ (λ z170 w1 h1 h2=>⟨h1,h2⟩)⟩
abbrev q4 (R:EP)(C3:VP)(C12:World->Prop):XP:=QX (λ z w=>b22 R C3 C12 (z 1) (z 15) w) (λ z w=>R (.returned (.tuple #[])) w) [(6,(λ z w=>C12  w)),(4,(λ z w=>b6 R C3 (z 26) w)),(2,(λ z w=>b6 R C3 (z 26) w)),(0,(λ z w=>R (.returned (.tuple #[])) w))]
theorem ZZ161 (R:EP)(C3:VP)(C12:World->Prop):TI prog R p9 (q4 R C3 C12) λ z w=>l25 R C3 C12 (z 1) (z 4) (z 5) (z 15) (z 168) (z 169) (z 170) w:=Zk 6 (ZZ176 R C3 C12)
def b23 (_:T (R,C3,C12):=Q _):=
 U R (len_ #[24] 3 #[x15]) w λ v1 w2=>
 l25 R C3 C12 x1 x4 x5 x15 x15 v1 (.int .i64 0) w2
theorem ZZ204 (R:EP)(C3:VP)(C12:World->Prop):TI prog R (fstC p8) (q4 R C3 C12) λ z w=>b23 R C3 C12 (z 1) (z 4) (z 5) (z 15) w:=appT 0 (ZZ161 R C3 C12)
theorem ZZ205 (R:EP)(C3:VP)(C12:World->Prop):TI prog R p8 (q1 R C3 C12) λ z w=>b23 R C3 C12 (z 1) (z 4) (z 5) (z 15) w:=seqT (ZZ204 R C3 C12) (ZZ169 R C3 C12)
def b20_1 (_:T (R,C3,C12):=Q _):=
 U R (loadAt 24 x6) w10 λ v11 w12=>
 U R (lookup 269 x10 x13 false) w12 λ v13 w14=>
 U R (bC .sub 3 165 1 v13) w14 λ v15 w16=>
 U R (sliceAt 24 v11 none (some v15) none) w16 λ v17 w18=>
 RUNU prog R (storeAt 24 x6 v17) w18 λ w19=>
 b23 R C3 C12 x1 x4 x5 v9 w19
def b20 (_:T (R,C3,C12):=Q _):=
 U R (loadAt 24 x6) w λ v1 w2=>
 U R (lookup 269 x10 x13 false) w2 λ v3 w4=>
 U R (bC .sub 3 158 1 v3) w4 λ v5 w6=>
 U R (sliceAt 24 v1 (some v5) none none) w6 λ v7 w8=>
 K R Zb0.id #[v7] w8 λ v9 w10=>
 b20_1 R C3 C12 x1 x4 x5 x6 x10 x13 v9 w10
theorem ZZ155 (R:EP)(C3:VP)(C12:World->Prop):TI prog R (thnC p7) (q1 R C3 C12) λ z w=>b20 R C3 C12 (z 1) (z 4) (z 5) (z 6) (z 10) (z 13) w:=appT 1 (ZZ205 R C3 C12)
def b27 (_:T (R,C3,C12):=Q _):=
 C12  w
theorem ZZ197 (R:EP)(C3:VP)(C12:World->Prop):TI prog R (elsC p7) (q1 R C3 C12) λ z w=>b27 R C3 C12 w:=ofT
def b19 (_:T (R,C3,C12):=Q _):=
 SPL x154 (b20 R C3 C12 x1 x4 x5 x6 x10 x13 w) (b27 R C3 C12 w)
theorem ZZ196 (R:EP)(C3:VP)(C12:World->Prop):TI prog R p7 (q1 R C3 C12) λ z w=>b19 R C3 C12 (z 1) (z 4) (z 5) (z 6) (z 10) (z 13) (z 154) w:=λ z w h=>by
 have e:Code.cond (.tmp 154) (thnC p7) (elsC p7)=p7:=by kernel_rfl
 rw[<-e]
 exact ZZ7 h (λ h=>ZZ155 R C3 C12 z w h) (λ h=>ZZ197 R C3 C12 z w h)
def b18 (_:T (R,C3,C12):=Q _):=
 L (loadAt 24 x4) w.drew λ v1=>
 Y (indexAt 24 v1 x13) λ v2=>
 L (loadAt 3 v2) w.drew λ v3=>
 L (lookup 269 x10 x13 false) w.drew λ v4=>
 Y (bins .eql 3 (.tmp 150) (.tmp 153) v3 v4) λ v5=>
 b19 R C3 C12 x1 x4 x5 x6 x10 x13 v5 w.drew
theorem ZZ110 (R:EP)(C3:VP)(C12:World->Prop):TI prog R p6 (q1 R C3 C12) λ z w=>b18 R C3 C12 (z 1) (z 4) (z 5) (z 6) (z 10) (z 13) w:=appT 0 (ZZ196 R C3 C12)
def b17_1 (_:T (R,C3,C12):=Q _):=
 U R (loadAt 401 x7) w22 λ v23 w24=>
 U R (loadAt 401 x7) w24 λ v25 w26=>
 U R (len_ #[401] 3 #[v25]) w26 λ v27 w28=>
 U R (bC .sub 3 130 1 v27) w28 λ v29 w30=>
 U R (indexAt 401 v23 v29) w30 λ v31 w32=>
 U R (fieldAt 403 v31 0) w32 λ v33 w34=>
 U R (loadAt 3 v33) w34 λ v35 w36=>
 L (loadAt 24 x4) w36.drew λ v37=>
 L (loadAt 24 x4) w36.drew λ v38=>
 Y (indexAt 24 v38 v35) λ v39=>
 L (loadAt 3 v39) w36.drew λ v40=>
 L (loadAt 24 x4) w36.drew λ v41=>
 Y (indexAt 24 v41 v4) λ v42=>
 L (loadAt 3 v42) w36.drew λ v43=>
 U R (min_ #[3,3] 3 #[v40,v43]) w36.drew λ v44 w45=>
 Sem.run prog (loadAt 24 x4) w45 = .ok v37 w45/\(Y (indexAt 24 v37 v35) λ v46=>
 RUNU prog R (storeAt 3 v46 v44) w45 λ w47=>
 b18 R C3 C12 x1 x4 x5 x6 x10 v4 w47)
def b17 (_:T (R,C3,C12):=Q _):=
 NILC x11 λ v1=>
 U R (fieldAt 403 v1 0) w λ v2 w3=>
 U R (loadAt 3 v2) w3 λ v4 w5=>
 U R (loadAt 401 x7) w5 λ v6 w7=>
 U R (loadAt 401 x7) w7 λ v8 w9=>
 U R (len_ #[401] 3 #[v8]) w9 λ v10 w11=>
 U R (bC .sub 3 122 1 v10) w11 λ v12 w13=>
 U R (sliceAt 401 v6 none (some v12) none) w13 λ v14 w15=>
 RUNU prog R (storeAt 401 x7 v14) w15 λ w16=>
 U R (loadAt 401 x7) w16 λ v17 w18=>
 U R (len_ #[401] 3 #[v17]) w18 λ v19 w20=>
 U R (bC .gtr 3 126 0 v19) w20 λ v21 w22=>
 SPL v21
 (b17_1 R C3 C12 x1 x4 x5 x6 x7 x10 v4 w22)
 (b18 R C3 C12 x1 x4 x5 x6 x10 v4 w22)
theorem ZZ198 (R:EP)(C3:VP)(C12:World->Prop):TI prog R (sndC p5) (q1 R C3 C12) λ z w=>b17 R C3 C12 (z 1) (z 4) (z 5) (z 6) (z 7) (z 10) (z 11) w:=appT 2 (ZZ110 R C3 C12)
noncomputable abbrev p11:Code:=blkC (fstC p5)
def b30_1 (_:T (R,C12):=Q _):=
 U R (loadAt 24 x6) w39 λ v40 w41=>
 U R (len_ #[24] 3 #[v40]) w41 λ v42 w43=>
 U R (bC .add 3 93 1 v42) w43 λ v44 w45=>
 RUNU prog R (mapUpdate 269 x10 v20 v44) w45 λ w46=>
 Zfa prog R x9 [v20] w46 λ v47 w48=>
 C12  w48
def b30_2 (_:T (R,C29):=Q _):=
 L (loadAt 24 x4) w39.drew λ v49=>
 NILC x11 λ v50=>
 Y (fieldAt 403 v50 0) λ v51=>
 L (loadAt 3 v51) w39.drew λ v52=>
 L (loadAt 24 x4) w39.drew λ v53=>
 NILC x11 λ v54=>
 Y (fieldAt 403 v54 0) λ v55=>
 L (loadAt 3 v55) w39.drew λ v56=>
 Y (indexAt 24 v53 v56) λ v57=>
 L (loadAt 3 v57) w39.drew λ v58=>
 L (loadAt 24 x4) w39.drew λ v59=>
 Y (indexAt 24 v59 v20) λ v60=>
 L (loadAt 3 v60) w39.drew λ v61=>
 U R (min_ #[3,3] 3 #[v58,v61]) w39.drew λ v62 w63=>
 Sem.run prog (loadAt 3 v51) w63 = .ok v52 w63/\(Sem.run prog (loadAt 24 x4) w63 = .ok v49 w63/\(Y (indexAt 24 v49 v52) λ v64=>
 RUNU prog R (storeAt 3 v64 v62) w63 λ w65=>
 C29  w65))
def b30_3 (_:T (R,C12,C29):=Q _):=
 NILC x11 λ v11=>
 Y (fieldAt 403 v11 0) λ v12=>
 L (loadAt 3 v12) (World.drew w.drew) λ v13=>
 Y (indexAt 50 x0 v13) λ v14=>
 L (loadAt 24 v14) (World.drew w.drew) λ v15=>
 NILC x11 λ v16=>
 Y (fieldAt 403 v16 1) λ v17=>
 L (loadAt 3 v17) (World.drew w.drew) λ v18=>
 Y (indexAt 24 v15 v18) λ v19=>
 L (loadAt 3 v19) (World.drew w.drew) λ v20=>
 NILC x11 λ v21=>
 U R (fieldAt 403 v21 1) (World.drew w.drew) λ v22 w23=>
 U R (loadAt 3 v22) w23 λ v24 w25=>
 U R (bC .add 3 81 1 v24) w25 λ v26 w27=>
 NILC x11 λ v28=>
 U R (fieldAt 403 v28 1) w27 λ v29 w30=>
 RUNU prog R (storeAt 3 v29 v26) w30 λ w31=>
 U R (loadAt 24 x4) w31 λ v32 w33=>
 U R (indexAt 24 v32 v20) w33 λ v34 w35=>
 U R (loadAt 3 v34) w35 λ v36 w37=>
 U R (bC .eql 3 88 0 v36) w37 λ v38 w39=>
 SPL v38
 (b30_1 R C12 x6 x9 x10 v20 w39)
 (b30_2 R C29 x4 x11 v20 w39)
def b30 (_:T (R,C3,C12,C29):=Q _):=
 NILC x11 λ v1=>
 Y (fieldAt 403 v1 1) λ v2=>
 L (loadAt 3 v2) w.drew λ v3=>
 NILC x11 λ v4=>
 Y (fieldAt 403 v4 0) λ v5=>
 L (loadAt 3 v5) w.drew λ v6=>
 Y (indexAt 50 x0 v6) λ v7=>
 L (loadAt 24 v7) w.drew λ v8=>
 L (len_ #[24] 3 #[v8]) w.drew λ v9=>
 Y (bins .lss 3 (.tmp 55) (.tmp 63) v3 v9) λ v10=>
 SPL v10
 (b30_3 R C12 C29 x0 x4 x6 x9 x10 x11 w)
 (b17 R C3 C12 x1 x4 x5 x6 x7 x10 x11 w.drew)
abbrev q5 (R:EP)(C3:VP)(C12:World->Prop)(C29:World->Prop):XP:=QX (λ z w=>C29  w) (λ z w=>R (.returned (.tuple #[])) w) [(8,(λ z w=>b17 R C3 C12 (z 1) (z 4) (z 5) (z 6) (z 7) (z 10) (z 11) w)),(6,(λ z w=>C12  w)),(4,(λ z w=>b6 R C3 (z 26) w)),(2,(λ z w=>b6 R C3 (z 26) w)),(0,(λ z w=>R (.returned (.tuple #[])) w))]
theorem ZZ151 (R:EP)(C3:VP)(C12:World->Prop)(C29:World->Prop):TI prog R (Zez p11) (q5 R C3 C12 C29) λ z w=>b30 R C3 C12 C29 (z 0) (z 1) (z 4) (z 5) (z 6) (z 7) (z 9) (z 10) (z 11) w:=ofT
def l29 (_:T (R,C3,C12):=Q _):Prop :=
 ∃(J:World->Prop) (μ:World->Nat),J  w/\∀w0,J  w0->b30 R C3 C12 (fun  w1=>J  w1/\μ  w1<μ  w0) x0 x1 x4 x5 x6 x7 x9 x10 x11 w0
abbrev q6 (R:EP)(C3:VP)(C12:World->Prop):XP:=QX (λ z w=>b17 R C3 C12 (z 1) (z 4) (z 5) (z 6) (z 7) (z 10) (z 11) w) (λ z w=>R (.returned (.tuple #[])) w) [(8,(λ z w=>b17 R C3 C12 (z 1) (z 4) (z 5) (z 6) (z 7) (z 10) (z 11) w)),(6,(λ z w=>C12  w)),(4,(λ z w=>b6 R C3 (z 26) w)),(2,(λ z w=>b6 R C3 (z 26) w)),(0,(λ z w=>R (.returned (.tuple #[])) w))]
theorem ZZ122 (R:EP)(C3:VP)(C12:World->Prop):TI prog R p11 (q6 R C3 C12) λ z w=>l29 R C3 C12 (z 0) (z 1) (z 4) (z 5) (z 6) (z 7) (z 9) (z 10) (z 11) w:=λ z w h=>by
 unfold l29 at h
 obtain ⟨J,μ,h0,hr⟩:=h
 refine Zsr (λ z' w'=>J  w') (λ z' w'=>μ  w') h0 λ z' w' hA hI=>ZZ151 R C3 C12 (fun  w1=>J  w1/\μ  w1<μ  w') z' w' ?_
 have h1:=hr  w' hI
 rwa [<-hA.on 0,<-hA.on 1,<-hA.on 4,<-hA.on 5,<-hA.on 6,<-hA.on 7,<-hA.on 9,<-hA.on 10,<-hA.on 11]at h1
theorem l29_intro (R:EP)(C3:VP)(C12:World->Prop)(x0 x1 x4 x5 x6 x7 x9 x10 x11:Value)(w:World)(J:World->Prop)(μ:World->Nat)(h0:J  w)
   (hr:∀w0,J  w0->∀C29:World->Prop,(∀w1,J  w1->μ  w1<μ  w0->C29  w1)->b30 R C3 C12 C29 x0 x1 x4 x5 x6 x7 x9 x10 x11 w0):l29 R C3 C12 x0 x1 x4 x5 x6 x7 x9 x10 x11 w:=by
 unfold l29
 exact ⟨J,μ,h0,fun  w0 hJ=>hr  w0 hJ _ (fun  w1 h1 h2=>⟨h1,h2⟩)⟩
abbrev q7 (R:EP)(C3:VP)(C12:World->Prop):XP:=QX (λ z w=>b17 R C3 C12 (z 1) (z 4) (z 5) (z 6) (z 7) (z 10) (z 11) w) (λ z w=>R (.returned (.tuple #[])) w) [(6,(λ z w=>C12  w)),(4,(λ z w=>b6 R C3 (z 26) w)),(2,(λ z w=>b6 R C3 (z 26) w)),(0,(λ z w=>R (.returned (.tuple #[])) w))]
theorem ZZ201 (R:EP)(C3:VP)(C12:World->Prop):TI prog R (fstC p5) (q7 R C3 C12) λ z w=>l29 R C3 C12 (z 0) (z 1) (z 4) (z 5) (z 6) (z 7) (z 9) (z 10) (z 11) w:=Zk 4 (ZZ122 R C3 C12)
theorem ZZ191 (R:EP)(C3:VP)(C12:World->Prop):TI prog R p5 (q1 R C3 C12) λ z w=>l29 R C3 C12 (z 0) (z 1) (z 4) (z 5) (z 6) (z 7) (z 9) (z 10) (z 11) w:=seqT (ZZ201 R C3 C12) (ZZ198 R C3 C12)
def b15 (_:T (R,C3,C12):=Q _):=
 U R (loadAt 401 x7) w λ v1 w2=>
 U R (loadAt 401 x7) w2 λ v3 w4=>
 U R (len_ #[401] 3 #[v3]) w4 λ v5 w6=>
 U R (bC .sub 3 49 1 v5) w6 λ v7 w8=>
 U R (indexAt 401 v1 v7) w8 λ v9 w10=>
 l29 R C3 C12 x0 x1 x4 x5 x6 x7 x9 x10 v9 w10
theorem ZZ132 (R:EP)(C3:VP)(C12:World->Prop):TI prog R (blkC p4) (q1 R C3 C12) λ z w=>b15 R C3 C12 (z 0) (z 1) (z 4) (z 5) (z 6) (z 7) (z 9) (z 10) w:=appT 0 (ZZ191 R C3 C12)
abbrev q8 (R:EP)(C3:VP)(C12:World->Prop):XP:=QX (λ z w=>C12  w) (λ z w=>R (.returned (.tuple #[])) w) [(4,(λ z w=>b6 R C3 (z 26) w)),(2,(λ z w=>b6 R C3 (z 26) w)),(0,(λ z w=>R (.returned (.tuple #[])) w))]
theorem ZZ175 (R:EP)(C3:VP)(C12:World->Prop):TI prog R p4 (q8 R C3 C12) λ z w=>b15 R C3 C12 (z 0) (z 1) (z 4) (z 5) (z 6) (z 7) (z 9) (z 10) w:=Zk 3 (ZZ132 R C3 C12)
def b13 (_:T (R,C3,C12):=Q _):=
 U R (loadAt 401 x7) w λ v1 w2=>
 U R (len_ #[401] 3 #[v1]) w2 λ v3 w4=>
 U R (bC .gtr 3 45 0 v3) w4 λ v5 w6=>
 SPL v5
 (b15 R C3 C12 x0 x1 x4 x5 x6 x7 x9 x10 w6)
 (b6 R C3 x26 w6)
theorem ZZ119 (R:EP)(C3:VP)(C12:World->Prop):TI prog R p3 (q8 R C3 C12) λ z w=>b13 R C3 C12 (z 0) (z 1) (z 4) (z 5) (z 6) (z 7) (z 9) (z 10) (z 26) w:=appT 0 (ZZ175 R C3 C12)
def l12 (_:T (R,C3):=Q _):Prop :=
 ∃(J:World->Prop) (μ:World->Nat),J  w/\∀w0,J  w0->b13 R C3 (fun  w1=>J  w1/\μ  w1<μ  w0) x0 x1 x4 x5 x6 x7 x9 x10 x26 w0
abbrev q9 (R:EP)(C3:VP):XP:=QX (λ z w=>b6 R C3 (z 26) w) (λ z w=>R (.returned (.tuple #[])) w) [(4,(λ z w=>b6 R C3 (z 26) w)),(2,(λ z w=>b6 R C3 (z 26) w)),(0,(λ z w=>R (.returned (.tuple #[])) w))]
theorem ZZ178 (R:EP)(C3:VP):TI prog R (blkC p2) (q9 R C3) λ z w=>l12 R C3 (z 0) (z 1) (z 4) (z 5) (z 6) (z 7) (z 9) (z 10) (z 26) w:=λ z w h=>by
 unfold l12 at h
 obtain ⟨J,μ,h0,hr⟩:=h
 refine Zsr (λ z' w'=>J  w') (λ z' w'=>μ  w') h0 λ z' w' hA hI=>ZZ119 R C3 (fun  w1=>J  w1/\μ  w1<μ  w') z' w' ?_
 have h1:=hr  w' hI
 rwa [<-hA.on 0,<-hA.on 1,<-hA.on 4,<-hA.on 5,<-hA.on 6,<-hA.on 7,<-hA.on 9,<-hA.on 10,<-hA.on 26]at h1
theorem l12_intro (R:EP)(C3:VP)(x0 x1 x4 x5 x6 x7 x9 x10 x26:Value)(w:World)(J:World->Prop)(μ:World->Nat)(h0:J  w)
   (hr:∀w0,J  w0->∀C12:World->Prop,(∀w1,J  w1->μ  w1<μ  w0->C12  w1)->b13 R C3 C12 x0 x1 x4 x5 x6 x7 x9 x10 x26 w0):l12 R C3 x0 x1 x4 x5 x6 x7 x9 x10 x26 w:=by
 unfold l12
 exact ⟨J,μ,h0,fun  w0 hJ=>hr  w0 hJ _ (fun  w1 h1 h2=>⟨h1,h2⟩)⟩
abbrev q10 (R:EP)(C3:VP):XP:=QX (λ z w=>b6 R C3 (z 26) w) (λ z w=>R (.returned (.tuple #[])) w) [(2,(λ z w=>b6 R C3 (z 26) w)),(0,(λ z w=>R (.returned (.tuple #[])) w))]
theorem ZZ158 (R:EP)(C3:VP):TI prog R p2 (q10 R C3) λ z w=>l12 R C3 (z 0) (z 1) (z 4) (z 5) (z 6) (z 7) (z 9) (z 10) (z 26) w:=Zk 2 (ZZ178 R C3)
def b10_1 (_:T (R,C3):=Q _):=
 U R (makeFunc (.func Zc4.id) #[] #[x6,x4,x7]) w8 λ v9 w10=>
 U R (makeMap 269 none) w10 λ v11 w12=>
 U R (loadAt 24 x6) w12 λ v13 w14=>
 U R (len_ #[24] 3 #[v13]) w14 λ v15 w16=>
 U R (bC .add 3 39 1 v15) w16 λ v17 w18=>
 RUNU prog R (mapUpdate 269 v11 x8 v17) w18 λ w19=>
 Zfa prog R v9 [x8] w19 λ v20 w21=>
 l12 R C3 x0 x1 x4 x5 x6 x7 v9 v11 x26 w21
def b10 (_:T (R,C3):=Q _):=
 U R (loadAt 24 x4) w λ v1 w2=>
 U R (indexAt 24 v1 x8) w2 λ v3 w4=>
 U R (loadAt 3 v3) w4 λ v5 w6=>
 U R (bC .gtr 3 32 0 v5) w6 λ v7 w8=>
 SPL v7
 (b6 R C3 x26 w8)
 (b10_1 R C3 x0 x1 x4 x5 x6 x7 x8 x26 w8)
theorem ZZ137 (R:EP)(C3:VP):TI prog R (Zt8 p1) (q10 R C3) λ z w=>b10 R C3 (z 0) (z 1) (z 4) (z 5) (z 6) (z 7) (z 8) (z 26) w:=appT 5 (ZZ158 R C3)
theorem k9_ok (R:EP)(C3:VP):TI prog R p1 (q10 R C3) λ z w=>b10 R C3 (z 0) (z 1) (z 4) (z 5) (z 6) (z 7) (z 8) (z 26) w:=ZZ52 (ZZ137 R C3) (Zxv (by kernel_rfl))
def b8 (_:T (R,C3):=Q _):=
 b10 R C3 x0 x1 x4 x5 x6 x7 x26 x26 w
def b4 (_:T (R,C3):=Q _):=
 U R (bins .lss 3 (.tmp 26) (.tmp 25) x26 x25) w λ v1 w2=>
 SPL v1
 (b8 R C3 x0 x1 x4 x5 x6 x7 x26 w2)
 (R (.returned (.tuple #[])) w2)
def l3 (_:T (R):=Q _):Prop :=
 LP1 (λ C3 y26 w0=>b4 R C3 x0 x1 x4 x5 x6 x7 x25 y26 w0) x26 w
theorem l3_intro:LS1 (λ C3 y26 w0=>b4 R C3 x0 x1 x4 x5 x6 x7 x25 y26 w0) x26 w (l3 R x0 x1 x4 x5 x6 x7 x25 x26 w):=LI1 _ x26 w
def b1 (_:T (R):=Q _):=
 U R (len_ #[50] 3 #[x0]) w λ v1 w2=>
 U R (makeSlice 24 v1 v1) w2 λ v3 w4=>
 U R (alloc 24 true (.tuple #[])) w4 λ v5 w6=>
 RUNU prog R (storeAt 24 v5 v3) w6 λ w7=>
 U R (len_ #[50] 3 #[x0]) w7 λ v8 w9=>
 U R (bC .add 3 22 1 v8) w9 λ v10 w11=>
 U R (alloc 24 true (.tuple #[])) w11 λ v12 w13=>
 U R (alloc 401 true (.tuple #[])) w13 λ v14 w15=>
 U R (len_ #[50] 3 #[x0]) w15 λ v16 w17=>
 l3 R x0 x1 v5 v10 v12 v14 v16 (.int .i64 0) w17
theorem tie (R:EP):TI prog R (Zp f215) (QQ (λ z w=>R (.returned (.tuple #[])) w)) λ z w=>b1 R (z 0) (z 1) w:=aT 4 (λ z w=>l3 R (z 0) (z 1) (z 4) (z 5) (z 6) (z 7) (z 25) (z 26) w) (Zk 0 (lT1 26 (λ z C3 y26 w0=>b4 R C3 (z 0) (z 1) (z 4) (z 5) (z 6) (z 7) (z 25) y26 w0) λ C3=>aT 1 (λ z w=>b8 R C3 (z 0) (z 1) (z 4) (z 5) (z 6) (z 7) (z 26) w) (sT (λ z w=>b6 R C3 (z 26) w) (Zk 1 (aT 0 (λ z w=>b10 R C3 (z 0) (z 1) (z 4) (z 5) (z 6) (z 7) (z 8) (z 26) w) (k9_ok R C3))) ofT)))
def run (R:EP)(a0 a1:Value)(w:World):=b1 R a0 a1 w
theorem ct:Cta2 prog id run:=Zqs call215 func215 λ R a0 a1 w h=>tie R _ w h
attribute [irreducible] l25 l29 l12 l3
attribute [irreducible,go_sem] b6 b22 b26_1 b26 b23 b20_1 b20 b27 b19 b18 b17_1 b17 b30_1 b30_2 b30_3 b30 b15 b13 b10_1 b10 b8 b4 b1 run
end Zd
namespace Zc
variable (R:EP) (C6:VP) (C10:VP) (C17:VP) (C22:VP) (x0 x1 x2 x3 x4 x6 x13 x17 x18 x19 x28 x29 x30 x43 x44 x45 x66 x67 x68 v3 v5 v7 v8:Value) (w w2 w9 w12 w14:World)
def b7_1 (_:T (R,C6):=Q _):=
 Sem.run prog (loadAt 50 x4) w9 = .ok v7 w9/\(Y (indexAt 50 v7 v5) λ v10=>
 RUNU prog R (storeAt 24 v10 v8) w9 λ w11=>
 U R (bC .add 3 68 1 x68) w11 λ v12 w13=>
 C6 v12 w13)
def b7_2 (_:T (R,C6):=Q _):=
 U R (indexAt 24 x66 x68) w2 λ v3 w4=>
 U R (loadAt 3 v3) w4 λ v5 w6=>
 L (loadAt 50 x4) w6.drew λ v7=>
 K R Zb0.id #[x13] w6.drew λ v8 w9=>
 b7_1 R C6 x4 x68 v5 v7 v8 w9
def b7 (_:T (R,C6):=Q _):=
 U R (bins .lss 3 (.tmp 68) (.tmp 67) x68 x67) w λ v1 w2=>
 SPL v1
 (b7_2 R C6 x4 x13 x66 x68 w2)
 (R (.returned (.tuple #[])) w2)
def l6 (_:T (R):=Q _):Prop :=
 LP1 (λ C6 y68 w0=>b7 R C6 x4 x13 x66 x67 y68 w0) x68 w
theorem l6_intro:LS1 (λ C6 y68 w0=>b7 R C6 x4 x13 x66 x67 y68 w0) x68 w (l6 R x4 x13 x66 x67 x68 w):=LI1 _ x68 w
def b4 (_:T (R):=Q _):=
 K R Zce.id #[x6] w λ v1 w2=>
 U R (len_ #[24] 3 #[x0]) w2 λ v3 w4=>
 l6 R x4 v1 x0 v3 (.int .i64 0) w4
def b13 (_:T (R,C10):=Q _):=
 U R (bC .add 3 30 1 x30) w λ v1 w2=>
 C10 v1 w2
def b19 (_:T (R,C10,C17):=Q _):=
 U R (bC .add 3 45 1 x45) w λ v1 w2=>
 C17 v1 w2
def b18_1 (_:T (R,C10,C17):=Q _):=
 U R (loadAt 158 x1) w14 λ v15 w16=>
 U R (indexAt 158 v15 v5) w16 λ v17 w18=>
 U R (loadAt 74 v17) w18 λ v19 w20=>
 U R (buildSlice 158 1 #[(0,v19)]) w20 λ v21 w22=>
 K R Ze6.id #[x6,v21] w22 λ v23 w24=>
 b19 R C10 C17 x45 w24
def b18_2 (_:T (R,C10,C17):=Q _):=
 U R (indexAt 24 x43 x45) w2 λ v3 w4=>
 U R (loadAt 3 v3) w4 λ v5 w6=>
 U R (loadAt 158 x1) w6 λ v7 w8=>
 U R (indexAt 158 v7 v5) w8 λ v9 w10=>
 U R (loadAt 74 v9) w10 λ v11 w12=>
 U R (bins .neq 74 (.tmp 52) (.tmp 53) v11 x6) w12 λ v13 w14=>
 SPL v13
 (b18_1 R C10 C17 x1 x6 x45 v5 w14)
 (b19 R C10 C17 x45 w14)
def b18 (_:T (R,C10,C17):=Q _):=
 U R (bins .lss 3 (.tmp 45) (.tmp 44) x45 x44) w λ v1 w2=>
 SPL v1
 (b18_2 R C10 C17 x1 x6 x43 x45 w2)
 (b13 R C10 x30 w2)
def l17 (_:T (R,C10):=Q _):Prop :=
 LP1 (λ C17 y45 w0=>b18 R C10 C17 x1 x6 x30 x43 x44 y45 w0) x45 w
theorem l17_intro:LS1 (λ C17 y45 w0=>b18 R C10 C17 x1 x6 x30 x43 x44 y45 w0) x45 w (l17 R C10 x1 x6 x30 x43 x44 x45 w):=LI1 _ x45 w
def b15_1 (_:T (R,C10):=Q _):=
 U R (loadAt 50 x3) w12 λ v13 w14=>
 U R (indexAt 50 v13 v3) w14 λ v15 w16=>
 U R (loadAt 24 v15) w16 λ v17 w18=>
 U R (len_ #[24] 3 #[v17]) w18 λ v19 w20=>
 l17 R C10 x1 x6 x30 v17 v19 (.int .i64 0) w20
def b15 (_:T (R,C10):=Q _):=
 U R (indexAt 24 x28 x30) w λ v1 w2=>
 U R (loadAt 3 v1) w2 λ v3 w4=>
 U R (loadAt 50 x2) w4 λ v5 w6=>
 U R (indexAt 50 v5 v3) w6 λ v7 w8=>
 U R (loadAt 24 v7) w8 λ v9 w10=>
 K R Zai.id #[x6,v9] w10 λ v11 w12=>
 b15_1 R C10 x1 x3 x6 x30 v3 w12
def b11 (_:T (R,C10):=Q _):=
 U R (bins .lss 3 (.tmp 30) (.tmp 29) x30 x29) w λ v1 w2=>
 SPL v1
 (b15 R C10 x1 x2 x3 x6 x28 x30 w2)
 (b4 R x0 x4 x6 w2)
def l10 (_:T (R):=Q _):Prop :=
 LP1 (λ C10 y30 w0=>b11 R C10 x0 x1 x2 x3 x4 x6 x28 x29 y30 w0) x30 w
theorem l10_intro:LS1 (λ C10 y30 w0=>b11 R C10 x0 x1 x2 x3 x4 x6 x28 x29 y30 w0) x30 w (l10 R x0 x1 x2 x3 x4 x6 x28 x29 x30 w):=LI1 _ x30 w
def b8 (_:T (R):=Q _):=
 U R (len_ #[24] 3 #[x0]) w λ v1 w2=>
 l10 R x0 x1 x2 x3 x4 x6 x0 v1 (.int .i64 0) w2
def b23_1 (_:T (R,C22):=Q _):=
 U R (indexAt 24 x17 x19) w2 λ v3 w4=>
 U R (loadAt 3 v3) w4 λ v5 w6=>
 U R (loadAt 158 x1) w6 λ v7 w8=>
 U R (indexAt 158 v7 v5) w8 λ v9 w10=>
 RUNU prog R (storeAt 74 v9 x6) w10 λ w11=>
 U R (bC .add 3 19 1 x19) w11 λ v12 w13=>
 C22 v12 w13
def b23 (_:T (R,C22):=Q _):=
 U R (bins .lss 3 (.tmp 19) (.tmp 18) x19 x18) w λ v1 w2=>
 SPL v1
 (b23_1 R C22 x1 x6 x17 x19 w2)
 (b8 R x0 x1 x2 x3 x4 x6 w2)
def l22 (_:T (R):=Q _):Prop :=
 LP1 (λ C22 y19 w0=>b23 R C22 x0 x1 x2 x3 x4 x6 x17 x18 y19 w0) x19 w
theorem l22_intro:LS1 (λ C22 y19 w0=>b23 R C22 x0 x1 x2 x3 x4 x6 x17 x18 y19 w0) x19 w (l22 R x0 x1 x2 x3 x4 x6 x17 x18 x19 w):=LI1 _ x19 w
def b20 (_:T (R):=Q _):=
 U R (len_ #[24] 3 #[x0]) w λ v1 w2=>
 l22 R x0 x1 x2 x3 x4 x6 x0 v1 (.int .i64 0) w2
def b1 (_:T (R):=Q _):=
 K R Zfp.id #[(.int .i64 1024),(.slice none 0 0)] w λ v1 w2=>
 b20 R x0 x1 x2 x3 x4 v1 w2
theorem tie (R:EP):TI prog R (Zp f216) (QQ (λ z w=>R (.returned (.tuple #[])) w)) λ z w=>b1 R (z 0) (z 1) (z 2) (z 3) (z 4) w:=aT 0 (λ z w=>b20 R (z 0) (z 1) (z 2) (z 3) (z 4) (z 6) w) (sT (λ z w=>b8 R (z 0) (z 1) (z 2) (z 3) (z 4) (z 6) w) (aT 0 (λ z w=>l22 R (z 0) (z 1) (z 2) (z 3) (z 4) (z 6) (z 17) (z 18) (z 19) w) (Zk 0 (lT1 19 (λ z C22 y19 w0=>b23 R C22 (z 0) (z 1) (z 2) (z 3) (z 4) (z 6) (z 17) (z 18) y19 w0) λ C22=>ofT))) (sT (λ z w=>b4 R (z 0) (z 4) (z 6) w) (aT 0 (λ z w=>l10 R (z 0) (z 1) (z 2) (z 3) (z 4) (z 6) (z 28) (z 29) (z 30) w) (Zk 2 (lT1 30 (λ z C10 y30 w0=>b11 R C10 (z 0) (z 1) (z 2) (z 3) (z 4) (z 6) (z 28) (z 29) y30 w0) λ C10=>aT 1 (λ z w=>b15 R C10 (z 1) (z 2) (z 3) (z 6) (z 28) (z 30) w) (sT (λ z w=>b13 R C10 (z 30) w) (Zk 3 (aT 2 (λ z w=>l17 R C10 (z 1) (z 6) (z 30) (z 43) (z 44) (z 45) w) (Zk 4 (lT1 45 (λ z C17 y45 w0=>b18 R C10 C17 (z 1) (z 6) (z 30) (z 43) (z 44) y45 w0) λ C17=>aT 2 (λ z w=>b19 R C10 C17 (z 45) w) ofT)))) ofT)))) (aT 1 (λ z w=>l6 R (z 4) (z 13) (z 66) (z 67) (z 68) w) (Zk 6 (lT1 68 (λ z C6 y68 w0=>b7 R C6 (z 4) (z 13) (z 66) (z 67) y68 w0) λ C6=>ofT)))))
def run (R:EP)(a0 a1 a2 a3 a4:Value)(w:World):=b1 R a0 a1 a2 a3 a4 w
theorem ct:Cta5 prog id run:=ZZ190 call216 func216 λ R a0 a1 a2 a3 a4 w h=>tie R _ w h
attribute [irreducible] l6 l17 l10 l22
attribute [irreducible,go_sem] b7_1 b7_2 b7 b4 b13 b19 b18_1 b18_2 b18 b15_1 b15 b11 b8 b23_1 b23 b20 b1 run
end Zc
namespace Zda
variable (R:EP) (x0 x1:Value) (w:World)
def b1 (_:T (R):=Q _):=
 U R (makeFunc (.func Zcz.id) #[] #[x1]) w λ v1 w2=>
 K R Zar.id #[x0,v1] w2 λ v3 w4=>
 R (.returned v3) w4
theorem tie (R:EP):TI prog R (Zp f270) (QQ (λ z w=>R (.returned (z 3)) w)) λ z w=>b1 R (z 0) (z 1) w:=ofT
def run (R:EP)(a0 a1:Value)(w:World):=b1 R a0 a1 w
theorem ct:Cta2 prog id run:=Zcd call270 func270 λ R a0 a1 w h=>tie R _ w h
attribute [irreducible,go_sem] b1 run
end Zda
namespace Zcz
variable (R:EP) (x0 x1:Value) (w w2:World)
def b1_1 (_:T (R):=Q _):=
 U R (loadAt 50 x1) w2 λ v3 w4=>
 U R (len_ #[50] 3 #[v3]) w4 λ v5 w6=>
 U R (bins .geq 3 (.tmp 7) (.tmp 9) x0 v5) w6 λ v7 w8=>
 R (.returned v7) w8
def b1 (_:T (R):=Q _):=
 U R (bC .lss 3 4 0 x0) w λ v1 w2=>
 SPL v1
 (R (.returned (.bool true)) w2)
 (b1_1 R x0 x1 w2)
theorem tie (R:EP):TI prog R (Zp f271) (QQ (λ z w=>R (.returned (z 3)) w)) λ z w=>b1 R (z 0) (z 1) w:=ofT
def run (R:EP)(a0 a1:Value)(w:World):=b1 R a0 a1 w
theorem ct:Cta2 prog id run:=Zcd call271 func271 λ R a0 a1 w h=>tie R _ w h
attribute [irreducible,go_sem] b1_1 b1 run
end Zcz
namespace Zc4
variable (R:EP) (x0 x1 x2 x3:Value) (w:World)
def b1 (_:T (R):=Q _):=
 U R (loadAt 24 x1) w λ v1 w2=>
 U R (buildSlice 24 1 #[(0,x0)]) w2 λ v3 w4=>
 U R (append_ #[24,24] 24 #[v1,v3]) w4 λ v5 w6=>
 RUNU prog R (storeAt 24 x1 v5) w6 λ w7=>
 U R (loadAt 24 x2) w7 λ v8 w9=>
 U R (loadAt 24 x1) w9 λ v10 w11=>
 U R (len_ #[24] 3 #[v10]) w11 λ v12 w13=>
 U R (indexAt 24 v8 x0) w13 λ v14 w15=>
 RUNU prog R (storeAt 3 v14 v12) w15 λ w16=>
 U R (loadAt 401 x3) w16 λ v17 w18=>
 U R (build 403 #[(0,x0)]) w18 λ v19 w20=>
 U R (buildSlice 401 1 #[(0,v19)]) w20 λ v21 w22=>
 U R (append_ #[401,401] 401 #[v17,v21]) w22 λ v23 w24=>
 RUNU prog R (storeAt 401 x3 v23) w24 λ w25=>
 R (.returned (.tuple #[])) w25
theorem tie (R:EP):TI prog R (Zp f272) (QQ (λ z w=>R (.returned (.tuple #[])) w)) λ z w=>b1 R (z 0) (z 1) (z 2) (z 3) w:=ofT
def run (R:EP)(a0 a1 a2 a3:Value)(w:World):=b1 R a0 a1 a2 a3 w
theorem ct:Cta4 prog id run:=ZZ114 call272 func272 λ R a0 a1 a2 a3 w h=>tie R _ w h
attribute [irreducible,go_sem] b1 run
end Zc4
namespace Zbc
variable (R:EP) (x0 x1:Value) (w:World)
def b1 (_:T (R):=Q _):=
 K R Zau.id #[x0,x1] w λ v1 w2=>
 U R (bC .geq 3 7 0 v1) w2 λ v3 w4=>
 R (.returned v3) w4
theorem tie (R:EP):TI prog R (Zp f269) (QQ (λ z w=>R (.returned (z 4)) w)) λ z w=>b1 R (z 0) (z 1) w:=ofT
def run (R:EP)(a0 a1:Value)(w:World):=b1 R a0 a1 w
theorem ct:Cta2 prog id run:=Zcd call269 func269 λ R a0 a1 w h=>tie R _ w h
attribute [irreducible,go_sem] b1 run
end Zbc
namespace Zau
variable (R:EP) (C6:VP) (x0 x1 x7 x8:Value) (w w2:World)
def b3 (_:T (R):=Q _):=
 R (.returned (.int .i64 (-1))) w
def b7_1 (_:T (R,C6):=Q _):=
 U R (indexAt 50 x0 x8) w2 λ v3 w4=>
 U R (loadAt 24 v3) w4 λ v5 w6=>
 Zfa prog R x1 [v5] w6 λ v7 w8=>
 SPL v7
 (R (.returned x8) w8)
 (U R (bC .add 3 8 1 x8) w8 λ v9 w10=>
 C6 v9 w10)
def b7 (_:T (R,C6):=Q _):=
 U R (bins .lss 3 (.tmp 8) (.tmp 7) x8 x7) w λ v1 w2=>
 SPL v1
 (b7_1 R C6 x0 x1 x8 w2)
 (b3 R w2)
def l6 (_:T (R):=Q _):Prop :=
 LP1 (λ C6 y8 w0=>b7 R C6 x0 x1 x7 y8 w0) x8 w
theorem l6_intro:LS1 (λ C6 y8 w0=>b7 R C6 x0 x1 x7 y8 w0) x8 w (l6 R x0 x1 x7 x8 w):=LI1 _ x8 w
def b4 (_:T (R):=Q _):=
 U R (len_ #[50] 3 #[x0]) w λ v1 w2=>
 l6 R x0 x1 v1 (.int .i64 0) w2
def b1 (_:T (R):=Q _):=
 b4 R x0 x1 w
theorem tie (R:EP):TI prog R (Zp f298) (QQ (λ z w=>R (.returned (z 4)) w)) λ z w=>b1 R (z 0) (z 1) w:=aT 0 (λ z w=>b4 R (z 0) (z 1) w) (sT (λ z w=>b3 R  w) (aT 0 (λ z w=>l6 R (z 0) (z 1) (z 7) (z 8) w) (Zk 0 (lT1 8 (λ z C6 y8 w0=>b7 R C6 (z 0) (z 1) (z 7) y8 w0) λ C6=>ofT))) ofT)
def run (R:EP)(a0 a1:Value)(w:World):=b1 R a0 a1 w
theorem ct:Cta2 prog id run:=Zcd call298 func298 λ R a0 a1 w h=>tie R _ w h
attribute [irreducible] l6
attribute [irreducible,go_sem] b3 b7_1 b7 b4 b1 run
end Zau
namespace Zt
variable (R:EP) (C6:Value->VP) (C16:VP) (x0 x1 x4 x6 x7 x9 x10 x29 x30 x31 x40 x41 x42 v1 v2 v3 v4 v5 v7 v15:Value) (w w2 w6 w12 w16:World)
def b3 (_:T (R):=Q _):=
 K R Za2.id #[x7] w λ v1 w2=>
 R (.returned (.tuple #[v1,(.int .i64 0)])) w2
def b9 (_:T (R,C6):=Q _):=
 U R (bC .add 3 31 1 x31) w λ v1 w2=>
 C6 x7 v1 w2
def b13_1 (_:T (R,C6):=Q _):=
 Sem.run prog (loadAt 3 v3) w6 = .ok v4 w6/\(Sem.run prog (loadAt 3 v1) w6 = .ok v2 w6/\(Y (build 79 #[(0,v2),(1,v4),(2,v5)]) λ v7=>
 U R (buildSlice 28 1 #[(0,v7)]) w6 λ v8 w9=>
 U R (append_ #[28,28] 28 #[x7,v8]) w9 λ v10 w11=>
 b9 R C6 v10 x31 w11))
def b13 (_:T (R,C6):=Q _):=
 Y (fieldAt 73 x9 0) λ v1=>
 L (loadAt 3 v1) w.drew λ v2=>
 Y (fieldAt 73 x9 1) λ v3=>
 L (loadAt 3 v3) w.drew λ v4=>
 K R Zce.id #[x10] w.drew λ v5 w6=>
 b13_1 R C6 x7 x31 v1 v2 v3 v4 v5 w6
def b17_1 (_:T (R,C16):=Q _):=
 U R (indexAt 24 x40 x42) w2 λ v3 w4=>
 U R (loadAt 3 v3) w4 λ v5 w6=>
 U R (indexAt 50 x4 v5) w6 λ v7 w8=>
 U R (loadAt 24 v7) w8 λ v9 w10=>
 K R Zai.id #[x10,v9] w10 λ v11 w12=>
 U R (bC .add 3 42 1 x42) w12 λ v13 w14=>
 C16 v13 w14
def b17 (_:T (R,C6,C16):=Q _):=
 U R (bins .lss 3 (.tmp 42) (.tmp 41) x42 x41) w λ v1 w2=>
 SPL v1
 (b17_1 R C16 x4 x10 x40 x42 w2)
 (b13 R C6 x7 x9 x10 x31 w2)
def l16 (_:T (R,C6):=Q _):Prop :=
 LP1 (λ C16 y42 w0=>b17 R C6 C16 x4 x7 x9 x10 x31 x40 x41 y42 w0) x42 w
theorem l16_intro:LS1 (λ C16 y42 w0=>b17 R C6 C16 x4 x7 x9 x10 x31 x40 x41 y42 w0) x42 w (l16 R C6 x4 x7 x9 x10 x31 x40 x41 x42 w):=LI1 _ x42 w
def b14 (_:T (R,C6):=Q _):=
 U R (fieldAt 73 x9 2) w λ v1 w2=>
 U R (loadAt 24 v1) w2 λ v3 w4=>
 U R (len_ #[24] 3 #[v3]) w4 λ v5 w6=>
 l16 R C6 x4 x7 x9 x10 x31 v3 v5 (.int .i64 0) w6
def b11 (_:T (R,C6):=Q _):=
 U R (indexAt 69 x29 x31) w λ v1 w2=>
 U R (loadAt 73 v1) w2 λ v3 w4=>
 U R (alloc 73 true (.tuple #[])) w4 λ v5 w6=>
 RUNU prog R (storeAt 73 v5 v3) w6 λ w7=>
 U R (fieldAt 27 x1 0) w7 λ v8 w9=>
 U R (loadAt 22 v8) w9 λ v10 w11=>
 U R (len_ #[22] 3 #[v10]) w11 λ v12 w13=>
 K R Zfp.id #[v12,(.slice none 0 0)] w13 λ v14 w15=>
 b14 R C6 x4 x7 v5 v14 x31 w15
def b7 (_:T (R,C6):=Q _):=
 U R (bins .lss 3 (.tmp 31) (.tmp 30) x31 x30) w λ v1 w2=>
 SPL v1
 (b11 R C6 x1 x4 x7 x29 x31 w2)
 (b3 R x7 w2)
def l6 (_:T (R):=Q _):Prop :=
 LP2 (λ C6 y7 y31 w0=>b7 R C6 x1 x4 y7 x29 x30 y31 w0) x7 x31 w
theorem l6_intro:LS2 (λ C6 y7 y31 w0=>b7 R C6 x1 x4 y7 x29 x30 y31 w0) x7 x31 w (l6 R x1 x4 x7 x29 x30 x31 w):=LI2 _ x7 x31 w
def b4 (_:T (R):=Q _):=
 U R (len_ #[69] 3 #[x6]) w λ v1 w2=>
 l6 R x1 x4 x7 x6 v1 (.int .i64 0) w2
def b1_1 (_:T (R):=Q _):=
 U R (extract v15 0) w16 λ v17 w18=>
 U R (extract v15 1) w18 λ v19 w20=>
 U R (bC .neq 29 26 0 v19) w20 λ v21 w22=>
 SPL v21
 (R (.returned (.tuple #[(.slice none 0 0),v19])) w22)
 (b4 R v1 v7 v17 (.slice none 0 0) w22)
def b1_2 (_:T (R):=Q _):=
 U R (loadAt 27 v1) w12 λ v13 w14=>
 K R Zf.id #[v13] w14 λ v15 w16=>
 b1_1 R v1 v7 v15 w16
def b1_3 (_:T (R):=Q _):=
 U R (extract v5 0) w6 λ v7 w8=>
 U R (extract v5 1) w8 λ v9 w10=>
 U R (bC .neq 29 18 0 v9) w10 λ v11 w12=>
 SPL v11
 (R (.returned (.tuple #[(.slice none 0 0),v9])) w12)
 (b1_2 R v1 v7 w12)
def b1 (_:T (R):=Q _):=
 U R (box 27 x0) w λ v1 w2=>
 U R (loadAt 27 v1) w2 λ v3 w4=>
 K R Zbv.id #[v3] w4 λ v5 w6=>
 b1_3 R v1 v5 w6
theorem tie (R:EP):TI prog R (Zp f6) (QQ (λ z w=>R (.returned (.tuple #[(z 2),(z 3)])) w)) λ z w=>b1 R (z 0) w:=aT 5 (λ z w=>b4 R (z 1) (z 4) (z 6) (z 7) w) (sT (λ z w=>b3 R (z 7) w) (aT 0 (λ z w=>l6 R (z 1) (z 4) (z 7) (z 29) (z 30) (z 31) w) (Zk 0 (lT2 7 31 (λ z C6 y7 y31 w0=>b7 R C6 (z 1) (z 4) y7 (z 29) (z 30) y31 w0) λ C6=>aT 1 (λ z w=>b11 R C6 (z 1) (z 4) (z 7) (z 29) (z 31) w) (sT (λ z w=>b9 R C6 (z 7) (z 31) w) (Zk 1 (aT 1 (λ z w=>b14 R C6 (z 4) (z 7) (z 9) (z 10) (z 31) w) (sT (λ z w=>b13 R C6 (z 7) (z 9) (z 10) (z 31) w) (aT 0 (λ z w=>l16 R C6 (z 4) (z 7) (z 9) (z 10) (z 31) (z 40) (z 41) (z 42) w) (Zk 2 (lT1 42 (λ z C16 y42 w0=>b17 R C6 C16 (z 4) (z 7) (z 9) (z 10) (z 31) (z 40) (z 41) y42 w0) λ C16=>ofT))) ofT))) ofT)))) ofT)
def run (R:EP)(a0:Value)(w:World):=b1 R a0 w
theorem ct:Cta1 prog id run:=Zem call6 func6 λ R a0 w h=>tie R _ w h
attribute [irreducible] l16 l6
attribute [irreducible,go_sem] b3 b9 b13_1 b13 b17_1 b17 b14 b11 b7 b4 b1_1 b1_2 b1_3 b1 run
end Zt
namespace Zbv
variable (R:EP) (x0 v1 v3 v4 v8:Value) (w w5 w9:World)
def b1_1 (_:T (R):=Q _):=
 Y (extract v8 0) λ v10=>
 Y (extract v8 1) λ v11=>
 R (.returned (.tuple #[v10,v11])) w9
def b1_2 (_:T (R):=Q _):=
 Sem.run prog (loadAt 27 v1) w5 = .ok v3 w5/\(Y (indexAt 178 v4 (.int .i64 1)) λ v6=>
 L (loadAt 177 v6) w5 λ v7=>
 K R Zah.id #[v7,v3] w5 λ v8 w9=>
 b1_1 R v8 w9)
def b1 (_:T (R):=Q _):=
 U R (box 27 x0) w λ v1 w2=>
 L (loadAt 27 v1) w2.drew λ v3=>
 K R Zc9.id #[] w2.drew λ v4 w5=>
 b1_2 R v1 v3 v4 w5
theorem tie (R:EP):TI prog R (Zp f26) (QQ (λ z w=>R (.returned (.tuple #[(z 2),(z 3)])) w)) λ z w=>b1 R (z 0) w:=ofT
def run (R:EP)(a0:Value)(w:World):=b1 R a0 w
theorem ct:Cta1 prog id run:=Zem call26 func26 λ R a0 w h=>tie R _ w h
attribute [irreducible,go_sem] b1_1 b1_2 b1 run
end Zbv
namespace Zc9
variable (R:EP) (w:World)
def b1 (_:T (R):=Q _):=
 U R (build 177 #[(0,(.func (.func Zm.id) #[] #[])),(1,(.func (.func Zb4.id) #[] #[]))]) w λ v1 w2=>
 U R (build 177 #[(0,(.func (.func Zbs.id) #[] #[])),(1,(.func (.func Za5.id) #[] #[]))]) w2 λ v3 w4=>
 U R (buildSlice 178 2 #[(0,v1),(1,v3)]) w4 λ v5 w6=>
 R (.returned v5) w6
theorem tie (R:EP):TI prog R (Zp f74) (QQ (λ z w=>R (.returned (z 0)) w)) λ z w=>b1 R w:=ofT
def run (R:EP)(w:World):=b1 R w
theorem ct:Cta0 prog id run:=ZZ156 call74 func74 λ R w h=>tie R _ w h
attribute [irreducible,go_sem] b1 run
end Zc9
namespace Zah
variable (R:EP) (x0 x1 v1 v3 v11 v13 v25 v33:Value) (w w12 w18 w26 w34:World)
def b1_1 (_:T (R):=Q _):=
 U R (extract v33 0) w34 λ v35 w36=>
 U R (extract v33 1) w36 λ v37 w38=>
 R (.returned (.tuple #[v35,v37])) w38
def b1_2 (_:T (R):=Q _):=
 U R (extract v25 0) w26 λ v27 w28=>
 U R (extract v25 1) w28 λ v29 w30=>
 U R (bC .neq 29 26 0 v29) w30 λ v31 w32=>
 SPL v31
 (R (.returned (.tuple #[(.slice none 0 0),v29])) w32)
 (K R Zat.id #[v27,v13] w32 λ v33 w34=>
 b1_1 R v33 w34)
def b1_3 (_:T (R):=Q _):=
 U R (fieldAt 177 v1 1) w18 λ v19 w20=>
 U R (loadAt 68 v19) w20 λ v21 w22=>
 U R (loadAt 27 v3) w22 λ v23 w24=>
 Zfa prog R v21 [v23] w24 λ v25 w26=>
 b1_2 R v13 v25 w26
def b1_4 (_:T (R):=Q _):=
 U R (extract v11 0) w12 λ v13 w14=>
 U R (extract v11 1) w14 λ v15 w16=>
 U R (bC .neq 29 16 0 v15) w16 λ v17 w18=>
 SPL v17
 (R (.returned (.tuple #[(.slice none 0 0),v15])) w18)
 (b1_3 R v1 v3 v13 w18)
def b1 (_:T (R):=Q _):=
 U R (box 177 x0) w λ v1 w2=>
 U R (box 27 x1) w2 λ v3 w4=>
 U R (fieldAt 177 v1 0) w4 λ v5 w6=>
 U R (loadAt 68 v5) w6 λ v7 w8=>
 U R (loadAt 27 v3) w8 λ v9 w10=>
 Zfa prog R v7 [v9] w10 λ v11 w12=>
 b1_4 R v1 v3 v11 w12
theorem tie (R:EP):TI prog R (Zp f75) (QQ (λ z w=>R (.returned (.tuple #[(z 4),(z 5)])) w)) λ z w=>b1 R (z 0) (z 1) w:=ofT
def run (R:EP)(a0 a1:Value)(w:World):=b1 R a0 a1 w
theorem ct:Cta2 prog id run:=Zia call75 func75 λ R a0 a1 w h=>tie R _ w h
attribute [irreducible,go_sem] b1_1 b1_2 b1_3 b1_4 b1 run
end Zah
namespace Zbs
variable (R:EP) (x0 v1 v3 v4 v8:Value) (w w5 w9:World)
def b1_1 (_:T (R):=Q _):=
 Y (extract v8 0) λ v10=>
 Y (extract v8 1) λ v11=>
 R (.returned (.tuple #[v10,v11])) w9
def b1_2 (_:T (R):=Q _):=
 Sem.run prog (loadAt 27 v1) w5 = .ok v3 w5/\(Y (indexAt 178 v4 (.int .i64 0)) λ v6=>
 L (loadAt 177 v6) w5 λ v7=>
 K R Zah.id #[v7,v3] w5 λ v8 w9=>
 b1_1 R v8 w9)
def b1 (_:T (R):=Q _):=
 U R (box 27 x0) w λ v1 w2=>
 L (loadAt 27 v1) w2.drew λ v3=>
 K R Zc9.id #[] w2.drew λ v4 w5=>
 b1_2 R v1 v3 v4 w5
theorem tie (R:EP):TI prog R (Zp f140) (QQ (λ z w=>R (.returned (.tuple #[(z 2),(z 3)])) w)) λ z w=>b1 R (z 0) w:=ofT
def run (R:EP)(a0:Value)(w:World):=b1 R a0 w
theorem ct:Cta1 prog id run:=Zem call140 func140 λ R a0 w h=>tie R _ w h
attribute [irreducible,go_sem] b1_1 b1_2 b1 run
end Zbs
end Go.Proofs.YtjibcckpehdbhaaGreatDoor
