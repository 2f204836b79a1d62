/- Shallow programs, written by a program of ours (gen.py) off the translation; each is tied to the code by the kernel. -/
import Derived.Test.YtckbgeedlobfaaaDoorY04
set_option linter.unusedVariables false
set_option maxRecDepth 100000
namespace Go.Proofs.YtckbgeedlobfaaaDoor
open Go.Px Tryd Instr

/-! ### presage/presagelaw04.SpecPlain -/
namespace law04_SpecPlain
noncomputable def code:Code:=bodyOf f10
def b1_1 (R:EP) (v11:Value) (w28:World) (_r:Tok R:=tok R):Prop :=
 RUN prog R (fieldAt 31 v11 1) w28 fun v29 w30 =>
 RUN prog R (loadAt 3 v29) w30 fun v31 w32 =>
 RUN prog R (bins .eql 3 (.tmp 30) (.const (Value.int .i64 0)) v31 (Value.int .i64 0)) w32 fun v33 w34 =>
 R (.returned v33) w34
def b1_2 (R:EP) (v9 v11:Value) (w24:World) (_r:Tok R:=tok R):Prop :=
 RUN prog R (loadAt 28 v9) w24 fun v25 w26 =>
 CALL prog R gram_Valid.id #[v25] w26 fun v27 w28 =>
 SPL v27
 (b1_1 R v11 w28)
 (R (.returned (Value.bool false)) w28)
def b1_3 (R:EP) (v9:Value) (w50:World) (_r:Tok R:=tok R):Prop :=
 RUN prog R (fieldAt 28 v9 4) w50 fun v51 w52 =>
 RUN prog R (loadAt 26 v51) w52 fun v53 w54 =>
 RUN prog R (Builtin.len_ #[26] 3 #[v53]) w54 fun v55 w56 =>
 RUN prog R (bins .eql 3 (.tmp 59) (.const (Value.int .i64 0)) v55 (Value.int .i64 0)) w56 fun v57 w58 =>
 R (.returned v57) w58
def b1_4 (R:EP) (x0 v9 v15:Value) (w44:World) (_r:Tok R:=tok R):Prop :=
 RUN prog R (Builtin.len_ #[9] 3 #[x0]) w44 fun v45 w46 =>
 RUN prog R (bins .leq 3 (.tmp 47) (.tmp 49) v15 v45) w46 fun v47 w48 =>
 SPL v47
 (RUN prog R (bins .leq 3 (.tmp 53) (.const (Value.int .i64 8192)) v15 (Value.int .i64 8192)) w48 fun v49 w50 =>
 SPL v49
 (b1_3 R v9 w50)
 (R (.returned (Value.bool false)) w50))
 (R (.returned (Value.bool false)) w48)
def b1_5 (R:EP) (x0 v9 v11 v15:Value) (w36:World) (_r:Tok R:=tok R):Prop :=
 RUN prog R (fieldAt 31 v11 1) w36 fun v37 w38 =>
 RUN prog R (loadAt 3 v37) w38 fun v39 w40 =>
 RUN prog R (bins .eql 3 (.tmp 37) (.tmp 39) v15 v39) w40 fun v41 w42 =>
 SPL v41
 (RUN prog R (bins .geq 3 (.tmp 43) (.const (Value.int .i64 0)) v15 (Value.int .i64 0)) w42 fun v43 w44 =>
 SPL v43
 (b1_4 R x0 v9 v15 w44)
 (R (.returned (Value.bool false)) w44))
 (R (.returned (Value.bool false)) w42)
def b1_6 (R:EP) (v9:Value) (w72:World) (_r:Tok R:=tok R):Prop :=
 RUN prog R (fieldAt 28 v9 4) w72 fun v73 w74 =>
 RUN prog R (loadAt 26 v73) w74 fun v75 w76 =>
 RUN prog R (Builtin.len_ #[26] 3 #[v75]) w76 fun v77 w78 =>
 RUN prog R (bins .eql 3 (.tmp 80) (.const (Value.int .i64 0)) v77 (Value.int .i64 0)) w78 fun v79 w80 =>
 R (.returned v79) w80
def b1_7 (R:EP) (v9 v11:Value) (w66:World) (_r:Tok R:=tok R):Prop :=
 RUN prog R (fieldAt 31 v11 1) w66 fun v67 w68 =>
 RUN prog R (loadAt 3 v67) w68 fun v69 w70 =>
 RUN prog R (bins .eql 3 (.tmp 74) (.const (Value.int .i64 0)) v69 (Value.int .i64 0)) w70 fun v71 w72 =>
 SPL v71
 (b1_6 R v9 w72)
 (R (.returned (Value.bool false)) w72)
def b1_8 (R:EP) (v9 v11 v15:Value) (w36:World) (_r:Tok R:=tok R):Prop :=
 RUN prog R (fieldAt 31 v11 0) w36 fun v59 w60 =>
 RUN prog R (loadAt 29 v59) w60 fun v61 w62 =>
 RUN prog R (bins .eql 29 (.tmp 65) (.const (Value.int .i64 11)) v61 (Value.int .i64 11)) w62 fun v63 w64 =>
 SPL v63
 (RUN prog R (bins .eql 3 (.tmp 69) (.const (Value.int .i64 (-1))) v15 (Value.int .i64 (-1))) w64 fun v65 w66 =>
 SPL v65
 (b1_7 R v9 v11 w66)
 (R (.returned (Value.bool false)) w66))
 (R (.returned (Value.bool false)) w64)
def b1_9 (R:EP) (x0 v1 v9 v11 v15:Value) (w16:World) (_r:Tok R:=tok R):Prop :=
 RUN prog R (fieldAt 31 v11 0) w16 fun v17 w18 =>
 RUN prog R (loadAt 29 v17) w18 fun v19 w20 =>
 RUN prog R (bins .eql 29 (.tmp 16) (.const (Value.int .i64 0)) v19 (Value.int .i64 0)) w20 fun v21 w22 =>
 SPL v21
 (SPL v1
 (RUN prog R (bins .eql 3 (.tmp 21) (.const (Value.int .i64 (-1))) v15 (Value.int .i64 (-1))) w22 fun v23 w24 =>
 SPL v23
 (b1_2 R v9 v11 w24)
 (R (.returned (Value.bool false)) w24))
 (R (.returned (Value.bool false)) w22))
 (RUN prog R (bins .eql 29 (.tmp 16) (.const (Value.int .i64 10)) v19 (Value.int .i64 10)) w22 fun v35 w36 =>
 SPL v35
 (SPL v1
 (b1_5 R x0 v9 v11 v15 w36)
 (R (.returned (Value.bool false)) w36))
 (SPL v1
 (b1_8 R v9 v11 v15 w36)
 (R (.returned (Value.bool false)) w36)))
def b1_10 (R:EP) (x0 v1 v3:Value) (w4:World) (_r:Tok R:=tok R):Prop :=
 RUN prog R (extract v3 0) w4 fun v5 w6 =>
 RUN prog R (extract v3 1) w6 fun v7 w8 =>
 RUN prog R (alloc 28 true (.tuple #[])) w8 fun v9 w10 =>
 RUN prog R (alloc 31 true (.tuple #[])) w10 fun v11 w12 =>
 RUNU prog R (storeAt 28 v9 v5) w12 fun w13 =>
 RUNU prog R (storeAt 31 v11 v7) w13 fun w14 =>
 CALL prog R spec_Bad.id #[x0] w14 fun v15 w16 =>
 b1_9 R x0 v1 v9 v11 v15 w16

def b1 (R:EP) (x0:Value) (w:World) (_r:Tok R:=tok R):Prop :=
 CALL prog R law04_awake.id #[] w fun v1 w2 =>
 CALL prog R spec_Read.id #[x0] w2 fun v3 w4 =>
 b1_10 R x0 v1 v3 w4
abbrev r0 (R:EP) (z:Env) (w:World):Prop:=R (.returned (z 2)) w
abbrev q1 (R:EP):XP:=QX (r0 R) (r0 R) []
theorem b1_ok (R:EP):TI prog R code (q1 R) fun z w=>b1 R (z 0) w:=ofT
def run (R:EP) (a0:Value) (w:World):Prop:=b1 R a0 w
theorem calls (R:EP) (a0:Value) (w:World) (h:run R a0 w):Calls prog id #[a0] w R:=cls_t func10 [a0] (b1_ok R _ w h)
theorem enters:Enters prog id:=fun args w=>call10 args w
theorem ct {a0:Value} {w:World} {S:VP} (h:∀R:EP,(∀v w,S v w→R (.returned v) w)→run R a0 w):Ct prog id #[a0] w S :=
 Ct.intro enters fun R hR=>calls R a0 w (h R hR)
attribute [irreducible,go_sem] b1_1 b1_2 b1_3 b1_4 b1_5 b1_6 b1_7 b1_8 b1_9 b1_10 b1 run
end law04_SpecPlain

/-! ### presage/presagelaw04.awake -/
namespace law04_awake
noncomputable def code:Code:=bodyOf f11
def b1_1 (R:EP) (w58:World) (_r:Tok R:=tok R):Prop :=
 CALL prog R spec_Bad.id #[(Value.string ⟨#[]⟩)] w58 fun v59 w60 =>
 RUN prog R (bins .eql 3 (.tmp 39) (.const (Value.int .i64 0)) v59 (Value.int .i64 0)) w60 fun v61 w62 =>
 R (.returned v61) w62
def b1_2 (R:EP) (v21:Value) (w52:World) (_r:Tok R:=tok R):Prop :=
 RUN prog R (fieldAt 31 v21 1) w52 fun v53 w54 =>
 RUN prog R (loadAt 3 v53) w54 fun v55 w56 =>
 RUN prog R (bins .eql 3 (.tmp 35) (.const (Value.int .i64 3)) v55 (Value.int .i64 3)) w56 fun v57 w58 =>
 SPL v57
 (b1_1 R w58)
 (R (.returned (Value.bool false)) w58)
def b1_3 (R:EP) (v21:Value) (w46:World) (_r:Tok R:=tok R):Prop :=
 RUN prog R (fieldAt 31 v21 0) w46 fun v47 w48 =>
 RUN prog R (loadAt 29 v47) w48 fun v49 w50 =>
 RUN prog R (bins .eql 29 (.tmp 30) (.const (Value.int .i64 10)) v49 (Value.int .i64 10)) w50 fun v51 w52 =>
 SPL v51
 (b1_2 R v21 w52)
 (R (.returned (Value.bool false)) w52)
def b1_4 (R:EP) (v7 v21:Value) (w38:World) (_r:Tok R:=tok R):Prop :=
 RUN prog R (fieldAt 28 v7 0) w38 fun v39 w40 =>
 RUN prog R (loadAt 23 v39) w40 fun v41 w42 =>
 RUN prog R (Builtin.len_ #[23] 3 #[v41]) w42 fun v43 w44 =>
 RUN prog R (bins .eql 3 (.tmp 25) (.const (Value.int .i64 3)) v43 (Value.int .i64 3)) w44 fun v45 w46 =>
 SPL v45
 (b1_3 R v21 w46)
 (R (.returned (Value.bool false)) w46)
def b1_5 (R:EP) (v7 v21:Value) (w30:World) (_r:Tok R:=tok R):Prop :=
 RUN prog R (fieldAt 28 v7 4) w30 fun v31 w32 =>
 RUN prog R (loadAt 26 v31) w32 fun v33 w34 =>
 RUN prog R (Builtin.len_ #[26] 3 #[v33]) w34 fun v35 w36 =>
 RUN prog R (bins .eql 3 (.tmp 19) (.const (Value.int .i64 2)) v35 (Value.int .i64 2)) w36 fun v37 w38 =>
 SPL v37
 (b1_4 R v7 v21 w38)
 (R (.returned (Value.bool false)) w38)
def b1_6 (R:EP) (v7 v9 v13:Value) (w14:World) (_r:Tok R:=tok R):Prop :=
 RUN prog R (extract v13 0) w14 fun v15 w16 =>
 RUN prog R (extract v13 1) w16 fun v17 w18 =>
 RUN prog R (alloc 28 true (.tuple #[])) w18 fun v19 w20 =>
 RUN prog R (alloc 31 true (.tuple #[])) w20 fun v21 w22 =>
 RUNU prog R (storeAt 28 v19 v15) w22 fun w23 =>
 RUNU prog R (storeAt 31 v21 v17) w23 fun w24 =>
 RUN prog R (fieldAt 31 v9 0) w24 fun v25 w26 =>
 RUN prog R (loadAt 29 v25) w26 fun v27 w28 =>
 RUN prog R (bins .eql 29 (.tmp 14) (.const (Value.int .i64 0)) v27 (Value.int .i64 0)) w28 fun v29 w30 =>
 SPL v29
 (b1_5 R v7 v21 w30)
 (R (.returned (Value.bool false)) w30)
def b1_7 (R:EP) (v1:Value) (w2:World) (_r:Tok R:=tok R):Prop :=
 RUN prog R (extract v1 0) w2 fun v3 w4 =>
 RUN prog R (extract v1 1) w4 fun v5 w6 =>
 RUN prog R (alloc 28 true (.tuple #[])) w6 fun v7 w8 =>
 RUN prog R (alloc 31 true (.tuple #[])) w8 fun v9 w10 =>
 RUNU prog R (storeAt 28 v7 v3) w10 fun w11 =>
 RUNU prog R (storeAt 31 v9 v5) w11 fun w12 =>
 CALL prog R spec_Read.id #[(Value.string ⟨#[115,32,58]⟩)] w12 fun v13 w14 =>
 b1_6 R v7 v9 v13 w14

def b1 (R:EP) (w:World) (_r:Tok R:=tok R):Prop :=
 CALL prog R spec_Read.id #[(Value.string ⟨#[101,32,58,32,101,32,39,43,39,32,110,32,124,32,110,32,59]⟩)] w fun v1 w2 =>
 b1_7 R v1 w2
abbrev r0 (R:EP) (z:Env) (w:World):Prop:=R (.returned (z 0)) w
abbrev q1 (R:EP):XP:=QX (r0 R) (r0 R) []
theorem b1_ok (R:EP):TI prog R code (q1 R) fun z w=>b1 R w:=ofT
def run (R:EP) (w:World):Prop:=b1 R w
theorem calls (R:EP) (w:World) (h:run R w):Calls prog id #[] w R:=cls_t func11 [] (b1_ok R _ w h)
theorem enters:Enters prog id:=fun args w=>call11 args w
theorem ct {w:World} {S:VP} (h:∀R:EP,(∀v w,S v w→R (.returned v) w)→run R w):Ct prog id #[] w S :=
 Ct.intro enters fun R hR=>calls R w (h R hR)
attribute [irreducible,go_sem] b1_1 b1_2 b1_3 b1_4 b1_5 b1_6 b1_7 b1 run
end law04_awake

/-! ### presage/presagelaw04.same -/
namespace law04_same
noncomputable def code:Code:=bodyOf f14
def b1_1 (R:EP) (v3:Value) (w34:World) (_r:Tok R:=tok R):Prop :=
 RUN prog R (fieldAt 31 v3 2) w34 fun v35 w36 =>
 RUN prog R (loadAt 24 v35) w36 fun v37 w38 =>
 RUN prog R (Builtin.len_ #[24] 3 #[v37]) w38 fun v39 w40 =>
 RUN prog R (bins .eql 3 (.tmp 31) (.const (Value.int .i64 0)) v39 (Value.int .i64 0)) w40 fun v41 w42 =>
 R (.returned v41) w42
def b1_2 (R:EP) (v3 v7:Value) (w24:World) (_r:Tok R:=tok R):Prop :=
 RUN prog R (fieldAt 31 v3 1) w24 fun v25 w26 =>
 RUN prog R (loadAt 3 v25) w26 fun v27 w28 =>
 RUN prog R (fieldAt 31 v7 1) w28 fun v29 w30 =>
 RUN prog R (loadAt 3 v29) w30 fun v31 w32 =>
 RUN prog R (bins .eql 3 (.tmp 23) (.tmp 25) v27 v31) w32 fun v33 w34 =>
 SPL v33
 (b1_1 R v3 w34)
 (R (.returned (Value.bool false)) w34)
def b1_3 (R:EP) (v3 v7:Value) (w14:World) (_r:Tok R:=tok R):Prop :=
 RUN prog R (fieldAt 31 v3 0) w14 fun v15 w16 =>
 RUN prog R (loadAt 29 v15) w16 fun v17 w18 =>
 RUN prog R (fieldAt 31 v7 0) w18 fun v19 w20 =>
 RUN prog R (loadAt 29 v19) w20 fun v21 w22 =>
 RUN prog R (bins .eql 29 (.tmp 16) (.tmp 18) v17 v21) w22 fun v23 w24 =>
 SPL v23
 (b1_2 R v3 v7 w24)
 (R (.returned (Value.bool false)) w24)
def b1 (R:EP) (x0 x1 x2 x3:Value) (w:World) (_r:Tok R:=tok R):Prop :=
 RUN prog R (box 28 x0) w fun v1 w2 =>
 RUN prog R (box 31 x1) w2 fun v3 w4 =>
 RUN prog R (box 28 x2) w4 fun v5 w6 =>
 RUN prog R (box 31 x3) w6 fun v7 w8 =>
 RUN prog R (loadAt 28 v1) w8 fun v9 w10 =>
 RUN prog R (loadAt 28 v5) w10 fun v11 w12 =>
 CALL prog R ref02_Same.id #[v9,v11] w12 fun v13 w14 =>
 SPL v13
 (b1_3 R v3 v7 w14)
 (R (.returned (Value.bool false)) w14)
abbrev r0 (R:EP) (z:Env) (w:World):Prop:=R (.returned (z 8)) w
abbrev q1 (R:EP):XP:=QX (r0 R) (r0 R) []
theorem b1_ok (R:EP):TI prog R code (q1 R) fun z w=>b1 R (z 0) (z 1) (z 2) (z 3) w:=ofT
def run (R:EP) (a0 a1 a2 a3:Value) (w:World):Prop:=b1 R a0 a1 a2 a3 w
theorem calls (R:EP) (a0 a1 a2 a3:Value) (w:World) (h:run R a0 a1 a2 a3 w):Calls prog id #[a0,a1,a2,a3] w R:=cls_t func14 [a0,a1,a2,a3] (b1_ok R _ w h)
theorem enters:Enters prog id:=fun args w=>call14 args w
theorem ct {a0 a1 a2 a3:Value} {w:World} {S:VP} (h:∀R:EP,(∀v w,S v w→R (.returned v) w)→run R a0 a1 a2 a3 w):Ct prog id #[a0,a1,a2,a3] w S :=
 Ct.intro enters fun R hR=>calls R a0 a1 a2 a3 w (h R hR)
attribute [irreducible,go_sem] b1_1 b1_2 b1_3 b1 run
end law04_same

/-! ### presage/presagelaw04.alike -/
namespace law04_alike
noncomputable def code:Code:=bodyOf f23
def b1_1 (R:EP) (v9 v21:Value) (w40:World) (_r:Tok R:=tok R):Prop :=
 RUN prog R (fieldAt 31 v9 1) w40 fun v41 w42 =>
 RUN prog R (loadAt 3 v41) w42 fun v43 w44 =>
 RUN prog R (fieldAt 31 v21 1) w44 fun v45 w46 =>
 RUN prog R (loadAt 3 v45) w46 fun v47 w48 =>
 RUN prog R (bins .eql 3 (.tmp 33) (.tmp 35) v43 v47) w48 fun v49 w50 =>
 R (.returned v49) w50
def b1_2 (R:EP) (v9 v21:Value) (w30:World) (_r:Tok R:=tok R):Prop :=
 RUN prog R (fieldAt 31 v9 0) w30 fun v31 w32 =>
 RUN prog R (loadAt 29 v31) w32 fun v33 w34 =>
 RUN prog R (fieldAt 31 v21 0) w34 fun v35 w36 =>
 RUN prog R (loadAt 29 v35) w36 fun v37 w38 =>
 RUN prog R (bins .eql 29 (.tmp 26) (.tmp 28) v33 v37) w38 fun v39 w40 =>
 SPL v39
 (b1_1 R v9 v21 w40)
 (R (.returned (Value.bool false)) w40)
def b1_3 (R:EP) (v7 v9 v13:Value) (w14:World) (_r:Tok R:=tok R):Prop :=
 RUN prog R (extract v13 0) w14 fun v15 w16 =>
 RUN prog R (extract v13 1) w16 fun v17 w18 =>
 RUN prog R (alloc 28 true (.tuple #[])) w18 fun v19 w20 =>
 RUN prog R (alloc 31 true (.tuple #[])) w20 fun v21 w22 =>
 RUNU prog R (storeAt 28 v19 v15) w22 fun w23 =>
 RUNU prog R (storeAt 31 v21 v17) w23 fun w24 =>
 RUN prog R (loadAt 28 v7) w24 fun v25 w26 =>
 RUN prog R (loadAt 28 v19) w26 fun v27 w28 =>
 CALL prog R ref02_Same.id #[v25,v27] w28 fun v29 w30 =>
 SPL v29
 (b1_2 R v9 v21 w30)
 (R (.returned (Value.bool false)) w30)
def b1_4 (R:EP) (x1 v1:Value) (w2:World) (_r:Tok R:=tok R):Prop :=
 RUN prog R (extract v1 0) w2 fun v3 w4 =>
 RUN prog R (extract v1 1) w4 fun v5 w6 =>
 RUN prog R (alloc 28 true (.tuple #[])) w6 fun v7 w8 =>
 RUN prog R (alloc 31 true (.tuple #[])) w8 fun v9 w10 =>
 RUNU prog R (storeAt 28 v7 v3) w10 fun w11 =>
 RUNU prog R (storeAt 31 v9 v5) w11 fun w12 =>
 CALL prog R spec_Read.id #[x1] w12 fun v13 w14 =>
 b1_3 R v7 v9 v13 w14
def b1 (R:EP) (x0 x1:Value) (w:World) (_r:Tok R:=tok R):Prop :=
 CALL prog R spec_Read.id #[x0] w fun v1 w2 =>
 b1_4 R x1 v1 w2
abbrev r0 (R:EP) (z:Env) (w:World):Prop:=R (.returned (z 4)) w
abbrev q1 (R:EP):XP:=QX (r0 R) (r0 R) []
theorem b1_ok (R:EP):TI prog R code (q1 R) fun z w=>b1 R (z 0) (z 1) w:=ofT
def run (R:EP) (a0 a1:Value) (w:World):Prop:=b1 R a0 a1 w
theorem calls (R:EP) (a0 a1:Value) (w:World) (h:run R a0 a1 w):Calls prog id #[a0,a1] w R:=cls_t func23 [a0,a1] (b1_ok R _ w h)
theorem enters:Enters prog id:=fun args w=>call23 args w
theorem ct {a0 a1:Value} {w:World} {S:VP} (h:∀R:EP,(∀v w,S v w→R (.returned v) w)→run R a0 a1 w):Ct prog id #[a0,a1] w S :=
 Ct.intro enters fun R hR=>calls R a0 a1 w (h R hR)
attribute [irreducible,go_sem] b1_1 b1_2 b1_3 b1_4 b1 run
end law04_alike
end Go.Proofs.YtckbgeedlobfaaaDoor
