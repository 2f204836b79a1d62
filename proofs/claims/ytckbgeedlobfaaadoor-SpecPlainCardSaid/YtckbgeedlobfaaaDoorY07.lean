/-
  Texts of this claim: T02Lib2, T02R2, T02G, T02Lib, T02R.
-/
import Derived.Test.YtckbgeedlobfaaaDoorY04
set_option linter.unusedVariables false
set_option maxRecDepth 100000
/- Shallow programs, written by a program of ours (gen.py) off the translation; each is tied to the code by the kernel. -/
namespace Go.Proofs.YtckbgeedlobfaaaDoor
open Go.Px Tryd Instr

/-! ### slices.IsSorted[[]int,int] -/
namespace slices_IsSorted_int_int
noncomputable def code:Code:=bodyOf f39
noncomputable abbrev p1:Code:=dropC 1 code

def b3 (R:EP) (w:World) (_r:Tok R:=tok R):Prop :=
 R (.returned (Value.bool true)) w
abbrev r0 (R:EP) (z:Env) (w:World):Prop:=R (.returned (z 2)) w
abbrev q1 (R:EP):XP:=QX (r0 R) (r0 R) []
theorem b3_ok (R:EP):TI prog R (sndC p1) (q1 R) fun z w=>b3 R w:=ofT
noncomputable abbrev p2:Code:=dropC 1 (fstC p1)
noncomputable abbrev p3:Code:=loopC (blkC p2)
def b7_1 (R:EP) (C6:VP) (x0 x3:Value) (w2:World) (_r:Tok R:=tok R) (_C6:Tok C6:=tok C6):Prop :=
 PUR prog (indexAt 25 x0 x3) fun v3 =>
 LD prog (loadAt 3 v3) (World.drew w2) fun v4 =>
 PUR prog (bins .sub 3 (.tmp 16) (.const (Value.int .i64 1)) x3 (Value.int .i64 1)) fun v5 =>
 PUR prog (indexAt 25 x0 v5) fun v6 =>
 LD prog (loadAt 3 v6) (World.drew w2) fun v7 =>
 CALL prog R cmp_Less_int.id #[v4,v7] (World.drew w2) fun v8 w9 =>
 SPL v8
 (R (.returned (Value.bool false)) w9)
 (RUN prog R (bins .sub 3 (.tmp 9) (.const (Value.int .i64 1)) x3 (Value.int .i64 1)) w9 fun v10 w11 =>
 C6 v10 w11)
def b7 (R:EP) (C6:VP) (x0 x3:Value) (w:World) (_r:Tok R:=tok R) (_C6:Tok C6:=tok C6):Prop :=
 RUN prog R (bins .gtr 3 (.tmp 7) (.const (Value.int .i64 0)) x3 (Value.int .i64 0)) w fun v1 w2 =>
 SPL v1
 (b7_1 R C6 x0 x3 w2)
 (b3 R w2)
abbrev q2 (R:EP) (C6:VP):XP:=QX (fun z w=>C6 (z 3) w) (r0 R) [(0,(fun z w=>b3 R  w))]
theorem b7_ok (R:EP) (C6:VP):TI prog R p3 (q2 R C6) fun z w=>b7 R C6 (z 0) (z 3) w:=ofT
def l6 (R:EP) (x0 x3:Value) (w:World) (_r:Tok R:=tok R):Prop :=
 ∃(J:VP) (μ:Value→World→Nat),J x3 w∧∀y3 w0,J y3 w0→b7 R (fun z3 w1=>J z3 w1∧μ z3 w1<μ y3 w0) x0 y3 w0
abbrev q3 (R:EP):XP:=QX (fun z w=>b3 R  w) (r0 R) [(0,(fun z w=>b3 R  w))]
theorem l6_ok (R:EP):TI prog R (blkC p2) (q3 R) fun z w=>l6 R (z 0) (z 3) w:=fun z w h=>by
 unfold l6 at h
 obtain ⟨J,μ,h0,hr⟩:=h
 refine loopT (fun z' w'=>J (z' 3) w') (fun z' w'=>μ (z' 3) w') h0 fun z' w' hA hI=>b7_ok R (fun z3 w1=>J z3 w1∧μ z3 w1<μ (z' 3) w') z' w' ?_
 have h1:=hr (z' 3) w' hI
 rwa [←hA.on 0] at h1
theorem l6_intro (R:EP) (x0 x3:Value) (w:World) (J:VP) (μ:Value→World→Nat) (h0:J x3 w)
   (hr:∀y3 w0,J y3 w0→∀C6:VP,(∀z3 w1,J z3 w1→μ z3 w1<μ y3 w0→C6 z3 w1)→b7 R C6 x0 y3 w0):l6 R x0 x3 w:=by
 unfold l6
 exact ⟨J,μ,h0,fun y3 w0 hJ=>hr y3 w0 hJ _ (fun z3 w1 h1 h2=>⟨h1,h2⟩)⟩
abbrev q4 (R:EP):XP:=QX (fun z w=>b3 R  w) (r0 R) []
theorem k5_ok (R:EP):TI prog R p2 (q4 R) fun z w=>l6 R (z 0) (z 3) w:=blockT 0 (l6_ok R)
def b4 (R:EP) (x0:Value) (w:World) (_r:Tok R:=tok R):Prop :=
 RUN prog R (Builtin.len_ #[25] 3 #[x0]) w fun v1 w2 =>
 RUN prog R (bins .sub 3 (.tmp 5) (.const (Value.int .i64 1)) v1 (Value.int .i64 1)) w2 fun v3 w4 =>
 l6 R x0 v3 w4
theorem b4_ok (R:EP):TI prog R (fstC p1) (q4 R) fun z w=>b4 R (z 0) w:=appT 0 (k5_ok R)
theorem k2_ok (R:EP):TI prog R p1 (q1 R) fun z w=>b4 R (z 0) w:=seqT (b4_ok R) (b3_ok R)
def b1 (R:EP) (x0:Value) (w:World) (_r:Tok R:=tok R):Prop :=
 b4 R x0 w
theorem b1_ok (R:EP):TI prog R code (q1 R) fun z w=>b1 R (z 0) w:=appT 0 (k2_ok R)
def run (R:EP) (a0:Value) (w:World):Prop:=b1 R a0 w
theorem calls (R:EP) (a0:Value) (w:World) (h:run R a0 w):Calls prog id #[a0] w R:=cls_t func39 [a0] (b1_ok R _ w h)
theorem enters:Enters prog id:=fun args w=>call39 args w
theorem ct {a0:Value} {w:World} {S:VP} (h:∀R:EP,(∀v w,S v w→R (.returned v) w)→run R a0 w):Ct prog id #[a0] w S :=
 Ct.intro enters fun R hR=>calls R a0 w (h R hR)
attribute [irreducible] l6
attribute [irreducible,go_sem] b3 b7_1 b7 b4 b1 run
end slices_IsSorted_int_int

/-! ### slices.Contains[[]int,int] -/
namespace slices_Contains_int_int
noncomputable def code:Code:=bodyOf f68
def b1 (R:EP) (x0 x1:Value) (w:World) (_r:Tok R:=tok R):Prop :=
 CALL prog R slices_Index_int_int.id #[x0,x1] w fun v1 w2 =>
 RUN prog R (bins .geq 3 (.tmp 7) (.const (Value.int .i64 0)) v1 (Value.int .i64 0)) w2 fun v3 w4 =>
 R (.returned v3) w4
abbrev r0 (R:EP) (z:Env) (w:World):Prop:=R (.returned (z 4)) w
abbrev q1 (R:EP):XP:=QX (r0 R) (r0 R) []
theorem b1_ok (R:EP):TI prog R code (q1 R) fun z w=>b1 R (z 0) (z 1) w:=ofT
def run (R:EP) (a0 a1:Value) (w:World):Prop:=b1 R a0 a1 w
theorem calls (R:EP) (a0 a1:Value) (w:World) (h:run R a0 a1 w):Calls prog id #[a0,a1] w R:=cls_t func68 [a0,a1] (b1_ok R _ w h)
theorem enters:Enters prog id:=fun args w=>call68 args w
theorem ct {a0 a1:Value} {w:World} {S:VP} (h:∀R:EP,(∀v w,S v w→R (.returned v) w)→run R a0 a1 w):Ct prog id #[a0,a1] w S :=
 Ct.intro enters fun R hR=>calls R a0 a1 w (h R hR)
attribute [irreducible,go_sem] b1 run
end slices_Contains_int_int

/-! ### cmp.Less[int] -/
namespace cmp_Less_int
noncomputable def code:Code:=bodyOf f69
def b1_1 (R:EP) (x0 x1 v3:Value) (w4:World) (_r:Tok R:=tok R):Prop :=
 RUN prog R (Op.unary .not v3) w4 fun v5 w6 =>
 SPL v5
 (R (.returned (Value.bool true)) w6)
 (RUN prog R (bins .lss 3 (.tmp 13) (.tmp 14) x0 x1) w6 fun v7 w8 =>
 R (.returned v7) w8)
def b1_2 (R:EP) (x0 x1 v1:Value) (w2:World) (_r:Tok R:=tok R):Prop :=
 SPL v1
 (CALL prog R cmp_isNaN_int.id #[x1] w2 fun v3 w4 =>
 b1_1 R x0 x1 v3 w4)
 (RUN prog R (bins .lss 3 (.tmp 13) (.tmp 14) x0 x1) w2 fun v9 w10 =>
 R (.returned v9) w10)
def b1 (R:EP) (x0 x1:Value) (w:World) (_r:Tok R:=tok R):Prop :=
 CALL prog R cmp_isNaN_int.id #[x0] w fun v1 w2 =>
 b1_2 R x0 x1 v1 w2
abbrev r0 (R:EP) (z:Env) (w:World):Prop:=R (.returned (z 4)) w
abbrev q1 (R:EP):XP:=QX (r0 R) (r0 R) []
theorem b1_ok (R:EP):TI prog R code (q1 R) fun z w=>b1 R (z 0) (z 1) w:=ofT
def run (R:EP) (a0 a1:Value) (w:World):Prop:=b1 R a0 a1 w
theorem calls (R:EP) (a0 a1:Value) (w:World) (h:run R a0 a1 w):Calls prog id #[a0,a1] w R:=cls_t func69 [a0,a1] (b1_ok R _ w h)
theorem enters:Enters prog id:=fun args w=>call69 args w
theorem ct {a0 a1:Value} {w:World} {S:VP} (h:∀R:EP,(∀v w,S v w→R (.returned v) w)→run R a0 a1 w):Ct prog id #[a0,a1] w S :=
 Ct.intro enters fun R hR=>calls R a0 a1 w (h R hR)
attribute [irreducible,go_sem] b1_1 b1_2 b1 run
end cmp_Less_int

/-! ### slices.Index[[]int,int] -/
namespace slices_Index_int_int
noncomputable def code:Code:=bodyOf f93
noncomputable abbrev p1:Code:=dropC 1 code

def b3 (R:EP) (w:World) (_r:Tok R:=tok R):Prop :=
 R (.returned (Value.int .i64 (-1))) w
abbrev r0 (R:EP) (z:Env) (w:World):Prop:=R (.returned (z 4)) w
abbrev q1 (R:EP):XP:=QX (r0 R) (r0 R) []
theorem b3_ok (R:EP):TI prog R (sndC p1) (q1 R) fun z w=>b3 R w:=ofT
noncomputable abbrev p2:Code:=dropC 1 (fstC p1)
noncomputable abbrev p3:Code:=loopC (blkC p2)
def b7_1 (R:EP) (C6:VP) (x0 x1 x8:Value) (w2:World) (_r:Tok R:=tok R) (_C6:Tok C6:=tok C6):Prop :=
 RUN prog R (indexAt 25 x0 x8) w2 fun v3 w4 =>
 RUN prog R (loadAt 3 v3) w4 fun v5 w6 =>
 RUN prog R (bins .eql 3 (.tmp 11) (.tmp 15) x1 v5) w6 fun v7 w8 =>
 SPL v7
 (R (.returned x8) w8)
 (RUN prog R (bins .add 3 (.tmp 8) (.const (Value.int .i64 1)) x8 (Value.int .i64 1)) w8 fun v9 w10 =>
 C6 v9 w10)
def b7 (R:EP) (C6:VP) (x0 x1 x7 x8:Value) (w:World) (_r:Tok R:=tok R) (_C6:Tok C6:=tok C6):Prop :=
 RUN prog R (bins .lss 3 (.tmp 8) (.tmp 7) x8 x7) w fun v1 w2 =>
 SPL v1
 (b7_1 R C6 x0 x1 x8 w2)
 (b3 R w2)
abbrev q2 (R:EP) (C6:VP):XP:=QX (fun z w=>C6 (z 8) w) (r0 R) [(0,(fun z w=>b3 R  w))]
theorem b7_ok (R:EP) (C6:VP):TI prog R p3 (q2 R C6) fun z w=>b7 R C6 (z 0) (z 1) (z 7) (z 8) w:=ofT
def l6 (R:EP) (x0 x1 x7 x8:Value) (w:World) (_r:Tok R:=tok R):Prop :=
 ∃(J:VP) (μ:Value→World→Nat),J x8 w∧∀y8 w0,J y8 w0→b7 R (fun z8 w1=>J z8 w1∧μ z8 w1<μ y8 w0) x0 x1 x7 y8 w0
abbrev q3 (R:EP):XP:=QX (fun z w=>b3 R  w) (r0 R) [(0,(fun z w=>b3 R  w))]
theorem l6_ok (R:EP):TI prog R (blkC p2) (q3 R) fun z w=>l6 R (z 0) (z 1) (z 7) (z 8) w:=fun z w h=>by
 unfold l6 at h
 obtain ⟨J,μ,h0,hr⟩:=h
 refine loopT (fun z' w'=>J (z' 8) w') (fun z' w'=>μ (z' 8) w') h0 fun z' w' hA hI=>b7_ok R (fun z8 w1=>J z8 w1∧μ z8 w1<μ (z' 8) w') z' w' ?_
 have h1:=hr (z' 8) w' hI
 rwa [←hA.on 0,←hA.on 1,←hA.on 7] at h1
theorem l6_intro (R:EP) (x0 x1 x7 x8:Value) (w:World) (J:VP) (μ:Value→World→Nat) (h0:J x8 w)
   (hr:∀y8 w0,J y8 w0→∀C6:VP,(∀z8 w1,J z8 w1→μ z8 w1<μ y8 w0→C6 z8 w1)→b7 R C6 x0 x1 x7 y8 w0):l6 R x0 x1 x7 x8 w:=by
 unfold l6
 exact ⟨J,μ,h0,fun y8 w0 hJ=>hr y8 w0 hJ _ (fun z8 w1 h1 h2=>⟨h1,h2⟩)⟩
abbrev q4 (R:EP):XP:=QX (fun z w=>b3 R  w) (r0 R) []
theorem k5_ok (R:EP):TI prog R p2 (q4 R) fun z w=>l6 R (z 0) (z 1) (z 7) (z 8) w:=blockT 0 (l6_ok R)
def b4 (R:EP) (x0 x1:Value) (w:World) (_r:Tok R:=tok R):Prop :=
 RUN prog R (Builtin.len_ #[25] 3 #[x0]) w fun v1 w2 =>
 l6 R x0 x1 v1 (Value.int .i64 0) w2
theorem b4_ok (R:EP):TI prog R (fstC p1) (q4 R) fun z w=>b4 R (z 0) (z 1) w:=appT 0 (k5_ok R)
theorem k2_ok (R:EP):TI prog R p1 (q1 R) fun z w=>b4 R (z 0) (z 1) w:=seqT (b4_ok R) (b3_ok R)
def b1 (R:EP) (x0 x1:Value) (w:World) (_r:Tok R:=tok R):Prop :=
 b4 R x0 x1 w
theorem b1_ok (R:EP):TI prog R code (q1 R) fun z w=>b1 R (z 0) (z 1) w:=appT 0 (k2_ok R)
def run (R:EP) (a0 a1:Value) (w:World):Prop:=b1 R a0 a1 w
theorem calls (R:EP) (a0 a1:Value) (w:World) (h:run R a0 a1 w):Calls prog id #[a0,a1] w R:=cls_t func93 [a0,a1] (b1_ok R _ w h)
theorem enters:Enters prog id:=fun args w=>call93 args w
theorem ct {a0 a1:Value} {w:World} {S:VP} (h:∀R:EP,(∀v w,S v w→R (.returned v) w)→run R a0 a1 w):Ct prog id #[a0,a1] w S :=
 Ct.intro enters fun R hR=>calls R a0 a1 w (h R hR)
attribute [irreducible] l6
attribute [irreducible,go_sem] b3 b7_1 b7 b4 b1 run
end slices_Index_int_int

/-! ### cmp.isNaN[int] -/
namespace cmp_isNaN_int
noncomputable def code:Code:=bodyOf f94
def b1 (R:EP) (x0:Value) (w:World) (_r:Tok R:=tok R):Prop :=
 RUN prog R (bins .neq 3 (.tmp 3) (.tmp 4) x0 x0) w fun v1 w2 =>
 R (.returned v1) w2
abbrev r0 (R:EP) (z:Env) (w:World):Prop:=R (.returned (z 2)) w
abbrev q1 (R:EP):XP:=QX (r0 R) (r0 R) []
theorem b1_ok (R:EP):TI prog R code (q1 R) fun z w=>b1 R (z 0) w:=ofT
def run (R:EP) (a0:Value) (w:World):Prop:=b1 R a0 w
theorem calls (R:EP) (a0:Value) (w:World) (h:run R a0 w):Calls prog id #[a0] w R:=cls_t func94 [a0] (b1_ok R _ w h)
theorem enters:Enters prog id:=fun args w=>call94 args w
theorem ct {a0:Value} {w:World} {S:VP} (h:∀R:EP,(∀v w,S v w→R (.returned v) w)→run R a0 w):Ct prog id #[a0] w S :=
 Ct.intro enters fun R hR=>calls R a0 w (h R hR)
attribute [irreducible,go_sem] b1 run
end cmp_isNaN_int
end Go.Proofs.YtckbgeedlobfaaaDoor

/- Shallow programs, written by a program of ours (gen.py) off the translation; each is tied to the code by the kernel. -/
namespace Go.Proofs.YtckbgeedlobfaaaDoor
open Go.Px Tryd Instr

/-! ### presage/presageref02.Same -/
namespace ref02_Same
noncomputable def code:Code:=bodyOf f20
noncomputable abbrev p1:Code:=dropC 2 code
noncomputable abbrev p2:Code:=sndC (sndC p1)
noncomputable abbrev p3:Code:=sndC (sndC p2)

def b6 (R:EP) (w:World) (_r:Tok R:=tok R):Prop :=
 R (.returned (Value.bool true)) w
abbrev r0 (R:EP) (z:Env) (w:World):Prop:=R (.returned (z 4)) w
abbrev q1 (R:EP):XP:=QX (r0 R) (r0 R) []
theorem b6_ok (R:EP):TI prog R p3 (q1 R) fun z w=>b6 R w:=ofT
noncomputable abbrev p4:Code:=fstC (sndC p2)
noncomputable abbrev p5:Code:=dropC 1 p4
noncomputable abbrev p6:Code:=loopC (blkC p5)
noncomputable abbrev p7:Code:=dropC 1 p6

def b12 (R:EP) (C9:VP) (x8:Value) (w:World) (_r:Tok R:=tok R) (_C9:Tok C9:=tok C9):Prop :=
 RUN prog R (bins .add 3 (.tmp 94) (.const (Value.int .i64 1)) x8 (Value.int .i64 1)) w fun v1 w2 =>
 C9 v1 w2
abbrev q2 (R:EP) (C9:VP):XP:=QX (fun z w=>C9 (z 8) w) (r0 R) [(8,(fun z w=>b6 R  w))]
theorem b12_ok (R:EP) (C9:VP):TI prog R (sndC p7) (q2 R C9) fun z w=>b12 R C9 (z 8) w:=ofT
noncomputable abbrev p8:Code:=blkC (fstC p7)
noncomputable abbrev p9:Code:=dropC 4 p8

def b15 (R:EP) (C9:VP) (x8 x126:Value) (w:World) (_r:Tok R:=tok R) (_C9:Tok C9:=tok C9):Prop :=
 SPL x126
 (R (.returned (Value.bool false)) w)
 (b12 R C9 x8 w)
abbrev q3 (R:EP) (C9:VP):XP:=QX (fun z w=>b12 R C9 (z 8) w) (r0 R) [(10,(fun z w=>b12 R C9 (z 8) w)),(8,(fun z w=>b6 R  w))]
theorem b15_ok (R:EP) (C9:VP):TI prog R p9 (q3 R C9) fun z w=>b15 R C9 (z 8) (z 126) w:=ofT
def b14_1 (R:EP) (C9:VP) (x8 v9 v20:Value) (w44:World) (_r:Tok R:=tok R) (_C9:Tok C9:=tok C9):Prop :=
 RUN prog R (fieldAt 37 v9 2) w44 fun v45 w46 =>
 RUN prog R (loadAt 3 v45) w46 fun v47 w48 =>
 RUN prog R (fieldAt 37 v20 2) w48 fun v49 w50 =>
 RUN prog R (loadAt 3 v49) w50 fun v51 w52 =>
 RUN prog R (bins .neq 3 (.tmp 122) (.tmp 124) v47 v51) w52 fun v53 w54 =>
 b15 R C9 x8 v53 w54
def b14_2 (R:EP) (C9:VP) (x8 v9 v20:Value) (w34:World) (_r:Tok R:=tok R) (_C9:Tok C9:=tok C9):Prop :=
 RUN prog R (fieldAt 37 v9 0) w34 fun v35 w36 =>
 RUN prog R (loadAt 3 v35) w36 fun v37 w38 =>
 RUN prog R (fieldAt 37 v20 0) w38 fun v39 w40 =>
 RUN prog R (loadAt 3 v39) w40 fun v41 w42 =>
 RUN prog R (bins .neq 3 (.tmp 115) (.tmp 117) v37 v41) w42 fun v43 w44 =>
 SPL v43
 (b15 R C9 x8 (Value.bool true) w44)
 (b14_1 R C9 x8 v9 v20 w44)

def b14 (R:EP) (C9:VP) (x2 x3 x8:Value) (w:World) (_r:Tok R:=tok R) (_C9:Tok C9:=tok C9):Prop :=
 RUN prog R (fieldAt 28 x2 4) w fun v1 w2 =>
 RUN prog R (loadAt 26 v1) w2 fun v3 w4 =>
 RUN prog R (indexAt 26 v3 x8) w4 fun v5 w6 =>
 RUN prog R (loadAt 37 v5) w6 fun v7 w8 =>
 RUN prog R (alloc 37 true (.tuple #[])) w8 fun v9 w10 =>
 RUNU prog R (storeAt 37 v9 v7) w10 fun w11 =>
 RUN prog R (fieldAt 28 x3 4) w11 fun v12 w13 =>
 RUN prog R (loadAt 26 v12) w13 fun v14 w15 =>
 RUN prog R (indexAt 26 v14 x8) w15 fun v16 w17 =>
 RUN prog R (loadAt 37 v16) w17 fun v18 w19 =>
 RUN prog R (alloc 37 true (.tuple #[])) w19 fun v20 w21 =>
 RUNU prog R (storeAt 37 v20 v18) w21 fun w22 =>
 RUN prog R (fieldAt 37 v9 1) w22 fun v23 w24 =>
 RUN prog R (loadAt 25 v23) w24 fun v25 w26 =>
 RUN prog R (fieldAt 37 v20 1) w26 fun v27 w28 =>
 RUN prog R (loadAt 25 v27) w28 fun v29 w30 =>
 CALL prog R ref02_SameInts.id #[v25,v29] w30 fun v31 w32 =>
 RUN prog R (Op.unary .not v31) w32 fun v33 w34 =>
 SPL v33
 (b15 R C9 x8 (Value.bool true) w34)
 (b14_2 R C9 x8 v9 v20 w34)
theorem b14_ok (R:EP) (C9:VP):TI prog R p8 (q3 R C9) fun z w=>b14 R C9 (z 2) (z 3) (z 8) w:=appT 3 (b15_ok R C9)
abbrev q4 (R:EP) (C9:VP):XP:=QX (fun z w=>b12 R C9 (z 8) w) (r0 R) [(8,(fun z w=>b6 R  w))]
theorem k13_ok (R:EP) (C9:VP):TI prog R (fstC p7) (q4 R C9) fun z w=>b14 R C9 (z 2) (z 3) (z 8) w:=blockT 5 (b14_ok R C9)
theorem k11_ok (R:EP) (C9:VP):TI prog R p7 (q2 R C9) fun z w=>b14 R C9 (z 2) (z 3) (z 8) w:=seqT (k13_ok R C9) (b12_ok R C9)

def b10 (R:EP) (C9:VP) (x2 x3 x8:Value) (w:World) (_r:Tok R:=tok R) (_C9:Tok C9:=tok C9):Prop :=
 RUN prog R (fieldAt 28 x2 4) w fun v1 w2 =>
 RUN prog R (loadAt 26 v1) w2 fun v3 w4 =>
 RUN prog R (Builtin.len_ #[26] 3 #[v3]) w4 fun v5 w6 =>
 RUN prog R (bins .lss 3 (.tmp 89) (.tmp 92) x8 v5) w6 fun v7 w8 =>
 SPL v7
 (b14 R C9 x2 x3 x8 w8)
 (b6 R w8)
theorem b10_ok (R:EP) (C9:VP):TI prog R p6 (q2 R C9) fun z w=>b10 R C9 (z 2) (z 3) (z 8) w:=appT 0 (k11_ok R C9)

def l9 (R:EP) (x2 x3 x8:Value) (w:World) (_r:Tok R:=tok R):Prop :=
 ∃(J:VP) (μ:Value→World→Nat),J x8 w∧∀y8 w0,J y8 w0→b10 R (fun z8 w1=>J z8 w1∧μ z8 w1<μ y8 w0) x2 x3 y8 w0
abbrev q5 (R:EP):XP:=QX (fun z w=>b6 R  w) (r0 R) [(8,(fun z w=>b6 R  w))]
theorem l9_ok (R:EP):TI prog R (blkC p5) (q5 R) fun z w=>l9 R (z 2) (z 3) (z 8) w:=fun z w h=>by
 unfold l9 at h
 obtain ⟨J,μ,h0,hr⟩:=h
 refine loopT (fun z' w'=>J (z' 8) w') (fun z' w'=>μ (z' 8) w') h0 fun z' w' hA hI=>b10_ok R (fun z8 w1=>J z8 w1∧μ z8 w1<μ (z' 8) w') z' w' ?_
 have h1:=hr (z' 8) w' hI
 rwa [←hA.on 2,←hA.on 3] at h1
theorem l9_intro (R:EP) (x2 x3 x8:Value) (w:World) (J:VP) (μ:Value→World→Nat) (h0:J x8 w)
   (hr:∀y8 w0,J y8 w0→∀C9:VP,(∀z8 w1,J z8 w1→μ z8 w1<μ y8 w0→C9 z8 w1)→b10 R C9 x2 x3 y8 w0):l9 R x2 x3 x8 w:=by
 unfold l9
 exact ⟨J,μ,h0,fun y8 w0 hJ=>hr y8 w0 hJ _ (fun z8 w1 h1 h2=>⟨h1,h2⟩)⟩
abbrev q6 (R:EP):XP:=QX (fun z w=>b6 R  w) (r0 R) []
theorem k8_ok (R:EP):TI prog R p5 (q6 R) fun z w=>l9 R (z 2) (z 3) (z 8) w:=blockT 4 (l9_ok R)

def b7 (R:EP) (x2 x3:Value) (w:World) (_r:Tok R:=tok R):Prop :=
 l9 R x2 x3 (Value.int .i64 0) w
theorem b7_ok (R:EP):TI prog R p4 (q6 R) fun z w=>b7 R (z 2) (z 3) w:=appT 0 (k8_ok R)
theorem k5_ok (R:EP):TI prog R (sndC p2) (q1 R) fun z w=>b7 R (z 2) (z 3) w:=seqT (b7_ok R) (b6_ok R)
noncomputable abbrev p10:Code:=dropC 1 (fstC p2)
noncomputable abbrev p11:Code:=loopC (blkC p10)
def b19_1 (R:EP) (C18:VP) (x2 x3 x7:Value) (w8:World) (_r:Tok R:=tok R) (_C18:Tok C18:=tok C18):Prop :=
 PUR prog (fieldAt 28 x2 1) fun v9 =>
 LD prog (loadAt 24 v9) (World.drew w8) fun v10 =>
 PUR prog (indexAt 24 v10 x7) fun v11 =>
 LD prog (loadAt 9 v11) (World.drew w8) fun v12 =>
 PUR prog (fieldAt 28 x3 1) fun v13 =>
 LD prog (loadAt 24 v13) (World.drew w8) fun v14 =>
 PUR prog (indexAt 24 v14 x7) fun v15 =>
 LD prog (loadAt 9 v15) (World.drew w8) fun v16 =>
 PUR prog (bins .neq 9 (.tmp 82) (.tmp 87) v12 v16) fun v17 =>
 SPL v17
 (R (.returned (Value.bool false)) (World.drew w8))
 (RUN prog R (bins .add 3 (.tmp 76) (.const (Value.int .i64 1)) x7 (Value.int .i64 1)) (World.drew w8) fun v18 w19 =>
 C18 v18 w19)

def b19 (R:EP) (C18:VP) (x2 x3 x7:Value) (w:World) (_r:Tok R:=tok R) (_C18:Tok C18:=tok C18):Prop :=
 RUN prog R (fieldAt 28 x2 1) w fun v1 w2 =>
 RUN prog R (loadAt 24 v1) w2 fun v3 w4 =>
 RUN prog R (Builtin.len_ #[24] 3 #[v3]) w4 fun v5 w6 =>
 RUN prog R (bins .lss 3 (.tmp 71) (.tmp 74) x7 v5) w6 fun v7 w8 =>
 SPL v7
 (b19_1 R C18 x2 x3 x7 w8)
 (b7 R x2 x3 w8)
abbrev q7 (R:EP) (C18:VP):XP:=QX (fun z w=>C18 (z 7) w) (r0 R) [(4,(fun z w=>b7 R (z 2) (z 3) w))]
theorem b19_ok (R:EP) (C18:VP):TI prog R p11 (q7 R C18) fun z w=>b19 R C18 (z 2) (z 3) (z 7) w:=ofT

def l18 (R:EP) (x2 x3 x7:Value) (w:World) (_r:Tok R:=tok R):Prop :=
 ∃(J:VP) (μ:Value→World→Nat),J x7 w∧∀y7 w0,J y7 w0→b19 R (fun z7 w1=>J z7 w1∧μ z7 w1<μ y7 w0) x2 x3 y7 w0
abbrev q8 (R:EP):XP:=QX (fun z w=>b7 R (z 2) (z 3) w) (r0 R) [(4,(fun z w=>b7 R (z 2) (z 3) w))]
theorem l18_ok (R:EP):TI prog R (blkC p10) (q8 R) fun z w=>l18 R (z 2) (z 3) (z 7) w:=fun z w h=>by
 unfold l18 at h
 obtain ⟨J,μ,h0,hr⟩:=h
 refine loopT (fun z' w'=>J (z' 7) w') (fun z' w'=>μ (z' 7) w') h0 fun z' w' hA hI=>b19_ok R (fun z7 w1=>J z7 w1∧μ z7 w1<μ (z' 7) w') z' w' ?_
 have h1:=hr (z' 7) w' hI
 rwa [←hA.on 2,←hA.on 3] at h1
theorem l18_intro (R:EP) (x2 x3 x7:Value) (w:World) (J:VP) (μ:Value→World→Nat) (h0:J x7 w)
   (hr:∀y7 w0,J y7 w0→∀C18:VP,(∀z7 w1,J z7 w1→μ z7 w1<μ y7 w0→C18 z7 w1)→b19 R C18 x2 x3 y7 w0):l18 R x2 x3 x7 w:=by
 unfold l18
 exact ⟨J,μ,h0,fun y7 w0 hJ=>hr y7 w0 hJ _ (fun z7 w1 h1 h2=>⟨h1,h2⟩)⟩
abbrev q9 (R:EP):XP:=QX (fun z w=>b7 R (z 2) (z 3) w) (r0 R) []
theorem k17_ok (R:EP):TI prog R p10 (q9 R) fun z w=>l18 R (z 2) (z 3) (z 7) w:=blockT 2 (l18_ok R)

def b16 (R:EP) (x2 x3:Value) (w:World) (_r:Tok R:=tok R):Prop :=
 l18 R x2 x3 (Value.int .i64 0) w
theorem b16_ok (R:EP):TI prog R (fstC p2) (q9 R) fun z w=>b16 R (z 2) (z 3) w:=appT 0 (k17_ok R)
theorem k4_ok (R:EP):TI prog R p2 (q1 R) fun z w=>b16 R (z 2) (z 3) w:=seqT (b16_ok R) (k5_ok R)
noncomputable abbrev p12:Code:=fstC (sndC p1)
noncomputable abbrev p13:Code:=dropC 1 p12
noncomputable abbrev p14:Code:=loopC (blkC p13)
def b23_1 (R:EP) (C22:VP) (x2 x3 x6:Value) (w8:World) (_r:Tok R:=tok R) (_C22:Tok C22:=tok C22):Prop :=
 PUR prog (fieldAt 28 x2 0) fun v9 =>
 LD prog (loadAt 23 v9) (World.drew w8) fun v10 =>
 PUR prog (indexAt 23 v10 x6) fun v11 =>
 LD prog (loadAt 39 v11) (World.drew w8) fun v12 =>
 PUR prog (fieldAt 28 x3 0) fun v13 =>
 LD prog (loadAt 23 v13) (World.drew w8) fun v14 =>
 PUR prog (indexAt 23 v14 x6) fun v15 =>
 LD prog (loadAt 39 v15) (World.drew w8) fun v16 =>
 PUR prog (bins .neq 39 (.tmp 64) (.tmp 69) v12 v16) fun v17 =>
 SPL v17
 (R (.returned (Value.bool false)) (World.drew w8))
 (RUN prog R (bins .add 3 (.tmp 58) (.const (Value.int .i64 1)) x6 (Value.int .i64 1)) (World.drew w8) fun v18 w19 =>
 C22 v18 w19)

def b23 (R:EP) (C22:VP) (x2 x3 x6:Value) (w:World) (_r:Tok R:=tok R) (_C22:Tok C22:=tok C22):Prop :=
 RUN prog R (fieldAt 28 x2 0) w fun v1 w2 =>
 RUN prog R (loadAt 23 v1) w2 fun v3 w4 =>
 RUN prog R (Builtin.len_ #[23] 3 #[v3]) w4 fun v5 w6 =>
 RUN prog R (bins .lss 3 (.tmp 53) (.tmp 56) x6 v5) w6 fun v7 w8 =>
 SPL v7
 (b23_1 R C22 x2 x3 x6 w8)
 (b16 R x2 x3 w8)
abbrev q10 (R:EP) (C22:VP):XP:=QX (fun z w=>C22 (z 6) w) (r0 R) [(0,(fun z w=>b16 R (z 2) (z 3) w))]
theorem b23_ok (R:EP) (C22:VP):TI prog R p14 (q10 R C22) fun z w=>b23 R C22 (z 2) (z 3) (z 6) w:=ofT

def l22 (R:EP) (x2 x3 x6:Value) (w:World) (_r:Tok R:=tok R):Prop :=
 ∃(J:VP) (μ:Value→World→Nat),J x6 w∧∀y6 w0,J y6 w0→b23 R (fun z6 w1=>J z6 w1∧μ z6 w1<μ y6 w0) x2 x3 y6 w0
abbrev q11 (R:EP):XP:=QX (fun z w=>b16 R (z 2) (z 3) w) (r0 R) [(0,(fun z w=>b16 R (z 2) (z 3) w))]
theorem l22_ok (R:EP):TI prog R (blkC p13) (q11 R) fun z w=>l22 R (z 2) (z 3) (z 6) w:=fun z w h=>by
 unfold l22 at h
 obtain ⟨J,μ,h0,hr⟩:=h
 refine loopT (fun z' w'=>J (z' 6) w') (fun z' w'=>μ (z' 6) w') h0 fun z' w' hA hI=>b23_ok R (fun z6 w1=>J z6 w1∧μ z6 w1<μ (z' 6) w') z' w' ?_
 have h1:=hr (z' 6) w' hI
 rwa [←hA.on 2,←hA.on 3] at h1
theorem l22_intro (R:EP) (x2 x3 x6:Value) (w:World) (J:VP) (μ:Value→World→Nat) (h0:J x6 w)
   (hr:∀y6 w0,J y6 w0→∀C22:VP,(∀z6 w1,J z6 w1→μ z6 w1<μ y6 w0→C22 z6 w1)→b23 R C22 x2 x3 y6 w0):l22 R x2 x3 x6 w:=by
 unfold l22
 exact ⟨J,μ,h0,fun y6 w0 hJ=>hr y6 w0 hJ _ (fun z6 w1 h1 h2=>⟨h1,h2⟩)⟩
abbrev q12 (R:EP):XP:=QX (fun z w=>b16 R (z 2) (z 3) w) (r0 R) []
theorem k21_ok (R:EP):TI prog R p13 (q12 R) fun z w=>l22 R (z 2) (z 3) (z 6) w:=blockT 0 (l22_ok R)

def b20 (R:EP) (x2 x3:Value) (w:World) (_r:Tok R:=tok R):Prop :=
 l22 R x2 x3 (Value.int .i64 0) w
theorem b20_ok (R:EP):TI prog R p12 (q12 R) fun z w=>b20 R (z 2) (z 3) w:=appT 0 (k21_ok R)
theorem k3_ok (R:EP):TI prog R (sndC p1) (q1 R) fun z w=>b20 R (z 2) (z 3) w:=seqT (b20_ok R) (k4_ok R)
noncomputable abbrev p15:Code:=dropC 1 (fstC p1)

def b25 (R:EP) (x2 x3 x52:Value) (w:World) (_r:Tok R:=tok R):Prop :=
 SPL x52
 (R (.returned (Value.bool false)) w)
 (b20 R x2 x3 w)
abbrev q13 (R:EP):XP:=QX (fun z w=>b20 R (z 2) (z 3) w) (r0 R) []
theorem b25_ok (R:EP):TI prog R p15 (q13 R) fun z w=>b25 R (z 2) (z 3) (z 52) w:=ofT
def b24_1 (R:EP) (x2 x3:Value) (w40:World) (_r:Tok R:=tok R):Prop :=
 RUN prog R (fieldAt 28 x2 4) w40 fun v41 w42 =>
 RUN prog R (loadAt 26 v41) w42 fun v43 w44 =>
 RUN prog R (Builtin.len_ #[26] 3 #[v43]) w44 fun v45 w46 =>
 RUN prog R (fieldAt 28 x3 4) w46 fun v47 w48 =>
 RUN prog R (loadAt 26 v47) w48 fun v49 w50 =>
 RUN prog R (Builtin.len_ #[26] 3 #[v49]) w50 fun v51 w52 =>
 RUN prog R (bins .neq 3 (.tmp 47) (.tmp 50) v45 v51) w52 fun v53 w54 =>
 b25 R x2 x3 v53 w54
def b24_2 (R:EP) (x2 x3:Value) (w26:World) (_r:Tok R:=tok R):Prop :=
 RUN prog R (fieldAt 28 x2 1) w26 fun v27 w28 =>
 RUN prog R (loadAt 24 v27) w28 fun v29 w30 =>
 RUN prog R (Builtin.len_ #[24] 3 #[v29]) w30 fun v31 w32 =>
 RUN prog R (fieldAt 28 x3 1) w32 fun v33 w34 =>
 RUN prog R (loadAt 24 v33) w34 fun v35 w36 =>
 RUN prog R (Builtin.len_ #[24] 3 #[v35]) w36 fun v37 w38 =>
 RUN prog R (bins .neq 3 (.tmp 38) (.tmp 41) v31 v37) w38 fun v39 w40 =>
 SPL v39
 (b25 R x2 x3 (Value.bool true) w40)
 (b24_1 R x2 x3 w40)
def b24_3 (R:EP) (x2 x3:Value) (w12:World) (_r:Tok R:=tok R):Prop :=
 RUN prog R (fieldAt 28 x2 0) w12 fun v13 w14 =>
 RUN prog R (loadAt 23 v13) w14 fun v15 w16 =>
 RUN prog R (Builtin.len_ #[23] 3 #[v15]) w16 fun v17 w18 =>
 RUN prog R (fieldAt 28 x3 0) w18 fun v19 w20 =>
 RUN prog R (loadAt 23 v19) w20 fun v21 w22 =>
 RUN prog R (Builtin.len_ #[23] 3 #[v21]) w22 fun v23 w24 =>
 RUN prog R (bins .neq 3 (.tmp 29) (.tmp 32) v17 v23) w24 fun v25 w26 =>
 SPL v25
 (b25 R x2 x3 (Value.bool true) w26)
 (b24_2 R x2 x3 w26)
def b24_4 (R:EP) (x2 x3:Value) (w2:World) (_r:Tok R:=tok R):Prop :=
 RUN prog R (fieldAt 28 x2 3) w2 fun v3 w4 =>
 RUN prog R (loadAt 3 v3) w4 fun v5 w6 =>
 RUN prog R (fieldAt 28 x3 3) w6 fun v7 w8 =>
 RUN prog R (loadAt 3 v7) w8 fun v9 w10 =>
 RUN prog R (bins .neq 3 (.tmp 21) (.tmp 23) v5 v9) w10 fun v11 w12 =>
 SPL v11
 (b25 R x2 x3 (Value.bool true) w12)
 (b24_3 R x2 x3 w12)

def b24 (R:EP) (x2 x3 x5:Value) (w:World) (_r:Tok R:=tok R):Prop :=
 RUN prog R (Op.unary .not x5) w fun v1 w2 =>
 SPL v1
 (b25 R x2 x3 (Value.bool true) w2)
 (b24_4 R x2 x3 w2)
theorem b24_ok (R:EP):TI prog R (fstC p1) (q13 R) fun z w=>b24 R (z 2) (z 3) (z 5) w:=appT 0 (b25_ok R)
theorem k2_ok (R:EP):TI prog R p1 (q1 R) fun z w=>b24 R (z 2) (z 3) (z 5) w:=seqT (b24_ok R) (k3_ok R)

def b1 (R:EP) (x0 x1:Value) (w:World) (_r:Tok R:=tok R):Prop :=
 RUN prog R (box 28 x0) w fun v1 w2 =>
 RUN prog R (box 28 x1) w2 fun v3 w4 =>
 RUN prog R (fieldAt 28 v1 2) w4 fun v5 w6 =>
 RUN prog R (loadAt 25 v5) w6 fun v7 w8 =>
 RUN prog R (fieldAt 28 v3 2) w8 fun v9 w10 =>
 RUN prog R (loadAt 25 v9) w10 fun v11 w12 =>
 CALL prog R ref02_SameInts.id #[v7,v11] w12 fun v13 w14 =>
 b24 R v1 v3 v13 w14
theorem b1_ok (R:EP):TI prog R code (q1 R) fun z w=>b1 R (z 0) (z 1) w:=appT 1 (k2_ok R)
def run (R:EP) (a0 a1:Value) (w:World):Prop:=b1 R a0 a1 w
theorem calls (R:EP) (a0 a1:Value) (w:World) (h:run R a0 a1 w):Calls prog id #[a0,a1] w R:=cls_t func20 [a0,a1] (b1_ok R _ w h)
theorem enters:Enters prog id:=fun args w=>call20 args w
theorem ct {a0 a1:Value} {w:World} {S:VP} (h:∀R:EP,(∀v w,S v w→R (.returned v) w)→run R a0 a1 w):Ct prog id #[a0,a1] w S :=
 Ct.intro enters fun R hR=>calls R a0 a1 w (h R hR)
attribute [irreducible] l9 l18 l22
attribute [irreducible,go_sem] b6 b12 b15 b14_1 b14_2 b14 b10 b7 b19_1 b19 b16 b23_1 b23 b20 b25 b24_1 b24_2 b24_3 b24_4 b24 b1 run
end ref02_Same

/-! ### presage/presageref02.Copy -/
namespace ref02_Copy
noncomputable def code:Code:=bodyOf f33
noncomputable abbrev p1:Code:=dropC 5 code
def b3 (R:EP) (x2 x3:Value) (w:World) (_r:Tok R:=tok R):Prop :=
 RUN prog R (loadAt 28 x3) w fun v1 w2 =>
 RUNU prog R (storeAt 28 x2 v1) w2 fun w3 =>
 LD prog (loadAt 28 x2) w3 fun r0=>R (.returned r0) w3
abbrev r0 (R:EP) (z:Env) (w:World):Prop:=LD prog (loadAt 28 (z 2)) w fun r0=>R (.returned r0) w
abbrev q1 (R:EP):XP:=QX (r0 R) (r0 R) []
theorem b3_ok (R:EP):TI prog R (sndC p1) (q1 R) fun z w=>b3 R (z 2) (z 3) w:=ofT
noncomputable abbrev p2:Code:=dropC 1 (fstC p1)
noncomputable abbrev p3:Code:=loopC (blkC p2)
def b7_1 (R:EP) (C6:VP) (x1 x3 x4:Value) (w8:World) (_r:Tok R:=tok R) (_C6:Tok C6:=tok C6):Prop :=
 PUR prog (fieldAt 28 x1 4) fun v9 =>
 LD prog (loadAt 26 v9) (World.drew w8) fun v10 =>
 PUR prog (indexAt 26 v10 x4) fun v11 =>
 PUR prog (fieldAt 37 v11 0) fun v12 =>
 LD prog (loadAt 3 v12) (World.drew w8) fun v13 =>
 PUR prog (fieldAt 28 x1 4) fun v14 =>
 LD prog (loadAt 26 v14) (World.drew w8) fun v15 =>
 PUR prog (indexAt 26 v15 x4) fun v16 =>
 PUR prog (fieldAt 37 v16 2) fun v17 =>
 LD prog (loadAt 3 v17) (World.drew w8) fun v18 =>
 PUR prog (build 37 #[(0,v13),(2,v18)]) fun v19 =>
 RUN prog R (alloc 37 true (.tuple #[])) (World.drew w8) fun v20 w21 =>
 Sem.run prog (loadAt 3 v17) w21 = .ok v18 w21∧(Sem.run prog (loadAt 26 v14) w21 = .ok v15 w21∧(Sem.run prog (loadAt 3 v12) w21 = .ok v13 w21∧(Sem.run prog (loadAt 26 v9) w21 = .ok v10 w21∧(RUNU prog R (storeAt 37 v20 v19) w21 fun w22 =>
 PUR prog (fieldAt 37 v20 1) fun v23 =>
 LD prog (loadAt 25 v23) (World.drew w22) fun v24 =>
 PUR prog (fieldAt 28 x1 4) fun v25 =>
 LD prog (loadAt 26 v25) (World.drew w22) fun v26 =>
 PUR prog (indexAt 26 v26 x4) fun v27 =>
 PUR prog (fieldAt 37 v27 1) fun v28 =>
 LD prog (loadAt 25 v28) (World.drew w22) fun v29 =>
 RUN prog R (Builtin.append_ #[25,25] 25 #[v24,v29]) (World.drew w22) fun v30 w31 =>
 PUR prog (fieldAt 37 v20 1) fun v32 =>
 RUNU prog R (storeAt 25 v32 v30) w31 fun w33 =>
 RUN prog R (fieldAt 28 x3 4) w33 fun v34 w35 =>
 RUN prog R (loadAt 26 v34) w35 fun v36 w37 =>
 RUN prog R (loadAt 37 v20) w37 fun v38 w39 =>
 RUN prog R (buildSlice 26 1 #[(0,v38)]) w39 fun v40 w41 =>
 RUN prog R (Builtin.append_ #[26,26] 26 #[v36,v40]) w41 fun v42 w43 =>
 RUN prog R (fieldAt 28 x3 4) w43 fun v44 w45 =>
 RUNU prog R (storeAt 26 v44 v42) w45 fun w46 =>
 RUN prog R (bins .add 3 (.tmp 32) (.const (Value.int .i64 1)) x4 (Value.int .i64 1)) w46 fun v47 w48 =>
 C6 v47 w48))))
def b7 (R:EP) (C6:VP) (x1 x2 x3 x4:Value) (w:World) (_r:Tok R:=tok R) (_C6:Tok C6:=tok C6):Prop :=
 RUN prog R (fieldAt 28 x1 4) w fun v1 w2 =>
 RUN prog R (loadAt 26 v1) w2 fun v3 w4 =>
 RUN prog R (Builtin.len_ #[26] 3 #[v3]) w4 fun v5 w6 =>
 RUN prog R (bins .lss 3 (.tmp 27) (.tmp 30) x4 v5) w6 fun v7 w8 =>
 SPL v7
 (b7_1 R C6 x1 x3 x4 w8)
 (b3 R x2 x3 w8)
abbrev q2 (R:EP) (C6:VP):XP:=QX (fun z w=>C6 (z 4) w) (r0 R) [(0,(fun z w=>b3 R (z 2) (z 3) w))]
theorem b7_ok (R:EP) (C6:VP):TI prog R p3 (q2 R C6) fun z w=>b7 R C6 (z 1) (z 2) (z 3) (z 4) w:=ofT
def l6 (R:EP) (x1 x2 x3 x4:Value) (w:World) (_r:Tok R:=tok R):Prop :=
 ∃(J:VP) (μ:Value→World→Nat),J x4 w∧∀y4 w0,J y4 w0→b7 R (fun z4 w1=>J z4 w1∧μ z4 w1<μ y4 w0) x1 x2 x3 y4 w0
abbrev q3 (R:EP):XP:=QX (fun z w=>b3 R (z 2) (z 3) w) (r0 R) [(0,(fun z w=>b3 R (z 2) (z 3) w))]
theorem l6_ok (R:EP):TI prog R (blkC p2) (q3 R) fun z w=>l6 R (z 1) (z 2) (z 3) (z 4) w:=fun z w h=>by
 unfold l6 at h
 obtain ⟨J,μ,h0,hr⟩:=h
 refine loopT (fun z' w'=>J (z' 4) w') (fun z' w'=>μ (z' 4) w') h0 fun z' w' hA hI=>b7_ok R (fun z4 w1=>J z4 w1∧μ z4 w1<μ (z' 4) w') z' w' ?_
 have h1:=hr (z' 4) w' hI
 rwa [←hA.on 1,←hA.on 2,←hA.on 3] at h1
theorem l6_intro (R:EP) (x1 x2 x3 x4:Value) (w:World) (J:VP) (μ:Value→World→Nat) (h0:J x4 w)
   (hr:∀y4 w0,J y4 w0→∀C6:VP,(∀z4 w1,J z4 w1→μ z4 w1<μ y4 w0→C6 z4 w1)→b7 R C6 x1 x2 x3 y4 w0):l6 R x1 x2 x3 x4 w:=by
 unfold l6
 exact ⟨J,μ,h0,fun y4 w0 hJ=>hr y4 w0 hJ _ (fun z4 w1 h1 h2=>⟨h1,h2⟩)⟩
abbrev q4 (R:EP):XP:=QX (fun z w=>b3 R (z 2) (z 3) w) (r0 R) []
theorem k5_ok (R:EP):TI prog R p2 (q4 R) fun z w=>l6 R (z 1) (z 2) (z 3) (z 4) w:=blockT 0 (l6_ok R)
def b4 (R:EP) (x1 x2 x3:Value) (w:World) (_r:Tok R:=tok R):Prop :=
 l6 R x1 x2 x3 (Value.int .i64 0) w
theorem b4_ok (R:EP):TI prog R (fstC p1) (q4 R) fun z w=>b4 R (z 1) (z 2) (z 3) w:=appT 0 (k5_ok R)
theorem k2_ok (R:EP):TI prog R p1 (q1 R) fun z w=>b4 R (z 1) (z 2) (z 3) w:=seqT (b4_ok R) (b3_ok R)
def b1 (R:EP) (x0:Value) (w:World) (_r:Tok R:=tok R):Prop :=
 RUN prog R (box 28 x0) w fun v1 w2 =>
 RUN prog R (alloc 28 true (.tuple #[])) w2 fun v3 w4 =>
 RUN prog R (fieldAt 28 v1 3) w4 fun v5 w6 =>
 RUN prog R (loadAt 3 v5) w6 fun v7 w8 =>
 RUN prog R (build 28 #[(3,v7)]) w8 fun v9 w10 =>
 RUN prog R (alloc 28 true (.tuple #[])) w10 fun v11 w12 =>
 RUNU prog R (storeAt 28 v11 v9) w12 fun w13 =>
 RUN prog R (fieldAt 28 v11 0) w13 fun v14 w15 =>
 RUN prog R (loadAt 23 v14) w15 fun v16 w17 =>
 RUN prog R (fieldAt 28 v1 0) w17 fun v18 w19 =>
 RUN prog R (loadAt 23 v18) w19 fun v20 w21 =>
 RUN prog R (Builtin.append_ #[23,23] 23 #[v16,v20]) w21 fun v22 w23 =>
 RUN prog R (fieldAt 28 v11 0) w23 fun v24 w25 =>
 RUNU prog R (storeAt 23 v24 v22) w25 fun w26 =>
 RUN prog R (fieldAt 28 v11 1) w26 fun v27 w28 =>
 RUN prog R (loadAt 24 v27) w28 fun v29 w30 =>
 RUN prog R (fieldAt 28 v1 1) w30 fun v31 w32 =>
 RUN prog R (loadAt 24 v31) w32 fun v33 w34 =>
 RUN prog R (Builtin.append_ #[24,24] 24 #[v29,v33]) w34 fun v35 w36 =>
 RUN prog R (fieldAt 28 v11 1) w36 fun v37 w38 =>
 RUNU prog R (storeAt 24 v37 v35) w38 fun w39 =>
 RUN prog R (fieldAt 28 v11 2) w39 fun v40 w41 =>
 RUN prog R (loadAt 25 v40) w41 fun v42 w43 =>
 RUN prog R (fieldAt 28 v1 2) w43 fun v44 w45 =>
 RUN prog R (loadAt 25 v44) w45 fun v46 w47 =>
 RUN prog R (Builtin.append_ #[25,25] 25 #[v42,v46]) w47 fun v48 w49 =>
 RUN prog R (fieldAt 28 v11 2) w49 fun v50 w51 =>
 RUNU prog R (storeAt 25 v50 v48) w51 fun w52 =>
 b4 R v1 v3 v11 w52
theorem b1_ok (R:EP):TI prog R code (q1 R) fun z w=>b1 R (z 0) w:=appT 4 (k2_ok R)
def run (R:EP) (a0:Value) (w:World):Prop:=b1 R a0 w
theorem calls (R:EP) (a0:Value) (w:World) (h:run R a0 w):Calls prog id #[a0] w R :=
 calls_of_c (f:=id) (fn:=f33) (c:=code) (by kernel_rfl) func33 (by kernel_rfl) (by kernel_rfl) (args:=[a0]) (Nat.le_of_ble_eq_true rfl) rfl (b1_ok R (envOf [a0]) w h)
theorem enters:Enters prog id:=fun args w=>call33 args w
theorem ct {a0:Value} {w:World} {S:VP} (h:∀R:EP,(∀v w,S v w→R (.returned v) w)→run R a0 w):Ct prog id #[a0] w S :=
 Ct.intro enters fun R hR=>calls R a0 w (h R hR)
attribute [irreducible] l6
attribute [irreducible,go_sem] b3 b7_1 b7 b4 b1 run
end ref02_Copy
end Go.Proofs.YtckbgeedlobfaaaDoor

/- Shallow programs, written by a program of ours (gen.py) off the translation; each is tied to the code by the kernel. -/
namespace Go.Proofs.YtckbgeedlobfaaaDoor
open Go.Px Tryd Instr

/-! ### presage/gram.New -/
namespace gram_New
noncomputable def code:Code:=bodyOf f27

def b1 (R:EP) (w:World) (_r:Tok R:=tok R):Prop :=
 RUN prog R (build 103 #[]) w fun v1 w2 =>
 RUN prog R (box 103 v1) w2 fun v3 w4 =>
 R (.returned v3) w4
abbrev r0 (R:EP) (z:Env) (w:World):Prop:=R (.returned (z 0)) w
abbrev q1 (R:EP):XP:=QX (r0 R) (r0 R) []
theorem b1_ok (R:EP):TI prog R code (q1 R) fun z w=>b1 R w:=ofT
def run (R:EP) (w:World):Prop:=b1 R w
theorem calls (R:EP) (w:World) (h:run R w):Calls prog id #[] w R:=cls_t func27 [] (b1_ok R _ w h)
theorem enters:Enters prog id:=fun args w=>call27 args w
theorem ct {w:World} {S:VP} (h:∀R:EP,(∀v w,S v w→R (.returned v) w)→run R w):Ct prog id #[] w S :=
 Ct.intro enters fun R hR=>calls R w (h R hR)
attribute [irreducible] b1 run
end gram_New

/-! ### (*presage/gram.Builder).Term -/
namespace gram_Builder_Term
noncomputable def code:Code:=bodyOf f45
noncomputable abbrev p1:Code:=dropC 1 code
def b3 (R:EP) (x0 x1:Value) (w:World) (_r:Tok R:=tok R):Prop :=
 NILC x0 fun v1 =>
 RUN prog R (fieldAt 103 v1 0) w fun v2 w3 =>
 CALL prog R gram_names_find.id #[v2,x1] w3 fun v4 w5 =>
 RUN prog R (bins .gtr 3 (.tmp 19) (.const (Value.int .i64 0)) v4 (Value.int .i64 0)) w5 fun v6 w7 =>
 SPL v6
 (R (.returned (.tuple #[v4,(Value.int .i64 0)])) w7)
 (NILC x0 fun v8 =>
 PUR prog (fieldAt 103 v8 0) fun v9 =>
 NILC x0 fun v10 =>
 PUR prog (fieldAt 103 v10 1) fun v11 =>
 PUR prog (fieldAt 100 v11 0) fun v12 =>
 CALL prog R gram_names_size.id #[v9] (World.drew w7) fun v13 w14 =>
 CALL prog R gram_names_size.id #[v12] w14 fun v15 w16 =>
 PUR prog (bins .add 3 (.tmp 25) (.tmp 30) v13 v15) fun v17 =>
 PUR prog (bins .geq 3 (.tmp 31) (.const (Value.int .i64 64)) v17 (Value.int .i64 64)) fun v18 =>
 SPL v18
 (R (.returned (.tuple #[(Value.int .i64 0),(Value.int .i64 11)])) w16)
 (NILC x0 fun v19 =>
 RUN prog R (fieldAt 103 v19 2) w16 fun v20 w21 =>
 RUN prog R (loadAt 25 v20) w21 fun v22 w23 =>
 RUN prog R (buildSlice 25 1 #[(0,(Value.int .i64 0))]) w23 fun v24 w25 =>
 RUN prog R (Builtin.append_ #[25,25] 25 #[v22,v24]) w25 fun v26 w27 =>
 NILC x0 fun v28 =>
 RUN prog R (fieldAt 103 v28 2) w27 fun v29 w30 =>
 RUNU prog R (storeAt 25 v29 v26) w30 fun w31 =>
 NILC x0 fun v32 =>
 RUN prog R (fieldAt 103 v32 0) w31 fun v33 w34 =>
 CALL prog R gram_names_intern.id #[v33,x1] w34 fun v35 w36 =>
 R (.returned (.tuple #[v35,(Value.int .i64 0)])) w36))
abbrev r0 (R:EP) (z:Env) (w:World):Prop:=R (.returned (.tuple #[(z 4),(z 5)])) w
abbrev q1 (R:EP):XP:=QX (r0 R) (r0 R) []
theorem b3_ok (R:EP):TI prog R (sndC p1) (q1 R) fun z w=>b3 R (z 0) (z 1) w:=ofT
noncomputable abbrev p2:Code:=dropC 1 (fstC p1)
def b5 (R:EP) (x0 x1 x13:Value) (w:World) (_r:Tok R:=tok R):Prop :=
 SPL x13
 (R (.returned (.tuple #[(Value.int .i64 0),(Value.int .i64 1)])) w)
 (b3 R x0 x1 w)
abbrev q2 (R:EP):XP:=QX (fun z w=>b3 R (z 0) (z 1) w) (r0 R) []
theorem b5_ok (R:EP):TI prog R p2 (q2 R) fun z w=>b5 R (z 0) (z 1) (z 13) w:=ofT
def b4 (R:EP) (x0 x1:Value) (w:World) (_r:Tok R:=tok R):Prop :=
 RUN prog R (bins .eql 61 (.tmp 7) (.const (Value.pointer Option.none)) x0 (Value.pointer Option.none)) w fun v1 w2 =>
 SPL v1
 (b5 R x0 x1 (Value.bool true) w2)
 (CALL prog R gram_isTerm.id #[x1] w2 fun v3 w4 =>
 RUN prog R (Op.unary .not v3) w4 fun v5 w6 =>
 b5 R x0 x1 v5 w6)
theorem b4_ok (R:EP):TI prog R (fstC p1) (q2 R) fun z w=>b4 R (z 0) (z 1) w:=appT 0 (b5_ok R)
theorem k2_ok (R:EP):TI prog R p1 (q1 R) fun z w=>b4 R (z 0) (z 1) w:=seqT (b4_ok R) (b3_ok R)
def b1 (R:EP) (x0 x1:Value) (w:World) (_r:Tok R:=tok R):Prop :=
 b4 R x0 x1 w
theorem b1_ok (R:EP):TI prog R code (q1 R) fun z w=>b1 R (z 0) (z 1) w:=appT 0 (k2_ok R)
def run (R:EP) (a0 a1:Value) (w:World):Prop:=b1 R a0 a1 w
theorem calls (R:EP) (a0 a1:Value) (w:World) (h:run R a0 a1 w):Calls prog id #[a0,a1] w R :=
 calls_of_tt (f:=id) (fn:=f45) (c:=code) (by kernel_rfl) func45 (by kernel_rfl) (by kernel_rfl) (args:=[a0,a1]) (Nat.le_of_ble_eq_true rfl) rfl (b1_ok R (envOf [a0,a1]) w h)
theorem enters:Enters prog id:=fun args w=>call45 args w
theorem ct {a0 a1:Value} {w:World} {S:VP} (h:∀R:EP,(∀v w,S v w→R (.returned v) w)→run R a0 a1 w):Ct prog id #[a0,a1] w S :=
 Ct.intro enters fun R hR=>calls R a0 a1 w (h R hR)
attribute [irreducible] b3 b5 b4 b1 run
end gram_Builder_Term

/-! ### (*presage/gram.Builder).Start -/
namespace gram_Builder_Start
noncomputable def code:Code:=bodyOf f51
noncomputable abbrev p1:Code:=dropC 1 code
def b3 (R:EP) (x0 x1:Value) (w:World) (_r:Tok R:=tok R):Prop :=
 NILC x0 fun v1 =>
 RUN prog R (fieldAt 103 v1 5) w fun v2 w3 =>
 RUNU prog R (storeAt 3 v2 x1) w3 fun w4 =>
 R (.returned (Value.int .i64 0)) w4
abbrev r0 (R:EP) (z:Env) (w:World):Prop:=R (.returned (z 4)) w
abbrev q1 (R:EP):XP:=QX (r0 R) (r0 R) []
theorem b3_ok (R:EP):TI prog R (sndC p1) (q1 R) fun z w=>b3 R (z 0) (z 1) w:=ofT
noncomputable abbrev p2:Code:=dropC 1 (fstC p1)
def b5 (R:EP) (x0 x1 x12:Value) (w:World) (_r:Tok R:=tok R):Prop :=
 SPL x12
 (R (.returned (Value.int .i64 1)) w)
 (b3 R x0 x1 w)
abbrev q2 (R:EP):XP:=QX (fun z w=>b3 R (z 0) (z 1) w) (r0 R) []
theorem b5_ok (R:EP):TI prog R p2 (q2 R) fun z w=>b5 R (z 0) (z 1) (z 12) w:=ofT
def b4 (R:EP) (x0 x1:Value) (w:World) (_r:Tok R:=tok R):Prop :=
 RUN prog R (bins .eql 61 (.tmp 5) (.const (Value.pointer Option.none)) x0 (Value.pointer Option.none)) w fun v1 w2 =>
 SPL v1
 (b5 R x0 x1 (Value.bool true) w2)
 (CALL prog R gram_Builder_isNonHandle.id #[x0,x1] w2 fun v3 w4 =>
 RUN prog R (Op.unary .not v3) w4 fun v5 w6 =>
 b5 R x0 x1 v5 w6)
theorem b4_ok (R:EP):TI prog R (fstC p1) (q2 R) fun z w=>b4 R (z 0) (z 1) w:=appT 0 (b5_ok R)
theorem k2_ok (R:EP):TI prog R p1 (q1 R) fun z w=>b4 R (z 0) (z 1) w:=seqT (b4_ok R) (b3_ok R)
def b1 (R:EP) (x0 x1:Value) (w:World) (_r:Tok R:=tok R):Prop :=
 b4 R x0 x1 w
theorem b1_ok (R:EP):TI prog R code (q1 R) fun z w=>b1 R (z 0) (z 1) w:=appT 0 (k2_ok R)
def run (R:EP) (a0 a1:Value) (w:World):Prop:=b1 R a0 a1 w
theorem calls (R:EP) (a0 a1:Value) (w:World) (h:run R a0 a1 w):Calls prog id #[a0,a1] w R:=cls_t func51 [a0,a1] (b1_ok R _ w h)
theorem enters:Enters prog id:=fun args w=>call51 args w
theorem ct {a0 a1:Value} {w:World} {S:VP} (h:∀R:EP,(∀v w,S v w→R (.returned v) w)→run R a0 a1 w):Ct prog id #[a0,a1] w S :=
 Ct.intro enters fun R hR=>calls R a0 a1 w (h R hR)
attribute [irreducible] b3 b5 b4 b1 run
end gram_Builder_Start

/-! ### (*presage/gram.Builder).Non -/
namespace gram_Builder_Non
noncomputable def code:Code:=bodyOf f47
noncomputable abbrev p1:Code:=dropC 1 code
def b3 (R:EP) (x0 x1:Value) (w:World) (_r:Tok R:=tok R):Prop :=
 NILC x0 fun v1 =>
 RUN prog R (fieldAt 103 v1 1) w fun v2 w3 =>
 RUN prog R (fieldAt 100 v2 0) w3 fun v4 w5 =>
 CALL prog R gram_names_find.id #[v4,x1] w5 fun v6 w7 =>
 RUN prog R (bins .gtr 3 (.tmp 20) (.const (Value.int .i64 0)) v6 (Value.int .i64 0)) w7 fun v8 w9 =>
 SPL v8
 (RUN prog R (Op.unary .neg v6) w9 fun v10 w11 =>
 R (.returned (.tuple #[v10,(Value.int .i64 0)])) w11)
 (NILC x0 fun v12 =>
 PUR prog (fieldAt 103 v12 0) fun v13 =>
 NILC x0 fun v14 =>
 PUR prog (fieldAt 103 v14 1) fun v15 =>
 PUR prog (fieldAt 100 v15 0) fun v16 =>
 CALL prog R gram_names_size.id #[v13] (World.drew w9) fun v17 w18 =>
 CALL prog R gram_names_size.id #[v16] w18 fun v19 w20 =>
 PUR prog (bins .add 3 (.tmp 27) (.tmp 32) v17 v19) fun v21 =>
 PUR prog (bins .geq 3 (.tmp 33) (.const (Value.int .i64 64)) v21 (Value.int .i64 64)) fun v22 =>
 SPL v22
 (R (.returned (.tuple #[(Value.int .i64 0),(Value.int .i64 11)])) w20)
 (NILC x0 fun v23 =>
 RUN prog R (fieldAt 103 v23 1) w20 fun v24 w25 =>
 RUN prog R (fieldAt 100 v24 0) w25 fun v26 w27 =>
 CALL prog R gram_names_intern.id #[v26,x1] w27 fun v28 w29 =>
 RUN prog R (Op.unary .neg v28) w29 fun v30 w31 =>
 R (.returned (.tuple #[v30,(Value.int .i64 0)])) w31))
abbrev r0 (R:EP) (z:Env) (w:World):Prop:=R (.returned (.tuple #[(z 4),(z 5)])) w
abbrev q1 (R:EP):XP:=QX (r0 R) (r0 R) []
theorem b3_ok (R:EP):TI prog R (sndC p1) (q1 R) fun z w=>b3 R (z 0) (z 1) w:=ofT
noncomputable abbrev p2:Code:=dropC 1 (fstC p1)
def b5 (R:EP) (x0 x1 x13:Value) (w:World) (_r:Tok R:=tok R):Prop :=
 SPL x13
 (R (.returned (.tuple #[(Value.int .i64 0),(Value.int .i64 1)])) w)
 (b3 R x0 x1 w)
abbrev q2 (R:EP):XP:=QX (fun z w=>b3 R (z 0) (z 1) w) (r0 R) []
theorem b5_ok (R:EP):TI prog R p2 (q2 R) fun z w=>b5 R (z 0) (z 1) (z 13) w:=ofT
def b4 (R:EP) (x0 x1:Value) (w:World) (_r:Tok R:=tok R):Prop :=
 RUN prog R (bins .eql 61 (.tmp 7) (.const (Value.pointer Option.none)) x0 (Value.pointer Option.none)) w fun v1 w2 =>
 SPL v1
 (b5 R x0 x1 (Value.bool true) w2)
 (CALL prog R gram_isName.id #[x1] w2 fun v3 w4 =>
 RUN prog R (Op.unary .not v3) w4 fun v5 w6 =>
 b5 R x0 x1 v5 w6)
theorem b4_ok (R:EP):TI prog R (fstC p1) (q2 R) fun z w=>b4 R (z 0) (z 1) w:=appT 0 (b5_ok R)
theorem k2_ok (R:EP):TI prog R p1 (q1 R) fun z w=>b4 R (z 0) (z 1) w:=seqT (b4_ok R) (b3_ok R)
def b1 (R:EP) (x0 x1:Value) (w:World) (_r:Tok R:=tok R):Prop :=
 b4 R x0 x1 w
theorem b1_ok (R:EP):TI prog R code (q1 R) fun z w=>b1 R (z 0) (z 1) w:=appT 0 (k2_ok R)
def run (R:EP) (a0 a1:Value) (w:World):Prop:=b1 R a0 a1 w
theorem calls (R:EP) (a0 a1:Value) (w:World) (h:run R a0 a1 w):Calls prog id #[a0,a1] w R :=
 calls_of_tt (f:=id) (fn:=f47) (c:=code) (by kernel_rfl) func47 (by kernel_rfl) (by kernel_rfl) (args:=[a0,a1]) (Nat.le_of_ble_eq_true rfl) rfl (b1_ok R (envOf [a0,a1]) w h)
theorem enters:Enters prog id:=fun args w=>call47 args w
theorem ct {a0 a1:Value} {w:World} {S:VP} (h:∀R:EP,(∀v w,S v w→R (.returned v) w)→run R a0 a1 w):Ct prog id #[a0,a1] w S :=
 Ct.intro enters fun R hR=>calls R a0 a1 w (h R hR)
attribute [irreducible] b3 b5 b4 b1 run
end gram_Builder_Non

/-! ### (*presage/gram.Builder).Rule -/
namespace gram_Builder_Rule
noncomputable def code:Code:=bodyOf f49
noncomputable abbrev p1:Code:=dropC 1 code
noncomputable abbrev p2:Code:=dropC 2 (sndC p1)

def b5 (R:EP) (x3 x8:Value) (w:World) (_r:Tok R:=tok R):Prop :=
 LD prog (loadAt 61 x3) (World.drew w) fun v1 =>
 LD prog (loadAt 61 x3) (World.drew w) fun v2 =>
 NILC v2 fun v3 =>
 PUR prog (fieldAt 103 v3 4) fun v4 =>
 LD prog (loadAt 101 v4) (World.drew w) fun v5 =>
 LD prog (loadAt 118 x8) (World.drew w) fun v6 =>
 RUN prog R (buildSlice 101 1 #[(0,v6)]) (World.drew w) fun v7 w8 =>
 Sem.run prog (loadAt 101 v4) w8 = .ok v5 w8∧(Sem.run prog (loadAt 61 x3) w8 = .ok v2 w8∧(Sem.run prog (loadAt 61 x3) w8 = .ok v1 w8∧(RUN prog R (Builtin.append_ #[101,101] 101 #[v5,v7]) w8 fun v9 w10 =>
 Sem.run prog (loadAt 61 x3) w10 = .ok v1 w10∧(NILC v1 fun v11 =>
 PUR prog (fieldAt 103 v11 4) fun v12 =>
 RUNU prog R (storeAt 101 v12 v9) w10 fun w13 =>
 RUN prog R (loadAt 61 x3) w13 fun v14 w15 =>
 NILC v14 fun v16 =>
 RUN prog R (fieldAt 103 v16 4) w15 fun v17 w18 =>
 RUN prog R (loadAt 101 v17) w18 fun v19 w20 =>
 RUN prog R (Builtin.len_ #[101] 3 #[v19]) w20 fun v21 w22 =>
 RUN prog R (bins .sub 3 (.tmp 66) (.const (Value.int .i64 1)) v21 (Value.int .i64 1)) w22 fun v23 w24 =>
 R (.returned (.tuple #[v23,(Value.int .i64 0)])) w24))))
abbrev r0 (R:EP) (z:Env) (w:World):Prop:=R (.returned (.tuple #[(z 6),(z 7)])) w
abbrev q1 (R:EP):XP:=QX (r0 R) (r0 R) []
theorem b5_ok (R:EP):TI prog R (sndC p2) (q1 R) fun z w=>b5 R (z 3) (z 8) w:=ofT
noncomputable abbrev p3:Code:=dropC 1 (fstC p2)
noncomputable abbrev p4:Code:=loopC (blkC p3)
noncomputable abbrev p5:Code:=dropC 3 p4

def b10 (R:EP) (C8:VP) (x36:Value) (w:World) (_r:Tok R:=tok R) (_C8:Tok C8:=tok C8):Prop :=
 RUN prog R (bins .add 3 (.tmp 36) (.const (Value.int .i64 1)) x36 (Value.int .i64 1)) w fun v1 w2 =>
 C8 v1 w2
abbrev q2 (R:EP) (C8:VP):XP:=QX (fun z w=>C8 (z 36) w) (r0 R) [(0,(fun z w=>b5 R (z 3) (z 8) w))]
theorem b10_ok (R:EP) (C8:VP):TI prog R p5 (q2 R C8) fun z w=>b10 R C8 (z 36) w:=ofT

def b9 (R:EP) (C8:VP) (x3 x8 x34 x35 x36:Value) (w:World) (_r:Tok R:=tok R) (_C8:Tok C8:=tok C8):Prop :=
 RUN prog R (bins .lss 3 (.tmp 36) (.tmp 35) x36 x35) w fun v1 w2 =>
 SPL v1
 (RUN prog R (indexAt 25 x34 x36) w2 fun v3 w4 =>
 RUN prog R (loadAt 3 v3) w4 fun v5 w6 =>
 RUN prog R (bins .gtr 3 (.tmp 40) (.const (Value.int .i64 0)) v5 (Value.int .i64 0)) w6 fun v7 w8 =>
 SPL v7
 (RUN prog R (loadAt 61 x3) w8 fun v9 w10 =>
 NILC v9 fun v11 =>
 RUN prog R (fieldAt 103 v11 2) w10 fun v12 w13 =>
 RUN prog R (loadAt 25 v12) w13 fun v14 w15 =>
 RUN prog R (bins .sub 3 (.tmp 46) (.const (Value.int .i64 1)) v5 (Value.int .i64 1)) w15 fun v16 w17 =>
 RUN prog R (indexAt 25 v14 v16) w17 fun v18 w19 =>
 RUN prog R (loadAt 3 v18) w19 fun v20 w21 =>
 RUN prog R (fieldAt 118 x8 2) w21 fun v22 w23 =>
 RUNU prog R (storeAt 3 v22 v20) w23 fun w24 =>
 b10 R C8 x36 w24)
 (b10 R C8 x36 w8))
 (b5 R x3 x8 w2)
theorem b9_ok (R:EP) (C8:VP):TI prog R p4 (q2 R C8) fun z w=>b9 R C8 (z 3) (z 8) (z 34) (z 35) (z 36) w:=appT 2 (b10_ok R C8)

def l8 (R:EP) (x3 x8 x34 x35 x36:Value) (w:World) (_r:Tok R:=tok R):Prop :=
 ∃(J:VP) (μ:Value→World→Nat),J x36 w∧∀y36 w0,J y36 w0→b9 R (fun z36 w1=>J z36 w1∧μ z36 w1<μ y36 w0) x3 x8 x34 x35 y36 w0
abbrev q3 (R:EP):XP:=QX (fun z w=>b5 R (z 3) (z 8) w) (r0 R) [(0,(fun z w=>b5 R (z 3) (z 8) w))]
theorem l8_ok (R:EP):TI prog R (blkC p3) (q3 R) fun z w=>l8 R (z 3) (z 8) (z 34) (z 35) (z 36) w:=fun z w h=>by
 unfold l8 at h
 obtain ⟨J,μ,h0,hr⟩:=h
 refine loopT (fun z' w'=>J (z' 36) w') (fun z' w'=>μ (z' 36) w') h0 fun z' w' hA hI=>b9_ok R (fun z36 w1=>J z36 w1∧μ z36 w1<μ (z' 36) w') z' w' ?_
 have h1:=hr (z' 36) w' hI
 rwa [←hA.on 3,←hA.on 8,←hA.on 34,←hA.on 35] at h1
theorem l8_intro (R:EP) (x3 x8 x34 x35 x36:Value) (w:World) (J:VP) (μ:Value→World→Nat) (h0:J x36 w)
   (hr:∀y36 w0,J y36 w0→∀C8:VP,(∀z36 w1,J z36 w1→μ z36 w1<μ y36 w0→C8 z36 w1)→b9 R C8 x3 x8 x34 x35 y36 w0):l8 R x3 x8 x34 x35 x36 w:=by
 unfold l8
 exact ⟨J,μ,h0,fun y36 w0 hJ=>hr y36 w0 hJ _ (fun z36 w1 h1 h2=>⟨h1,h2⟩)⟩
abbrev q4 (R:EP):XP:=QX (fun z w=>b5 R (z 3) (z 8) w) (r0 R) []
theorem k7_ok (R:EP):TI prog R p3 (q4 R) fun z w=>l8 R (z 3) (z 8) (z 34) (z 35) (z 36) w:=blockT 0 (l8_ok R)

def b6 (R:EP) (x2 x3 x8:Value) (w:World) (_r:Tok R:=tok R):Prop :=
 RUN prog R (Builtin.len_ #[25] 3 #[x2]) w fun v1 w2 =>
 l8 R x3 x8 x2 v1 (Value.int .i64 0) w2
theorem b6_ok (R:EP):TI prog R (fstC p2) (q4 R) fun z w=>b6 R (z 2) (z 3) (z 8) w:=appT 0 (k7_ok R)
theorem k4_ok (R:EP):TI prog R p2 (q1 R) fun z w=>b6 R (z 2) (z 3) (z 8) w:=seqT (b6_ok R) (b5_ok R)

def b3 (R:EP) (x1 x2 x3:Value) (w:World) (_r:Tok R:=tok R):Prop :=
 RUN prog R (loadAt 61 x3) w fun v1 w2 =>
 NILC v1 fun v3 =>
 RUN prog R (fieldAt 103 v3 4) w2 fun v4 w5 =>
 RUN prog R (loadAt 101 v4) w5 fun v6 w7 =>
 RUN prog R (Builtin.len_ #[101] 3 #[v6]) w7 fun v8 w9 =>
 RUN prog R (bins .geq 3 (.tmp 28) (.const (Value.int .i64 96)) v8 (Value.int .i64 96)) w9 fun v10 w11 =>
 SPL v10
 (R (.returned (.tuple #[(Value.int .i64 0),(Value.int .i64 11)])) w11)
 (CALL prog R slices_Clone_int_int.id #[x2] w11 fun v12 w13 =>
 RUN prog R (build 118 #[(0,x1),(1,v12)]) w13 fun v14 w15 =>
 RUN prog R (alloc 118 true (.tuple #[])) w15 fun v16 w17 =>
 RUNU prog R (storeAt 118 v16 v14) w17 fun w18 =>
 b6 R x2 x3 v16 w18)
theorem b3_ok (R:EP):TI prog R (sndC p1) (q1 R) fun z w=>b3 R (z 1) (z 2) (z 3) w:=appT 1 (k4_ok R)
noncomputable abbrev p6:Code:=dropC 1 (fstC p1)

def b12 (R:EP) (x1 x2 x3 x23:Value) (w:World) (_r:Tok R:=tok R):Prop :=
 SPL x23
 (R (.returned (.tuple #[(Value.int .i64 0),(Value.int .i64 1)])) w)
 (b3 R x1 x2 x3 w)
abbrev q5 (R:EP):XP:=QX (fun z w=>b3 R (z 1) (z 2) (z 3) w) (r0 R) []
theorem b12_ok (R:EP):TI prog R p6 (q5 R) fun z w=>b12 R (z 1) (z 2) (z 3) (z 23) w:=ofT

def b11 (R:EP) (x1 x2 x3:Value) (w:World) (_r:Tok R:=tok R):Prop :=
 RUN prog R (loadAt 61 x3) w fun v1 w2 =>
 RUN prog R (bins .eql 61 (.tmp 11) (.const (Value.pointer Option.none)) v1 (Value.pointer Option.none)) w2 fun v3 w4 =>
 SPL v3
 (b12 R x1 x2 x3 (Value.bool true) w4)
 (RUN prog R (loadAt 61 x3) w4 fun v5 w6 =>
 CALL prog R gram_Builder_isNonHandle.id #[v5,x1] w6 fun v7 w8 =>
 RUN prog R (Op.unary .not v7) w8 fun v9 w10 =>
 SPL v9
 (b12 R x1 x2 x3 (Value.bool true) w10)
 (RUN prog R (makeFunc (.func gram_Builder_Rule_1.id) #[] #[x3]) w10 fun v11 w12 =>
 CALL prog R slices_ContainsFunc_int_int.id #[x2,v11] w12 fun v13 w14 =>
 b12 R x1 x2 x3 v13 w14))
theorem b11_ok (R:EP):TI prog R (fstC p1) (q5 R) fun z w=>b11 R (z 1) (z 2) (z 3) w:=appT 0 (b12_ok R)
theorem k2_ok (R:EP):TI prog R p1 (q1 R) fun z w=>b11 R (z 1) (z 2) (z 3) w:=seqT (b11_ok R) (b3_ok R)

def b1 (R:EP) (x0 x1 x2:Value) (w:World) (_r:Tok R:=tok R):Prop :=
 RUN prog R (box 61 x0) w fun v1 w2 =>
 b11 R x1 x2 v1 w2
theorem b1_ok (R:EP):TI prog R code (q1 R) fun z w=>b1 R (z 0) (z 1) (z 2) w:=appT 0 (k2_ok R)
def run (R:EP) (a0 a1 a2:Value) (w:World):Prop:=b1 R a0 a1 a2 w
theorem calls (R:EP) (a0 a1 a2:Value) (w:World) (h:run R a0 a1 a2 w):Calls prog id #[a0,a1,a2] w R :=
 calls_of_tt (f:=id) (fn:=f49) (c:=code) (by kernel_rfl) func49 (by kernel_rfl) (by kernel_rfl) (args:=[a0,a1,a2]) (Nat.le_of_ble_eq_true rfl) rfl (b1_ok R (envOf [a0,a1,a2]) w h)
theorem enters:Enters prog id:=fun args w=>call49 args w
theorem ct {a0 a1 a2:Value} {w:World} {S:VP} (h:∀R:EP,(∀v w,S v w→R (.returned v) w)→run R a0 a1 a2 w):Ct prog id #[a0,a1,a2] w S :=
 Ct.intro enters fun R hR=>calls R a0 a1 a2 w (h R hR)
attribute [irreducible] b5 b10 b9 l8 b6 b3 b12 b11 b1 run
end gram_Builder_Rule

/-! ### presage/gram.isTerm -/
namespace gram_isTerm
noncomputable def code:Code:=bodyOf f63
def b1 (R:EP) (x0:Value) (w:World) (_r:Tok R:=tok R):Prop :=
 RUN prog R (bins .neq 9 (.tmp 3) (.const (Value.string ⟨#[]⟩)) x0 (Value.string ⟨#[]⟩)) w fun v1 w2 =>
 SPL v1
 (RUN prog R (Builtin.len_ #[9] 3 #[x0]) w2 fun v3 w4 =>
 RUN prog R (bins .leq 3 (.tmp 7) (.const (Value.int .i64 16)) v3 (Value.int .i64 16)) w4 fun v5 w6 =>
 SPL v5
 (CALL prog R strings_IndexFunc.id #[x0,(Value.func (.func gram_isTerm_1.id) #[] #[])] w6 fun v7 w8 =>
 RUN prog R (bins .lss 3 (.tmp 12) (.const (Value.int .i64 0)) v7 (Value.int .i64 0)) w8 fun v9 w10 =>
 R (.returned v9) w10)
 (R (.returned (Value.bool false)) w6))
 (R (.returned (Value.bool false)) w2)
abbrev r0 (R:EP) (z:Env) (w:World):Prop:=R (.returned (z 2)) w
abbrev q1 (R:EP):XP:=QX (r0 R) (r0 R) []
theorem b1_ok (R:EP):TI prog R code (q1 R) fun z w=>b1 R (z 0) w:=ofT
def run (R:EP) (a0:Value) (w:World):Prop:=b1 R a0 w
theorem calls (R:EP) (a0:Value) (w:World) (h:run R a0 w):Calls prog id #[a0] w R:=cls_t func63 [a0] (b1_ok R _ w h)
theorem enters:Enters prog id:=fun args w=>call63 args w
theorem ct {a0:Value} {w:World} {S:VP} (h:∀R:EP,(∀v w,S v w→R (.returned v) w)→run R a0 w):Ct prog id #[a0] w S :=
 Ct.intro enters fun R hR=>calls R a0 w (h R hR)
attribute [irreducible] b1 run
end gram_isTerm

/-! ### (*presage/gram.names).find -/
namespace gram_names_find
noncomputable def code:Code:=bodyOf f77
def b1 (R:EP) (x0 x1:Value) (w:World) (_r:Tok R:=tok R):Prop :=
 NILC x0 fun v1 =>
 RUN prog R (fieldAt 98 v1 1) w fun v2 w3 =>
 RUN prog R (loadAt 82 v2) w3 fun v4 w5 =>
 RUN prog R (lookup 82 v4 x1 false) w5 fun v6 w7 =>
 R (.returned v6) w7
abbrev r0 (R:EP) (z:Env) (w:World):Prop:=R (.returned (z 4)) w
abbrev q1 (R:EP):XP:=QX (r0 R) (r0 R) []
theorem b1_ok (R:EP):TI prog R code (q1 R) fun z w=>b1 R (z 0) (z 1) w:=ofT
def run (R:EP) (a0 a1:Value) (w:World):Prop:=b1 R a0 a1 w
theorem calls (R:EP) (a0 a1:Value) (w:World) (h:run R a0 a1 w):Calls prog id #[a0,a1] w R:=cls_t func77 [a0,a1] (b1_ok R _ w h)
theorem enters:Enters prog id:=fun args w=>call77 args w
theorem ct {a0 a1:Value} {w:World} {S:VP} (h:∀R:EP,(∀v w,S v w→R (.returned v) w)→run R a0 a1 w):Ct prog id #[a0,a1] w S :=
 Ct.intro enters fun R hR=>calls R a0 a1 w (h R hR)
attribute [irreducible] b1 run
end gram_names_find

/-! ### (*presage/gram.names).size -/
namespace gram_names_size
noncomputable def code:Code:=bodyOf f53
def b1 (R:EP) (x0:Value) (w:World) (_r:Tok R:=tok R):Prop :=
 NILC x0 fun v1 =>
 RUN prog R (fieldAt 98 v1 0) w fun v2 w3 =>
 RUN prog R (loadAt 24 v2) w3 fun v4 w5 =>
 RUN prog R (Builtin.len_ #[24] 3 #[v4]) w5 fun v6 w7 =>
 R (.returned v6) w7
abbrev r0 (R:EP) (z:Env) (w:World):Prop:=R (.returned (z 2)) w
abbrev q1 (R:EP):XP:=QX (r0 R) (r0 R) []
theorem b1_ok (R:EP):TI prog R code (q1 R) fun z w=>b1 R (z 0) w:=ofT
def run (R:EP) (a0:Value) (w:World):Prop:=b1 R a0 w
theorem calls (R:EP) (a0:Value) (w:World) (h:run R a0 w):Calls prog id #[a0] w R:=cls_t func53 [a0] (b1_ok R _ w h)
theorem enters:Enters prog id:=fun args w=>call53 args w
theorem ct {a0:Value} {w:World} {S:VP} (h:∀R:EP,(∀v w,S v w→R (.returned v) w)→run R a0 w):Ct prog id #[a0] w S :=
 Ct.intro enters fun R hR=>calls R a0 w (h R hR)
attribute [irreducible] b1 run
end gram_names_size

/-! ### (*presage/gram.names).intern -/
namespace gram_names_intern
noncomputable def code:Code:=bodyOf f78
noncomputable abbrev p1:Code:=dropC 2 code
def b2 (R:EP) (x0 x1:Value) (w:World) (_r:Tok R:=tok R):Prop :=
 NILC x0 fun v1 =>
 PUR prog (fieldAt 98 v1 0) fun v2 =>
 LD prog (loadAt 24 v2) (World.drew w) fun v3 =>
 CALL prog R strings_Clone.id #[x1] (World.drew w) fun v4 w5 =>
 Sem.run prog (loadAt 24 v2) w5 = .ok v3 w5∧(RUN prog R (buildSlice 24 1 #[(0,v4)]) w5 fun v6 w7 =>
 Sem.run prog (loadAt 24 v2) w7 = .ok v3 w7∧(RUN prog R (Builtin.append_ #[24,24] 24 #[v3,v6]) w7 fun v8 w9 =>
 NILC x0 fun v10 =>
 PUR prog (fieldAt 98 v10 0) fun v11 =>
 RUNU prog R (storeAt 24 v11 v8) w9 fun w12 =>
 NILC x0 fun v13 =>
 PUR prog (fieldAt 98 v13 1) fun v14 =>
 LD prog (loadAt 82 v14) (World.drew w12) fun v15 =>
 NILC x0 fun v16 =>
 PUR prog (fieldAt 98 v16 0) fun v17 =>
 LD prog (loadAt 24 v17) (World.drew w12) fun v18 =>
 LD prog (Builtin.len_ #[24] 3 #[v18]) (World.drew w12) fun v19 =>
 RUNU prog R (mapUpdate 82 v15 x1 v19) (World.drew w12) fun w20 =>
 NILC x0 fun v21 =>
 RUN prog R (fieldAt 98 v21 0) w20 fun v22 w23 =>
 RUN prog R (loadAt 24 v22) w23 fun v24 w25 =>
 RUN prog R (Builtin.len_ #[24] 3 #[v24]) w25 fun v26 w27 =>
 R (.returned v26) w27))
abbrev r0 (R:EP) (z:Env) (w:World):Prop:=R (.returned (z 4)) w
abbrev q1 (R:EP):XP:=QX (r0 R) (r0 R) []
theorem b2_ok (R:EP):TI prog R p1 (q1 R) fun z w=>b2 R (z 0) (z 1) w:=ofT
def b1 (R:EP) (x0 x1:Value) (w:World) (_r:Tok R:=tok R):Prop :=
 NILC x0 fun v1 =>
 RUN prog R (fieldAt 98 v1 1) w fun v2 w3 =>
 RUN prog R (loadAt 82 v2) w3 fun v4 w5 =>
 RUN prog R (bins .eql 82 (.tmp 8) (.const (Value.map Option.none)) v4 (Value.map Option.none)) w5 fun v6 w7 =>
 SPL v6
 (RUN prog R (makeMap 82 none) w7 fun v8 w9 =>
 NILC x0 fun v10 =>
 RUN prog R (fieldAt 98 v10 1) w9 fun v11 w12 =>
 RUNU prog R (storeAt 82 v11 v8) w12 fun w13 =>
 b2 R x0 x1 w13)
 (b2 R x0 x1 w7)
theorem b1_ok (R:EP):TI prog R code (q1 R) fun z w=>b1 R (z 0) (z 1) w:=appT 1 (b2_ok R)
def run (R:EP) (a0 a1:Value) (w:World):Prop:=b1 R a0 a1 w
theorem calls (R:EP) (a0 a1:Value) (w:World) (h:run R a0 a1 w):Calls prog id #[a0,a1] w R:=cls_t func78 [a0,a1] (b1_ok R _ w h)
theorem enters:Enters prog id:=fun args w=>call78 args w
theorem ct {a0 a1:Value} {w:World} {S:VP} (h:∀R:EP,(∀v w,S v w→R (.returned v) w)→run R a0 a1 w):Ct prog id #[a0,a1] w S :=
 Ct.intro enters fun R hR=>calls R a0 a1 w (h R hR)
attribute [irreducible] b2 b1 run
end gram_names_intern

/-! ### (*presage/gram.Builder).isNonHandle -/
namespace gram_Builder_isNonHandle
noncomputable def code:Code:=bodyOf f80
def b1 (R:EP) (x0 x1:Value) (w:World) (_r:Tok R:=tok R):Prop :=
 RUN prog R (bins .lss 3 (.tmp 5) (.const (Value.int .i64 0)) x1 (Value.int .i64 0)) w fun v1 w2 =>
 SPL v1
 (NILC x0 fun v3 =>
 RUN prog R (fieldAt 103 v3 1) w2 fun v4 w5 =>
 RUN prog R (fieldAt 100 v4 0) w5 fun v6 w7 =>
 CALL prog R gram_names_size.id #[v6] w7 fun v8 w9 =>
 RUN prog R (Op.unary .neg v8) w9 fun v10 w11 =>
 RUN prog R (bins .geq 3 (.tmp 8) (.tmp 14) x1 v10) w11 fun v12 w13 =>
 R (.returned v12) w13)
 (R (.returned (Value.bool false)) w2)
abbrev r0 (R:EP) (z:Env) (w:World):Prop:=R (.returned (z 4)) w
abbrev q1 (R:EP):XP:=QX (r0 R) (r0 R) []
theorem b1_ok (R:EP):TI prog R code (q1 R) fun z w=>b1 R (z 0) (z 1) w:=ofT
def run (R:EP) (a0 a1:Value) (w:World):Prop:=b1 R a0 a1 w
theorem calls (R:EP) (a0 a1:Value) (w:World) (h:run R a0 a1 w):Calls prog id #[a0,a1] w R:=cls_t func80 [a0,a1] (b1_ok R _ w h)
theorem enters:Enters prog id:=fun args w=>call80 args w
theorem ct {a0 a1:Value} {w:World} {S:VP} (h:∀R:EP,(∀v w,S v w→R (.returned v) w)→run R a0 a1 w):Ct prog id #[a0,a1] w S :=
 Ct.intro enters fun R hR=>calls R a0 a1 w (h R hR)
attribute [irreducible] b1 run
end gram_Builder_isNonHandle

/-! ### presage/gram.isName -/
namespace gram_isName
noncomputable def code:Code:=bodyOf f67
noncomputable abbrev p1:Code:=dropC 1 code
def b3 (R:EP) (x0:Value) (w:World) (_r:Tok R:=tok R):Prop :=
 RUN prog R (bins .neq 9 (.tmp 38) (.const (Value.string ⟨#[]⟩)) x0 (Value.string ⟨#[]⟩)) w fun v1 w2 =>
 SPL v1
 (RUN prog R (Builtin.len_ #[9] 3 #[x0]) w2 fun v3 w4 =>
 RUN prog R (bins .leq 3 (.tmp 42) (.const (Value.int .i64 16)) v3 (Value.int .i64 16)) w4 fun v5 w6 =>
 R (.returned v5) w6)
 (R (.returned (Value.bool false)) w2)
abbrev r0 (R:EP) (z:Env) (w:World):Prop:=R (.returned (z 2)) w
abbrev q1 (R:EP):XP:=QX (r0 R) (r0 R) []
theorem b3_ok (R:EP):TI prog R (sndC p1) (q1 R) fun z w=>b3 R (z 0) w:=ofT
noncomputable abbrev p2:Code:=dropC 1 (fstC p1)
noncomputable abbrev p3:Code:=loopC (blkC p2)
noncomputable abbrev p4:Code:=dropC 2 p3

def b9 (R:EP) (C6:VP) (x7:Value) (w:World) (_r:Tok R:=tok R) (_C6:Tok C6:=tok C6):Prop :=
 RUN prog R (bins .add 3 (.tmp 7) (.const (Value.int .i64 1)) x7 (Value.int .i64 1)) w fun v1 w2 =>
 C6 v1 w2
abbrev q2 (R:EP) (C6:VP):XP:=QX (fun z w=>C6 (z 7) w) (r0 R) [(0,(fun z w=>b3 R (z 0) w))]
theorem b9_ok (R:EP) (C6:VP):TI prog R (sndC p4) (q2 R C6) fun z w=>b9 R C6 (z 7) w:=ofT
noncomputable abbrev p5:Code:=blkC (fstC p4)
noncomputable abbrev p6:Code:=dropC 3 p5

def b12 (R:EP) (C6:VP) (x7 x36:Value) (w:World) (_r:Tok R:=tok R) (_C6:Tok C6:=tok C6):Prop :=
 SPL x36
 (R (.returned (Value.bool false)) w)
 (b9 R C6 x7 w)
abbrev q3 (R:EP) (C6:VP):XP:=QX (fun z w=>b9 R C6 (z 7) w) (r0 R) [(2,(fun z w=>b9 R C6 (z 7) w)),(0,(fun z w=>b3 R (z 0) w))]
theorem b12_ok (R:EP) (C6:VP):TI prog R p6 (q3 R C6) fun z w=>b12 R C6 (z 7) (z 36) w:=ofT
def b11 (R:EP) (C6:VP) (x0 x7:Value) (w:World) (_r:Tok R:=tok R) (_C6:Tok C6:=tok C6):Prop :=
 RUN prog R (index 9 x0 x7) w fun v1 w2 =>
 RUN prog R (bins .neq 5 (.tmp 13) (.const (Value.int .u8 95)) v1 (Value.int .u8 95)) w2 fun v3 w4 =>
 SPL v3
 (RUN prog R (bins .or 5 (.tmp 16) (.const (Value.int .u8 32)) v1 (Value.int .u8 32)) w4 fun v5 w6 =>
 RUN prog R (bins .lss 5 (.tmp 17) (.const (Value.int .u8 97)) v5 (Value.int .u8 97)) w6 fun v7 w8 =>
 SPL v7
 (RUN prog R (bins .eql 3 (.tmp 26) (.const (Value.int .i64 0)) x7 (Value.int .i64 0)) w8 fun v9 w10 =>
 SPL v9
 (b12 R C6 x7 (Value.bool true) w10)
 (RUN prog R (bins .lss 5 (.tmp 29) (.const (Value.int .u8 48)) v1 (Value.int .u8 48)) w10 fun v11 w12 =>
 SPL v11
 (b12 R C6 x7 (Value.bool true) w12)
 (RUN prog R (bins .gtr 5 (.tmp 33) (.const (Value.int .u8 57)) v1 (Value.int .u8 57)) w12 fun v13 w14 =>
 b12 R C6 x7 v13 w14)))
 (RUN prog R (bins .or 5 (.tmp 20) (.const (Value.int .u8 32)) v1 (Value.int .u8 32)) w8 fun v15 w16 =>
 RUN prog R (bins .gtr 5 (.tmp 21) (.const (Value.int .u8 122)) v15 (Value.int .u8 122)) w16 fun v17 w18 =>
 SPL v17
 (RUN prog R (bins .eql 3 (.tmp 26) (.const (Value.int .i64 0)) x7 (Value.int .i64 0)) w18 fun v19 w20 =>
 SPL v19
 (b12 R C6 x7 (Value.bool true) w20)
 (RUN prog R (bins .lss 5 (.tmp 29) (.const (Value.int .u8 48)) v1 (Value.int .u8 48)) w20 fun v21 w22 =>
 SPL v21
 (b12 R C6 x7 (Value.bool true) w22)
 (RUN prog R (bins .gtr 5 (.tmp 33) (.const (Value.int .u8 57)) v1 (Value.int .u8 57)) w22 fun v23 w24 =>
 b12 R C6 x7 v23 w24)))
 (b12 R C6 x7 (Value.bool false) w18)))
 (b12 R C6 x7 (Value.bool false) w4)
theorem b11_ok (R:EP) (C6:VP):TI prog R p5 (q3 R C6) fun z w=>b11 R C6 (z 0) (z 7) w:=appT 2 (b12_ok R C6)
abbrev q4 (R:EP) (C6:VP):XP:=QX (fun z w=>b9 R C6 (z 7) w) (r0 R) [(0,(fun z w=>b3 R (z 0) w))]
theorem k10_ok (R:EP) (C6:VP):TI prog R (fstC p4) (q4 R C6) fun z w=>b11 R C6 (z 0) (z 7) w:=blockT 1 (b11_ok R C6)
theorem k8_ok (R:EP) (C6:VP):TI prog R p4 (q2 R C6) fun z w=>b11 R C6 (z 0) (z 7) w:=seqT (k10_ok R C6) (b9_ok R C6)
def b7 (R:EP) (C6:VP) (x0 x6 x7:Value) (w:World) (_r:Tok R:=tok R) (_C6:Tok C6:=tok C6):Prop :=
 RUN prog R (bins .lss 3 (.tmp 7) (.tmp 6) x7 x6) w fun v1 w2 =>
 SPL v1
 (b11 R C6 x0 x7 w2)
 (b3 R x0 w2)
theorem b7_ok (R:EP) (C6:VP):TI prog R p3 (q2 R C6) fun z w=>b7 R C6 (z 0) (z 6) (z 7) w:=appT 1 (k8_ok R C6)
def l6 (R:EP) (x0 x6 x7:Value) (w:World) (_r:Tok R:=tok R):Prop :=
 ∃(J:VP) (μ:Value→World→Nat),J x7 w∧∀y7 w0,J y7 w0→b7 R (fun z7 w1=>J z7 w1∧μ z7 w1<μ y7 w0) x0 x6 y7 w0
abbrev q5 (R:EP):XP:=QX (fun z w=>b3 R (z 0) w) (r0 R) [(0,(fun z w=>b3 R (z 0) w))]
theorem l6_ok (R:EP):TI prog R (blkC p2) (q5 R) fun z w=>l6 R (z 0) (z 6) (z 7) w:=fun z w h=>by
 unfold l6 at h
 obtain ⟨J,μ,h0,hr⟩:=h
 refine loopT (fun z' w'=>J (z' 7) w') (fun z' w'=>μ (z' 7) w') h0 fun z' w' hA hI=>b7_ok R (fun z7 w1=>J z7 w1∧μ z7 w1<μ (z' 7) w') z' w' ?_
 have h1:=hr (z' 7) w' hI
 rwa [←hA.on 0,←hA.on 6] at h1
theorem l6_intro (R:EP) (x0 x6 x7:Value) (w:World) (J:VP) (μ:Value→World→Nat) (h0:J x7 w)
   (hr:∀y7 w0,J y7 w0→∀C6:VP,(∀z7 w1,J z7 w1→μ z7 w1<μ y7 w0→C6 z7 w1)→b7 R C6 x0 x6 y7 w0):l6 R x0 x6 x7 w:=by
 unfold l6
 exact ⟨J,μ,h0,fun y7 w0 hJ=>hr y7 w0 hJ _ (fun z7 w1 h1 h2=>⟨h1,h2⟩)⟩
abbrev q6 (R:EP):XP:=QX (fun z w=>b3 R (z 0) w) (r0 R) []
theorem k5_ok (R:EP):TI prog R p2 (q6 R) fun z w=>l6 R (z 0) (z 6) (z 7) w:=blockT 0 (l6_ok R)
def b4 (R:EP) (x0:Value) (w:World) (_r:Tok R:=tok R):Prop :=
 RUN prog R (Builtin.len_ #[9] 3 #[x0]) w fun v1 w2 =>
 l6 R x0 v1 (Value.int .i64 0) w2
theorem b4_ok (R:EP):TI prog R (fstC p1) (q6 R) fun z w=>b4 R (z 0) w:=appT 0 (k5_ok R)
theorem k2_ok (R:EP):TI prog R p1 (q1 R) fun z w=>b4 R (z 0) w:=seqT (b4_ok R) (b3_ok R)
def b1 (R:EP) (x0:Value) (w:World) (_r:Tok R:=tok R):Prop :=
 b4 R x0 w
theorem b1_ok (R:EP):TI prog R code (q1 R) fun z w=>b1 R (z 0) w:=appT 0 (k2_ok R)
def run (R:EP) (a0:Value) (w:World):Prop:=b1 R a0 w
theorem calls (R:EP) (a0:Value) (w:World) (h:run R a0 w):Calls prog id #[a0] w R:=cls_t func67 [a0] (b1_ok R _ w h)
theorem enters:Enters prog id:=fun args w=>call67 args w
theorem ct {a0:Value} {w:World} {S:VP} (h:∀R:EP,(∀v w,S v w→R (.returned v) w)→run R a0 w):Ct prog id #[a0] w S :=
 Ct.intro enters fun R hR=>calls R a0 w (h R hR)
attribute [irreducible] b3 b9 b12 b11 b7 l6 b4 b1 run
end gram_isName

/-! ### (*presage/gram.Builder).Rule$1 -/
namespace gram_Builder_Rule_1
noncomputable def code:Code:=bodyOf f82
def b1 (R:EP) (x0 x1:Value) (w:World) (_r:Tok R:=tok R):Prop :=
 RUN prog R (loadAt 61 x1) w fun v1 w2 =>
 CALL prog R gram_Builder_isTermHandle.id #[v1,x0] w2 fun v3 w4 =>
 RUN prog R (Op.unary .not v3) w4 fun v5 w6 =>
 SPL v5
 (RUN prog R (loadAt 61 x1) w6 fun v7 w8 =>
 CALL prog R gram_Builder_isNonHandle.id #[v7,x0] w8 fun v9 w10 =>
 RUN prog R (Op.unary .not v9) w10 fun v11 w12 =>
 R (.returned v11) w12)
 (R (.returned (Value.bool false)) w6)
abbrev r0 (R:EP) (z:Env) (w:World):Prop:=R (.returned (z 3)) w
abbrev q1 (R:EP):XP:=QX (r0 R) (r0 R) []
theorem b1_ok (R:EP):TI prog R code (q1 R) fun z w=>b1 R (z 0) (z 1) w:=ofT
def run (R:EP) (a0 a1:Value) (w:World):Prop:=b1 R a0 a1 w
theorem calls (R:EP) (a0 a1:Value) (w:World) (h:run R a0 a1 w):Calls prog id #[a0,a1] w R:=cls_t func82 [a0,a1] (b1_ok R _ w h)
theorem enters:Enters prog id:=fun args w=>call82 args w
theorem ct {a0 a1:Value} {w:World} {S:VP} (h:∀R:EP,(∀v w,S v w→R (.returned v) w)→run R a0 a1 w):Ct prog id #[a0,a1] w S :=
 Ct.intro enters fun R hR=>calls R a0 a1 w (h R hR)
attribute [irreducible] b1 run
end gram_Builder_Rule_1

/-! ### (*presage/gram.Builder).isTermHandle -/
namespace gram_Builder_isTermHandle
noncomputable def code:Code:=bodyOf f79
def b1 (R:EP) (x0 x1:Value) (w:World) (_r:Tok R:=tok R):Prop :=
 RUN prog R (bins .gtr 3 (.tmp 5) (.const (Value.int .i64 0)) x1 (Value.int .i64 0)) w fun v1 w2 =>
 SPL v1
 (NILC x0 fun v3 =>
 RUN prog R (fieldAt 103 v3 0) w2 fun v4 w5 =>
 CALL prog R gram_names_size.id #[v4] w5 fun v6 w7 =>
 RUN prog R (bins .leq 3 (.tmp 8) (.tmp 12) x1 v6) w7 fun v8 w9 =>
 R (.returned v8) w9)
 (R (.returned (Value.bool false)) w2)
abbrev r0 (R:EP) (z:Env) (w:World):Prop:=R (.returned (z 4)) w
abbrev q1 (R:EP):XP:=QX (r0 R) (r0 R) []
theorem b1_ok (R:EP):TI prog R code (q1 R) fun z w=>b1 R (z 0) (z 1) w:=ofT
def run (R:EP) (a0 a1:Value) (w:World):Prop:=b1 R a0 a1 w
theorem calls (R:EP) (a0 a1:Value) (w:World) (h:run R a0 a1 w):Calls prog id #[a0,a1] w R:=cls_t func79 [a0,a1] (b1_ok R _ w h)
theorem enters:Enters prog id:=fun args w=>call79 args w
theorem ct {a0 a1:Value} {w:World} {S:VP} (h:∀R:EP,(∀v w,S v w→R (.returned v) w)→run R a0 a1 w):Ct prog id #[a0,a1] w S :=
 Ct.intro enters fun R hR=>calls R a0 a1 w (h R hR)
attribute [irreducible] b1 run
end gram_Builder_isTermHandle

/-! ### presage/gram.isTerm$1 -/
namespace gram_isTerm_1
noncomputable def code:Code:=bodyOf f91
def b1 (R:EP) (x0:Value) (w:World) (_r:Tok R:=tok R):Prop :=
 RUN prog R (bins .lss 21 (.tmp 3) (.const (Value.int .i32 32)) x0 (Value.int .i32 32)) w fun v1 w2 =>
 SPL v1
 (R (.returned (Value.bool true)) w2)
 (RUN prog R (bins .gtr 21 (.tmp 6) (.const (Value.int .i32 126)) x0 (Value.int .i32 126)) w2 fun v3 w4 =>
 SPL v3
 (R (.returned (Value.bool true)) w4)
 (RUN prog R (bins .eql 21 (.tmp 10) (.const (Value.int .i32 39)) x0 (Value.int .i32 39)) w4 fun v5 w6 =>
 R (.returned v5) w6))
abbrev r0 (R:EP) (z:Env) (w:World):Prop:=R (.returned (z 2)) w
abbrev q1 (R:EP):XP:=QX (r0 R) (r0 R) []
theorem b1_ok (R:EP):TI prog R code (q1 R) fun z w=>b1 R (z 0) w:=ofT
def run (R:EP) (a0:Value) (w:World):Prop:=b1 R a0 w
theorem calls (R:EP) (a0:Value) (w:World) (h:run R a0 w):Calls prog id #[a0] w R:=cls_t func91 [a0] (b1_ok R _ w h)
theorem enters:Enters prog id:=fun args w=>call91 args w
theorem ct {a0:Value} {w:World} {S:VP} (h:∀R:EP,(∀v w,S v w→R (.returned v) w)→run R a0 w):Ct prog id #[a0] w S :=
 Ct.intro enters fun R hR=>calls R a0 w (h R hR)
attribute [irreducible] b1 run
end gram_isTerm_1
end Go.Proofs.YtckbgeedlobfaaaDoor

/- Shallow programs, written by a program of ours (gen.py) off the translation; each is tied to the code by the kernel. -/
namespace Go.Proofs.YtckbgeedlobfaaaDoor
open Go.Px Tryd Instr

/-! ### strings.IndexFunc -/
namespace strings_IndexFunc
noncomputable def code:Code:=bodyOf f90
def b1 (R:EP) (x0 x1:Value) (w:World) (_r:Tok R:=tok R):Prop :=
 CALL prog R strings_indexFunc.id #[x0,x1,(Value.bool true)] w fun v1 w2 =>
 R (.returned v1) w2
abbrev r0 (R:EP) (z:Env) (w:World):Prop:=R (.returned (z 4)) w
abbrev q1 (R:EP):XP:=QX (r0 R) (r0 R) []
theorem b1_ok (R:EP):TI prog R code (q1 R) fun z w=>b1 R (z 0) (z 1) w:=ofT
def run (R:EP) (a0 a1:Value) (w:World):Prop:=b1 R a0 a1 w
theorem calls (R:EP) (a0 a1:Value) (w:World) (h:run R a0 a1 w):Calls prog id #[a0,a1] w R:=cls_t func90 [a0,a1] (b1_ok R _ w h)
theorem enters:Enters prog id:=fun args w=>call90 args w
theorem ct {a0 a1:Value} {w:World} {S:VP} (h:∀R:EP,(∀v w,S v w→R (.returned v) w)→run R a0 a1 w):Ct prog id #[a0,a1] w S :=
 Ct.intro enters fun R hR=>calls R a0 a1 w (h R hR)
attribute [irreducible] b1 run
end strings_IndexFunc

/-! ### strings.Clone -/
namespace strings_Clone
noncomputable def code:Code:=bodyOf f101
def b1 (R:EP) (x0:Value) (w:World) (_r:Tok R:=tok R):Prop :=
 CALL prog R internal_stringslite_Clone.id #[x0] w fun v1 w2 =>
 R (.returned v1) w2
abbrev r0 (R:EP) (z:Env) (w:World):Prop:=R (.returned (z 2)) w
abbrev q1 (R:EP):XP:=QX (r0 R) (r0 R) []
theorem b1_ok (R:EP):TI prog R code (q1 R) fun z w=>b1 R (z 0) w:=ofT
def run (R:EP) (a0:Value) (w:World):Prop:=b1 R a0 w
theorem calls (R:EP) (a0:Value) (w:World) (h:run R a0 w):Calls prog id #[a0] w R:=cls_t func101 [a0] (b1_ok R _ w h)
theorem enters:Enters prog id:=fun args w=>call101 args w
theorem ct {a0:Value} {w:World} {S:VP} (h:∀R:EP,(∀v w,S v w→R (.returned v) w)→run R a0 w):Ct prog id #[a0] w S :=
 Ct.intro enters fun R hR=>calls R a0 w (h R hR)
attribute [irreducible] b1 run
end strings_Clone

/-! ### strings.indexFunc -/
namespace strings_indexFunc
noncomputable def code:Code:=bodyOf f103
noncomputable abbrev p1:Code:=dropC 1 code

def b3 (R:EP) (w:World) (_r:Tok R:=tok R):Prop :=
 R (.returned (Value.int .i64 (-1))) w
abbrev r0 (R:EP) (z:Env) (w:World):Prop:=R (.returned (z 6)) w
abbrev q1 (R:EP):XP:=QX (r0 R) (r0 R) []
theorem b3_ok (R:EP):TI prog R (sndC p1) (q1 R) fun z w=>b3 R w:=ofT
noncomputable abbrev p2:Code:=dropC 1 (fstC p1)
noncomputable abbrev p3:Code:=loopC (blkC p2)
def b7 (R:EP) (C6:World→Prop) (x1 x2 x10:Value) (w:World) (_r:Tok R:=tok R) (_C6:Tok C6:=tok C6):Prop :=
 RUN prog R (next x10 true 0) w fun v1 w2 =>
 RUN prog R (extract v1 0) w2 fun v3 w4 =>
 SPL v3
 (RUN prog R (extract v1 1) w4 fun v5 w6 =>
 RUN prog R (extract v1 2) w6 fun v7 w8 =>
 CALLY prog R x1 [v7] w8 fun v9 w10 =>
 RUN prog R (bins .eql 4 (.tmp 17) (.tmp 18) v9 x2) w10 fun v11 w12 =>
 SPL v11
 (R (.returned v5) w12)
 (C6  w12))
 (b3 R w4)
abbrev q2 (R:EP) (C6:World→Prop):XP:=QX (fun z w=>C6  w) (r0 R) [(0,(fun z w=>b3 R  w))]
theorem b7_ok (R:EP) (C6:World→Prop):TI prog R p3 (q2 R C6) fun z w=>b7 R C6 (z 1) (z 2) (z 10) w:=ofT
def l6 (R:EP) (x1 x2 x10:Value) (w:World) (_r:Tok R:=tok R):Prop :=
 ∃(J:World→Prop) (μ:World→Nat),J  w∧∀w0,J  w0→b7 R (fun  w1=>J  w1∧μ  w1<μ  w0) x1 x2 x10 w0
abbrev q3 (R:EP):XP:=QX (fun z w=>b3 R  w) (r0 R) [(0,(fun z w=>b3 R  w))]
theorem l6_ok (R:EP):TI prog R (blkC p2) (q3 R) fun z w=>l6 R (z 1) (z 2) (z 10) w:=fun z w h=>by
 unfold l6 at h
 obtain ⟨J,μ,h0,hr⟩:=h
 refine loopT (fun z' w'=>J  w') (fun z' w'=>μ  w') h0 fun z' w' hA hI=>b7_ok R (fun  w1=>J  w1∧μ  w1<μ  w') z' w' ?_
 have h1:=hr  w' hI
 rwa [←hA.on 1,←hA.on 2,←hA.on 10] at h1
theorem l6_intro (R:EP) (x1 x2 x10:Value) (w:World) (J:World→Prop) (μ:World→Nat) (h0:J  w)
   (hr:∀w0,J  w0→∀C6:World→Prop,(∀w1,J  w1→μ  w1<μ  w0→C6  w1)→b7 R C6 x1 x2 x10 w0):l6 R x1 x2 x10 w:=by
 unfold l6
 exact ⟨J,μ,h0,fun  w0 hJ=>hr  w0 hJ _ (fun  w1 h1 h2=>⟨h1,h2⟩)⟩
abbrev q4 (R:EP):XP:=QX (fun z w=>b3 R  w) (r0 R) []
theorem k5_ok (R:EP):TI prog R p2 (q4 R) fun z w=>l6 R (z 1) (z 2) (z 10) w:=blockT 0 (l6_ok R)
def b4 (R:EP) (x0 x1 x2:Value) (w:World) (_r:Tok R:=tok R):Prop :=
 RUN prog R (range 9 x0) w fun v1 w2 =>
 l6 R x1 x2 v1 w2
theorem b4_ok (R:EP):TI prog R (fstC p1) (q4 R) fun z w=>b4 R (z 0) (z 1) (z 2) w:=appT 0 (k5_ok R)
theorem k2_ok (R:EP):TI prog R p1 (q1 R) fun z w=>b4 R (z 0) (z 1) (z 2) w:=seqT (b4_ok R) (b3_ok R)
def b1 (R:EP) (x0 x1 x2:Value) (w:World) (_r:Tok R:=tok R):Prop :=
 b4 R x0 x1 x2 w
theorem b1_ok (R:EP):TI prog R code (q1 R) fun z w=>b1 R (z 0) (z 1) (z 2) w:=appT 0 (k2_ok R)
def run (R:EP) (a0 a1 a2:Value) (w:World):Prop:=b1 R a0 a1 a2 w
theorem calls (R:EP) (a0 a1 a2:Value) (w:World) (h:run R a0 a1 a2 w):Calls prog id #[a0,a1,a2] w R:=cls_t func103 [a0,a1,a2] (b1_ok R _ w h)
theorem enters:Enters prog id:=fun args w=>call103 args w
theorem ct {a0 a1 a2:Value} {w:World} {S:VP} (h:∀R:EP,(∀v w,S v w→R (.returned v) w)→run R a0 a1 a2 w):Ct prog id #[a0,a1,a2] w S :=
 Ct.intro enters fun R hR=>calls R a0 a1 a2 w (h R hR)
attribute [irreducible] b3 b7 l6 b4 b1 run
end strings_indexFunc

/-! ### internal/stringslite.Clone -/
namespace internal_stringslite_Clone
noncomputable def code:Code:=bodyOf f113
def b1 (R:EP) (x0:Value) (w:World) (_r:Tok R:=tok R):Prop :=
 RUN prog R (Builtin.len_ #[9] 3 #[x0]) w fun v1 w2 =>
 RUN prog R (bins .eql 3 (.tmp 5) (.const (Value.int .i64 0)) v1 (Value.int .i64 0)) w2 fun v3 w4 =>
 SPL v3
 (R (.returned (Value.string ⟨#[]⟩)) w4)
 (RUN prog R (Builtin.len_ #[9] 3 #[x0]) w4 fun v5 w6 =>
 RUN prog R (makeSlice 160 v5 v5) w6 fun v7 w8 =>
 RUN prog R (Builtin.copy_ #[160,9] 3 #[v7,x0]) w8 fun v9 w10 =>
 RUN prog R (indexAt 160 v7 (Value.int .i64 0)) w10 fun v11 w12 =>
 RUN prog R (Builtin.len_ #[160] 3 #[v7]) w12 fun v13 w14 =>
 RUN prog R (Builtin.unsafeString_ #[161,3] 9 #[v11,v13]) w14 fun v15 w16 =>
 R (.returned v15) w16)
abbrev r0 (R:EP) (z:Env) (w:World):Prop:=R (.returned (z 2)) w
abbrev q1 (R:EP):XP:=QX (r0 R) (r0 R) []
theorem b1_ok (R:EP):TI prog R code (q1 R) fun z w=>b1 R (z 0) w:=ofT
def run (R:EP) (a0:Value) (w:World):Prop:=b1 R a0 w
theorem calls (R:EP) (a0:Value) (w:World) (h:run R a0 w):Calls prog id #[a0] w R:=cls_t func113 [a0] (b1_ok R _ w h)
theorem enters:Enters prog id:=fun args w=>call113 args w
theorem ct {a0:Value} {w:World} {S:VP} (h:∀R:EP,(∀v w,S v w→R (.returned v) w)→run R a0 w):Ct prog id #[a0] w S :=
 Ct.intro enters fun R hR=>calls R a0 w (h R hR)
attribute [irreducible] b1 run
end internal_stringslite_Clone

/-! ### slices.ContainsFunc[[]int,int] -/
namespace slices_ContainsFunc_int_int
noncomputable def code:Code:=bodyOf f81
def b1 (R:EP) (x0 x1:Value) (w:World) (_r:Tok R:=tok R):Prop :=
 CALL prog R slices_IndexFunc_int_int.id #[x0,x1] w fun v1 w2 =>
 RUN prog R (bins .geq 3 (.tmp 7) (.const (Value.int .i64 0)) v1 (Value.int .i64 0)) w2 fun v3 w4 =>
 R (.returned v3) w4
abbrev r0 (R:EP) (z:Env) (w:World):Prop:=R (.returned (z 4)) w
abbrev q1 (R:EP):XP:=QX (r0 R) (r0 R) []
theorem b1_ok (R:EP):TI prog R code (q1 R) fun z w=>b1 R (z 0) (z 1) w:=ofT
def run (R:EP) (a0 a1:Value) (w:World):Prop:=b1 R a0 a1 w
theorem calls (R:EP) (a0 a1:Value) (w:World) (h:run R a0 a1 w):Calls prog id #[a0,a1] w R:=cls_t func81 [a0,a1] (b1_ok R _ w h)
theorem enters:Enters prog id:=fun args w=>call81 args w
theorem ct {a0 a1:Value} {w:World} {S:VP} (h:∀R:EP,(∀v w,S v w→R (.returned v) w)→run R a0 a1 w):Ct prog id #[a0,a1] w S :=
 Ct.intro enters fun R hR=>calls R a0 a1 w (h R hR)
attribute [irreducible] b1 run
end slices_ContainsFunc_int_int

/-! ### slices.IndexFunc[[]int,int] -/
namespace slices_IndexFunc_int_int
noncomputable def code:Code:=bodyOf f102
noncomputable abbrev p1:Code:=dropC 1 code

def b3 (R:EP) (w:World) (_r:Tok R:=tok R):Prop :=
 R (.returned (Value.int .i64 (-1))) w
abbrev r0 (R:EP) (z:Env) (w:World):Prop:=R (.returned (z 4)) w
abbrev q1 (R:EP):XP:=QX (r0 R) (r0 R) []
theorem b3_ok (R:EP):TI prog R (sndC p1) (q1 R) fun z w=>b3 R w:=ofT
noncomputable abbrev p2:Code:=dropC 1 (fstC p1)
noncomputable abbrev p3:Code:=loopC (blkC p2)
def b7 (R:EP) (C6:VP) (x0 x1 x7 x8:Value) (w:World) (_r:Tok R:=tok R) (_C6:Tok C6:=tok C6):Prop :=
 RUN prog R (bins .lss 3 (.tmp 8) (.tmp 7) x8 x7) w fun v1 w2 =>
 SPL v1
 (RUN prog R (indexAt 25 x0 x8) w2 fun v3 w4 =>
 RUN prog R (loadAt 3 v3) w4 fun v5 w6 =>
 CALLY prog R x1 [v5] w6 fun v7 w8 =>
 SPL v7
 (R (.returned x8) w8)
 (RUN prog R (bins .add 3 (.tmp 8) (.const (Value.int .i64 1)) x8 (Value.int .i64 1)) w8 fun v9 w10 =>
 C6 v9 w10))
 (b3 R w2)
abbrev q2 (R:EP) (C6:VP):XP:=QX (fun z w=>C6 (z 8) w) (r0 R) [(0,(fun z w=>b3 R  w))]
theorem b7_ok (R:EP) (C6:VP):TI prog R p3 (q2 R C6) fun z w=>b7 R C6 (z 0) (z 1) (z 7) (z 8) w:=ofT
def l6 (R:EP) (x0 x1 x7 x8:Value) (w:World) (_r:Tok R:=tok R):Prop :=
 ∃(J:VP) (μ:Value→World→Nat),J x8 w∧∀y8 w0,J y8 w0→b7 R (fun z8 w1=>J z8 w1∧μ z8 w1<μ y8 w0) x0 x1 x7 y8 w0
abbrev q3 (R:EP):XP:=QX (fun z w=>b3 R  w) (r0 R) [(0,(fun z w=>b3 R  w))]
theorem l6_ok (R:EP):TI prog R (blkC p2) (q3 R) fun z w=>l6 R (z 0) (z 1) (z 7) (z 8) w:=fun z w h=>by
 unfold l6 at h
 obtain ⟨J,μ,h0,hr⟩:=h
 refine loopT (fun z' w'=>J (z' 8) w') (fun z' w'=>μ (z' 8) w') h0 fun z' w' hA hI=>b7_ok R (fun z8 w1=>J z8 w1∧μ z8 w1<μ (z' 8) w') z' w' ?_
 have h1:=hr (z' 8) w' hI
 rwa [←hA.on 0,←hA.on 1,←hA.on 7] at h1
theorem l6_intro (R:EP) (x0 x1 x7 x8:Value) (w:World) (J:VP) (μ:Value→World→Nat) (h0:J x8 w)
   (hr:∀y8 w0,J y8 w0→∀C6:VP,(∀z8 w1,J z8 w1→μ z8 w1<μ y8 w0→C6 z8 w1)→b7 R C6 x0 x1 x7 y8 w0):l6 R x0 x1 x7 x8 w:=by
 unfold l6
 exact ⟨J,μ,h0,fun y8 w0 hJ=>hr y8 w0 hJ _ (fun z8 w1 h1 h2=>⟨h1,h2⟩)⟩
abbrev q4 (R:EP):XP:=QX (fun z w=>b3 R  w) (r0 R) []
theorem k5_ok (R:EP):TI prog R p2 (q4 R) fun z w=>l6 R (z 0) (z 1) (z 7) (z 8) w:=blockT 0 (l6_ok R)
def b4 (R:EP) (x0 x1:Value) (w:World) (_r:Tok R:=tok R):Prop :=
 RUN prog R (Builtin.len_ #[25] 3 #[x0]) w fun v1 w2 =>
 l6 R x0 x1 v1 (Value.int .i64 0) w2
theorem b4_ok (R:EP):TI prog R (fstC p1) (q4 R) fun z w=>b4 R (z 0) (z 1) w:=appT 0 (k5_ok R)
theorem k2_ok (R:EP):TI prog R p1 (q1 R) fun z w=>b4 R (z 0) (z 1) w:=seqT (b4_ok R) (b3_ok R)
def b1 (R:EP) (x0 x1:Value) (w:World) (_r:Tok R:=tok R):Prop :=
 b4 R x0 x1 w
theorem b1_ok (R:EP):TI prog R code (q1 R) fun z w=>b1 R (z 0) (z 1) w:=appT 0 (k2_ok R)
def run (R:EP) (a0 a1:Value) (w:World):Prop:=b1 R a0 a1 w
theorem calls (R:EP) (a0 a1:Value) (w:World) (h:run R a0 a1 w):Calls prog id #[a0,a1] w R:=cls_t func102 [a0,a1] (b1_ok R _ w h)
theorem enters:Enters prog id:=fun args w=>call102 args w
theorem ct {a0 a1:Value} {w:World} {S:VP} (h:∀R:EP,(∀v w,S v w→R (.returned v) w)→run R a0 a1 w):Ct prog id #[a0,a1] w S :=
 Ct.intro enters fun R hR=>calls R a0 a1 w (h R hR)
attribute [irreducible] b3 b7 l6 b4 b1 run
end slices_IndexFunc_int_int

/-! ### slices.Clone[[]int,int] -/
namespace slices_Clone_int_int
noncomputable def code:Code:=bodyOf f52
def b1 (R:EP) (x0:Value) (w:World) (_r:Tok R:=tok R):Prop :=
 RUN prog R (bins .eql 25 (.tmp 3) (.const (Value.slice Option.none 0 0)) x0 (Value.slice Option.none 0 0)) w fun v1 w2 =>
 SPL v1
 (R (.returned (Value.slice Option.none 0 0)) w2)
 (RUN prog R (buildSlice 25 0 #[]) w2 fun v3 w4 =>
 RUN prog R (Builtin.append_ #[25,25] 25 #[v3,x0]) w4 fun v5 w6 =>
 R (.returned v5) w6)
abbrev r0 (R:EP) (z:Env) (w:World):Prop:=R (.returned (z 2)) w
abbrev q1 (R:EP):XP:=QX (r0 R) (r0 R) []
theorem b1_ok (R:EP):TI prog R code (q1 R) fun z w=>b1 R (z 0) w:=ofT
def run (R:EP) (a0:Value) (w:World):Prop:=b1 R a0 w
theorem calls (R:EP) (a0:Value) (w:World) (h:run R a0 w):Calls prog id #[a0] w R:=cls_t func52 [a0] (b1_ok R _ w h)
theorem enters:Enters prog id:=fun args w=>call52 args w
theorem ct {a0:Value} {w:World} {S:VP} (h:∀R:EP,(∀v w,S v w→R (.returned v) w)→run R a0 w):Ct prog id #[a0] w S :=
 Ct.intro enters fun R hR=>calls R a0 w (h R hR)
attribute [irreducible] b1 run
end slices_Clone_int_int
end Go.Proofs.YtckbgeedlobfaaaDoor

/- Shallow programs, written by a program of ours (gen.py) off the translation; each is tied to the code by the kernel. -/
namespace Go.Proofs.YtckbgeedlobfaaaDoor
open Go.Px Tryd Instr

end Go.Proofs.YtckbgeedlobfaaaDoor
