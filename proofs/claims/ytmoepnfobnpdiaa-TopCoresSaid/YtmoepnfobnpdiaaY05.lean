/-
  Texts of this claim: TCS, T02R2.
-/
import Derived.Test.YtmoepnfobnpdiaaY04
set_option linter.unusedVariables false
set_option maxRecDepth 100000
/- Shallow programs, written by a program of ours (gen.py) off the translation; each is tied to the code by the kernel. -/
namespace Go.Proofs.Ytmoepnfobnpdiaa
open Go.Px Try Instr

/-! ### slices.Clip[[]presage/api.Edge,presage/api.Edge] -/
namespace slices_Clip_api_Edge_api_Edge
noncomputable def code:Code:=bodyOf f17
def b1 (R:EP) (x0:Value) (w:World) (_r:Tok R:=tok R):Prop :=
 RUN prog R (Builtin.len_ #[46] 3 #[x0]) w fun v1 w2 =>
 RUN prog R (Builtin.len_ #[46] 3 #[x0]) w2 fun v3 w4 =>
 RUN prog R (sliceAt 46 x0 none (some v1) (some v3)) w4 fun v5 w6 =>
 R (.returned v5) w6
abbrev r0 (R:EP) (z:Env) (w:World):Prop:=R (.returned (z 2)) w
abbrev q1 (R:EP):XP:=QX (r0 R) (r0 R) []
theorem b1_ok (R:EP):TI prog R code (q1 R) fun z w=>b1 R (z 0) w:=ofT
def run (R:EP) (a0:Value) (w:World):Prop:=b1 R a0 w
theorem calls (R:EP) (a0:Value) (w:World) (h:run R a0 w):Calls prog id #[a0] w R:=cls_t func17 [a0] (b1_ok R _ w h)
theorem enters:Enters prog id:=fun args w=>call17 args w
theorem ct {a0:Value} {w:World} {S:VP} (h:∀R:EP,(∀v w,S v w→R (.returned v) w)→run R a0 w):Ct prog id #[a0] w S :=
 Ct.intro enters fun R hR=>calls R a0 w (h R hR)
attribute [irreducible,go_sem] b1 run
end slices_Clip_api_Edge_api_Edge

/-! ### slices.Clip[[]presage/api.State,presage/api.State] -/
namespace slices_Clip_api_State_api_State
noncomputable def code:Code:=bodyOf f18
def b1 (R:EP) (x0:Value) (w:World) (_r:Tok R:=tok R):Prop :=
 RUN prog R (Builtin.len_ #[28] 3 #[x0]) w fun v1 w2 =>
 RUN prog R (Builtin.len_ #[28] 3 #[x0]) w2 fun v3 w4 =>
 RUN prog R (sliceAt 28 x0 none (some v1) (some v3)) w4 fun v5 w6 =>
 R (.returned v5) w6
abbrev r0 (R:EP) (z:Env) (w:World):Prop:=R (.returned (z 2)) w
abbrev q1 (R:EP):XP:=QX (r0 R) (r0 R) []
theorem b1_ok (R:EP):TI prog R code (q1 R) fun z w=>b1 R (z 0) w:=ofT
def run (R:EP) (a0:Value) (w:World):Prop:=b1 R a0 w
theorem calls (R:EP) (a0:Value) (w:World) (h:run R a0 w):Calls prog id #[a0] w R:=cls_t func18 [a0] (b1_ok R _ w h)
theorem enters:Enters prog id:=fun args w=>call18 args w
theorem ct {a0:Value} {w:World} {S:VP} (h:∀R:EP,(∀v w,S v w→R (.returned v) w)→run R a0 w):Ct prog id #[a0] w S :=
 Ct.intro enters fun R hR=>calls R a0 w (h R hR)
attribute [irreducible,go_sem] b1 run
end slices_Clip_api_State_api_State

/-! ### cmp.Or[int] -/
namespace cmp_Or_int
noncomputable def code:Code:=bodyOf f36
noncomputable abbrev p1:Code:=dropC 2 code
def b3 (R:EP) (x3:Value) (w:World) (_r:Tok R:=tok R):Prop :=
 R (.returned x3) w
abbrev r0 (R:EP) (z:Env) (w:World):Prop:=R (.returned (z 2)) w
abbrev q1 (R:EP):XP:=QX (r0 R) (r0 R) []
theorem b3_ok (R:EP):TI prog R (sndC p1) (q1 R) fun z w=>b3 R (z 3) w:=ofT
noncomputable abbrev p2:Code:=dropC 1 (fstC p1)
noncomputable abbrev p3:Code:=loopC (blkC p2)
def b7_1 (R:EP) (C6:VP) (x3 x6 x8:Value) (w2:World) (_r:Tok R:=tok R) (_C6:Tok C6:=tok C6):Prop :=
 RUN prog R (indexAt 24 x6 x8) w2 fun v3 w4 =>
 RUN prog R (loadAt 3 v3) w4 fun v5 w6 =>
 RUN prog R (bins .neq 3 (.tmp 12) (.tmp 13) v5 x3) w6 fun v7 w8 =>
 SPL v7
 (R (.returned v5) w8)
 (RUN prog R (bins .add 3 (.tmp 8) (.const (Value.int .i64 1)) x8 (Value.int .i64 1)) w8 fun v9 w10 =>
 C6 v9 w10)
def b7 (R:EP) (C6:VP) (x3 x6 x7 x8:Value) (w:World) (_r:Tok R:=tok R) (_C6:Tok C6:=tok C6):Prop :=
 RUN prog R (bins .lss 3 (.tmp 8) (.tmp 7) x8 x7) w fun v1 w2 =>
 SPL v1
 (b7_1 R C6 x3 x6 x8 w2)
 (b3 R x3 w2)
abbrev q2 (R:EP) (C6:VP):XP:=QX (fun z w=>C6 (z 8) w) (r0 R) [(0,(fun z w=>b3 R (z 3) w))]
theorem b7_ok (R:EP) (C6:VP):TI prog R p3 (q2 R C6) fun z w=>b7 R C6 (z 3) (z 6) (z 7) (z 8) w:=ofT
def l6 (R:EP) (x3 x6 x7 x8:Value) (w:World) (_r:Tok R:=tok R):Prop :=
 ∃(J:VP) (μ:Value→World→Nat),J x8 w∧∀y8 w0,J y8 w0→b7 R (fun z8 w1=>J z8 w1∧μ z8 w1<μ y8 w0) x3 x6 x7 y8 w0
abbrev q3 (R:EP):XP:=QX (fun z w=>b3 R (z 3) w) (r0 R) [(0,(fun z w=>b3 R (z 3) w))]
theorem l6_ok (R:EP):TI prog R (blkC p2) (q3 R) fun z w=>l6 R (z 3) (z 6) (z 7) (z 8) w:=fun z w h=>by
 unfold l6 at h
 obtain ⟨J,μ,h0,hr⟩:=h
 refine loopT (fun z' w'=>J (z' 8) w') (fun z' w'=>μ (z' 8) w') h0 fun z' w' hA hI=>b7_ok R (fun z8 w1=>J z8 w1∧μ z8 w1<μ (z' 8) w') z' w' ?_
 have h1:=hr (z' 8) w' hI
 rwa [←hA.on 3,←hA.on 6,←hA.on 7] at h1
theorem l6_intro (R:EP) (x3 x6 x7 x8:Value) (w:World) (J:VP) (μ:Value→World→Nat) (h0:J x8 w)
   (hr:∀y8 w0,J y8 w0→∀C6:VP,(∀z8 w1,J z8 w1→μ z8 w1<μ y8 w0→C6 z8 w1)→b7 R C6 x3 x6 x7 y8 w0):l6 R x3 x6 x7 x8 w:=by
 unfold l6
 exact ⟨J,μ,h0,fun y8 w0 hJ=>hr y8 w0 hJ _ (fun z8 w1 h1 h2=>⟨h1,h2⟩)⟩
abbrev q4 (R:EP):XP:=QX (fun z w=>b3 R (z 3) w) (r0 R) []
theorem k5_ok (R:EP):TI prog R p2 (q4 R) fun z w=>l6 R (z 3) (z 6) (z 7) (z 8) w:=blockT 0 (l6_ok R)
def b4 (R:EP) (x0 x3:Value) (w:World) (_r:Tok R:=tok R):Prop :=
 RUN prog R (Builtin.len_ #[24] 3 #[x0]) w fun v1 w2 =>
 l6 R x3 x0 v1 (Value.int .i64 0) w2
theorem b4_ok (R:EP):TI prog R (fstC p1) (q4 R) fun z w=>b4 R (z 0) (z 3) w:=appT 0 (k5_ok R)
theorem k2_ok (R:EP):TI prog R p1 (q1 R) fun z w=>b4 R (z 0) (z 3) w:=seqT (b4_ok R) (b3_ok R)
def b1 (R:EP) (x0:Value) (w:World) (_r:Tok R:=tok R):Prop :=
 b4 R x0 (Value.int .i64 0) w
theorem b1_ok (R:EP):TI prog R code (q1 R) fun z w=>b1 R (z 0) w:=appT 1 (k2_ok R)
def run (R:EP) (a0:Value) (w:World):Prop:=b1 R a0 w
theorem calls (R:EP) (a0:Value) (w:World) (h:run R a0 w):Calls prog id #[a0] w R:=cls_t func36 [a0] (b1_ok R _ w h)
theorem enters:Enters prog id:=fun args w=>call36 args w
theorem ct {a0:Value} {w:World} {S:VP} (h:∀R:EP,(∀v w,S v w→R (.returned v) w)→run R a0 w):Ct prog id #[a0] w S :=
 Ct.intro enters fun R hR=>calls R a0 w (h R hR)
attribute [irreducible] l6
attribute [irreducible,go_sem] b3 b7_1 b7 b4 b1 run
end cmp_Or_int

/-! ### cmp.Compare[int] -/
namespace cmp_Compare_int
noncomputable def code:Code:=bodyOf f37
def b1_1 (R:EP) (x0 x1:Value) (w4:World) (_r:Tok R:=tok R):Prop :=
 RUN prog R (bins .lss 3 (.tmp 14) (.tmp 15) x0 x1) w4 fun v5 w6 =>
 SPL v5
 (R (.returned (Value.int .i64 (-1))) w6)
 (RUN prog R (bins .gtr 3 (.tmp 17) (.tmp 18) x0 x1) w6 fun v7 w8 =>
 SPL v7
 (R (.returned (Value.int .i64 1)) w8)
 (R (.returned (Value.int .i64 0)) w8))
def b1 (R:EP) (x0 x1:Value) (w:World) (_r:Tok R:=tok R):Prop :=
 CALL prog R cmp_isNaN_int.id #[x0] w fun v1 w2 =>
 CALL prog R cmp_isNaN_int.id #[x1] w2 fun v3 w4 =>
 SPL v1
 (SPL v3
 (R (.returned (Value.int .i64 0)) w4)
 (R (.returned (Value.int .i64 (-1))) w4))
 (SPL v3
 (R (.returned (Value.int .i64 1)) w4)
 (b1_1 R x0 x1 w4))
abbrev r0 (R:EP) (z:Env) (w:World):Prop:=R (.returned (z 4)) w
abbrev q1 (R:EP):XP:=QX (r0 R) (r0 R) []
theorem b1_ok (R:EP):TI prog R code (q1 R) fun z w=>b1 R (z 0) (z 1) w:=ofT
def run (R:EP) (a0 a1:Value) (w:World):Prop:=b1 R a0 a1 w
theorem calls (R:EP) (a0 a1:Value) (w:World) (h:run R a0 a1 w):Calls prog id #[a0,a1] w R:=cls_t func37 [a0,a1] (b1_ok R _ w h)
theorem enters:Enters prog id:=fun args w=>call37 args w
theorem ct {a0 a1:Value} {w:World} {S:VP} (h:∀R:EP,(∀v w,S v w→R (.returned v) w)→run R a0 a1 w):Ct prog id #[a0,a1] w S :=
 Ct.intro enters fun R hR=>calls R a0 a1 w (h R hR)
attribute [irreducible,go_sem] b1_1 b1 run
end cmp_Compare_int

/-! ### slices.Clip[[]presage/api.Item,presage/api.Item] -/
namespace slices_Clip_api_Item_api_Item
noncomputable def code:Code:=bodyOf f38
def b1 (R:EP) (x0:Value) (w:World) (_r:Tok R:=tok R):Prop :=
 RUN prog R (Builtin.len_ #[39] 3 #[x0]) w fun v1 w2 =>
 RUN prog R (Builtin.len_ #[39] 3 #[x0]) w2 fun v3 w4 =>
 RUN prog R (sliceAt 39 x0 none (some v1) (some v3)) w4 fun v5 w6 =>
 R (.returned v5) w6
abbrev r0 (R:EP) (z:Env) (w:World):Prop:=R (.returned (z 2)) w
abbrev q1 (R:EP):XP:=QX (r0 R) (r0 R) []
theorem b1_ok (R:EP):TI prog R code (q1 R) fun z w=>b1 R (z 0) w:=ofT
def run (R:EP) (a0:Value) (w:World):Prop:=b1 R a0 w
theorem calls (R:EP) (a0:Value) (w:World) (h:run R a0 w):Calls prog id #[a0] w R:=cls_t func38 [a0] (b1_ok R _ w h)
theorem enters:Enters prog id:=fun args w=>call38 args w
theorem ct {a0:Value} {w:World} {S:VP} (h:∀R:EP,(∀v w,S v w→R (.returned v) w)→run R a0 w):Ct prog id #[a0] w S :=
 Ct.intro enters fun R hR=>calls R a0 w (h R hR)
attribute [irreducible,go_sem] b1 run
end slices_Clip_api_Item_api_Item

/-! ### slices.Compact[[]presage/api.Item,presage/api.Item] -/
namespace slices_Compact_api_Item_api_Item
noncomputable def code:Code:=bodyOf f39
noncomputable abbrev p1:Code:=dropC 2 code
def b3 (R:EP) (x0:Value) (w:World) (_r:Tok R:=tok R):Prop :=
 R (.returned x0) w
abbrev r0 (R:EP) (z:Env) (w:World):Prop:=R (.returned (z 2)) w
abbrev q1 (R:EP):XP:=QX (r0 R) (r0 R) []
theorem b3_ok (R:EP):TI prog R (sndC p1) (q1 R) fun z w=>b3 R (z 0) w:=ofT
noncomputable abbrev p2:Code:=dropC 1 (fstC p1)
noncomputable abbrev p3:Code:=loopC (blkC p2)
noncomputable abbrev p4:Code:=dropC 1 p3
def b9 (R:EP) (C6:VP) (x3:Value) (w:World) (_r:Tok R:=tok R) (_C6:Tok C6:=tok C6):Prop :=
 RUN prog R (bins .add 3 (.tmp 14) (.const (Value.int .i64 1)) x3 (Value.int .i64 1)) w fun v1 w2 =>
 C6 v1 w2
abbrev q2 (R:EP) (C6:VP):XP:=QX (fun z w=>C6 (z 3) w) (r0 R) [(0,(fun z w=>b3 R (z 0) w))]
theorem b9_ok (R:EP) (C6:VP):TI prog R (sndC p4) (q2 R C6) fun z w=>b9 R C6 (z 3) w:=ofT
noncomputable abbrev p5:Code:=blkC (fstC p4)
noncomputable abbrev p6:Code:=dropC 1 p5
noncomputable abbrev p7:Code:=dropC 1 (thnC p6)
def b15 (R:EP) (C6:VP) (x0 x3:Value) (w:World) (_r:Tok R:=tok R) (_C6:Tok C6:=tok C6):Prop :=
 RUN prog R (sliceAt 39 x0 (some x3) none none) w fun v1 w2 =>
 RUN prog R (Builtin.clear_ #[39] 0 #[v1]) w2 fun v3 w4 =>
 RUN prog R (sliceAt 39 x0 none (some x3) none) w4 fun v5 w6 =>
 R (.returned v5) w6
abbrev q3 (R:EP) (C6:VP):XP:=QX (fun z w=>b9 R C6 (z 3) w) (r0 R) [(2,(fun z w=>b9 R C6 (z 3) w)),(0,(fun z w=>b3 R (z 0) w))]
theorem b15_ok (R:EP) (C6:VP):TI prog R (sndC p7) (q3 R C6) fun z w=>b15 R C6 (z 0) (z 3) w:=ofT
noncomputable abbrev p8:Code:=dropC 1 (fstC p7)
noncomputable abbrev p9:Code:=loopC (blkC p8)
noncomputable abbrev p10:Code:=dropC 2 p9
def b20 (R:EP) (C6:VP) (C18:Value→VP) (x3 x5:Value) (w:World) (_r:Tok R:=tok R) (_C6:Tok C6:=tok C6) (_C18:Tok C18:=tok C18):Prop :=
 RUN prog R (bins .add 3 (.tmp 33) (.const (Value.int .i64 1)) x5 (Value.int .i64 1)) w fun v1 w2 =>
 C18 x3 v1 w2
abbrev q4 (R:EP) (C6:VP) (C18:Value→VP):XP:=QX (fun z w=>C18 (z 3) (z 5) w) (r0 R) [(4,(fun z w=>b15 R C6 (z 0) (z 3) w)),(2,(fun z w=>b9 R C6 (z 3) w)),(0,(fun z w=>b3 R (z 0) w))]
theorem b20_ok (R:EP) (C6:VP) (C18:Value→VP):TI prog R p10 (q4 R C6 C18) fun z w=>b20 R C6 C18 (z 3) (z 5) w:=ofT
def b19_1 (R:EP) (C6:VP) (C18:Value→VP) (x0 x3 x4 x5:Value) (w4:World) (_r:Tok R:=tok R) (_C6:Tok C6:=tok C6) (_C18:Tok C18:=tok C18):Prop :=
 RUN prog R (indexAt 39 x4 x5) (World.drew w4) fun v11 w12 =>
 RUN prog R (loadAt 57 v11) w12 fun v13 w14 =>
 RUN prog R (indexAt 39 x0 x3) w14 fun v15 w16 =>
 RUNU prog R (storeAt 57 v15 v13) w16 fun w17 =>
 RUN prog R (bins .add 3 (.tmp 52) (.const (Value.int .i64 1)) x3 (Value.int .i64 1)) w17 fun v18 w19 =>
 b20 R C6 C18 v18 x5 w19
def b19_2 (R:EP) (C6:VP) (C18:Value→VP) (x0 x3 x4 x5:Value) (w4:World) (_r:Tok R:=tok R) (_C6:Tok C6:=tok C6) (_C18:Tok C18:=tok C18):Prop :=
 PUR prog (indexAt 39 x4 x5) fun v5 =>
 LD prog (loadAt 57 v5) (World.drew w4) fun v6 =>
 PUR prog (bins .sub 3 (.tmp 40) (.const (Value.int .i64 1)) x5 (Value.int .i64 1)) fun v7 =>
 PUR prog (indexAt 39 x4 v7) fun v8 =>
 LD prog (loadAt 57 v8) (World.drew w4) fun v9 =>
 PUR prog (bins .neq 57 (.tmp 38) (.tmp 43) v6 v9) fun v10 =>
 SPL v10
 (b19_1 R C6 C18 x0 x3 x4 x5 w4)
 (b20 R C6 C18 x3 x5 (World.drew w4))
def b19 (R:EP) (C6:VP) (C18:Value→VP) (x0 x3 x4 x5:Value) (w:World) (_r:Tok R:=tok R) (_C6:Tok C6:=tok C6) (_C18:Tok C18:=tok C18):Prop :=
 RUN prog R (Builtin.len_ #[39] 3 #[x4]) w fun v1 w2 =>
 RUN prog R (bins .lss 3 (.tmp 29) (.tmp 31) x5 v1) w2 fun v3 w4 =>
 SPL v3
 (b19_2 R C6 C18 x0 x3 x4 x5 w4)
 (b15 R C6 x0 x3 w4)
theorem b19_ok (R:EP) (C6:VP) (C18:Value→VP):TI prog R p9 (q4 R C6 C18) fun z w=>b19 R C6 C18 (z 0) (z 3) (z 4) (z 5) w:=appT 1 (b20_ok R C6 C18)
def l18 (R:EP) (C6:VP) (x0 x3 x4 x5:Value) (w:World) (_r:Tok R:=tok R) (_C6:Tok C6:=tok C6):Prop :=
 ∃(J:Value→VP) (μ:Value→Value→World→Nat),J x3 x5 w∧∀y3 y5 w0,J y3 y5 w0→b19 R C6 (fun z3 z5 w1=>J z3 z5 w1∧μ z3 z5 w1<μ y3 y5 w0) x0 y3 x4 y5 w0
abbrev q5 (R:EP) (C6:VP):XP:=QX (fun z w=>b15 R C6 (z 0) (z 3) w) (r0 R) [(4,(fun z w=>b15 R C6 (z 0) (z 3) w)),(2,(fun z w=>b9 R C6 (z 3) w)),(0,(fun z w=>b3 R (z 0) w))]
theorem l18_ok (R:EP) (C6:VP):TI prog R (blkC p8) (q5 R C6) fun z w=>l18 R C6 (z 0) (z 3) (z 4) (z 5) w:=fun z w h=>by
 unfold l18 at h
 obtain ⟨J,μ,h0,hr⟩:=h
 refine loopT (fun z' w'=>J (z' 3) (z' 5) w') (fun z' w'=>μ (z' 3) (z' 5) w') h0 fun z' w' hA hI=>b19_ok R C6 (fun z3 z5 w1=>J z3 z5 w1∧μ z3 z5 w1<μ (z' 3) (z' 5) w') z' w' ?_
 have h1:=hr (z' 3) (z' 5) w' hI
 rwa [←hA.on 0,←hA.on 4] at h1
theorem l18_intro (R:EP) (C6:VP) (x0 x3 x4 x5:Value) (w:World) (J:Value→VP) (μ:Value→Value→World→Nat) (h0:J x3 x5 w)
   (hr:∀y3 y5 w0,J y3 y5 w0→∀C18:Value→VP,(∀z3 z5 w1,J z3 z5 w1→μ z3 z5 w1<μ y3 y5 w0→C18 z3 z5 w1)→b19 R C6 C18 x0 y3 x4 y5 w0):l18 R C6 x0 x3 x4 x5 w:=by
 unfold l18
 exact ⟨J,μ,h0,fun y3 y5 w0 hJ=>hr y3 y5 w0 hJ _ (fun z3 z5 w1 h1 h2=>⟨h1,h2⟩)⟩
abbrev q6 (R:EP) (C6:VP):XP:=QX (fun z w=>b15 R C6 (z 0) (z 3) w) (r0 R) [(2,(fun z w=>b9 R C6 (z 3) w)),(0,(fun z w=>b3 R (z 0) w))]
theorem k17_ok (R:EP) (C6:VP):TI prog R p8 (q6 R C6) fun z w=>l18 R C6 (z 0) (z 3) (z 4) (z 5) w:=blockT 2 (l18_ok R C6)
def b16 (R:EP) (C6:VP) (x0 x3 x4:Value) (w:World) (_r:Tok R:=tok R) (_C6:Tok C6:=tok C6):Prop :=
 l18 R C6 x0 x3 x4 (Value.int .i64 1) w
theorem b16_ok (R:EP) (C6:VP):TI prog R (fstC p7) (q6 R C6) fun z w=>b16 R C6 (z 0) (z 3) (z 4) w:=appT 0 (k17_ok R C6)
theorem k14_ok (R:EP) (C6:VP):TI prog R p7 (q3 R C6) fun z w=>b16 R C6 (z 0) (z 3) (z 4) w:=seqT (b16_ok R C6) (b15_ok R C6)
def b13 (R:EP) (C6:VP) (x0 x3:Value) (w:World) (_r:Tok R:=tok R) (_C6:Tok C6:=tok C6):Prop :=
 RUN prog R (sliceAt 39 x0 (some x3) none none) w fun v1 w2 =>
 b16 R C6 x0 x3 v1 w2
theorem b13_ok (R:EP) (C6:VP):TI prog R (thnC p6) (q3 R C6) fun z w=>b13 R C6 (z 0) (z 3) w:=appT 0 (k14_ok R C6)
def b21 (R:EP) (C6:VP) (x3:Value) (w:World) (_r:Tok R:=tok R) (_C6:Tok C6:=tok C6):Prop :=
 b9 R C6 x3 w
theorem b21_ok (R:EP) (C6:VP):TI prog R (elsC p6) (q3 R C6) fun z w=>b21 R C6 (z 3) w:=ofT
def b12 (R:EP) (C6:VP) (x0 x3 x25:Value) (w:World) (_r:Tok R:=tok R) (_C6:Tok C6:=tok C6):Prop :=
 SPL x25 (b13 R C6 x0 x3 w) (b21 R C6 x3 w)
theorem b12_ok (R:EP) (C6:VP):TI prog R p6 (q3 R C6) fun z w=>b12 R C6 (z 0) (z 3) (z 25) w:=fun z w h=>by
 have e:Code.cond (.tmp 25) (thnC p6) (elsC p6)=p6:=by kernel_rfl
 rw [←e]
 exact condQ' h (fun h=>b13_ok R C6 z w h) (fun h=>b21_ok R C6 z w h)
def b11 (R:EP) (C6:VP) (x0 x3:Value) (w:World) (_r:Tok R:=tok R) (_C6:Tok C6:=tok C6):Prop :=
 PUR prog (indexAt 39 x0 x3) fun v1 =>
 LD prog (loadAt 57 v1) (World.drew w) fun v2 =>
 PUR prog (bins .sub 3 (.tmp 21) (.const (Value.int .i64 1)) x3 (Value.int .i64 1)) fun v3 =>
 PUR prog (indexAt 39 x0 v3) fun v4 =>
 LD prog (loadAt 57 v4) (World.drew w) fun v5 =>
 PUR prog (bins .eql 57 (.tmp 19) (.tmp 24) v2 v5) fun v6 =>
 b12 R C6 x0 x3 v6 (World.drew w)
theorem b11_ok (R:EP) (C6:VP):TI prog R p5 (q3 R C6) fun z w=>b11 R C6 (z 0) (z 3) w:=appT 0 (b12_ok R C6)
abbrev q7 (R:EP) (C6:VP):XP:=QX (fun z w=>b9 R C6 (z 3) w) (r0 R) [(0,(fun z w=>b3 R (z 0) w))]
theorem k10_ok (R:EP) (C6:VP):TI prog R (fstC p4) (q7 R C6) fun z w=>b11 R C6 (z 0) (z 3) w:=blockT 1 (b11_ok R C6)
theorem k8_ok (R:EP) (C6:VP):TI prog R p4 (q2 R C6) fun z w=>b11 R C6 (z 0) (z 3) w:=seqT (k10_ok R C6) (b9_ok R C6)
def b7 (R:EP) (C6:VP) (x0 x3:Value) (w:World) (_r:Tok R:=tok R) (_C6:Tok C6:=tok C6):Prop :=
 RUN prog R (Builtin.len_ #[39] 3 #[x0]) w fun v1 w2 =>
 RUN prog R (bins .lss 3 (.tmp 10) (.tmp 12) x3 v1) w2 fun v3 w4 =>
 SPL v3
 (b11 R C6 x0 x3 w4)
 (b3 R x0 w4)
theorem b7_ok (R:EP) (C6:VP):TI prog R p3 (q2 R C6) fun z w=>b7 R C6 (z 0) (z 3) w:=appT 0 (k8_ok R C6)
def l6 (R:EP) (x0 x3:Value) (w:World) (_r:Tok R:=tok R):Prop :=
 ∃(J:VP) (μ:Value→World→Nat),J x3 w∧∀y3 w0,J y3 w0→b7 R (fun z3 w1=>J z3 w1∧μ z3 w1<μ y3 w0) x0 y3 w0
abbrev q8 (R:EP):XP:=QX (fun z w=>b3 R (z 0) w) (r0 R) [(0,(fun z w=>b3 R (z 0) w))]
theorem l6_ok (R:EP):TI prog R (blkC p2) (q8 R) fun z w=>l6 R (z 0) (z 3) w:=fun z w h=>by
 unfold l6 at h
 obtain ⟨J,μ,h0,hr⟩:=h
 refine loopT (fun z' w'=>J (z' 3) w') (fun z' w'=>μ (z' 3) w') h0 fun z' w' hA hI=>b7_ok R (fun z3 w1=>J z3 w1∧μ z3 w1<μ (z' 3) w') z' w' ?_
 have h1:=hr (z' 3) w' hI
 rwa [←hA.on 0] at h1
theorem l6_intro (R:EP) (x0 x3:Value) (w:World) (J:VP) (μ:Value→World→Nat) (h0:J x3 w)
   (hr:∀y3 w0,J y3 w0→∀C6:VP,(∀z3 w1,J z3 w1→μ z3 w1<μ y3 w0→C6 z3 w1)→b7 R C6 x0 y3 w0):l6 R x0 x3 w:=by
 unfold l6
 exact ⟨J,μ,h0,fun y3 w0 hJ=>hr y3 w0 hJ _ (fun z3 w1 h1 h2=>⟨h1,h2⟩)⟩
abbrev q9 (R:EP):XP:=QX (fun z w=>b3 R (z 0) w) (r0 R) []
theorem k5_ok (R:EP):TI prog R p2 (q9 R) fun z w=>l6 R (z 0) (z 3) w:=blockT 0 (l6_ok R)
def b4 (R:EP) (x0:Value) (w:World) (_r:Tok R:=tok R):Prop :=
 l6 R x0 (Value.int .i64 1) w
theorem b4_ok (R:EP):TI prog R (fstC p1) (q9 R) fun z w=>b4 R (z 0) w:=appT 0 (k5_ok R)
theorem k2_ok (R:EP):TI prog R p1 (q1 R) fun z w=>b4 R (z 0) w:=seqT (b4_ok R) (b3_ok R)
def b1 (R:EP) (x0:Value) (w:World) (_r:Tok R:=tok R):Prop :=
 RUN prog R (Builtin.len_ #[39] 3 #[x0]) w fun v1 w2 =>
 RUN prog R (bins .lss 3 (.tmp 7) (.const (Value.int .i64 2)) v1 (Value.int .i64 2)) w2 fun v3 w4 =>
 SPL v3
 (R (.returned x0) w4)
 (b4 R x0 w4)
theorem b1_ok (R:EP):TI prog R code (q1 R) fun z w=>b1 R (z 0) w:=appT 1 (k2_ok R)
def run (R:EP) (a0:Value) (w:World):Prop:=b1 R a0 w
theorem calls (R:EP) (a0:Value) (w:World) (h:run R a0 w):Calls prog id #[a0] w R:=cls_t func39 [a0] (b1_ok R _ w h)
theorem enters:Enters prog id:=fun args w=>call39 args w
theorem ct {a0:Value} {w:World} {S:VP} (h:∀R:EP,(∀v w,S v w→R (.returned v) w)→run R a0 w):Ct prog id #[a0] w S :=
 Ct.intro enters fun R hR=>calls R a0 w (h R hR)
attribute [irreducible] l18 l6
attribute [irreducible,go_sem] b3 b9 b15 b20 b19_1 b19_2 b19 b16 b13 b21 b12 b11 b7 b4 b1 run
end slices_Compact_api_Item_api_Item

/-! ### slices.Clone[[]presage/api.Item,presage/api.Item] -/
namespace slices_Clone_api_Item_api_Item
noncomputable def code:Code:=bodyOf f53
def b1_1 (R:EP) (x0:Value) (w2:World) (_r:Tok R:=tok R):Prop :=
 RUN prog R (buildSlice 39 0 #[]) w2 fun v3 w4 =>
 RUN prog R (Builtin.append_ #[39,39] 39 #[v3,x0]) w4 fun v5 w6 =>
 R (.returned v5) w6
def b1 (R:EP) (x0:Value) (w:World) (_r:Tok R:=tok R):Prop :=
 RUN prog R (bins .eql 39 (.tmp 3) (.const (Value.slice Option.none 0 0)) x0 (Value.slice Option.none 0 0)) w fun v1 w2 =>
 SPL v1
 (R (.returned (Value.slice Option.none 0 0)) w2)
 (b1_1 R x0 w2)
abbrev r0 (R:EP) (z:Env) (w:World):Prop:=R (.returned (z 2)) w
abbrev q1 (R:EP):XP:=QX (r0 R) (r0 R) []
theorem b1_ok (R:EP):TI prog R code (q1 R) fun z w=>b1 R (z 0) w:=ofT
def run (R:EP) (a0:Value) (w:World):Prop:=b1 R a0 w
theorem calls (R:EP) (a0:Value) (w:World) (h:run R a0 w):Calls prog id #[a0] w R:=cls_t func53 [a0] (b1_ok R _ w h)
theorem enters:Enters prog id:=fun args w=>call53 args w
theorem ct {a0:Value} {w:World} {S:VP} (h:∀R:EP,(∀v w,S v w→R (.returned v) w)→run R a0 w):Ct prog id #[a0] w S :=
 Ct.intro enters fun R hR=>calls R a0 w (h R hR)
attribute [irreducible,go_sem] b1_1 b1 run
end slices_Clone_api_Item_api_Item

/-! ### cmp.isNaN[int] -/
namespace cmp_isNaN_int
noncomputable def code:Code:=bodyOf f72
def b1 (R:EP) (x0:Value) (w:World) (_r:Tok R:=tok R):Prop :=
 RUN prog R (bins .neq 3 (.tmp 3) (.tmp 4) x0 x0) w fun v1 w2 =>
 R (.returned v1) w2
abbrev r0 (R:EP) (z:Env) (w:World):Prop:=R (.returned (z 2)) w
abbrev q1 (R:EP):XP:=QX (r0 R) (r0 R) []
theorem b1_ok (R:EP):TI prog R code (q1 R) fun z w=>b1 R (z 0) w:=ofT
def run (R:EP) (a0:Value) (w:World):Prop:=b1 R a0 w
theorem calls (R:EP) (a0:Value) (w:World) (h:run R a0 w):Calls prog id #[a0] w R:=cls_t func72 [a0] (b1_ok R _ w h)
theorem enters:Enters prog id:=fun args w=>call72 args w
theorem ct {a0:Value} {w:World} {S:VP} (h:∀R:EP,(∀v w,S v w→R (.returned v) w)→run R a0 w):Ct prog id #[a0] w S :=
 Ct.intro enters fun R hR=>calls R a0 w (h R hR)
attribute [irreducible,go_sem] b1 run
end cmp_isNaN_int
end Go.Proofs.Ytmoepnfobnpdiaa

/- Shallow programs, written by a program of ours (gen.py) off the translation; each is tied to the code by the kernel. -/
namespace Go.Proofs.Ytmoepnfobnpdiaa
open Go.Px Try Instr

/-! ### presage/presageref02.Closed -/
namespace ref02_Closed
noncomputable def code:Code:=bodyOf f5
noncomputable abbrev p1:Code:=dropC 1 code
noncomputable abbrev p2:Code:=dropC 1 (sndC p1)
def b5 (R:EP) (x1:Value) (w:World) (_r:Tok R:=tok R):Prop :=
 RUN prog R (loadAt 27 x1) w fun v1 w2 =>
 CALL prog R ref02_fits.id #[v1,(Value.int .i64 1)] w2 fun v3 w4 =>
 R (.returned v3) w4
abbrev r0 (R:EP) (z:Env) (w:World):Prop:=R (.returned (z 2)) w
abbrev q1 (R:EP):XP:=QX (r0 R) (r0 R) []
theorem b5_ok (R:EP):TI prog R (sndC p2) (q1 R) fun z w=>b5 R (z 1) w:=ofT
noncomputable abbrev p3:Code:=dropC 1 (fstC p2)
def b7 (R:EP) (x1 x50:Value) (w:World) (_r:Tok R:=tok R):Prop :=
 SPL x50
 (R (.returned (Value.bool false)) w)
 (b5 R x1 w)
abbrev q2 (R:EP):XP:=QX (fun z w=>b5 R (z 1) w) (r0 R) []
theorem b7_ok (R:EP):TI prog R p3 (q2 R) fun z w=>b7 R (z 1) (z 50) w:=ofT
def b6_1 (R:EP) (x1 x3:Value) (w:World) (_r:Tok R:=tok R):Prop :=
 PUR prog (fieldAt 67 x3 2) fun v18 =>
 LD prog (loadAt 3 v18) (World.drew w) fun v19 =>
 PUR prog (bins .neq 3 (.tmp 48) (.const (Value.int .i64 0)) v19 (Value.int .i64 0)) fun v20 =>
 b7 R x1 v20 (World.drew w)
def b6_2 (R:EP) (x1 x3:Value) (w:World) (_r:Tok R:=tok R):Prop :=
 PUR prog (fieldAt 67 x3 1) fun v11 =>
 LD prog (loadAt 24 v11) (World.drew w) fun v12 =>
 PUR prog (indexAt 24 v12 (Value.int .i64 0)) fun v13 =>
 LD prog (loadAt 3 v13) (World.drew w) fun v14 =>
 PUR prog (fieldAt 27 x1 3) fun v15 =>
 LD prog (loadAt 3 v15) (World.drew w) fun v16 =>
 PUR prog (bins .neq 3 (.tmp 41) (.tmp 43) v14 v16) fun v17 =>
 SPL v17
 (b7 R x1 (Value.bool true) (World.drew w))
 (b6_1 R x1 x3 w)
def b6_3 (R:EP) (x1 x3:Value) (w:World) (_r:Tok R:=tok R):Prop :=
 PUR prog (fieldAt 67 x3 1) fun v7 =>
 LD prog (loadAt 24 v7) (World.drew w) fun v8 =>
 LD prog (Builtin.len_ #[24] 3 #[v8]) (World.drew w) fun v9 =>
 PUR prog (bins .neq 3 (.tmp 34) (.const (Value.int .i64 1)) v9 (Value.int .i64 1)) fun v10 =>
 SPL v10
 (b7 R x1 (Value.bool true) (World.drew w))
 (b6_2 R x1 x3 w)
def b6 (R:EP) (x1 x3:Value) (w:World) (_r:Tok R:=tok R):Prop :=
 PUR prog (fieldAt 67 x3 0) fun v1 =>
 LD prog (loadAt 3 v1) (World.drew w) fun v2 =>
 PUR prog (fieldAt 27 x1 0) fun v3 =>
 LD prog (loadAt 22 v3) (World.drew w) fun v4 =>
 LD prog (Builtin.len_ #[22] 3 #[v4]) (World.drew w) fun v5 =>
 PUR prog (bins .neq 3 (.tmp 26) (.tmp 29) v2 v5) fun v6 =>
 SPL v6
 (b7 R x1 (Value.bool true) (World.drew w))
 (b6_3 R x1 x3 w)
theorem b6_ok (R:EP):TI prog R (fstC p2) (q2 R) fun z w=>b6 R (z 1) (z 3) w:=appT 0 (b7_ok R)
theorem k4_ok (R:EP):TI prog R p2 (q1 R) fun z w=>b6 R (z 1) (z 3) w:=seqT (b6_ok R) (b5_ok R)
def b3 (R:EP) (x1:Value) (w:World) (_r:Tok R:=tok R):Prop :=
 RUN prog R (fieldAt 27 x1 4) w fun v1 w2 =>
 RUN prog R (loadAt 25 v1) w2 fun v3 w4 =>
 RUN prog R (indexAt 25 v3 (Value.int .i64 0)) w4 fun v5 w6 =>
 RUN prog R (loadAt 67 v5) w6 fun v7 w8 =>
 RUN prog R (alloc 67 true (.tuple #[])) w8 fun v9 w10 =>
 RUNU prog R (storeAt 67 v9 v7) w10 fun w11 =>
 b6 R x1 v9 w11
theorem b3_ok (R:EP):TI prog R (sndC p1) (q1 R) fun z w=>b3 R (z 1) w:=appT 0 (k4_ok R)
noncomputable abbrev p4:Code:=dropC 1 (fstC p1)
def b9 (R:EP) (x1 x20:Value) (w:World) (_r:Tok R:=tok R):Prop :=
 SPL x20
 (R (.returned (Value.bool false)) w)
 (b3 R x1 w)
abbrev q3 (R:EP):XP:=QX (fun z w=>b3 R (z 1) w) (r0 R) []
theorem b9_ok (R:EP):TI prog R p4 (q3 R) fun z w=>b9 R (z 1) (z 20) w:=ofT
def b8_1 (R:EP) (x1:Value) (w18:World) (_r:Tok R:=tok R):Prop :=
 RUN prog R (fieldAt 27 x1 4) w18 fun v19 w20 =>
 RUN prog R (loadAt 25 v19) w20 fun v21 w22 =>
 RUN prog R (Builtin.len_ #[25] 3 #[v21]) w22 fun v23 w24 =>
 RUN prog R (bins .lss 3 (.tmp 18) (.const (Value.int .i64 2)) v23 (Value.int .i64 2)) w24 fun v25 w26 =>
 b9 R x1 v25 w26
def b8_2 (R:EP) (x1:Value) (w8:World) (_r:Tok R:=tok R):Prop :=
 RUN prog R (fieldAt 27 x1 1) w8 fun v9 w10 =>
 RUN prog R (loadAt 23 v9) w10 fun v11 w12 =>
 RUN prog R (indexAt 23 v11 (Value.int .i64 0)) w12 fun v13 w14 =>
 RUN prog R (loadAt 9 v13) w14 fun v15 w16 =>
 RUN prog R (bins .neq 9 (.tmp 12) (.const (Value.string ⟨#[]⟩)) v15 (Value.string ⟨#[]⟩)) w16 fun v17 w18 =>
 SPL v17
 (b9 R x1 (Value.bool true) w18)
 (b8_1 R x1 w18)
def b8 (R:EP) (x1:Value) (w:World) (_r:Tok R:=tok R):Prop :=
 RUN prog R (fieldAt 27 x1 1) w fun v1 w2 =>
 RUN prog R (loadAt 23 v1) w2 fun v3 w4 =>
 RUN prog R (Builtin.len_ #[23] 3 #[v3]) w4 fun v5 w6 =>
 RUN prog R (bins .lss 3 (.tmp 6) (.const (Value.int .i64 2)) v5 (Value.int .i64 2)) w6 fun v7 w8 =>
 SPL v7
 (b9 R x1 (Value.bool true) w8)
 (b8_2 R x1 w8)
theorem b8_ok (R:EP):TI prog R (fstC p1) (q3 R) fun z w=>b8 R (z 1) w:=appT 0 (b9_ok R)
theorem k2_ok (R:EP):TI prog R p1 (q1 R) fun z w=>b8 R (z 1) w:=seqT (b8_ok R) (b3_ok R)
def b1 (R:EP) (x0:Value) (w:World) (_r:Tok R:=tok R):Prop :=
 RUN prog R (box 27 x0) w fun v1 w2 =>
 b8 R v1 w2
theorem b1_ok (R:EP):TI prog R code (q1 R) fun z w=>b1 R (z 0) w:=appT 0 (k2_ok R)
def run (R:EP) (a0:Value) (w:World):Prop:=b1 R a0 w
theorem calls (R:EP) (a0:Value) (w:World) (h:run R a0 w):Calls prog id #[a0] w R:=cls_t func5 [a0] (b1_ok R _ w h)
theorem enters:Enters prog id:=fun args w=>call5 args w
theorem ct {a0:Value} {w:World} {S:VP} (h:∀R:EP,(∀v w,S v w→R (.returned v) w)→run R a0 w):Ct prog id #[a0] w S :=
 Ct.intro enters fun R hR=>calls R a0 w (h R hR)
attribute [irreducible,go_sem] b5 b7 b6_1 b6_2 b6_3 b6 b3 b9 b8_1 b8_2 b8 b1 run
end ref02_Closed

/-! ### presage/presageref02.fits -/
namespace ref02_fits
noncomputable def code:Code:=bodyOf f19
noncomputable abbrev p1:Code:=dropC 1 code
def b3_1 (R:EP) (x2:Value) (w50:World) (_r:Tok R:=tok R):Prop :=
 PUR prog (fieldAt 27 x2 3) fun v64 =>
 LD prog (loadAt 3 v64) (World.drew w50) fun v65 =>
 LD prog (loadAt 27 x2) (World.drew w50) fun v66 =>
 CALL prog R ref02_Symbols.id #[v66] (World.drew w50) fun v67 w68 =>
 Sem.run prog (loadAt 3 v64) w68 = .ok v65 w68∧(PUR prog (bins .lss 3 (.tmp 104) (.tmp 106) v65 v67) fun v69 =>
 R (.returned v69) w68)
def b3_2 (R:EP) (x1 x2:Value) (w50:World) (_r:Tok R:=tok R):Prop :=
 PUR prog (fieldAt 27 x2 3) fun v57 =>
 LD prog (loadAt 3 v57) (World.drew w50) fun v58 =>
 PUR prog (fieldAt 27 x2 0) fun v59 =>
 LD prog (loadAt 22 v59) (World.drew w50) fun v60 =>
 LD prog (Builtin.len_ #[22] 3 #[v60]) (World.drew w50) fun v61 =>
 PUR prog (bins .add 3 (.tmp 97) (.tmp 98) v61 x1) fun v62 =>
 PUR prog (bins .geq 3 (.tmp 94) (.tmp 99) v58 v62) fun v63 =>
 SPL v63
 (b3_1 R x2 w50)
 (R (.returned (Value.bool false)) (World.drew w50))
def b3_3 (R:EP) (x1 x2 v49:Value) (w50:World) (_r:Tok R:=tok R):Prop :=
 LD prog (Builtin.len_ #[24] 3 #[v49]) (World.drew w50) fun v51 =>
 PUR prog (fieldAt 27 x2 1) fun v52 =>
 LD prog (loadAt 23 v52) (World.drew w50) fun v53 =>
 LD prog (Builtin.len_ #[23] 3 #[v53]) (World.drew w50) fun v54 =>
 PUR prog (bins .sub 3 (.tmp 87) (.tmp 88) v54 x1) fun v55 =>
 PUR prog (bins .eql 3 (.tmp 84) (.tmp 89) v51 v55) fun v56 =>
 SPL v56
 (b3_2 R x1 x2 w50)
 (R (.returned (Value.bool false)) (World.drew w50))
def b3_4 (R:EP) (x1 x2 v29 v33 v45:Value) (w46:World) (_r:Tok R:=tok R):Prop :=
 RUN prog R (loadAt 27 x2) w46 fun v47 w48 =>
 CALL prog R ref02_lefts.id #[v47,x1] w48 fun v49 w50 =>
 SPL v29
 (SPL v33
 (SPL v45
 (b3_3 R x1 x2 v49 w50)
 (R (.returned (Value.bool false)) (World.drew w50)))
 (R (.returned (Value.bool false)) (World.drew w50)))
 (R (.returned (Value.bool false)) (World.drew w50))
def b3_5 (R:EP) (x1 x2 v29 v33:Value) (w34:World) (_r:Tok R:=tok R):Prop :=
 RUN prog R (loadAt 27 x2) w34 fun v35 w36 =>
 RUN prog R (fieldAt 27 x2 0) w36 fun v37 w38 =>
 RUN prog R (loadAt 22 v37) w38 fun v39 w40 =>
 RUN prog R (Builtin.len_ #[22] 3 #[v39]) w40 fun v41 w42 =>
 RUN prog R (bins .add 3 (.tmp 68) (.tmp 69) v41 x1) w42 fun v43 w44 =>
 CALL prog R ref02_prodsFit.id #[v35,x1,v43] w44 fun v45 w46 =>
 b3_4 R x1 x2 v29 v33 v45 w46
def b3_6 (R:EP) (x1 x2 v29:Value) (w30:World) (_r:Tok R:=tok R):Prop :=
 RUN prog R (loadAt 27 x2) w30 fun v31 w32 =>
 CALL prog R ref02_nonsFit.id #[v31,x1] w32 fun v33 w34 =>
 b3_5 R x1 x2 v29 v33 w34
def b3_7 (R:EP) (x1 x2:Value) (w26:World) (_r:Tok R:=tok R):Prop :=
 RUN prog R (loadAt 27 x2) w26 fun v27 w28 =>
 CALL prog R ref02_levelsFit.id #[v27] w28 fun v29 w30 =>
 b3_6 R x1 x2 v29 w30
def b3_8 (R:EP) (x1 x2:Value) (w20:World) (_r:Tok R:=tok R):Prop :=
 RUN prog R (loadAt 27 x2) w20 fun v21 w22 =>
 CALL prog R ref02_termsFit.id #[v21] w22 fun v23 w24 =>
 RUN prog R (Op.unary .not v23) w24 fun v25 w26 =>
 SPL v25
 (R (.returned (Value.bool false)) w26)
 (b3_7 R x1 x2 w26)

def b3 (R:EP) (x1 x2:Value) (w:World) (_r:Tok R:=tok R):Prop :=
 RUN prog R (fieldAt 27 x2 0) w fun v1 w2 =>
 RUN prog R (loadAt 22 v1) w2 fun v3 w4 =>
 RUN prog R (Builtin.len_ #[22] 3 #[v3]) w4 fun v5 w6 =>
 RUN prog R (bins .sub 3 (.tmp 46) (.const (Value.int .i64 1)) v5 (Value.int .i64 1)) w6 fun v7 w8 =>
 RUN prog R (fieldAt 27 x2 1) w8 fun v9 w10 =>
 RUN prog R (loadAt 23 v9) w10 fun v11 w12 =>
 RUN prog R (Builtin.len_ #[23] 3 #[v11]) w12 fun v13 w14 =>
 RUN prog R (bins .add 3 (.tmp 47) (.tmp 50) v7 v13) w14 fun v15 w16 =>
 RUN prog R (bins .sub 3 (.tmp 51) (.tmp 52) v15 x1) w16 fun v17 w18 =>
 RUN prog R (bins .gtr 3 (.tmp 53) (.const (Value.int .i64 64)) v17 (Value.int .i64 64)) w18 fun v19 w20 =>
 SPL v19
 (R (.returned (Value.bool false)) w20)
 (b3_8 R x1 x2 w20)
abbrev r0 (R:EP) (z:Env) (w:World):Prop:=R (.returned (z 4)) w
abbrev q1 (R:EP):XP:=QX (r0 R) (r0 R) []
theorem b3_ok (R:EP):TI prog R (sndC p1) (q1 R) fun z w=>b3 R (z 1) (z 2) w:=ofT
noncomputable abbrev p2:Code:=dropC 1 (fstC p1)

def b5 (R:EP) (x1 x2 x43:Value) (w:World) (_r:Tok R:=tok R):Prop :=
 SPL x43
 (R (.returned (Value.bool false)) w)
 (b3 R x1 x2 w)
abbrev q2 (R:EP):XP:=QX (fun z w=>b3 R (z 1) (z 2) w) (r0 R) []
theorem b5_ok (R:EP):TI prog R p2 (q2 R) fun z w=>b5 R (z 1) (z 2) (z 43) w:=ofT
def b4_1 (R:EP) (x1 x2:Value) (w38:World) (_r:Tok R:=tok R):Prop :=
 RUN prog R (fieldAt 27 x2 2) w38 fun v39 w40 =>
 RUN prog R (loadAt 24 v39) w40 fun v41 w42 =>
 RUN prog R (Builtin.len_ #[24] 3 #[v41]) w42 fun v43 w44 =>
 RUN prog R (bins .gtr 3 (.tmp 41) (.const (Value.int .i64 64)) v43 (Value.int .i64 64)) w44 fun v45 w46 =>
 b5 R x1 x2 v45 w46
def b4_2 (R:EP) (x1 x2:Value) (w28:World) (_r:Tok R:=tok R):Prop :=
 RUN prog R (fieldAt 27 x2 4) w28 fun v29 w30 =>
 RUN prog R (loadAt 25 v29) w30 fun v31 w32 =>
 RUN prog R (Builtin.len_ #[25] 3 #[v31]) w32 fun v33 w34 =>
 RUN prog R (bins .add 3 (.const (Value.int .i64 1)) (.tmp 34) (Value.int .i64 1) x1) w34 fun v35 w36 =>
 RUN prog R (bins .lss 3 (.tmp 33) (.tmp 35) v33 v35) w36 fun v37 w38 =>
 SPL v37
 (b5 R x1 x2 (Value.bool true) w38)
 (b4_1 R x1 x2 w38)
def b4_3 (R:EP) (x1 x2:Value) (w18:World) (_r:Tok R:=tok R):Prop :=
 RUN prog R (fieldAt 27 x2 4) w18 fun v19 w20 =>
 RUN prog R (loadAt 25 v19) w20 fun v21 w22 =>
 RUN prog R (Builtin.len_ #[25] 3 #[v21]) w22 fun v23 w24 =>
 RUN prog R (bins .add 3 (.const (Value.int .i64 96)) (.tmp 26) (Value.int .i64 96) x1) w24 fun v25 w26 =>
 RUN prog R (bins .gtr 3 (.tmp 25) (.tmp 27) v23 v25) w26 fun v27 w28 =>
 SPL v27
 (b5 R x1 x2 (Value.bool true) w28)
 (b4_2 R x1 x2 w28)
def b4_4 (R:EP) (x1 x2:Value) (w10:World) (_r:Tok R:=tok R):Prop :=
 RUN prog R (fieldAt 27 x2 0) w10 fun v11 w12 =>
 RUN prog R (loadAt 22 v11) w12 fun v13 w14 =>
 RUN prog R (Builtin.len_ #[22] 3 #[v13]) w14 fun v15 w16 =>
 RUN prog R (bins .gtr 3 (.tmp 19) (.const (Value.int .i64 65)) v15 (Value.int .i64 65)) w16 fun v17 w18 =>
 SPL v17
 (b5 R x1 x2 (Value.bool true) w18)
 (b4_3 R x1 x2 w18)

def b4 (R:EP) (x1 x2:Value) (w:World) (_r:Tok R:=tok R):Prop :=
 RUN prog R (fieldAt 27 x2 1) w fun v1 w2 =>
 RUN prog R (loadAt 23 v1) w2 fun v3 w4 =>
 RUN prog R (Builtin.len_ #[23] 3 #[v3]) w4 fun v5 w6 =>
 RUN prog R (bins .add 3 (.const (Value.int .i64 64)) (.tmp 13) (Value.int .i64 64) x1) w6 fun v7 w8 =>
 RUN prog R (bins .gtr 3 (.tmp 12) (.tmp 14) v5 v7) w8 fun v9 w10 =>
 SPL v9
 (b5 R x1 x2 (Value.bool true) w10)
 (b4_4 R x1 x2 w10)
theorem b4_ok (R:EP):TI prog R (fstC p1) (q2 R) fun z w=>b4 R (z 1) (z 2) w:=appT 0 (b5_ok R)
theorem k2_ok (R:EP):TI prog R p1 (q1 R) fun z w=>b4 R (z 1) (z 2) w:=seqT (b4_ok R) (b3_ok R)

def b1 (R:EP) (x0 x1:Value) (w:World) (_r:Tok R:=tok R):Prop :=
 RUN prog R (box 27 x0) w fun v1 w2 =>
 b4 R x1 v1 w2
theorem b1_ok (R:EP):TI prog R code (q1 R) fun z w=>b1 R (z 0) (z 1) w:=appT 0 (k2_ok R)
def run (R:EP) (a0 a1:Value) (w:World):Prop:=b1 R a0 a1 w
theorem calls (R:EP) (a0 a1:Value) (w:World) (h:run R a0 a1 w):Calls prog id #[a0,a1] w R:=cls_t func19 [a0,a1] (b1_ok R _ w h)
theorem enters:Enters prog id:=fun args w=>call19 args w
theorem ct {a0 a1:Value} {w:World} {S:VP} (h:∀R:EP,(∀v w,S v w→R (.returned v) w)→run R a0 a1 w):Ct prog id #[a0,a1] w S :=
 Ct.intro enters fun R hR=>calls R a0 a1 w (h R hR)
attribute [irreducible,go_sem] b3_1 b3_2 b3_3 b3_4 b3_5 b3_6 b3_7 b3_8 b3 b5 b4_1 b4_2 b4_3 b4_4 b4 b1 run
end ref02_fits

/-! ### presage/presageref02.Symbols -/
namespace ref02_Symbols
noncomputable def code:Code:=bodyOf f23
def b1 (R:EP) (x0:Value) (w:World) (_r:Tok R:=tok R):Prop :=
 RUN prog R (box 27 x0) w fun v1 w2 =>
 RUN prog R (fieldAt 27 v1 0) w2 fun v3 w4 =>
 RUN prog R (loadAt 22 v3) w4 fun v5 w6 =>
 RUN prog R (Builtin.len_ #[22] 3 #[v5]) w6 fun v7 w8 =>
 RUN prog R (fieldAt 27 v1 1) w8 fun v9 w10 =>
 RUN prog R (loadAt 23 v9) w10 fun v11 w12 =>
 RUN prog R (Builtin.len_ #[23] 3 #[v11]) w12 fun v13 w14 =>
 RUN prog R (bins .add 3 (.tmp 5) (.tmp 8) v7 v13) w14 fun v15 w16 =>
 R (.returned v15) w16
abbrev r0 (R:EP) (z:Env) (w:World):Prop:=R (.returned (z 2)) w
abbrev q1 (R:EP):XP:=QX (r0 R) (r0 R) []
theorem b1_ok (R:EP):TI prog R code (q1 R) fun z w=>b1 R (z 0) w:=ofT
def run (R:EP) (a0:Value) (w:World):Prop:=b1 R a0 w
theorem calls (R:EP) (a0:Value) (w:World) (h:run R a0 w):Calls prog id #[a0] w R:=cls_t func23 [a0] (b1_ok R _ w h)
theorem enters:Enters prog id:=fun args w=>call23 args w
theorem ct {a0:Value} {w:World} {S:VP} (h:∀R:EP,(∀v w,S v w→R (.returned v) w)→run R a0 w):Ct prog id #[a0] w S :=
 Ct.intro enters fun R hR=>calls R a0 w (h R hR)
attribute [irreducible,go_sem] b1 run
end ref02_Symbols

/-! ### presage/presageref02.termsFit -/
namespace ref02_termsFit
noncomputable def code:Code:=bodyOf f40
noncomputable abbrev p1:Code:=dropC 1 code
noncomputable abbrev p2:Code:=sndC (sndC p1)

def b4 (R:EP) (w:World) (_r:Tok R:=tok R):Prop :=
 R (.returned (Value.bool true)) w
abbrev r0 (R:EP) (z:Env) (w:World):Prop:=R (.returned (z 2)) w
abbrev q1 (R:EP):XP:=QX (r0 R) (r0 R) []
theorem b4_ok (R:EP):TI prog R p2 (q1 R) fun z w=>b4 R w:=ofT
noncomputable abbrev p3:Code:=fstC (sndC p1)
noncomputable abbrev p4:Code:=dropC 1 p3
noncomputable abbrev p5:Code:=loopC (blkC p4)
noncomputable abbrev p6:Code:=dropC 1 p5

def b10 (R:EP) (C7:VP) (x3:Value) (w:World) (_r:Tok R:=tok R) (_C7:Tok C7:=tok C7):Prop :=
 RUN prog R (bins .add 3 (.tmp 31) (.const (Value.int .i64 1)) x3 (Value.int .i64 1)) w fun v1 w2 =>
 C7 v1 w2
abbrev q2 (R:EP) (C7:VP):XP:=QX (fun z w=>C7 (z 3) w) (r0 R) [(0,(fun z w=>b4 R  w))]
theorem b10_ok (R:EP) (C7:VP):TI prog R (sndC p6) (q2 R C7) fun z w=>b10 R C7 (z 3) w:=ofT
noncomputable abbrev p7:Code:=blkC (fstC p6)
noncomputable abbrev p8:Code:=dropC 1 p7
noncomputable abbrev p9:Code:=dropC 1 (sndC p8)
noncomputable abbrev p10:Code:=loopC (blkC p9)
def b17_1 (R:EP) (C16:VP) (x1 x3 x5:Value) (w2:World) (_r:Tok R:=tok R) (_C16:Tok C16:=tok C16):Prop :=
 PUR prog (fieldAt 27 x1 0) fun v3 =>
 LD prog (loadAt 22 v3) (World.drew w2) fun v4 =>
 PUR prog (indexAt 22 v4 x5) fun v5 =>
 PUR prog (fieldAt 112 v5 0) fun v6 =>
 LD prog (loadAt 9 v6) (World.drew w2) fun v7 =>
 PUR prog (fieldAt 27 x1 0) fun v8 =>
 LD prog (loadAt 22 v8) (World.drew w2) fun v9 =>
 PUR prog (indexAt 22 v9 x3) fun v10 =>
 PUR prog (fieldAt 112 v10 0) fun v11 =>
 LD prog (loadAt 9 v11) (World.drew w2) fun v12 =>
 PUR prog (bins .eql 9 (.tmp 73) (.tmp 79) v7 v12) fun v13 =>
 SPL v13
 (R (.returned (Value.bool false)) (World.drew w2))
 (RUN prog R (bins .add 3 (.tmp 66) (.const (Value.int .i64 1)) x5 (Value.int .i64 1)) (World.drew w2) fun v14 w15 =>
 C16 v14 w15)

def b17 (R:EP) (C7:VP) (C16:VP) (x1 x3 x5:Value) (w:World) (_r:Tok R:=tok R) (_C7:Tok C7:=tok C7) (_C16:Tok C16:=tok C16):Prop :=
 RUN prog R (bins .lss 3 (.tmp 63) (.tmp 64) x5 x3) w fun v1 w2 =>
 SPL v1
 (b17_1 R C16 x1 x3 x5 w2)
 (b10 R C7 x3 w2)
abbrev q3 (R:EP) (C7:VP) (C16:VP):XP:=QX (fun z w=>C16 (z 5) w) (r0 R) [(4,(fun z w=>b10 R C7 (z 3) w)),(2,(fun z w=>b10 R C7 (z 3) w)),(0,(fun z w=>b4 R  w))]
theorem b17_ok (R:EP) (C7:VP) (C16:VP):TI prog R p10 (q3 R C7 C16) fun z w=>b17 R C7 C16 (z 1) (z 3) (z 5) w:=ofT

def l16 (R:EP) (C7:VP) (x1 x3 x5:Value) (w:World) (_r:Tok R:=tok R) (_C7:Tok C7:=tok C7):Prop :=
 ∃(J:VP) (μ:Value→World→Nat),J x5 w∧∀y5 w0,J y5 w0→b17 R C7 (fun z5 w1=>J z5 w1∧μ z5 w1<μ y5 w0) x1 x3 y5 w0
abbrev q4 (R:EP) (C7:VP):XP:=QX (fun z w=>b10 R C7 (z 3) w) (r0 R) [(4,(fun z w=>b10 R C7 (z 3) w)),(2,(fun z w=>b10 R C7 (z 3) w)),(0,(fun z w=>b4 R  w))]
theorem l16_ok (R:EP) (C7:VP):TI prog R (blkC p9) (q4 R C7) fun z w=>l16 R C7 (z 1) (z 3) (z 5) w:=fun z w h=>by
 unfold l16 at h
 obtain ⟨J,μ,h0,hr⟩:=h
 refine loopT (fun z' w'=>J (z' 5) w') (fun z' w'=>μ (z' 5) w') h0 fun z' w' hA hI=>b17_ok R C7 (fun z5 w1=>J z5 w1∧μ z5 w1<μ (z' 5) w') z' w' ?_
 have h1:=hr (z' 5) w' hI
 rwa [←hA.on 1,←hA.on 3] at h1
theorem l16_intro (R:EP) (C7:VP) (x1 x3 x5:Value) (w:World) (J:VP) (μ:Value→World→Nat) (h0:J x5 w)
   (hr:∀y5 w0,J y5 w0→∀C16:VP,(∀z5 w1,J z5 w1→μ z5 w1<μ y5 w0→C16 z5 w1)→b17 R C7 C16 x1 x3 y5 w0):l16 R C7 x1 x3 x5 w:=by
 unfold l16
 exact ⟨J,μ,h0,fun y5 w0 hJ=>hr y5 w0 hJ _ (fun z5 w1 h1 h2=>⟨h1,h2⟩)⟩
abbrev q5 (R:EP) (C7:VP):XP:=QX (fun z w=>b10 R C7 (z 3) w) (r0 R) [(2,(fun z w=>b10 R C7 (z 3) w)),(0,(fun z w=>b4 R  w))]
theorem k15_ok (R:EP) (C7:VP):TI prog R p9 (q5 R C7) fun z w=>l16 R C7 (z 1) (z 3) (z 5) w:=blockT 2 (l16_ok R C7)

def b14 (R:EP) (C7:VP) (x1 x3:Value) (w:World) (_r:Tok R:=tok R) (_C7:Tok C7:=tok C7):Prop :=
 l16 R C7 x1 x3 (Value.int .i64 1) w
theorem b14_ok (R:EP) (C7:VP):TI prog R (sndC p8) (q5 R C7) fun z w=>b14 R C7 (z 1) (z 3) w:=appT 0 (k15_ok R C7)
noncomputable abbrev p11:Code:=dropC 1 (fstC p8)

def b19 (R:EP) (C7:VP) (x1 x3 x62:Value) (w:World) (_r:Tok R:=tok R) (_C7:Tok C7:=tok C7):Prop :=
 SPL x62
 (R (.returned (Value.bool false)) w)
 (b14 R C7 x1 x3 w)
abbrev q6 (R:EP) (C7:VP):XP:=QX (fun z w=>b14 R C7 (z 1) (z 3) w) (r0 R) [(2,(fun z w=>b10 R C7 (z 3) w)),(0,(fun z w=>b4 R  w))]
theorem b19_ok (R:EP) (C7:VP):TI prog R p11 (q6 R C7) fun z w=>b19 R C7 (z 1) (z 3) (z 62) w:=ofT
def b18_1 (R:EP) (C7:VP) (x1 x3:Value) (w:World) (_r:Tok R:=tok R) (_C7:Tok C7:=tok C7):Prop :=
 PUR prog (fieldAt 27 x1 0) fun v8 =>
 LD prog (loadAt 22 v8) (World.drew w) fun v9 =>
 PUR prog (indexAt 22 v9 x3) fun v10 =>
 PUR prog (fieldAt 112 v10 1) fun v11 =>
 LD prog (loadAt 3 v11) (World.drew w) fun v12 =>
 PUR prog (fieldAt 27 x1 2) fun v13 =>
 LD prog (loadAt 24 v13) (World.drew w) fun v14 =>
 LD prog (Builtin.len_ #[24] 3 #[v14]) (World.drew w) fun v15 =>
 PUR prog (bins .gtr 3 (.tmp 57) (.tmp 60) v12 v15) fun v16 =>
 b19 R C7 x1 x3 v16 (World.drew w)
def b18_2 (R:EP) (C7:VP) (x1 x3:Value) (w:World) (_r:Tok R:=tok R) (_C7:Tok C7:=tok C7):Prop :=
 PUR prog (fieldAt 27 x1 0) fun v2 =>
 LD prog (loadAt 22 v2) (World.drew w) fun v3 =>
 PUR prog (indexAt 22 v3 x3) fun v4 =>
 PUR prog (fieldAt 112 v4 1) fun v5 =>
 LD prog (loadAt 3 v5) (World.drew w) fun v6 =>
 PUR prog (bins .lss 3 (.tmp 48) (.const (Value.int .i64 0)) v6 (Value.int .i64 0)) fun v7 =>
 SPL v7
 (b19 R C7 x1 x3 (Value.bool true) (World.drew w))
 (b18_1 R C7 x1 x3 w)

def b18 (R:EP) (C7:VP) (x1 x3 x4:Value) (w:World) (_r:Tok R:=tok R) (_C7:Tok C7:=tok C7):Prop :=
 PUR prog (Op.unary .not x4) fun v1 =>
 SPL v1
 (b19 R C7 x1 x3 (Value.bool true) (World.drew w))
 (b18_2 R C7 x1 x3 w)
theorem b18_ok (R:EP) (C7:VP):TI prog R (fstC p8) (q6 R C7) fun z w=>b18 R C7 (z 1) (z 3) (z 4) w:=appT 0 (b19_ok R C7)
theorem k13_ok (R:EP) (C7:VP):TI prog R p8 (q5 R C7) fun z w=>b18 R C7 (z 1) (z 3) (z 4) w:=seqT (b18_ok R C7) (b14_ok R C7)

def b12 (R:EP) (C7:VP) (x1 x3:Value) (w:World) (_r:Tok R:=tok R) (_C7:Tok C7:=tok C7):Prop :=
 RUN prog R (fieldAt 27 x1 0) w fun v1 w2 =>
 RUN prog R (loadAt 22 v1) w2 fun v3 w4 =>
 RUN prog R (indexAt 22 v3 x3) w4 fun v5 w6 =>
 RUN prog R (fieldAt 112 v5 0) w6 fun v7 w8 =>
 RUN prog R (loadAt 9 v7) w8 fun v9 w10 =>
 CALL prog R ref02_IsTerm.id #[v9] w10 fun v11 w12 =>
 b18 R C7 x1 x3 v11 w12
theorem b12_ok (R:EP) (C7:VP):TI prog R p7 (q5 R C7) fun z w=>b12 R C7 (z 1) (z 3) w:=appT 0 (k13_ok R C7)
abbrev q7 (R:EP) (C7:VP):XP:=QX (fun z w=>b10 R C7 (z 3) w) (r0 R) [(0,(fun z w=>b4 R  w))]
theorem k11_ok (R:EP) (C7:VP):TI prog R (fstC p6) (q7 R C7) fun z w=>b12 R C7 (z 1) (z 3) w:=blockT 1 (b12_ok R C7)
theorem k9_ok (R:EP) (C7:VP):TI prog R p6 (q2 R C7) fun z w=>b12 R C7 (z 1) (z 3) w:=seqT (k11_ok R C7) (b10_ok R C7)

def b8 (R:EP) (C7:VP) (x1 x3:Value) (w:World) (_r:Tok R:=tok R) (_C7:Tok C7:=tok C7):Prop :=
 RUN prog R (fieldAt 27 x1 0) w fun v1 w2 =>
 RUN prog R (loadAt 22 v1) w2 fun v3 w4 =>
 RUN prog R (Builtin.len_ #[22] 3 #[v3]) w4 fun v5 w6 =>
 RUN prog R (bins .lss 3 (.tmp 26) (.tmp 29) x3 v5) w6 fun v7 w8 =>
 SPL v7
 (b12 R C7 x1 x3 w8)
 (b4 R w8)
theorem b8_ok (R:EP) (C7:VP):TI prog R p5 (q2 R C7) fun z w=>b8 R C7 (z 1) (z 3) w:=appT 0 (k9_ok R C7)

def l7 (R:EP) (x1 x3:Value) (w:World) (_r:Tok R:=tok R):Prop :=
 ∃(J:VP) (μ:Value→World→Nat),J x3 w∧∀y3 w0,J y3 w0→b8 R (fun z3 w1=>J z3 w1∧μ z3 w1<μ y3 w0) x1 y3 w0
abbrev q8 (R:EP):XP:=QX (fun z w=>b4 R  w) (r0 R) [(0,(fun z w=>b4 R  w))]
theorem l7_ok (R:EP):TI prog R (blkC p4) (q8 R) fun z w=>l7 R (z 1) (z 3) w:=fun z w h=>by
 unfold l7 at h
 obtain ⟨J,μ,h0,hr⟩:=h
 refine loopT (fun z' w'=>J (z' 3) w') (fun z' w'=>μ (z' 3) w') h0 fun z' w' hA hI=>b8_ok R (fun z3 w1=>J z3 w1∧μ z3 w1<μ (z' 3) w') z' w' ?_
 have h1:=hr (z' 3) w' hI
 rwa [←hA.on 1] at h1
theorem l7_intro (R:EP) (x1 x3:Value) (w:World) (J:VP) (μ:Value→World→Nat) (h0:J x3 w)
   (hr:∀y3 w0,J y3 w0→∀C7:VP,(∀z3 w1,J z3 w1→μ z3 w1<μ y3 w0→C7 z3 w1)→b8 R C7 x1 y3 w0):l7 R x1 x3 w:=by
 unfold l7
 exact ⟨J,μ,h0,fun y3 w0 hJ=>hr y3 w0 hJ _ (fun z3 w1 h1 h2=>⟨h1,h2⟩)⟩
abbrev q9 (R:EP):XP:=QX (fun z w=>b4 R  w) (r0 R) []
theorem k6_ok (R:EP):TI prog R p4 (q9 R) fun z w=>l7 R (z 1) (z 3) w:=blockT 0 (l7_ok R)

def b5 (R:EP) (x1:Value) (w:World) (_r:Tok R:=tok R):Prop :=
 l7 R x1 (Value.int .i64 1) w
theorem b5_ok (R:EP):TI prog R p3 (q9 R) fun z w=>b5 R (z 1) w:=appT 0 (k6_ok R)
theorem k3_ok (R:EP):TI prog R (sndC p1) (q1 R) fun z w=>b5 R (z 1) w:=seqT (b5_ok R) (b4_ok R)
noncomputable abbrev p12:Code:=dropC 1 (fstC p1)

def b21 (R:EP) (x1 x25:Value) (w:World) (_r:Tok R:=tok R):Prop :=
 SPL x25
 (R (.returned (Value.bool false)) w)
 (b5 R x1 w)
abbrev q10 (R:EP):XP:=QX (fun z w=>b5 R (z 1) w) (r0 R) []
theorem b21_ok (R:EP):TI prog R p12 (q10 R) fun z w=>b21 R (z 1) (z 25) w:=ofT
def b20_1 (R:EP) (x1:Value) (w20:World) (_r:Tok R:=tok R):Prop :=
 RUN prog R (fieldAt 27 x1 0) w20 fun v21 w22 =>
 RUN prog R (loadAt 22 v21) w22 fun v23 w24 =>
 RUN prog R (indexAt 22 v23 (Value.int .i64 0)) w24 fun v25 w26 =>
 RUN prog R (fieldAt 112 v25 1) w26 fun v27 w28 =>
 RUN prog R (loadAt 3 v27) w28 fun v29 w30 =>
 RUN prog R (bins .neq 3 (.tmp 23) (.const (Value.int .i64 0)) v29 (Value.int .i64 0)) w30 fun v31 w32 =>
 b21 R x1 v31 w32
def b20_2 (R:EP) (x1:Value) (w8:World) (_r:Tok R:=tok R):Prop :=
 RUN prog R (fieldAt 27 x1 0) w8 fun v9 w10 =>
 RUN prog R (loadAt 22 v9) w10 fun v11 w12 =>
 RUN prog R (indexAt 22 v11 (Value.int .i64 0)) w12 fun v13 w14 =>
 RUN prog R (fieldAt 112 v13 0) w14 fun v15 w16 =>
 RUN prog R (loadAt 9 v15) w16 fun v17 w18 =>
 RUN prog R (bins .neq 9 (.tmp 15) (.const (Value.string ⟨#[]⟩)) v17 (Value.string ⟨#[]⟩)) w18 fun v19 w20 =>
 SPL v19
 (b21 R x1 (Value.bool true) w20)
 (b20_1 R x1 w20)

def b20 (R:EP) (x1:Value) (w:World) (_r:Tok R:=tok R):Prop :=
 RUN prog R (fieldAt 27 x1 0) w fun v1 w2 =>
 RUN prog R (loadAt 22 v1) w2 fun v3 w4 =>
 RUN prog R (Builtin.len_ #[22] 3 #[v3]) w4 fun v5 w6 =>
 RUN prog R (bins .eql 3 (.tmp 8) (.const (Value.int .i64 0)) v5 (Value.int .i64 0)) w6 fun v7 w8 =>
 SPL v7
 (b21 R x1 (Value.bool true) w8)
 (b20_2 R x1 w8)
theorem b20_ok (R:EP):TI prog R (fstC p1) (q10 R) fun z w=>b20 R (z 1) w:=appT 0 (b21_ok R)
theorem k2_ok (R:EP):TI prog R p1 (q1 R) fun z w=>b20 R (z 1) w:=seqT (b20_ok R) (k3_ok R)

def b1 (R:EP) (x0:Value) (w:World) (_r:Tok R:=tok R):Prop :=
 RUN prog R (box 27 x0) w fun v1 w2 =>
 b20 R v1 w2
theorem b1_ok (R:EP):TI prog R code (q1 R) fun z w=>b1 R (z 0) w:=appT 0 (k2_ok R)
def run (R:EP) (a0:Value) (w:World):Prop:=b1 R a0 w
theorem calls (R:EP) (a0:Value) (w:World) (h:run R a0 w):Calls prog id #[a0] w R:=cls_t func40 [a0] (b1_ok R _ w h)
theorem enters:Enters prog id:=fun args w=>call40 args w
theorem ct {a0:Value} {w:World} {S:VP} (h:∀R:EP,(∀v w,S v w→R (.returned v) w)→run R a0 w):Ct prog id #[a0] w S :=
 Ct.intro enters fun R hR=>calls R a0 w (h R hR)
attribute [irreducible] l16 l7
attribute [irreducible,go_sem] b4 b10 b17_1 b17 b14 b19 b18_1 b18_2 b18 b12 b8 b5 b21 b20_1 b20_2 b20 b1 run
end ref02_termsFit

/-! ### presage/presageref02.levelsFit -/
namespace ref02_levelsFit
noncomputable def code:Code:=bodyOf f41
noncomputable abbrev p1:Code:=dropC 1 code

def b3 (R:EP) (w:World) (_r:Tok R:=tok R):Prop :=
 R (.returned (Value.bool true)) w
abbrev r0 (R:EP) (z:Env) (w:World):Prop:=R (.returned (z 2)) w
abbrev q1 (R:EP):XP:=QX (r0 R) (r0 R) []
theorem b3_ok (R:EP):TI prog R (sndC p1) (q1 R) fun z w=>b3 R w:=ofT
noncomputable abbrev p2:Code:=dropC 1 (fstC p1)
noncomputable abbrev p3:Code:=loopC (blkC p2)
noncomputable abbrev p4:Code:=dropC 1 p3
def b9 (R:EP) (C6:VP) (x3:Value) (w:World) (_r:Tok R:=tok R) (_C6:Tok C6:=tok C6):Prop :=
 RUN prog R (bins .add 3 (.tmp 11) (.const (Value.int .i64 1)) x3 (Value.int .i64 1)) w fun v1 w2 =>
 C6 v1 w2
abbrev q2 (R:EP) (C6:VP):XP:=QX (fun z w=>C6 (z 3) w) (r0 R) [(0,(fun z w=>b3 R  w))]
theorem b9_ok (R:EP) (C6:VP):TI prog R (sndC p4) (q2 R C6) fun z w=>b9 R C6 (z 3) w:=ofT
noncomputable abbrev p5:Code:=blkC (fstC p4)
noncomputable abbrev p6:Code:=dropC 1 p5
noncomputable abbrev p7:Code:=dropC 1 (sndC p6)
def b14 (R:EP) (C6:VP) (x3 x49:Value) (w:World) (_r:Tok R:=tok R) (_C6:Tok C6:=tok C6):Prop :=
 SPL x49
 (R (.returned (Value.bool false)) w)
 (b9 R C6 x3 w)
abbrev q3 (R:EP) (C6:VP):XP:=QX (fun z w=>b9 R C6 (z 3) w) (r0 R) [(2,(fun z w=>b9 R C6 (z 3) w)),(0,(fun z w=>b3 R  w))]
theorem b14_ok (R:EP) (C6:VP):TI prog R p7 (q3 R C6) fun z w=>b14 R C6 (z 3) (z 49) w:=ofT
def b13_1 (R:EP) (C6:VP) (x1 x3:Value) (w12:World) (_r:Tok R:=tok R) (_C6:Tok C6:=tok C6):Prop :=
 RUN prog R (fieldAt 27 x1 2) w12 fun v13 w14 =>
 RUN prog R (loadAt 24 v13) w14 fun v15 w16 =>
 RUN prog R (indexAt 24 v15 x3) w16 fun v17 w18 =>
 RUN prog R (loadAt 3 v17) w18 fun v19 w20 =>
 RUN prog R (bins .gtr 3 (.tmp 47) (.const (Value.int .i64 3)) v19 (Value.int .i64 3)) w20 fun v21 w22 =>
 b14 R C6 x3 v21 w22
def b13_2 (R:EP) (C6:VP) (x1 x3:Value) (w2:World) (_r:Tok R:=tok R) (_C6:Tok C6:=tok C6):Prop :=
 RUN prog R (fieldAt 27 x1 2) w2 fun v3 w4 =>
 RUN prog R (loadAt 24 v3) w4 fun v5 w6 =>
 RUN prog R (indexAt 24 v5 x3) w6 fun v7 w8 =>
 RUN prog R (loadAt 3 v7) w8 fun v9 w10 =>
 RUN prog R (bins .lss 3 (.tmp 39) (.const (Value.int .i64 1)) v9 (Value.int .i64 1)) w10 fun v11 w12 =>
 SPL v11
 (b14 R C6 x3 (Value.bool true) w12)
 (b13_1 R C6 x1 x3 w12)
def b13 (R:EP) (C6:VP) (x1 x3 x4:Value) (w:World) (_r:Tok R:=tok R) (_C6:Tok C6:=tok C6):Prop :=
 RUN prog R (Op.unary .not x4) w fun v1 w2 =>
 SPL v1
 (b14 R C6 x3 (Value.bool true) w2)
 (b13_2 R C6 x1 x3 w2)
theorem b13_ok (R:EP) (C6:VP):TI prog R (sndC p6) (q3 R C6) fun z w=>b13 R C6 (z 1) (z 3) (z 4) w:=appT 0 (b14_ok R C6)
noncomputable abbrev p8:Code:=dropC 1 (fstC p6)
noncomputable abbrev p9:Code:=loopC (blkC p8)
noncomputable abbrev p10:Code:=dropC 2 p9
def b19 (R:EP) (C6:VP) (C17:Value→VP) (x4 x5:Value) (w:World) (_r:Tok R:=tok R) (_C6:Tok C6:=tok C6) (_C17:Tok C17:=tok C17):Prop :=
 RUN prog R (bins .add 3 (.tmp 18) (.const (Value.int .i64 1)) x5 (Value.int .i64 1)) w fun v1 w2 =>
 C17 x4 v1 w2
abbrev q4 (R:EP) (C6:VP) (C17:Value→VP):XP:=QX (fun z w=>C17 (z 4) (z 5) w) (r0 R) [(4,(fun z w=>b13 R C6 (z 1) (z 3) (z 4) w)),(2,(fun z w=>b9 R C6 (z 3) w)),(0,(fun z w=>b3 R  w))]
theorem b19_ok (R:EP) (C6:VP) (C17:Value→VP):TI prog R p10 (q4 R C6 C17) fun z w=>b19 R C6 C17 (z 4) (z 5) w:=ofT
def b18_1 (R:EP) (C6:VP) (C17:Value→VP) (x1 x3 x5:Value) (w8:World) (_r:Tok R:=tok R) (_C6:Tok C6:=tok C6) (_C17:Tok C17:=tok C17):Prop :=
 RUN prog R (fieldAt 27 x1 0) w8 fun v9 w10 =>
 RUN prog R (loadAt 22 v9) w10 fun v11 w12 =>
 RUN prog R (indexAt 22 v11 x5) w12 fun v13 w14 =>
 RUN prog R (fieldAt 112 v13 1) w14 fun v15 w16 =>
 RUN prog R (loadAt 3 v15) w16 fun v17 w18 =>
 RUN prog R (bins .add 3 (.tmp 28) (.const (Value.int .i64 1)) x3 (Value.int .i64 1)) w18 fun v19 w20 =>
 RUN prog R (bins .eql 3 (.tmp 27) (.tmp 29) v17 v19) w20 fun v21 w22 =>
 b19 R C6 C17 v21 x5 w22
def b18 (R:EP) (C6:VP) (C17:Value→VP) (x1 x3 x4 x5:Value) (w:World) (_r:Tok R:=tok R) (_C6:Tok C6:=tok C6) (_C17:Tok C17:=tok C17):Prop :=
 RUN prog R (fieldAt 27 x1 0) w fun v1 w2 =>
 RUN prog R (loadAt 22 v1) w2 fun v3 w4 =>
 RUN prog R (Builtin.len_ #[22] 3 #[v3]) w4 fun v5 w6 =>
 RUN prog R (bins .lss 3 (.tmp 13) (.tmp 16) x5 v5) w6 fun v7 w8 =>
 SPL v7
 (SPL x4
 (b19 R C6 C17 (Value.bool true) x5 w8)
 (b18_1 R C6 C17 x1 x3 x5 w8))
 (b13 R C6 x1 x3 x4 w8)
theorem b18_ok (R:EP) (C6:VP) (C17:Value→VP):TI prog R p9 (q4 R C6 C17) fun z w=>b18 R C6 C17 (z 1) (z 3) (z 4) (z 5) w:=appT 1 (b19_ok R C6 C17)
def l17 (R:EP) (C6:VP) (x1 x3 x4 x5:Value) (w:World) (_r:Tok R:=tok R) (_C6:Tok C6:=tok C6):Prop :=
 ∃(J:Value→VP) (μ:Value→Value→World→Nat),J x4 x5 w∧∀y4 y5 w0,J y4 y5 w0→b18 R C6 (fun z4 z5 w1=>J z4 z5 w1∧μ z4 z5 w1<μ y4 y5 w0) x1 x3 y4 y5 w0
abbrev q5 (R:EP) (C6:VP):XP:=QX (fun z w=>b13 R C6 (z 1) (z 3) (z 4) w) (r0 R) [(4,(fun z w=>b13 R C6 (z 1) (z 3) (z 4) w)),(2,(fun z w=>b9 R C6 (z 3) w)),(0,(fun z w=>b3 R  w))]
theorem l17_ok (R:EP) (C6:VP):TI prog R (blkC p8) (q5 R C6) fun z w=>l17 R C6 (z 1) (z 3) (z 4) (z 5) w:=fun z w h=>by
 unfold l17 at h
 obtain ⟨J,μ,h0,hr⟩:=h
 refine loopT (fun z' w'=>J (z' 4) (z' 5) w') (fun z' w'=>μ (z' 4) (z' 5) w') h0 fun z' w' hA hI=>b18_ok R C6 (fun z4 z5 w1=>J z4 z5 w1∧μ z4 z5 w1<μ (z' 4) (z' 5) w') z' w' ?_
 have h1:=hr (z' 4) (z' 5) w' hI
 rwa [←hA.on 1,←hA.on 3] at h1
theorem l17_intro (R:EP) (C6:VP) (x1 x3 x4 x5:Value) (w:World) (J:Value→VP) (μ:Value→Value→World→Nat) (h0:J x4 x5 w)
   (hr:∀y4 y5 w0,J y4 y5 w0→∀C17:Value→VP,(∀z4 z5 w1,J z4 z5 w1→μ z4 z5 w1<μ y4 y5 w0→C17 z4 z5 w1)→b18 R C6 C17 x1 x3 y4 y5 w0):l17 R C6 x1 x3 x4 x5 w:=by
 unfold l17
 exact ⟨J,μ,h0,fun y4 y5 w0 hJ=>hr y4 y5 w0 hJ _ (fun z4 z5 w1 h1 h2=>⟨h1,h2⟩)⟩
abbrev q6 (R:EP) (C6:VP):XP:=QX (fun z w=>b13 R C6 (z 1) (z 3) (z 4) w) (r0 R) [(2,(fun z w=>b9 R C6 (z 3) w)),(0,(fun z w=>b3 R  w))]
theorem k16_ok (R:EP) (C6:VP):TI prog R p8 (q6 R C6) fun z w=>l17 R C6 (z 1) (z 3) (z 4) (z 5) w:=blockT 2 (l17_ok R C6)
def b15 (R:EP) (C6:VP) (x1 x3 x4:Value) (w:World) (_r:Tok R:=tok R) (_C6:Tok C6:=tok C6):Prop :=
 l17 R C6 x1 x3 x4 (Value.int .i64 0) w
theorem b15_ok (R:EP) (C6:VP):TI prog R (fstC p6) (q6 R C6) fun z w=>b15 R C6 (z 1) (z 3) (z 4) w:=appT 0 (k16_ok R C6)
theorem k12_ok (R:EP) (C6:VP):TI prog R p6 (q3 R C6) fun z w=>b15 R C6 (z 1) (z 3) (z 4) w:=seqT (b15_ok R C6) (b13_ok R C6)
def b11 (R:EP) (C6:VP) (x1 x3:Value) (w:World) (_r:Tok R:=tok R) (_C6:Tok C6:=tok C6):Prop :=
 b15 R C6 x1 x3 (Value.bool false) w
theorem b11_ok (R:EP) (C6:VP):TI prog R p5 (q3 R C6) fun z w=>b11 R C6 (z 1) (z 3) w:=appT 0 (k12_ok R C6)
abbrev q7 (R:EP) (C6:VP):XP:=QX (fun z w=>b9 R C6 (z 3) w) (r0 R) [(0,(fun z w=>b3 R  w))]
theorem k10_ok (R:EP) (C6:VP):TI prog R (fstC p4) (q7 R C6) fun z w=>b11 R C6 (z 1) (z 3) w:=blockT 1 (b11_ok R C6)
theorem k8_ok (R:EP) (C6:VP):TI prog R p4 (q2 R C6) fun z w=>b11 R C6 (z 1) (z 3) w:=seqT (k10_ok R C6) (b9_ok R C6)
def b7 (R:EP) (C6:VP) (x1 x3:Value) (w:World) (_r:Tok R:=tok R) (_C6:Tok C6:=tok C6):Prop :=
 RUN prog R (fieldAt 27 x1 2) w fun v1 w2 =>
 RUN prog R (loadAt 24 v1) w2 fun v3 w4 =>
 RUN prog R (Builtin.len_ #[24] 3 #[v3]) w4 fun v5 w6 =>
 RUN prog R (bins .lss 3 (.tmp 6) (.tmp 9) x3 v5) w6 fun v7 w8 =>
 SPL v7
 (b11 R C6 x1 x3 w8)
 (b3 R w8)
theorem b7_ok (R:EP) (C6:VP):TI prog R p3 (q2 R C6) fun z w=>b7 R C6 (z 1) (z 3) w:=appT 0 (k8_ok R C6)
def l6 (R:EP) (x1 x3:Value) (w:World) (_r:Tok R:=tok R):Prop :=
 ∃(J:VP) (μ:Value→World→Nat),J x3 w∧∀y3 w0,J y3 w0→b7 R (fun z3 w1=>J z3 w1∧μ z3 w1<μ y3 w0) x1 y3 w0
abbrev q8 (R:EP):XP:=QX (fun z w=>b3 R  w) (r0 R) [(0,(fun z w=>b3 R  w))]
theorem l6_ok (R:EP):TI prog R (blkC p2) (q8 R) fun z w=>l6 R (z 1) (z 3) w:=fun z w h=>by
 unfold l6 at h
 obtain ⟨J,μ,h0,hr⟩:=h
 refine loopT (fun z' w'=>J (z' 3) w') (fun z' w'=>μ (z' 3) w') h0 fun z' w' hA hI=>b7_ok R (fun z3 w1=>J z3 w1∧μ z3 w1<μ (z' 3) w') z' w' ?_
 have h1:=hr (z' 3) w' hI
 rwa [←hA.on 1] at h1
theorem l6_intro (R:EP) (x1 x3:Value) (w:World) (J:VP) (μ:Value→World→Nat) (h0:J x3 w)
   (hr:∀y3 w0,J y3 w0→∀C6:VP,(∀z3 w1,J z3 w1→μ z3 w1<μ y3 w0→C6 z3 w1)→b7 R C6 x1 y3 w0):l6 R x1 x3 w:=by
 unfold l6
 exact ⟨J,μ,h0,fun y3 w0 hJ=>hr y3 w0 hJ _ (fun z3 w1 h1 h2=>⟨h1,h2⟩)⟩
abbrev q9 (R:EP):XP:=QX (fun z w=>b3 R  w) (r0 R) []
theorem k5_ok (R:EP):TI prog R p2 (q9 R) fun z w=>l6 R (z 1) (z 3) w:=blockT 0 (l6_ok R)
def b4 (R:EP) (x1:Value) (w:World) (_r:Tok R:=tok R):Prop :=
 l6 R x1 (Value.int .i64 0) w
theorem b4_ok (R:EP):TI prog R (fstC p1) (q9 R) fun z w=>b4 R (z 1) w:=appT 0 (k5_ok R)
theorem k2_ok (R:EP):TI prog R p1 (q1 R) fun z w=>b4 R (z 1) w:=seqT (b4_ok R) (b3_ok R)
def b1 (R:EP) (x0:Value) (w:World) (_r:Tok R:=tok R):Prop :=
 RUN prog R (box 27 x0) w fun v1 w2 =>
 b4 R v1 w2
theorem b1_ok (R:EP):TI prog R code (q1 R) fun z w=>b1 R (z 0) w:=appT 0 (k2_ok R)
def run (R:EP) (a0:Value) (w:World):Prop:=b1 R a0 w
theorem calls (R:EP) (a0:Value) (w:World) (h:run R a0 w):Calls prog id #[a0] w R:=cls_t func41 [a0] (b1_ok R _ w h)
theorem enters:Enters prog id:=fun args w=>call41 args w
theorem ct {a0:Value} {w:World} {S:VP} (h:∀R:EP,(∀v w,S v w→R (.returned v) w)→run R a0 w):Ct prog id #[a0] w S :=
 Ct.intro enters fun R hR=>calls R a0 w (h R hR)
attribute [irreducible] l17 l6
attribute [irreducible,go_sem] b3 b9 b14 b13_1 b13_2 b13 b19 b18_1 b18 b15 b11 b7 b4 b1 run
end ref02_levelsFit

/-! ### presage/presageref02.nonsFit -/
namespace ref02_nonsFit
noncomputable def code:Code:=bodyOf f42
noncomputable abbrev p1:Code:=dropC 1 code

def b3 (R:EP) (w:World) (_r:Tok R:=tok R):Prop :=
 R (.returned (Value.bool true)) w
abbrev r0 (R:EP) (z:Env) (w:World):Prop:=R (.returned (z 4)) w
abbrev q1 (R:EP):XP:=QX (r0 R) (r0 R) []
theorem b3_ok (R:EP):TI prog R (sndC p1) (q1 R) fun z w=>b3 R w:=ofT
noncomputable abbrev p2:Code:=dropC 1 (fstC p1)
noncomputable abbrev p3:Code:=loopC (blkC p2)
noncomputable abbrev p4:Code:=dropC 1 p3
def b9 (R:EP) (C6:VP) (x5:Value) (w:World) (_r:Tok R:=tok R) (_C6:Tok C6:=tok C6):Prop :=
 RUN prog R (bins .add 3 (.tmp 14) (.const (Value.int .i64 1)) x5 (Value.int .i64 1)) w fun v1 w2 =>
 C6 v1 w2
abbrev q2 (R:EP) (C6:VP):XP:=QX (fun z w=>C6 (z 5) w) (r0 R) [(0,(fun z w=>b3 R  w))]
theorem b9_ok (R:EP) (C6:VP):TI prog R (sndC p4) (q2 R C6) fun z w=>b9 R C6 (z 5) w:=ofT
noncomputable abbrev p5:Code:=blkC (fstC p4)
noncomputable abbrev p6:Code:=dropC 3 p5
noncomputable abbrev p7:Code:=loopC (blkC p6)
def b14_1 (R:EP) (C13:VP) (x2 x5 x7:Value) (w2:World) (_r:Tok R:=tok R) (_C13:Tok C13:=tok C13):Prop :=
 PUR prog (fieldAt 27 x2 1) fun v3 =>
 LD prog (loadAt 23 v3) (World.drew w2) fun v4 =>
 PUR prog (indexAt 23 v4 x7) fun v5 =>
 LD prog (loadAt 9 v5) (World.drew w2) fun v6 =>
 PUR prog (fieldAt 27 x2 1) fun v7 =>
 LD prog (loadAt 23 v7) (World.drew w2) fun v8 =>
 PUR prog (indexAt 23 v8 x5) fun v9 =>
 LD prog (loadAt 9 v9) (World.drew w2) fun v10 =>
 PUR prog (bins .eql 9 (.tmp 34) (.tmp 39) v6 v10) fun v11 =>
 SPL v11
 (R (.returned (Value.bool false)) (World.drew w2))
 (RUN prog R (bins .add 3 (.tmp 28) (.const (Value.int .i64 1)) x7 (Value.int .i64 1)) (World.drew w2) fun v12 w13 =>
 C13 v12 w13)
def b14 (R:EP) (C6:VP) (C13:VP) (x2 x5 x7:Value) (w:World) (_r:Tok R:=tok R) (_C6:Tok C6:=tok C6) (_C13:Tok C13:=tok C13):Prop :=
 RUN prog R (bins .lss 3 (.tmp 25) (.tmp 26) x7 x5) w fun v1 w2 =>
 SPL v1
 (b14_1 R C13 x2 x5 x7 w2)
 (b9 R C6 x5 w2)
abbrev q3 (R:EP) (C6:VP) (C13:VP):XP:=QX (fun z w=>C13 (z 7) w) (r0 R) [(4,(fun z w=>b9 R C6 (z 5) w)),(2,(fun z w=>b9 R C6 (z 5) w)),(0,(fun z w=>b3 R  w))]
theorem b14_ok (R:EP) (C6:VP) (C13:VP):TI prog R p7 (q3 R C6 C13) fun z w=>b14 R C6 C13 (z 2) (z 5) (z 7) w:=ofT
def l13 (R:EP) (C6:VP) (x2 x5 x7:Value) (w:World) (_r:Tok R:=tok R) (_C6:Tok C6:=tok C6):Prop :=
 ∃(J:VP) (μ:Value→World→Nat),J x7 w∧∀y7 w0,J y7 w0→b14 R C6 (fun z7 w1=>J z7 w1∧μ z7 w1<μ y7 w0) x2 x5 y7 w0
abbrev q4 (R:EP) (C6:VP):XP:=QX (fun z w=>b9 R C6 (z 5) w) (r0 R) [(4,(fun z w=>b9 R C6 (z 5) w)),(2,(fun z w=>b9 R C6 (z 5) w)),(0,(fun z w=>b3 R  w))]
theorem l13_ok (R:EP) (C6:VP):TI prog R (blkC p6) (q4 R C6) fun z w=>l13 R C6 (z 2) (z 5) (z 7) w:=fun z w h=>by
 unfold l13 at h
 obtain ⟨J,μ,h0,hr⟩:=h
 refine loopT (fun z' w'=>J (z' 7) w') (fun z' w'=>μ (z' 7) w') h0 fun z' w' hA hI=>b14_ok R C6 (fun z7 w1=>J z7 w1∧μ z7 w1<μ (z' 7) w') z' w' ?_
 have h1:=hr (z' 7) w' hI
 rwa [←hA.on 2,←hA.on 5] at h1
theorem l13_intro (R:EP) (C6:VP) (x2 x5 x7:Value) (w:World) (J:VP) (μ:Value→World→Nat) (h0:J x7 w)
   (hr:∀y7 w0,J y7 w0→∀C13:VP,(∀z7 w1,J z7 w1→μ z7 w1<μ y7 w0→C13 z7 w1)→b14 R C6 C13 x2 x5 y7 w0):l13 R C6 x2 x5 x7 w:=by
 unfold l13
 exact ⟨J,μ,h0,fun y7 w0 hJ=>hr y7 w0 hJ _ (fun z7 w1 h1 h2=>⟨h1,h2⟩)⟩
abbrev q5 (R:EP) (C6:VP):XP:=QX (fun z w=>b9 R C6 (z 5) w) (r0 R) [(2,(fun z w=>b9 R C6 (z 5) w)),(0,(fun z w=>b3 R  w))]
theorem k12_ok (R:EP) (C6:VP):TI prog R p6 (q5 R C6) fun z w=>l13 R C6 (z 2) (z 5) (z 7) w:=blockT 2 (l13_ok R C6)
def b11 (R:EP) (C6:VP) (x1 x2 x5:Value) (w:World) (_r:Tok R:=tok R) (_C6:Tok C6:=tok C6):Prop :=
 RUN prog R (fieldAt 27 x2 1) w fun v1 w2 =>
 RUN prog R (loadAt 23 v1) w2 fun v3 w4 =>
 RUN prog R (indexAt 23 v3 x5) w4 fun v5 w6 =>
 RUN prog R (loadAt 9 v5) w6 fun v7 w8 =>
 CALL prog R ref02_IsName.id #[v7] w8 fun v9 w10 =>
 RUN prog R (Op.unary .not v9) w10 fun v11 w12 =>
 SPL v11
 (R (.returned (Value.bool false)) w12)
 (l13 R C6 x2 x5 x1 w12)
theorem b11_ok (R:EP) (C6:VP):TI prog R p5 (q5 R C6) fun z w=>b11 R C6 (z 1) (z 2) (z 5) w:=appT 2 (k12_ok R C6)
abbrev q6 (R:EP) (C6:VP):XP:=QX (fun z w=>b9 R C6 (z 5) w) (r0 R) [(0,(fun z w=>b3 R  w))]
theorem k10_ok (R:EP) (C6:VP):TI prog R (fstC p4) (q6 R C6) fun z w=>b11 R C6 (z 1) (z 2) (z 5) w:=blockT 1 (b11_ok R C6)
theorem k8_ok (R:EP) (C6:VP):TI prog R p4 (q2 R C6) fun z w=>b11 R C6 (z 1) (z 2) (z 5) w:=seqT (k10_ok R C6) (b9_ok R C6)
def b7 (R:EP) (C6:VP) (x1 x2 x5:Value) (w:World) (_r:Tok R:=tok R) (_C6:Tok C6:=tok C6):Prop :=
 RUN prog R (fieldAt 27 x2 1) w fun v1 w2 =>
 RUN prog R (loadAt 23 v1) w2 fun v3 w4 =>
 RUN prog R (Builtin.len_ #[23] 3 #[v3]) w4 fun v5 w6 =>
 RUN prog R (bins .lss 3 (.tmp 9) (.tmp 12) x5 v5) w6 fun v7 w8 =>
 SPL v7
 (b11 R C6 x1 x2 x5 w8)
 (b3 R w8)
theorem b7_ok (R:EP) (C6:VP):TI prog R p3 (q2 R C6) fun z w=>b7 R C6 (z 1) (z 2) (z 5) w:=appT 0 (k8_ok R C6)
def l6 (R:EP) (x1 x2 x5:Value) (w:World) (_r:Tok R:=tok R):Prop :=
 ∃(J:VP) (μ:Value→World→Nat),J x5 w∧∀y5 w0,J y5 w0→b7 R (fun z5 w1=>J z5 w1∧μ z5 w1<μ y5 w0) x1 x2 y5 w0
abbrev q7 (R:EP):XP:=QX (fun z w=>b3 R  w) (r0 R) [(0,(fun z w=>b3 R  w))]
theorem l6_ok (R:EP):TI prog R (blkC p2) (q7 R) fun z w=>l6 R (z 1) (z 2) (z 5) w:=fun z w h=>by
 unfold l6 at h
 obtain ⟨J,μ,h0,hr⟩:=h
 refine loopT (fun z' w'=>J (z' 5) w') (fun z' w'=>μ (z' 5) w') h0 fun z' w' hA hI=>b7_ok R (fun z5 w1=>J z5 w1∧μ z5 w1<μ (z' 5) w') z' w' ?_
 have h1:=hr (z' 5) w' hI
 rwa [←hA.on 1,←hA.on 2] at h1
theorem l6_intro (R:EP) (x1 x2 x5:Value) (w:World) (J:VP) (μ:Value→World→Nat) (h0:J x5 w)
   (hr:∀y5 w0,J y5 w0→∀C6:VP,(∀z5 w1,J z5 w1→μ z5 w1<μ y5 w0→C6 z5 w1)→b7 R C6 x1 x2 y5 w0):l6 R x1 x2 x5 w:=by
 unfold l6
 exact ⟨J,μ,h0,fun y5 w0 hJ=>hr y5 w0 hJ _ (fun z5 w1 h1 h2=>⟨h1,h2⟩)⟩
abbrev q8 (R:EP):XP:=QX (fun z w=>b3 R  w) (r0 R) []
theorem k5_ok (R:EP):TI prog R p2 (q8 R) fun z w=>l6 R (z 1) (z 2) (z 5) w:=blockT 0 (l6_ok R)
def b4 (R:EP) (x1 x2:Value) (w:World) (_r:Tok R:=tok R):Prop :=
 l6 R x1 x2 x1 w
theorem b4_ok (R:EP):TI prog R (fstC p1) (q8 R) fun z w=>b4 R (z 1) (z 2) w:=appT 0 (k5_ok R)
theorem k2_ok (R:EP):TI prog R p1 (q1 R) fun z w=>b4 R (z 1) (z 2) w:=seqT (b4_ok R) (b3_ok R)
def b1 (R:EP) (x0 x1:Value) (w:World) (_r:Tok R:=tok R):Prop :=
 RUN prog R (box 27 x0) w fun v1 w2 =>
 b4 R x1 v1 w2
theorem b1_ok (R:EP):TI prog R code (q1 R) fun z w=>b1 R (z 0) (z 1) w:=appT 0 (k2_ok R)
def run (R:EP) (a0 a1:Value) (w:World):Prop:=b1 R a0 a1 w
theorem calls (R:EP) (a0 a1:Value) (w:World) (h:run R a0 a1 w):Calls prog id #[a0,a1] w R:=cls_t func42 [a0,a1] (b1_ok R _ w h)
theorem enters:Enters prog id:=fun args w=>call42 args w
theorem ct {a0 a1:Value} {w:World} {S:VP} (h:∀R:EP,(∀v w,S v w→R (.returned v) w)→run R a0 a1 w):Ct prog id #[a0,a1] w S :=
 Ct.intro enters fun R hR=>calls R a0 a1 w (h R hR)
attribute [irreducible] l13 l6
attribute [irreducible,go_sem] b3 b9 b14_1 b14 b11 b7 b4 b1 run
end ref02_nonsFit

/-! ### presage/presageref02.prodsFit -/
namespace ref02_prodsFit
noncomputable def code:Code:=bodyOf f43
noncomputable abbrev p1:Code:=dropC 1 code

def b3 (R:EP) (w:World) (_r:Tok R:=tok R):Prop :=
 R (.returned (Value.bool true)) w
abbrev r0 (R:EP) (z:Env) (w:World):Prop:=R (.returned (z 6)) w
abbrev q1 (R:EP):XP:=QX (r0 R) (r0 R) []
theorem b3_ok (R:EP):TI prog R (sndC p1) (q1 R) fun z w=>b3 R w:=ofT
noncomputable abbrev p2:Code:=dropC 1 (fstC p1)
noncomputable abbrev p3:Code:=loopC (blkC p2)
noncomputable abbrev p4:Code:=dropC 1 p3

def b9 (R:EP) (C6:VP) (x7:Value) (w:World) (_r:Tok R:=tok R) (_C6:Tok C6:=tok C6):Prop :=
 RUN prog R (bins .add 3 (.tmp 17) (.const (Value.int .i64 1)) x7 (Value.int .i64 1)) w fun v1 w2 =>
 C6 v1 w2
abbrev q2 (R:EP) (C6:VP):XP:=QX (fun z w=>C6 (z 7) w) (r0 R) [(0,(fun z w=>b3 R  w))]
theorem b9_ok (R:EP) (C6:VP):TI prog R (sndC p4) (q2 R C6) fun z w=>b9 R C6 (z 7) w:=ofT
noncomputable abbrev p5:Code:=blkC (fstC p4)
noncomputable abbrev p6:Code:=dropC 1 p5
noncomputable abbrev p7:Code:=dropC 1 (sndC p6)
noncomputable abbrev p8:Code:=loopC (blkC p7)
noncomputable abbrev p9:Code:=dropC 1 p8

def b18 (R:EP) (C6:VP) (C15:VP) (x9:Value) (w:World) (_r:Tok R:=tok R) (_C6:Tok C6:=tok C6) (_C15:Tok C15:=tok C15):Prop :=
 RUN prog R (bins .add 3 (.tmp 53) (.const (Value.int .i64 1)) x9 (Value.int .i64 1)) w fun v1 w2 =>
 C15 v1 w2
abbrev q3 (R:EP) (C6:VP) (C15:VP):XP:=QX (fun z w=>C15 (z 9) w) (r0 R) [(4,(fun z w=>b9 R C6 (z 7) w)),(2,(fun z w=>b9 R C6 (z 7) w)),(0,(fun z w=>b3 R  w))]
theorem b18_ok (R:EP) (C6:VP) (C15:VP):TI prog R (sndC p9) (q3 R C6 C15) fun z w=>b18 R C6 C15 (z 9) w:=ofT
noncomputable abbrev p10:Code:=blkC (fstC p9)
noncomputable abbrev p11:Code:=dropC 2 p10

def b21 (R:EP) (C6:VP) (C15:VP) (x9 x79:Value) (w:World) (_r:Tok R:=tok R) (_C6:Tok C6:=tok C6) (_C15:Tok C15:=tok C15):Prop :=
 SPL x79
 (R (.returned (Value.bool false)) w)
 (b18 R C6 C15 x9 w)
abbrev q4 (R:EP) (C6:VP) (C15:VP):XP:=QX (fun z w=>b18 R C6 C15 (z 9) w) (r0 R) [(6,(fun z w=>b18 R C6 C15 (z 9) w)),(4,(fun z w=>b9 R C6 (z 7) w)),(2,(fun z w=>b9 R C6 (z 7) w)),(0,(fun z w=>b3 R  w))]
theorem b21_ok (R:EP) (C6:VP) (C15:VP):TI prog R p11 (q4 R C6 C15) fun z w=>b21 R C6 C15 (z 9) (z 79) w:=ofT
def b20_1 (R:EP) (C6:VP) (C15:VP) (x2 x3 x9 v7:Value) (w16:World) (_r:Tok R:=tok R) (_C6:Tok C6:=tok C6) (_C15:Tok C15:=tok C15):Prop :=
 RUN prog R (fieldAt 27 x3 0) w16 fun v17 w18 =>
 RUN prog R (loadAt 22 v17) w18 fun v19 w20 =>
 RUN prog R (Builtin.len_ #[22] 3 #[v19]) w20 fun v21 w22 =>
 RUN prog R (bins .geq 3 (.tmp 69) (.tmp 72) v7 v21) w22 fun v23 w24 =>
 SPL v23
 (RUN prog R (bins .lss 3 (.tmp 75) (.tmp 76) v7 x2) w24 fun v25 w26 =>
 b21 R C6 C15 x9 v25 w26)
 (b21 R C6 C15 x9 (Value.bool false) w24)
def b20_2 (R:EP) (C6:VP) (C15:VP) (x2 x3 x9 v7:Value) (w10:World) (_r:Tok R:=tok R) (_C6:Tok C6:=tok C6) (_C15:Tok C15:=tok C15):Prop :=
 RUN prog R (loadAt 27 x3) w10 fun v11 w12 =>
 CALL prog R ref02_Symbols.id #[v11] w12 fun v13 w14 =>
 RUN prog R (bins .geq 3 (.tmp 63) (.tmp 65) v7 v13) w14 fun v15 w16 =>
 SPL v15
 (b21 R C6 C15 x9 (Value.bool true) w16)
 (b20_1 R C6 C15 x2 x3 x9 v7 w16)

def b20 (R:EP) (C6:VP) (C15:VP) (x2 x3 x8 x9:Value) (w:World) (_r:Tok R:=tok R) (_C6:Tok C6:=tok C6) (_C15:Tok C15:=tok C15):Prop :=
 RUN prog R (fieldAt 67 x8 1) w fun v1 w2 =>
 RUN prog R (loadAt 24 v1) w2 fun v3 w4 =>
 RUN prog R (indexAt 24 v3 x9) w4 fun v5 w6 =>
 RUN prog R (loadAt 3 v5) w6 fun v7 w8 =>
 RUN prog R (bins .lss 3 (.tmp 60) (.const (Value.int .i64 1)) v7 (Value.int .i64 1)) w8 fun v9 w10 =>
 SPL v9
 (b21 R C6 C15 x9 (Value.bool true) w10)
 (b20_2 R C6 C15 x2 x3 x9 v7 w10)
theorem b20_ok (R:EP) (C6:VP) (C15:VP):TI prog R p10 (q4 R C6 C15) fun z w=>b20 R C6 C15 (z 2) (z 3) (z 8) (z 9) w:=appT 1 (b21_ok R C6 C15)
abbrev q5 (R:EP) (C6:VP) (C15:VP):XP:=QX (fun z w=>b18 R C6 C15 (z 9) w) (r0 R) [(4,(fun z w=>b9 R C6 (z 7) w)),(2,(fun z w=>b9 R C6 (z 7) w)),(0,(fun z w=>b3 R  w))]
theorem k19_ok (R:EP) (C6:VP) (C15:VP):TI prog R (fstC p9) (q5 R C6 C15) fun z w=>b20 R C6 C15 (z 2) (z 3) (z 8) (z 9) w:=blockT 3 (b20_ok R C6 C15)
theorem k17_ok (R:EP) (C6:VP) (C15:VP):TI prog R p9 (q3 R C6 C15) fun z w=>b20 R C6 C15 (z 2) (z 3) (z 8) (z 9) w:=seqT (k19_ok R C6 C15) (b18_ok R C6 C15)

def b16 (R:EP) (C6:VP) (C15:VP) (x2 x3 x7 x8 x9:Value) (w:World) (_r:Tok R:=tok R) (_C6:Tok C6:=tok C6) (_C15:Tok C15:=tok C15):Prop :=
 RUN prog R (fieldAt 67 x8 1) w fun v1 w2 =>
 RUN prog R (loadAt 24 v1) w2 fun v3 w4 =>
 RUN prog R (Builtin.len_ #[24] 3 #[v3]) w4 fun v5 w6 =>
 RUN prog R (bins .lss 3 (.tmp 48) (.tmp 51) x9 v5) w6 fun v7 w8 =>
 SPL v7
 (b20 R C6 C15 x2 x3 x8 x9 w8)
 (b9 R C6 x7 w8)
theorem b16_ok (R:EP) (C6:VP) (C15:VP):TI prog R p8 (q3 R C6 C15) fun z w=>b16 R C6 C15 (z 2) (z 3) (z 7) (z 8) (z 9) w:=appT 0 (k17_ok R C6 C15)

def l15 (R:EP) (C6:VP) (x2 x3 x7 x8 x9:Value) (w:World) (_r:Tok R:=tok R) (_C6:Tok C6:=tok C6):Prop :=
 ∃(J:VP) (μ:Value→World→Nat),J x9 w∧∀y9 w0,J y9 w0→b16 R C6 (fun z9 w1=>J z9 w1∧μ z9 w1<μ y9 w0) x2 x3 x7 x8 y9 w0
abbrev q6 (R:EP) (C6:VP):XP:=QX (fun z w=>b9 R C6 (z 7) w) (r0 R) [(4,(fun z w=>b9 R C6 (z 7) w)),(2,(fun z w=>b9 R C6 (z 7) w)),(0,(fun z w=>b3 R  w))]
theorem l15_ok (R:EP) (C6:VP):TI prog R (blkC p7) (q6 R C6) fun z w=>l15 R C6 (z 2) (z 3) (z 7) (z 8) (z 9) w:=fun z w h=>by
 unfold l15 at h
 obtain ⟨J,μ,h0,hr⟩:=h
 refine loopT (fun z' w'=>J (z' 9) w') (fun z' w'=>μ (z' 9) w') h0 fun z' w' hA hI=>b16_ok R C6 (fun z9 w1=>J z9 w1∧μ z9 w1<μ (z' 9) w') z' w' ?_
 have h1:=hr (z' 9) w' hI
 rwa [←hA.on 2,←hA.on 3,←hA.on 7,←hA.on 8] at h1
theorem l15_intro (R:EP) (C6:VP) (x2 x3 x7 x8 x9:Value) (w:World) (J:VP) (μ:Value→World→Nat) (h0:J x9 w)
   (hr:∀y9 w0,J y9 w0→∀C15:VP,(∀z9 w1,J z9 w1→μ z9 w1<μ y9 w0→C15 z9 w1)→b16 R C6 C15 x2 x3 x7 x8 y9 w0):l15 R C6 x2 x3 x7 x8 x9 w:=by
 unfold l15
 exact ⟨J,μ,h0,fun y9 w0 hJ=>hr y9 w0 hJ _ (fun z9 w1 h1 h2=>⟨h1,h2⟩)⟩
abbrev q7 (R:EP) (C6:VP):XP:=QX (fun z w=>b9 R C6 (z 7) w) (r0 R) [(2,(fun z w=>b9 R C6 (z 7) w)),(0,(fun z w=>b3 R  w))]
theorem k14_ok (R:EP) (C6:VP):TI prog R p7 (q7 R C6) fun z w=>l15 R C6 (z 2) (z 3) (z 7) (z 8) (z 9) w:=blockT 2 (l15_ok R C6)

def b13 (R:EP) (C6:VP) (x2 x3 x7 x8:Value) (w:World) (_r:Tok R:=tok R) (_C6:Tok C6:=tok C6):Prop :=
 l15 R C6 x2 x3 x7 x8 (Value.int .i64 0) w
theorem b13_ok (R:EP) (C6:VP):TI prog R (sndC p6) (q7 R C6) fun z w=>b13 R C6 (z 2) (z 3) (z 7) (z 8) w:=appT 0 (k14_ok R C6)
noncomputable abbrev p12:Code:=dropC 1 (fstC p6)

def b23 (R:EP) (C6:VP) (x2 x3 x7 x8 x47:Value) (w:World) (_r:Tok R:=tok R) (_C6:Tok C6:=tok C6):Prop :=
 SPL x47
 (R (.returned (Value.bool false)) w)
 (b13 R C6 x2 x3 x7 x8 w)
abbrev q8 (R:EP) (C6:VP):XP:=QX (fun z w=>b13 R C6 (z 2) (z 3) (z 7) (z 8) w) (r0 R) [(2,(fun z w=>b9 R C6 (z 7) w)),(0,(fun z w=>b3 R  w))]
theorem b23_ok (R:EP) (C6:VP):TI prog R p12 (q8 R C6) fun z w=>b23 R C6 (z 2) (z 3) (z 7) (z 8) (z 47) w:=ofT
def b22_1 (R:EP) (C6:VP) (x2 x3 x7 x8:Value) (w8:World) (_r:Tok R:=tok R) (_C6:Tok C6:=tok C6):Prop :=
 PUR prog (fieldAt 67 x8 2) fun v13 =>
 LD prog (loadAt 3 v13) w8 fun v14 =>
 PUR prog (fieldAt 27 x3 2) fun v15 =>
 LD prog (loadAt 24 v15) w8 fun v16 =>
 LD prog (Builtin.len_ #[24] 3 #[v16]) w8 fun v17 =>
 PUR prog (bins .gtr 3 (.tmp 42) (.tmp 45) v14 v17) fun v18 =>
 b23 R C6 x2 x3 x7 x8 v18 w8
def b22_2 (R:EP) (C6:VP) (x2 x3 x7 x8:Value) (w8:World) (_r:Tok R:=tok R) (_C6:Tok C6:=tok C6):Prop :=
 PUR prog (fieldAt 67 x8 2) fun v10 =>
 LD prog (loadAt 3 v10) w8 fun v11 =>
 PUR prog (bins .lss 3 (.tmp 37) (.const (Value.int .i64 0)) v11 (Value.int .i64 0)) fun v12 =>
 SPL v12
 (b23 R C6 x2 x3 x7 x8 (Value.bool true) w8)
 (b22_1 R C6 x2 x3 x7 x8 w8)
def b22_3 (R:EP) (C6:VP) (x2 x3 x7 x8:Value) (w:World) (_r:Tok R:=tok R) (_C6:Tok C6:=tok C6):Prop :=
 PUR prog (fieldAt 67 x8 0) fun v4 =>
 LD prog (loadAt 3 v4) (World.drew w) fun v5 =>
 LD prog (loadAt 27 x3) (World.drew w) fun v6 =>
 CALL prog R ref02_Symbols.id #[v6] (World.drew w) fun v7 w8 =>
 Sem.run prog (loadAt 3 v4) w8 = .ok v5 w8∧(PUR prog (bins .geq 3 (.tmp 30) (.tmp 32) v5 v7) fun v9 =>
 SPL v9
 (b23 R C6 x2 x3 x7 x8 (Value.bool true) w8)
 (b22_2 R C6 x2 x3 x7 x8 w8))

def b22 (R:EP) (C6:VP) (x2 x3 x7 x8:Value) (w:World) (_r:Tok R:=tok R) (_C6:Tok C6:=tok C6):Prop :=
 PUR prog (fieldAt 67 x8 0) fun v1 =>
 LD prog (loadAt 3 v1) (World.drew w) fun v2 =>
 PUR prog (bins .lss 3 (.tmp 25) (.tmp 26) v2 x2) fun v3 =>
 SPL v3
 (b23 R C6 x2 x3 x7 x8 (Value.bool true) (World.drew w))
 (b22_3 R C6 x2 x3 x7 x8 w)
theorem b22_ok (R:EP) (C6:VP):TI prog R (fstC p6) (q8 R C6) fun z w=>b22 R C6 (z 2) (z 3) (z 7) (z 8) w:=appT 0 (b23_ok R C6)
theorem k12_ok (R:EP) (C6:VP):TI prog R p6 (q7 R C6) fun z w=>b22 R C6 (z 2) (z 3) (z 7) (z 8) w:=seqT (b22_ok R C6) (b13_ok R C6)

def b11 (R:EP) (C6:VP) (x2 x3 x7:Value) (w:World) (_r:Tok R:=tok R) (_C6:Tok C6:=tok C6):Prop :=
 RUN prog R (fieldAt 27 x3 4) w fun v1 w2 =>
 RUN prog R (loadAt 25 v1) w2 fun v3 w4 =>
 RUN prog R (indexAt 25 v3 x7) w4 fun v5 w6 =>
 RUN prog R (loadAt 67 v5) w6 fun v7 w8 =>
 RUN prog R (alloc 67 true (.tuple #[])) w8 fun v9 w10 =>
 RUNU prog R (storeAt 67 v9 v7) w10 fun w11 =>
 b22 R C6 x2 x3 x7 v9 w11
theorem b11_ok (R:EP) (C6:VP):TI prog R p5 (q7 R C6) fun z w=>b11 R C6 (z 2) (z 3) (z 7) w:=appT 0 (k12_ok R C6)
abbrev q9 (R:EP) (C6:VP):XP:=QX (fun z w=>b9 R C6 (z 7) w) (r0 R) [(0,(fun z w=>b3 R  w))]
theorem k10_ok (R:EP) (C6:VP):TI prog R (fstC p4) (q9 R C6) fun z w=>b11 R C6 (z 2) (z 3) (z 7) w:=blockT 1 (b11_ok R C6)
theorem k8_ok (R:EP) (C6:VP):TI prog R p4 (q2 R C6) fun z w=>b11 R C6 (z 2) (z 3) (z 7) w:=seqT (k10_ok R C6) (b9_ok R C6)

def b7 (R:EP) (C6:VP) (x2 x3 x7:Value) (w:World) (_r:Tok R:=tok R) (_C6:Tok C6:=tok C6):Prop :=
 RUN prog R (fieldAt 27 x3 4) w fun v1 w2 =>
 RUN prog R (loadAt 25 v1) w2 fun v3 w4 =>
 RUN prog R (Builtin.len_ #[25] 3 #[v3]) w4 fun v5 w6 =>
 RUN prog R (bins .lss 3 (.tmp 12) (.tmp 15) x7 v5) w6 fun v7 w8 =>
 SPL v7
 (b11 R C6 x2 x3 x7 w8)
 (b3 R w8)
theorem b7_ok (R:EP) (C6:VP):TI prog R p3 (q2 R C6) fun z w=>b7 R C6 (z 2) (z 3) (z 7) w:=appT 0 (k8_ok R C6)

def l6 (R:EP) (x2 x3 x7:Value) (w:World) (_r:Tok R:=tok R):Prop :=
 ∃(J:VP) (μ:Value→World→Nat),J x7 w∧∀y7 w0,J y7 w0→b7 R (fun z7 w1=>J z7 w1∧μ z7 w1<μ y7 w0) x2 x3 y7 w0
abbrev q10 (R:EP):XP:=QX (fun z w=>b3 R  w) (r0 R) [(0,(fun z w=>b3 R  w))]
theorem l6_ok (R:EP):TI prog R (blkC p2) (q10 R) fun z w=>l6 R (z 2) (z 3) (z 7) w:=fun z w h=>by
 unfold l6 at h
 obtain ⟨J,μ,h0,hr⟩:=h
 refine loopT (fun z' w'=>J (z' 7) w') (fun z' w'=>μ (z' 7) w') h0 fun z' w' hA hI=>b7_ok R (fun z7 w1=>J z7 w1∧μ z7 w1<μ (z' 7) w') z' w' ?_
 have h1:=hr (z' 7) w' hI
 rwa [←hA.on 2,←hA.on 3] at h1
theorem l6_intro (R:EP) (x2 x3 x7:Value) (w:World) (J:VP) (μ:Value→World→Nat) (h0:J x7 w)
   (hr:∀y7 w0,J y7 w0→∀C6:VP,(∀z7 w1,J z7 w1→μ z7 w1<μ y7 w0→C6 z7 w1)→b7 R C6 x2 x3 y7 w0):l6 R x2 x3 x7 w:=by
 unfold l6
 exact ⟨J,μ,h0,fun y7 w0 hJ=>hr y7 w0 hJ _ (fun z7 w1 h1 h2=>⟨h1,h2⟩)⟩
abbrev q11 (R:EP):XP:=QX (fun z w=>b3 R  w) (r0 R) []
theorem k5_ok (R:EP):TI prog R p2 (q11 R) fun z w=>l6 R (z 2) (z 3) (z 7) w:=blockT 0 (l6_ok R)

def b4 (R:EP) (x1 x2 x3:Value) (w:World) (_r:Tok R:=tok R):Prop :=
 l6 R x2 x3 x1 w
theorem b4_ok (R:EP):TI prog R (fstC p1) (q11 R) fun z w=>b4 R (z 1) (z 2) (z 3) w:=appT 0 (k5_ok R)
theorem k2_ok (R:EP):TI prog R p1 (q1 R) fun z w=>b4 R (z 1) (z 2) (z 3) w:=seqT (b4_ok R) (b3_ok R)

def b1 (R:EP) (x0 x1 x2:Value) (w:World) (_r:Tok R:=tok R):Prop :=
 RUN prog R (box 27 x0) w fun v1 w2 =>
 b4 R x1 x2 v1 w2
theorem b1_ok (R:EP):TI prog R code (q1 R) fun z w=>b1 R (z 0) (z 1) (z 2) w:=appT 0 (k2_ok R)
def run (R:EP) (a0 a1 a2:Value) (w:World):Prop:=b1 R a0 a1 a2 w
theorem calls (R:EP) (a0 a1 a2:Value) (w:World) (h:run R a0 a1 a2 w):Calls prog id #[a0,a1,a2] w R:=cls_t func43 [a0,a1,a2] (b1_ok R _ w h)
theorem enters:Enters prog id:=fun args w=>call43 args w
theorem ct {a0 a1 a2:Value} {w:World} {S:VP} (h:∀R:EP,(∀v w,S v w→R (.returned v) w)→run R a0 a1 a2 w):Ct prog id #[a0,a1,a2] w S :=
 Ct.intro enters fun R hR=>calls R a0 a1 a2 w (h R hR)
attribute [irreducible] l15 l6
attribute [irreducible,go_sem] b3 b9 b18 b21 b20_1 b20_2 b20 b16 b13 b23 b22_1 b22_2 b22_3 b22 b11 b7 b4 b1 run
end ref02_prodsFit

/-! ### presage/presageref02.lefts -/
namespace ref02_lefts
noncomputable def code:Code:=bodyOf f44
noncomputable abbrev p1:Code:=dropC 2 code
def b3 (R:EP) (x5:Value) (w:World) (_r:Tok R:=tok R):Prop :=
 R (.returned x5) w
abbrev r0 (R:EP) (z:Env) (w:World):Prop:=R (.returned (z 4)) w
abbrev q1 (R:EP):XP:=QX (r0 R) (r0 R) []
theorem b3_ok (R:EP):TI prog R (sndC p1) (q1 R) fun z w=>b3 R (z 5) w:=ofT
noncomputable abbrev p2:Code:=dropC 1 (fstC p1)
noncomputable abbrev p3:Code:=loopC (blkC p2)
noncomputable abbrev p4:Code:=dropC 1 p3
def b9 (R:EP) (C6:Value→VP) (x5 x6:Value) (w:World) (_r:Tok R:=tok R) (_C6:Tok C6:=tok C6):Prop :=
 RUN prog R (bins .add 3 (.tmp 15) (.const (Value.int .i64 1)) x6 (Value.int .i64 1)) w fun v1 w2 =>
 C6 x5 v1 w2
abbrev q2 (R:EP) (C6:Value→VP):XP:=QX (fun z w=>C6 (z 5) (z 6) w) (r0 R) [(0,(fun z w=>b3 R (z 5) w))]
theorem b9_ok (R:EP) (C6:Value→VP):TI prog R (sndC p4) (q2 R C6) fun z w=>b9 R C6 (z 5) (z 6) w:=ofT
noncomputable abbrev p5:Code:=blkC (fstC p4)
noncomputable abbrev p6:Code:=dropC 1 p5
def b13_1 (R:EP) (C6:Value→VP) (x2 x5 x6:Value) (w2:World) (_r:Tok R:=tok R) (_C6:Tok C6:=tok C6):Prop :=
 RUN prog R (fieldAt 27 x2 4) w2 fun v3 w4 =>
 RUN prog R (loadAt 25 v3) w4 fun v5 w6 =>
 RUN prog R (indexAt 25 v5 x6) w6 fun v7 w8 =>
 RUN prog R (fieldAt 67 v7 0) w8 fun v9 w10 =>
 RUN prog R (loadAt 3 v9) w10 fun v11 w12 =>
 RUN prog R (buildSlice 24 1 #[(0,v11)]) w12 fun v13 w14 =>
 RUN prog R (Builtin.append_ #[24,24] 24 #[x5,v13]) w14 fun v15 w16 =>
 b9 R C6 v15 x6 w16
def b13 (R:EP) (C6:Value→VP) (x2 x5 x6 x7:Value) (w:World) (_r:Tok R:=tok R) (_C6:Tok C6:=tok C6):Prop :=
 RUN prog R (Op.unary .not x7) w fun v1 w2 =>
 SPL v1
 (b13_1 R C6 x2 x5 x6 w2)
 (b9 R C6 x5 x6 w2)
abbrev q3 (R:EP) (C6:Value→VP):XP:=QX (fun z w=>b9 R C6 (z 5) (z 6) w) (r0 R) [(2,(fun z w=>b9 R C6 (z 5) (z 6) w)),(0,(fun z w=>b3 R (z 5) w))]
theorem b13_ok (R:EP) (C6:Value→VP):TI prog R (sndC p6) (q3 R C6) fun z w=>b13 R C6 (z 2) (z 5) (z 6) (z 7) w:=ofT
noncomputable abbrev p7:Code:=dropC 1 (fstC p6)
noncomputable abbrev p8:Code:=loopC (blkC p7)
noncomputable abbrev p9:Code:=dropC 2 p8
def b18 (R:EP) (C6:Value→VP) (C16:Value→VP) (x7 x8:Value) (w:World) (_r:Tok R:=tok R) (_C6:Tok C6:=tok C6) (_C16:Tok C16:=tok C16):Prop :=
 RUN prog R (bins .add 3 (.tmp 21) (.const (Value.int .i64 1)) x8 (Value.int .i64 1)) w fun v1 w2 =>
 C16 x7 v1 w2
abbrev q4 (R:EP) (C6:Value→VP) (C16:Value→VP):XP:=QX (fun z w=>C16 (z 7) (z 8) w) (r0 R) [(4,(fun z w=>b13 R C6 (z 2) (z 5) (z 6) (z 7) w)),(2,(fun z w=>b9 R C6 (z 5) (z 6) w)),(0,(fun z w=>b3 R (z 5) w))]
theorem b18_ok (R:EP) (C6:Value→VP) (C16:Value→VP):TI prog R p9 (q4 R C6 C16) fun z w=>b18 R C6 C16 (z 7) (z 8) w:=ofT
def b17_1 (R:EP) (C6:Value→VP) (C16:Value→VP) (x2 x5 x6 x8:Value) (w4:World) (_r:Tok R:=tok R) (_C6:Tok C6:=tok C6) (_C16:Tok C16:=tok C16):Prop :=
 PUR prog (indexAt 24 x5 x8) fun v5 =>
 LD prog (loadAt 3 v5) (World.drew w4) fun v6 =>
 PUR prog (fieldAt 27 x2 4) fun v7 =>
 LD prog (loadAt 25 v7) (World.drew w4) fun v8 =>
 PUR prog (indexAt 25 v8 x6) fun v9 =>
 PUR prog (fieldAt 67 v9 0) fun v10 =>
 LD prog (loadAt 3 v10) (World.drew w4) fun v11 =>
 PUR prog (bins .eql 3 (.tmp 28) (.tmp 34) v6 v11) fun v12 =>
 b18 R C6 C16 v12 x8 (World.drew w4)
def b17 (R:EP) (C6:Value→VP) (C16:Value→VP) (x2 x5 x6 x7 x8:Value) (w:World) (_r:Tok R:=tok R) (_C6:Tok C6:=tok C6) (_C16:Tok C16:=tok C16):Prop :=
 RUN prog R (Builtin.len_ #[24] 3 #[x5]) w fun v1 w2 =>
 RUN prog R (bins .lss 3 (.tmp 17) (.tmp 19) x8 v1) w2 fun v3 w4 =>
 SPL v3
 (SPL x7
 (b18 R C6 C16 (Value.bool true) x8 (World.drew w4))
 (b17_1 R C6 C16 x2 x5 x6 x8 w4))
 (b13 R C6 x2 x5 x6 x7 w4)
theorem b17_ok (R:EP) (C6:Value→VP) (C16:Value→VP):TI prog R p8 (q4 R C6 C16) fun z w=>b17 R C6 C16 (z 2) (z 5) (z 6) (z 7) (z 8) w:=appT 1 (b18_ok R C6 C16)
def l16 (R:EP) (C6:Value→VP) (x2 x5 x6 x7 x8:Value) (w:World) (_r:Tok R:=tok R) (_C6:Tok C6:=tok C6):Prop :=
 ∃(J:Value→VP) (μ:Value→Value→World→Nat),J x7 x8 w∧∀y7 y8 w0,J y7 y8 w0→b17 R C6 (fun z7 z8 w1=>J z7 z8 w1∧μ z7 z8 w1<μ y7 y8 w0) x2 x5 x6 y7 y8 w0
abbrev q5 (R:EP) (C6:Value→VP):XP:=QX (fun z w=>b13 R C6 (z 2) (z 5) (z 6) (z 7) w) (r0 R) [(4,(fun z w=>b13 R C6 (z 2) (z 5) (z 6) (z 7) w)),(2,(fun z w=>b9 R C6 (z 5) (z 6) w)),(0,(fun z w=>b3 R (z 5) w))]
theorem l16_ok (R:EP) (C6:Value→VP):TI prog R (blkC p7) (q5 R C6) fun z w=>l16 R C6 (z 2) (z 5) (z 6) (z 7) (z 8) w:=fun z w h=>by
 unfold l16 at h
 obtain ⟨J,μ,h0,hr⟩:=h
 refine loopT (fun z' w'=>J (z' 7) (z' 8) w') (fun z' w'=>μ (z' 7) (z' 8) w') h0 fun z' w' hA hI=>b17_ok R C6 (fun z7 z8 w1=>J z7 z8 w1∧μ z7 z8 w1<μ (z' 7) (z' 8) w') z' w' ?_
 have h1:=hr (z' 7) (z' 8) w' hI
 rwa [←hA.on 2,←hA.on 5,←hA.on 6] at h1
theorem l16_intro (R:EP) (C6:Value→VP) (x2 x5 x6 x7 x8:Value) (w:World) (J:Value→VP) (μ:Value→Value→World→Nat) (h0:J x7 x8 w)
   (hr:∀y7 y8 w0,J y7 y8 w0→∀C16:Value→VP,(∀z7 z8 w1,J z7 z8 w1→μ z7 z8 w1<μ y7 y8 w0→C16 z7 z8 w1)→b17 R C6 C16 x2 x5 x6 y7 y8 w0):l16 R C6 x2 x5 x6 x7 x8 w:=by
 unfold l16
 exact ⟨J,μ,h0,fun y7 y8 w0 hJ=>hr y7 y8 w0 hJ _ (fun z7 z8 w1 h1 h2=>⟨h1,h2⟩)⟩
abbrev q6 (R:EP) (C6:Value→VP):XP:=QX (fun z w=>b13 R C6 (z 2) (z 5) (z 6) (z 7) w) (r0 R) [(2,(fun z w=>b9 R C6 (z 5) (z 6) w)),(0,(fun z w=>b3 R (z 5) w))]
theorem k15_ok (R:EP) (C6:Value→VP):TI prog R p7 (q6 R C6) fun z w=>l16 R C6 (z 2) (z 5) (z 6) (z 7) (z 8) w:=blockT 2 (l16_ok R C6)
def b14 (R:EP) (C6:Value→VP) (x2 x5 x6 x7:Value) (w:World) (_r:Tok R:=tok R) (_C6:Tok C6:=tok C6):Prop :=
 l16 R C6 x2 x5 x6 x7 (Value.int .i64 0) w
theorem b14_ok (R:EP) (C6:Value→VP):TI prog R (fstC p6) (q6 R C6) fun z w=>b14 R C6 (z 2) (z 5) (z 6) (z 7) w:=appT 0 (k15_ok R C6)
theorem k12_ok (R:EP) (C6:Value→VP):TI prog R p6 (q3 R C6) fun z w=>b14 R C6 (z 2) (z 5) (z 6) (z 7) w:=seqT (b14_ok R C6) (b13_ok R C6)
def b11 (R:EP) (C6:Value→VP) (x2 x5 x6:Value) (w:World) (_r:Tok R:=tok R) (_C6:Tok C6:=tok C6):Prop :=
 b14 R C6 x2 x5 x6 (Value.bool false) w
theorem b11_ok (R:EP) (C6:Value→VP):TI prog R p5 (q3 R C6) fun z w=>b11 R C6 (z 2) (z 5) (z 6) w:=appT 0 (k12_ok R C6)
abbrev q7 (R:EP) (C6:Value→VP):XP:=QX (fun z w=>b9 R C6 (z 5) (z 6) w) (r0 R) [(0,(fun z w=>b3 R (z 5) w))]
theorem k10_ok (R:EP) (C6:Value→VP):TI prog R (fstC p4) (q7 R C6) fun z w=>b11 R C6 (z 2) (z 5) (z 6) w:=blockT 1 (b11_ok R C6)
theorem k8_ok (R:EP) (C6:Value→VP):TI prog R p4 (q2 R C6) fun z w=>b11 R C6 (z 2) (z 5) (z 6) w:=seqT (k10_ok R C6) (b9_ok R C6)
def b7 (R:EP) (C6:Value→VP) (x2 x5 x6:Value) (w:World) (_r:Tok R:=tok R) (_C6:Tok C6:=tok C6):Prop :=
 RUN prog R (fieldAt 27 x2 4) w fun v1 w2 =>
 RUN prog R (loadAt 25 v1) w2 fun v3 w4 =>
 RUN prog R (Builtin.len_ #[25] 3 #[v3]) w4 fun v5 w6 =>
 RUN prog R (bins .lss 3 (.tmp 10) (.tmp 13) x6 v5) w6 fun v7 w8 =>
 SPL v7
 (b11 R C6 x2 x5 x6 w8)
 (b3 R x5 w8)
theorem b7_ok (R:EP) (C6:Value→VP):TI prog R p3 (q2 R C6) fun z w=>b7 R C6 (z 2) (z 5) (z 6) w:=appT 0 (k8_ok R C6)
def l6 (R:EP) (x2 x5 x6:Value) (w:World) (_r:Tok R:=tok R):Prop :=
 ∃(J:Value→VP) (μ:Value→Value→World→Nat),J x5 x6 w∧∀y5 y6 w0,J y5 y6 w0→b7 R (fun z5 z6 w1=>J z5 z6 w1∧μ z5 z6 w1<μ y5 y6 w0) x2 y5 y6 w0
abbrev q8 (R:EP):XP:=QX (fun z w=>b3 R (z 5) w) (r0 R) [(0,(fun z w=>b3 R (z 5) w))]
theorem l6_ok (R:EP):TI prog R (blkC p2) (q8 R) fun z w=>l6 R (z 2) (z 5) (z 6) w:=fun z w h=>by
 unfold l6 at h
 obtain ⟨J,μ,h0,hr⟩:=h
 refine loopT (fun z' w'=>J (z' 5) (z' 6) w') (fun z' w'=>μ (z' 5) (z' 6) w') h0 fun z' w' hA hI=>b7_ok R (fun z5 z6 w1=>J z5 z6 w1∧μ z5 z6 w1<μ (z' 5) (z' 6) w') z' w' ?_
 have h1:=hr (z' 5) (z' 6) w' hI
 rwa [←hA.on 2] at h1
theorem l6_intro (R:EP) (x2 x5 x6:Value) (w:World) (J:Value→VP) (μ:Value→Value→World→Nat) (h0:J x5 x6 w)
   (hr:∀y5 y6 w0,J y5 y6 w0→∀C6:Value→VP,(∀z5 z6 w1,J z5 z6 w1→μ z5 z6 w1<μ y5 y6 w0→C6 z5 z6 w1)→b7 R C6 x2 y5 y6 w0):l6 R x2 x5 x6 w:=by
 unfold l6
 exact ⟨J,μ,h0,fun y5 y6 w0 hJ=>hr y5 y6 w0 hJ _ (fun z5 z6 w1 h1 h2=>⟨h1,h2⟩)⟩
abbrev q9 (R:EP):XP:=QX (fun z w=>b3 R (z 5) w) (r0 R) []
theorem k5_ok (R:EP):TI prog R p2 (q9 R) fun z w=>l6 R (z 2) (z 5) (z 6) w:=blockT 0 (l6_ok R)
def b4 (R:EP) (x1 x2 x5:Value) (w:World) (_r:Tok R:=tok R):Prop :=
 l6 R x2 x5 x1 w
theorem b4_ok (R:EP):TI prog R (fstC p1) (q9 R) fun z w=>b4 R (z 1) (z 2) (z 5) w:=appT 0 (k5_ok R)
theorem k2_ok (R:EP):TI prog R p1 (q1 R) fun z w=>b4 R (z 1) (z 2) (z 5) w:=seqT (b4_ok R) (b3_ok R)
def b1 (R:EP) (x0 x1:Value) (w:World) (_r:Tok R:=tok R):Prop :=
 RUN prog R (box 27 x0) w fun v1 w2 =>
 b4 R x1 v1 (Value.slice Option.none 0 0) w2
theorem b1_ok (R:EP):TI prog R code (q1 R) fun z w=>b1 R (z 0) (z 1) w:=appT 1 (k2_ok R)
def run (R:EP) (a0 a1:Value) (w:World):Prop:=b1 R a0 a1 w
theorem calls (R:EP) (a0 a1:Value) (w:World) (h:run R a0 a1 w):Calls prog id #[a0,a1] w R:=cls_t func44 [a0,a1] (b1_ok R _ w h)
theorem enters:Enters prog id:=fun args w=>call44 args w
theorem ct {a0 a1:Value} {w:World} {S:VP} (h:∀R:EP,(∀v w,S v w→R (.returned v) w)→run R a0 a1 w):Ct prog id #[a0,a1] w S :=
 Ct.intro enters fun R hR=>calls R a0 a1 w (h R hR)
attribute [irreducible] l16 l6
attribute [irreducible,go_sem] b3 b9 b13_1 b13 b18 b17_1 b17 b14 b11 b7 b4 b1 run
end ref02_lefts

/-! ### presage/presageref02.Valid -/
namespace ref02_Valid
noncomputable def code:Code:=bodyOf f45
noncomputable abbrev p1:Code:=dropC 4 code

def b3 (R:EP) (w:World) (_r:Tok R:=tok R):Prop :=
 R (.returned (Value.bool true)) w
abbrev r0 (R:EP) (z:Env) (w:World):Prop:=R (.returned (z 2)) w
abbrev q1 (R:EP):XP:=QX (r0 R) (r0 R) []
theorem b3_ok (R:EP):TI prog R (sndC p1) (q1 R) fun z w=>b3 R w:=ofT
noncomputable abbrev p2:Code:=dropC 1 (fstC p1)
noncomputable abbrev p3:Code:=loopC (blkC p2)
def b7_1 (R:EP) (C6:VP) (x1 x4 x5:Value) (w4:World) (_r:Tok R:=tok R) (_C6:Tok C6:=tok C6):Prop :=
 PUR prog (indexAt 24 x4 x5) fun v5 =>
 LD prog (loadAt 3 v5) (World.drew w4) fun v6 =>
 PUR prog (fieldAt 27 x1 0) fun v7 =>
 LD prog (loadAt 22 v7) (World.drew w4) fun v8 =>
 LD prog (Builtin.len_ #[22] 3 #[v8]) (World.drew w4) fun v9 =>
 PUR prog (bins .add 3 (.tmp 24) (.tmp 25) v9 x5) fun v10 =>
 PUR prog (bins .neq 3 (.tmp 21) (.tmp 26) v6 v10) fun v11 =>
 SPL v11
 (R (.returned (Value.bool false)) (World.drew w4))
 (RUN prog R (bins .add 3 (.tmp 16) (.const (Value.int .i64 1)) x5 (Value.int .i64 1)) (World.drew w4) fun v12 w13 =>
 C6 v12 w13)
def b7 (R:EP) (C6:VP) (x1 x4 x5:Value) (w:World) (_r:Tok R:=tok R) (_C6:Tok C6:=tok C6):Prop :=
 RUN prog R (Builtin.len_ #[24] 3 #[x4]) w fun v1 w2 =>
 RUN prog R (bins .lss 3 (.tmp 12) (.tmp 14) x5 v1) w2 fun v3 w4 =>
 SPL v3
 (b7_1 R C6 x1 x4 x5 w4)
 (b3 R w4)
abbrev q2 (R:EP) (C6:VP):XP:=QX (fun z w=>C6 (z 5) w) (r0 R) [(0,(fun z w=>b3 R  w))]
theorem b7_ok (R:EP) (C6:VP):TI prog R p3 (q2 R C6) fun z w=>b7 R C6 (z 1) (z 4) (z 5) w:=ofT
def l6 (R:EP) (x1 x4 x5:Value) (w:World) (_r:Tok R:=tok R):Prop :=
 ∃(J:VP) (μ:Value→World→Nat),J x5 w∧∀y5 w0,J y5 w0→b7 R (fun z5 w1=>J z5 w1∧μ z5 w1<μ y5 w0) x1 x4 y5 w0
abbrev q3 (R:EP):XP:=QX (fun z w=>b3 R  w) (r0 R) [(0,(fun z w=>b3 R  w))]
theorem l6_ok (R:EP):TI prog R (blkC p2) (q3 R) fun z w=>l6 R (z 1) (z 4) (z 5) w:=fun z w h=>by
 unfold l6 at h
 obtain ⟨J,μ,h0,hr⟩:=h
 refine loopT (fun z' w'=>J (z' 5) w') (fun z' w'=>μ (z' 5) w') h0 fun z' w' hA hI=>b7_ok R (fun z5 w1=>J z5 w1∧μ z5 w1<μ (z' 5) w') z' w' ?_
 have h1:=hr (z' 5) w' hI
 rwa [←hA.on 1,←hA.on 4] at h1
theorem l6_intro (R:EP) (x1 x4 x5:Value) (w:World) (J:VP) (μ:Value→World→Nat) (h0:J x5 w)
   (hr:∀y5 w0,J y5 w0→∀C6:VP,(∀z5 w1,J z5 w1→μ z5 w1<μ y5 w0→C6 z5 w1)→b7 R C6 x1 x4 y5 w0):l6 R x1 x4 x5 w:=by
 unfold l6
 exact ⟨J,μ,h0,fun y5 w0 hJ=>hr y5 w0 hJ _ (fun z5 w1 h1 h2=>⟨h1,h2⟩)⟩
abbrev q4 (R:EP):XP:=QX (fun z w=>b3 R  w) (r0 R) []
theorem k5_ok (R:EP):TI prog R p2 (q4 R) fun z w=>l6 R (z 1) (z 4) (z 5) w:=blockT 0 (l6_ok R)
def b4 (R:EP) (x1 x4:Value) (w:World) (_r:Tok R:=tok R):Prop :=
 l6 R x1 x4 (Value.int .i64 0) w
theorem b4_ok (R:EP):TI prog R (fstC p1) (q4 R) fun z w=>b4 R (z 1) (z 4) w:=appT 0 (k5_ok R)
theorem k2_ok (R:EP):TI prog R p1 (q1 R) fun z w=>b4 R (z 1) (z 4) w:=seqT (b4_ok R) (b3_ok R)
def b1_1 (R:EP) (v1:Value) (w8:World) (_r:Tok R:=tok R):Prop :=
 RUN prog R (loadAt 27 v1) w8 fun v9 w10 =>
 CALL prog R ref02_lefts.id #[v9,(Value.int .i64 0)] w10 fun v11 w12 =>
 b4 R v1 v11 w12
def b1 (R:EP) (x0:Value) (w:World) (_r:Tok R:=tok R):Prop :=
 RUN prog R (box 27 x0) w fun v1 w2 =>
 RUN prog R (loadAt 27 v1) w2 fun v3 w4 =>
 CALL prog R ref02_fits.id #[v3,(Value.int .i64 0)] w4 fun v5 w6 =>
 RUN prog R (Op.unary .not v5) w6 fun v7 w8 =>
 SPL v7
 (R (.returned (Value.bool false)) w8)
 (b1_1 R v1 w8)
theorem b1_ok (R:EP):TI prog R code (q1 R) fun z w=>b1 R (z 0) w:=appT 3 (k2_ok R)
def run (R:EP) (a0:Value) (w:World):Prop:=b1 R a0 w
theorem calls (R:EP) (a0:Value) (w:World) (h:run R a0 w):Calls prog id #[a0] w R:=cls_t func45 [a0] (b1_ok R _ w h)
theorem enters:Enters prog id:=fun args w=>call45 args w
theorem ct {a0:Value} {w:World} {S:VP} (h:∀R:EP,(∀v w,S v w→R (.returned v) w)→run R a0 w):Ct prog id #[a0] w S :=
 Ct.intro enters fun R hR=>calls R a0 w (h R hR)
attribute [irreducible] l6
attribute [irreducible,go_sem] b3 b7_1 b7 b4 b1_1 b1 run
end ref02_Valid

/-! ### presage/presageref02.IsNon -/
namespace ref02_IsNon
noncomputable def code:Code:=bodyOf f51
def b1_1 (R:EP) (x1 v1:Value) (w10:World) (_r:Tok R:=tok R):Prop :=
 RUN prog R (loadAt 27 v1) w10 fun v11 w12 =>
 CALL prog R ref02_Symbols.id #[v11] w12 fun v13 w14 =>
 RUN prog R (bins .lss 3 (.tmp 11) (.tmp 13) x1 v13) w14 fun v15 w16 =>
 R (.returned v15) w16
def b1 (R:EP) (x0 x1:Value) (w:World) (_r:Tok R:=tok R):Prop :=
 RUN prog R (box 27 x0) w fun v1 w2 =>
 RUN prog R (fieldAt 27 v1 0) w2 fun v3 w4 =>
 RUN prog R (loadAt 22 v3) w4 fun v5 w6 =>
 RUN prog R (Builtin.len_ #[22] 3 #[v5]) w6 fun v7 w8 =>
 RUN prog R (bins .geq 3 (.tmp 5) (.tmp 8) x1 v7) w8 fun v9 w10 =>
 SPL v9
 (b1_1 R x1 v1 w10)
 (R (.returned (Value.bool false)) w10)
abbrev r0 (R:EP) (z:Env) (w:World):Prop:=R (.returned (z 4)) w
abbrev q1 (R:EP):XP:=QX (r0 R) (r0 R) []
theorem b1_ok (R:EP):TI prog R code (q1 R) fun z w=>b1 R (z 0) (z 1) w:=ofT
def run (R:EP) (a0 a1:Value) (w:World):Prop:=b1 R a0 a1 w
theorem calls (R:EP) (a0 a1:Value) (w:World) (h:run R a0 a1 w):Calls prog id #[a0,a1] w R:=cls_t func51 [a0,a1] (b1_ok R _ w h)
theorem enters:Enters prog id:=fun args w=>call51 args w
theorem ct {a0 a1:Value} {w:World} {S:VP} (h:∀R:EP,(∀v w,S v w→R (.returned v) w)→run R a0 a1 w):Ct prog id #[a0,a1] w S :=
 Ct.intro enters fun R hR=>calls R a0 a1 w (h R hR)
attribute [irreducible,go_sem] b1_1 b1 run
end ref02_IsNon
end Go.Proofs.Ytmoepnfobnpdiaa
