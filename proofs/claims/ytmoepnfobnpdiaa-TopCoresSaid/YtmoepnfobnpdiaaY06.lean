/- Shallow programs, written by a program of ours (gen.py) off the translation; each is tied to the code by the kernel. -/
import Derived.Test.YtmoepnfobnpdiaaY04
set_option linter.unusedVariables false
set_option maxRecDepth 100000
namespace Go.Proofs.Ytmoepnfobnpdiaa
open Go.Px Try Instr

/-! ### presage/presageref09.SameItems -/
namespace ref09_SameItems
noncomputable def code:Code:=bodyOf f9
noncomputable abbrev p1:Code:=dropC 2 code

def b3 (R:EP) (w:World) (_r:Tok R:=tok R):Prop :=
 R (.returned (Value.bool true)) w
abbrev r0 (R:EP) (z:Env) (w:World):Prop:=R (.returned (z 4)) w
abbrev q1 (R:EP):XP:=QX (r0 R) (r0 R) []
theorem b3_ok (R:EP):TI prog R (sndC p1) (q1 R) fun z w=>b3 R w:=ofT
noncomputable abbrev p2:Code:=dropC 1 (fstC p1)
noncomputable abbrev p3:Code:=loopC (blkC p2)
def b7_1 (R:EP) (C6:VP) (x0 x1 x5:Value) (w4:World) (_r:Tok R:=tok R) (_C6:Tok C6:=tok C6):Prop :=
 PUR prog (indexAt 39 x0 x5) fun v5 =>
 LD prog (loadAt 57 v5) (World.drew w4) fun v6 =>
 PUR prog (indexAt 39 x1 x5) fun v7 =>
 LD prog (loadAt 57 v7) (World.drew w4) fun v8 =>
 PUR prog (bins .neq 57 (.tmp 20) (.tmp 24) v6 v8) fun v9 =>
 SPL v9
 (R (.returned (Value.bool false)) (World.drew w4))
 (RUN prog R (bins .add 3 (.tmp 15) (.const (Value.int .i64 1)) x5 (Value.int .i64 1)) (World.drew w4) fun v10 w11 =>
 C6 v10 w11)
def b7 (R:EP) (C6:VP) (x0 x1 x5:Value) (w:World) (_r:Tok R:=tok R) (_C6:Tok C6:=tok C6):Prop :=
 RUN prog R (Builtin.len_ #[39] 3 #[x0]) w fun v1 w2 =>
 RUN prog R (bins .lss 3 (.tmp 11) (.tmp 13) x5 v1) w2 fun v3 w4 =>
 SPL v3
 (b7_1 R C6 x0 x1 x5 w4)
 (b3 R w4)
abbrev q2 (R:EP) (C6:VP):XP:=QX (fun z w=>C6 (z 5) w) (r0 R) [(0,(fun z w=>b3 R  w))]
theorem b7_ok (R:EP) (C6:VP):TI prog R p3 (q2 R C6) fun z w=>b7 R C6 (z 0) (z 1) (z 5) w:=ofT
def l6 (R:EP) (x0 x1 x5:Value) (w:World) (_r:Tok R:=tok R):Prop :=
 ∃(J:VP) (μ:Value→World→Nat),J x5 w∧∀y5 w0,J y5 w0→b7 R (fun z5 w1=>J z5 w1∧μ z5 w1<μ y5 w0) x0 x1 y5 w0
abbrev q3 (R:EP):XP:=QX (fun z w=>b3 R  w) (r0 R) [(0,(fun z w=>b3 R  w))]
theorem l6_ok (R:EP):TI prog R (blkC p2) (q3 R) fun z w=>l6 R (z 0) (z 1) (z 5) w:=fun z w h=>by
 unfold l6 at h
 obtain ⟨J,μ,h0,hr⟩:=h
 refine loopT (fun z' w'=>J (z' 5) w') (fun z' w'=>μ (z' 5) w') h0 fun z' w' hA hI=>b7_ok R (fun z5 w1=>J z5 w1∧μ z5 w1<μ (z' 5) w') z' w' ?_
 have h1:=hr (z' 5) w' hI
 rwa [←hA.on 0,←hA.on 1] at h1
theorem l6_intro (R:EP) (x0 x1 x5:Value) (w:World) (J:VP) (μ:Value→World→Nat) (h0:J x5 w)
   (hr:∀y5 w0,J y5 w0→∀C6:VP,(∀z5 w1,J z5 w1→μ z5 w1<μ y5 w0→C6 z5 w1)→b7 R C6 x0 x1 y5 w0):l6 R x0 x1 x5 w:=by
 unfold l6
 exact ⟨J,μ,h0,fun y5 w0 hJ=>hr y5 w0 hJ _ (fun z5 w1 h1 h2=>⟨h1,h2⟩)⟩
abbrev q4 (R:EP):XP:=QX (fun z w=>b3 R  w) (r0 R) []
theorem k5_ok (R:EP):TI prog R p2 (q4 R) fun z w=>l6 R (z 0) (z 1) (z 5) w:=blockT 0 (l6_ok R)
def b4 (R:EP) (x0 x1:Value) (w:World) (_r:Tok R:=tok R):Prop :=
 l6 R x0 x1 (Value.int .i64 0) w
theorem b4_ok (R:EP):TI prog R (fstC p1) (q4 R) fun z w=>b4 R (z 0) (z 1) w:=appT 0 (k5_ok R)
theorem k2_ok (R:EP):TI prog R p1 (q1 R) fun z w=>b4 R (z 0) (z 1) w:=seqT (b4_ok R) (b3_ok R)
def b1 (R:EP) (x0 x1:Value) (w:World) (_r:Tok R:=tok R):Prop :=
 RUN prog R (Builtin.len_ #[39] 3 #[x0]) w fun v1 w2 =>
 RUN prog R (Builtin.len_ #[39] 3 #[x1]) w2 fun v3 w4 =>
 RUN prog R (bins .neq 3 (.tmp 7) (.tmp 9) v1 v3) w4 fun v5 w6 =>
 SPL v5
 (R (.returned (Value.bool false)) w6)
 (b4 R x0 x1 w6)
theorem b1_ok (R:EP):TI prog R code (q1 R) fun z w=>b1 R (z 0) (z 1) w:=appT 1 (k2_ok R)
def run (R:EP) (a0 a1:Value) (w:World):Prop:=b1 R a0 a1 w
theorem calls (R:EP) (a0 a1:Value) (w:World) (h:run R a0 a1 w):Calls prog id #[a0,a1] w R:=cls_t func9 [a0,a1] (b1_ok R _ w h)
theorem enters:Enters prog id:=fun args w=>call9 args w
theorem ct {a0 a1:Value} {w:World} {S:VP} (h:∀R:EP,(∀v w,S v w→R (.returned v) w)→run R a0 a1 w):Ct prog id #[a0,a1] w S :=
 Ct.intro enters fun R hR=>calls R a0 a1 w (h R hR)
attribute [irreducible] l6
attribute [irreducible,go_sem] b3 b7_1 b7 b4 b1 run
end ref09_SameItems

/-! ### presage/presageref09.After -/
namespace ref09_After
noncomputable def code:Code:=bodyOf f50
def b1_1 (R:EP) (v3 v17:Value) (w26:World) (_r:Tok R:=tok R):Prop :=
 RUN prog R (fieldAt 57 v3 1) w26 fun v27 w28 =>
 RUN prog R (loadAt 3 v27) w28 fun v29 w30 =>
 RUN prog R (indexAt 24 v17 v29) w30 fun v31 w32 =>
 RUN prog R (loadAt 3 v31) w32 fun v33 w34 =>
 R (.returned v33) w34
def b1 (R:EP) (x0 x1:Value) (w:World) (_r:Tok R:=tok R):Prop :=
 RUN prog R (box 27 x0) w fun v1 w2 =>
 RUN prog R (box 57 x1) w2 fun v3 w4 =>
 RUN prog R (fieldAt 27 v1 4) w4 fun v5 w6 =>
 RUN prog R (loadAt 25 v5) w6 fun v7 w8 =>
 RUN prog R (fieldAt 57 v3 0) w8 fun v9 w10 =>
 RUN prog R (loadAt 3 v9) w10 fun v11 w12 =>
 RUN prog R (indexAt 25 v7 v11) w12 fun v13 w14 =>
 RUN prog R (fieldAt 67 v13 1) w14 fun v15 w16 =>
 RUN prog R (loadAt 24 v15) w16 fun v17 w18 =>
 RUN prog R (fieldAt 57 v3 1) w18 fun v19 w20 =>
 RUN prog R (loadAt 3 v19) w20 fun v21 w22 =>
 RUN prog R (Builtin.len_ #[24] 3 #[v17]) w22 fun v23 w24 =>
 RUN prog R (bins .eql 3 (.tmp 14) (.tmp 16) v21 v23) w24 fun v25 w26 =>
 SPL v25
 (R (.returned (Value.int .i64 (-1))) w26)
 (b1_1 R v3 v17 w26)
abbrev r0 (R:EP) (z:Env) (w:World):Prop:=R (.returned (z 4)) w
abbrev q1 (R:EP):XP:=QX (r0 R) (r0 R) []
theorem b1_ok (R:EP):TI prog R code (q1 R) fun z w=>b1 R (z 0) (z 1) w:=ofT
def run (R:EP) (a0 a1:Value) (w:World):Prop:=b1 R a0 a1 w
theorem calls (R:EP) (a0 a1:Value) (w:World) (h:run R a0 a1 w):Calls prog id #[a0,a1] w R:=cls_t func50 [a0,a1] (b1_ok R _ w h)
theorem enters:Enters prog id:=fun args w=>call50 args w
theorem ct {a0 a1:Value} {w:World} {S:VP} (h:∀R:EP,(∀v w,S v w→R (.returned v) w)→run R a0 a1 w):Ct prog id #[a0,a1] w S :=
 Ct.intro enters fun R hR=>calls R a0 a1 w (h R hR)
attribute [irreducible,go_sem] b1_1 b1 run
end ref09_After
end Go.Proofs.Ytmoepnfobnpdiaa
