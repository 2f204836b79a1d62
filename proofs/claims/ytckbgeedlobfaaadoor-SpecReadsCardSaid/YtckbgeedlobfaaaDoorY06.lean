/-
  Texts of this claim: T03R, T03All, T02H.
-/
import Derived.Test.YtckbgeedlobfaaaDoorY04
import Derived.Test.YtckbgeedlobfaaaDoorY05
set_option linter.unusedVariables false
set_option maxRecDepth 100000
/- Shallow programs, written by a program of ours (gen.py) off the translation; each is tied to the code by the kernel. -/
namespace Go.Proofs.YtckbgeedlobfaaaDoor
open Go.Px Tryd Instr

/-! ### presage/presageref03.All -/
namespace ref03_All
noncomputable def code:Code:=bodyOf f17
noncomputable abbrev p1:Code:=dropC 3 code
def b3 (R:EP) (x4:Value) (w:World) (_r:Tok R:=tok R):Prop :=
 R (.returned (.tuple #[x4,(Value.int .i64 (-1))])) w
abbrev r0 (R:EP) (z:Env) (w:World):Prop:=R (.returned (.tuple #[(z 2),(z 3)])) w
abbrev q1 (R:EP):XP:=QX (r0 R) (r0 R) []
theorem b3_ok (R:EP):TI prog R (sndC p1) (q1 R) fun z w=>b3 R (z 4) w:=ofT
noncomputable abbrev p2:Code:=dropC 1 (fstC p1)
noncomputable abbrev p3:Code:=loopC (blkC p2)
def b7 (R:EP) (C6:Value→VP) (x0 x4 x5:Value) (w:World) (_r:Tok R:=tok R) (_C6:Tok C6:=tok C6):Prop :=
 RUN prog R (Builtin.len_ #[9] 3 #[x0]) w fun v1 w2 =>
 RUN prog R (bins .lss 3 (.tmp 14) (.tmp 16) x5 v1) w2 fun v3 w4 =>
 SPL v3
 (CALL prog R ref03_One.id #[x0,x5] w4 fun v5 w6 =>
 RUN prog R (extract v5 0) w6 fun v7 w8 =>
 RUN prog R (extract v5 1) w8 fun v9 w10 =>
 RUN prog R (extract v5 2) w10 fun v11 w12 =>
 RUN prog R (alloc 46 true (.tuple #[])) w12 fun v13 w14 =>
 RUNU prog R (storeAt 46 v13 v7) w14 fun w15 =>
 RUN prog R (bins .geq 3 (.tmp 25) (.const (Value.int .i64 0)) v11 (Value.int .i64 0)) w15 fun v16 w17 =>
 SPL v16
 (R (.returned (.tuple #[x4,v11])) w17)
 (RUN prog R (loadAt 46 v13) w17 fun v18 w19 =>
 RUN prog R (buildSlice 41 1 #[(0,v18)]) w19 fun v20 w21 =>
 RUN prog R (Builtin.append_ #[41,41] 41 #[x4,v20]) w21 fun v22 w23 =>
 CALL prog R ref03_Skip.id #[x0,v9] w23 fun v24 w25 =>
 C6 v22 v24 w25))
 (b3 R x4 w4)
abbrev q2 (R:EP) (C6:Value→VP):XP:=QX (fun z w=>C6 (z 4) (z 5) w) (r0 R) [(0,(fun z w=>b3 R (z 4) w))]
theorem b7_ok (R:EP) (C6:Value→VP):TI prog R p3 (q2 R C6) fun z w=>b7 R C6 (z 0) (z 4) (z 5) w:=ofT
def l6 (R:EP) (x0 x4 x5:Value) (w:World) (_r:Tok R:=tok R):Prop :=
 ∃(J:Value→VP) (μ:Value→Value→World→Nat),J x4 x5 w∧∀y4 y5 w0,J y4 y5 w0→b7 R (fun z4 z5 w1=>J z4 z5 w1∧μ z4 z5 w1<μ y4 y5 w0) x0 y4 y5 w0
abbrev q3 (R:EP):XP:=QX (fun z w=>b3 R (z 4) w) (r0 R) [(0,(fun z w=>b3 R (z 4) w))]
theorem l6_ok (R:EP):TI prog R (blkC p2) (q3 R) fun z w=>l6 R (z 0) (z 4) (z 5) w:=fun z w h=>by
 unfold l6 at h
 obtain ⟨J,μ,h0,hr⟩:=h
 refine loopT (fun z' w'=>J (z' 4) (z' 5) w') (fun z' w'=>μ (z' 4) (z' 5) w') h0 fun z' w' hA hI=>b7_ok R (fun z4 z5 w1=>J z4 z5 w1∧μ z4 z5 w1<μ (z' 4) (z' 5) w') z' w' ?_
 have h1:=hr (z' 4) (z' 5) w' hI
 rwa [←hA.on 0] at h1
theorem l6_intro (R:EP) (x0 x4 x5:Value) (w:World) (J:Value→VP) (μ:Value→Value→World→Nat) (h0:J x4 x5 w)
   (hr:∀y4 y5 w0,J y4 y5 w0→∀C6:Value→VP,(∀z4 z5 w1,J z4 z5 w1→μ z4 z5 w1<μ y4 y5 w0→C6 z4 z5 w1)→b7 R C6 x0 y4 y5 w0):l6 R x0 x4 x5 w:=by
 unfold l6
 exact ⟨J,μ,h0,fun y4 y5 w0 hJ=>hr y4 y5 w0 hJ _ (fun z4 z5 w1 h1 h2=>⟨h1,h2⟩)⟩
abbrev q4 (R:EP):XP:=QX (fun z w=>b3 R (z 4) w) (r0 R) []
theorem k5_ok (R:EP):TI prog R p2 (q4 R) fun z w=>l6 R (z 0) (z 4) (z 5) w:=blockT 0 (l6_ok R)
def b4 (R:EP) (x0 x4:Value) (w:World) (_r:Tok R:=tok R):Prop :=
 CALL prog R ref03_Skip.id #[x0,(Value.int .i64 0)] w fun v1 w2 =>
 l6 R x0 x4 v1 w2
theorem b4_ok (R:EP):TI prog R (fstC p1) (q4 R) fun z w=>b4 R (z 0) (z 4) w:=appT 0 (k5_ok R)
theorem k2_ok (R:EP):TI prog R p1 (q1 R) fun z w=>b4 R (z 0) (z 4) w:=seqT (b4_ok R) (b3_ok R)
def b1 (R:EP) (x0:Value) (w:World) (_r:Tok R:=tok R):Prop :=
 RUN prog R (Builtin.len_ #[9] 3 #[x0]) w fun v1 w2 =>
 RUN prog R (bins .gtr 3 (.tmp 10) (.const (Value.int .i64 8192)) v1 (Value.int .i64 8192)) w2 fun v3 w4 =>
 SPL v3
 (R (.returned (.tuple #[(Value.slice Option.none 0 0),(Value.int .i64 8192)])) w4)
 (b4 R x0 (Value.slice Option.none 0 0) w4)
theorem b1_ok (R:EP):TI prog R code (q1 R) fun z w=>b1 R (z 0) w:=appT 2 (k2_ok R)
def run (R:EP) (a0:Value) (w:World):Prop:=b1 R a0 w
theorem calls (R:EP) (a0:Value) (w:World) (h:run R a0 w):Calls prog id #[a0] w R :=
 calls_of_tt (f:=id) (fn:=f17) (c:=code) (by kernel_rfl) func17 (by kernel_rfl) (by kernel_rfl) (args:=[a0]) (Nat.le_of_ble_eq_true rfl) rfl (b1_ok R (envOf [a0]) w h)
theorem enters:Enters prog id:=fun args w=>call17 args w
theorem ct {a0:Value} {w:World} {S:VP} (h:∀R:EP,(∀v w,S v w→R (.returned v) w)→run R a0 w):Ct prog id #[a0] w S :=
 Ct.intro enters fun R hR=>calls R a0 w (h R hR)
attribute [irreducible] b3 b7 l6 b4 b1 run
end ref03_All

/-! ### presage/presageref03.Skip -/
namespace ref03_Skip
noncomputable def code:Code:=bodyOf f34
noncomputable abbrev p1:Code:=dropC 2 code
def b3 (R:EP) (x1:Value) (w:World) (_r:Tok R:=tok R):Prop :=
 R (.returned x1) w
abbrev r0 (R:EP) (z:Env) (w:World):Prop:=R (.returned (z 4)) w
abbrev q1 (R:EP):XP:=QX (r0 R) (r0 R) []
theorem b3_ok (R:EP):TI prog R (sndC p1) (q1 R) fun z w=>b3 R (z 1) w:=ofT
noncomputable abbrev p2:Code:=blkC (fstC p1)
noncomputable abbrev p3:Code:=dropC 1 (loopC p2)
noncomputable abbrev p4:Code:=dropC 2 (blkC p3)
noncomputable abbrev p5:Code:=dropC 1 p4
def b10 (R:EP) (C5:Value→VP) (x1 x5:Value) (w:World) (_r:Tok R:=tok R) (_C5:Tok C5:=tok C5):Prop :=
 RUN prog R (bins .add 3 (.tmp 40) (.const (Value.int .i64 1)) x1 (Value.int .i64 1)) w fun v1 w2 =>
 C5 v1 x5 w2
abbrev q2 (R:EP) (C5:Value→VP):XP:=QX (fun z w=>C5 (z 1) (z 5) w) (r0 R) [(2,(fun z w=>C5 (z 1) (z 5) w)),(0,(fun z w=>b3 R (z 1) w))]
theorem b10_ok (R:EP) (C5:Value→VP):TI prog R p5 (q2 R C5) fun z w=>b10 R C5 (z 1) (z 5) w:=ofT
def b9 (R:EP) (C5:Value→VP) (x1 x5 x6 x7:Value) (w:World) (_r:Tok R:=tok R) (_C5:Tok C5:=tok C5):Prop :=
 SPL x5
 (RUN prog R (bins .neq 5 (.tmp 31) (.const (Value.int .u8 10)) x6 (Value.int .u8 10)) w fun v1 w2 =>
 b10 R C5 x1 v1 w2)
 (RUN prog R (bins .eql 5 (.tmp 34) (.const (Value.int .u8 35)) x6 (Value.int .u8 35)) w fun v3 w4 =>
 SPL v3
 (b10 R C5 x1 (Value.bool true) w4)
 (RUN prog R (Op.unary .not x7) w4 fun v5 w6 =>
 SPL v5
 (R (.returned x1) w6)
 (b10 R C5 x1 x5 w6)))
theorem b9_ok (R:EP) (C5:Value→VP):TI prog R p4 (q2 R C5) fun z w=>b9 R C5 (z 1) (z 5) (z 6) (z 7) w:=appT 0 (b10_ok R C5)
def b8 (R:EP) (C5:Value→VP) (x0 x1 x5:Value) (w:World) (_r:Tok R:=tok R) (_C5:Tok C5:=tok C5):Prop :=
 RUN prog R (index 9 x0 x1) w fun v1 w2 =>
 RUN prog R (bins .eql 5 (.tmp 15) (.const (Value.int .u8 32)) v1 (Value.int .u8 32)) w2 fun v3 w4 =>
 SPL v3
 (b9 R C5 x1 x5 v1 (Value.bool true) w4)
 (RUN prog R (bins .eql 5 (.tmp 18) (.const (Value.int .u8 9)) v1 (Value.int .u8 9)) w4 fun v5 w6 =>
 SPL v5
 (b9 R C5 x1 x5 v1 (Value.bool true) w6)
 (RUN prog R (bins .eql 5 (.tmp 22) (.const (Value.int .u8 10)) v1 (Value.int .u8 10)) w6 fun v7 w8 =>
 SPL v7
 (b9 R C5 x1 x5 v1 (Value.bool true) w8)
 (RUN prog R (bins .eql 5 (.tmp 26) (.const (Value.int .u8 13)) v1 (Value.int .u8 13)) w8 fun v9 w10 =>
 b9 R C5 x1 x5 v1 v9 w10)))
theorem b8_ok (R:EP) (C5:Value→VP):TI prog R (blkC p3) (q2 R C5) fun z w=>b8 R C5 (z 0) (z 1) (z 5) w:=appT 1 (b9_ok R C5)
abbrev q3 (R:EP) (C5:Value→VP):XP:=QX (fun z w=>C5 (z 1) (z 5) w) (r0 R) [(0,(fun z w=>b3 R (z 1) w))]
theorem k7_ok (R:EP) (C5:Value→VP):TI prog R p3 (q3 R C5) fun z w=>b8 R C5 (z 0) (z 1) (z 5) w:=blockT 1 (b8_ok R C5)
def b6 (R:EP) (C5:Value→VP) (x0 x1 x5:Value) (w:World) (_r:Tok R:=tok R) (_C5:Tok C5:=tok C5):Prop :=
 RUN prog R (Builtin.len_ #[9] 3 #[x0]) w fun v1 w2 =>
 RUN prog R (bins .lss 3 (.tmp 8) (.tmp 10) x1 v1) w2 fun v3 w4 =>
 SPL v3
 (b8 R C5 x0 x1 x5 w4)
 (b3 R x1 w4)
theorem b6_ok (R:EP) (C5:Value→VP):TI prog R (loopC p2) (q3 R C5) fun z w=>b6 R C5 (z 0) (z 1) (z 5) w:=appT 0 (k7_ok R C5)
def l5 (R:EP) (x0 x1 x5:Value) (w:World) (_r:Tok R:=tok R):Prop :=
 ∃(J:Value→VP) (μ:Value→Value→World→Nat),J x1 x5 w∧∀y1 y5 w0,J y1 y5 w0→b6 R (fun z1 z5 w1=>J z1 z5 w1∧μ z1 z5 w1<μ y1 y5 w0) x0 y1 y5 w0
abbrev q4 (R:EP):XP:=QX (fun z w=>b3 R (z 1) w) (r0 R) [(0,(fun z w=>b3 R (z 1) w))]
theorem l5_ok (R:EP):TI prog R p2 (q4 R) fun z w=>l5 R (z 0) (z 1) (z 5) w:=fun z w h=>by
 unfold l5 at h
 obtain ⟨J,μ,h0,hr⟩:=h
 refine loopT (fun z' w'=>J (z' 1) (z' 5) w') (fun z' w'=>μ (z' 1) (z' 5) w') h0 fun z' w' hA hI=>b6_ok R (fun z1 z5 w1=>J z1 z5 w1∧μ z1 z5 w1<μ (z' 1) (z' 5) w') z' w' ?_
 have h1:=hr (z' 1) (z' 5) w' hI
 rwa [←hA.on 0] at h1
theorem l5_intro (R:EP) (x0 x1 x5:Value) (w:World) (J:Value→VP) (μ:Value→Value→World→Nat) (h0:J x1 x5 w)
   (hr:∀y1 y5 w0,J y1 y5 w0→∀C5:Value→VP,(∀z1 z5 w1,J z1 z5 w1→μ z1 z5 w1<μ y1 y5 w0→C5 z1 z5 w1)→b6 R C5 x0 y1 y5 w0):l5 R x0 x1 x5 w:=by
 unfold l5
 exact ⟨J,μ,h0,fun y1 y5 w0 hJ=>hr y1 y5 w0 hJ _ (fun z1 z5 w1 h1 h2=>⟨h1,h2⟩)⟩
abbrev q5 (R:EP):XP:=QX (fun z w=>b3 R (z 1) w) (r0 R) []
theorem k4_ok (R:EP):TI prog R (fstC p1) (q5 R) fun z w=>l5 R (z 0) (z 1) (z 5) w:=blockT 0 (l5_ok R)
theorem k2_ok (R:EP):TI prog R p1 (q1 R) fun z w=>l5 R (z 0) (z 1) (z 5) w:=seqT (k4_ok R) (b3_ok R)
def b1 (R:EP) (x0 x1:Value) (w:World) (_r:Tok R:=tok R):Prop :=
 l5 R x0 x1 (Value.bool false) w
theorem b1_ok (R:EP):TI prog R code (q1 R) fun z w=>b1 R (z 0) (z 1) w:=appT 1 (k2_ok R)
def run (R:EP) (a0 a1:Value) (w:World):Prop:=b1 R a0 a1 w
theorem calls (R:EP) (a0 a1:Value) (w:World) (h:run R a0 a1 w):Calls prog id #[a0,a1] w R:=cls_t func34 [a0,a1] (b1_ok R _ w h)
theorem enters:Enters prog id:=fun args w=>call34 args w
theorem ct {a0 a1:Value} {w:World} {S:VP} (h:∀R:EP,(∀v w,S v w→R (.returned v) w)→run R a0 a1 w):Ct prog id #[a0,a1] w S :=
 Ct.intro enters fun R hR=>calls R a0 a1 w (h R hR)
attribute [irreducible] b3 b10 b9 b8 b6 l5 b1 run
end ref03_Skip

/-! ### presage/presageref03.One -/
namespace ref03_One
noncomputable def code:Code:=bodyOf f35
noncomputable abbrev p1:Code:=dropC 3 code

def b3 (R:EP) (x1 x4:Value) (w:World) (_r:Tok R:=tok R):Prop :=
 RUN prog R (build 46 #[]) w fun v1 w2 =>
 RUNU prog R (storeAt 46 x4 v1) w2 fun w3 =>
 LD prog (loadAt 46 x4) w3 fun r0=>R (.returned (.tuple #[r0,(Value.int .i64 0),x1])) w3
abbrev r0 (R:EP) (z:Env) (w:World):Prop:=LD prog (loadAt 46 (z 4)) w fun r0=>R (.returned (.tuple #[r0,(z 5),(z 6)])) w
abbrev q1 (R:EP):XP:=QX (r0 R) (r0 R) []
theorem b3_ok (R:EP):TI prog R (sndC p1) (q1 R) fun z w=>b3 R (z 1) (z 4) w:=ofT
noncomputable abbrev p2:Code:=blkC (fstC p1)
noncomputable abbrev p3:Code:=dropC 1 p2

def b7 (R:EP) (x0 x1 x4 x8:Value) (w:World) (_r:Tok R:=tok R):Prop :=
 RUN prog R (sliceAt 9 x0 (some x1) (some x8) none) w fun v1 w2 =>
 RUN prog R (build 46 #[(0,(Value.int .i64 4)),(1,v1),(2,x1)]) w2 fun v3 w4 =>
 RUNU prog R (storeAt 46 x4 v3) w4 fun w5 =>
 LD prog (loadAt 46 x4) w5 fun r0=>R (.returned (.tuple #[r0,x8,(Value.int .i64 (-1))])) w5
abbrev q2 (R:EP):XP:=QX (fun z w=>b3 R (z 1) (z 4) w) (r0 R) [(0,(fun z w=>b3 R (z 1) (z 4) w))]
theorem b7_ok (R:EP):TI prog R (thnC p3) (q2 R) fun z w=>b7 R (z 0) (z 1) (z 4) (z 8) w:=ofT
noncomputable abbrev p4:Code:=dropC 1 (elsC p3)
noncomputable abbrev p5:Code:=sndC (thnC p4)

def b11 (R:EP) (x0 x1 x4 x8:Value) (w:World) (_r:Tok R:=tok R):Prop :=
 RUN prog R (sliceAt 9 x0 (some x1) (some x8) none) w fun v1 w2 =>
 RUN prog R (build 46 #[(0,(Value.int .i64 1)),(1,v1),(2,x1)]) w2 fun v3 w4 =>
 RUNU prog R (storeAt 46 x4 v3) w4 fun w5 =>
 LD prog (loadAt 46 x4) w5 fun r0=>R (.returned (.tuple #[r0,x8,(Value.int .i64 (-1))])) w5
theorem b11_ok (R:EP):TI prog R p5 (q2 R) fun z w=>b11 R (z 0) (z 1) (z 4) (z 8) w:=ofT
noncomputable abbrev p6:Code:=fstC (thnC p4)
noncomputable abbrev p7:Code:=loopC (blkC p6)

def b15 (R:EP) (C13:VP) (x1 x4 x8:Value) (w:World) (_r:Tok R:=tok R) (_C13:Tok C13:=tok C13):Prop :=
 RUN prog R (bins .sub 3 (.tmp 49) (.tmp 50) x8 x1) w fun v1 w2 =>
 RUN prog R (bins .eql 3 (.tmp 51) (.const (Value.int .i64 16)) v1 (Value.int .i64 16)) w2 fun v3 w4 =>
 SPL v3
 (RUN prog R (build 46 #[]) w4 fun v5 w6 =>
 RUNU prog R (storeAt 46 x4 v5) w6 fun w7 =>
 LD prog (loadAt 46 x4) w7 fun r0=>R (.returned (.tuple #[r0,(Value.int .i64 0),x8])) w7)
 (RUN prog R (bins .add 3 (.tmp 55) (.const (Value.int .i64 1)) x8 (Value.int .i64 1)) w4 fun v8 w9 =>
 C13 v8 w9)
abbrev q3 (R:EP) (C13:VP):XP:=QX (fun z w=>C13 (z 8) w) (r0 R) [(2,(fun z w=>b11 R (z 0) (z 1) (z 4) (z 8) w)),(0,(fun z w=>b3 R (z 1) (z 4) w))]
theorem b15_ok (R:EP) (C13:VP):TI prog R (sndC p7) (q3 R C13) fun z w=>b15 R C13 (z 1) (z 4) (z 8) w:=ofT
noncomputable abbrev p8:Code:=dropC 1 (fstC p7)

def b17 (R:EP) (C13:VP) (x0 x1 x4 x8 x48:Value) (w:World) (_r:Tok R:=tok R) (_C13:Tok C13:=tok C13):Prop :=
 SPL x48
 (b15 R C13 x1 x4 x8 w)
 (b11 R x0 x1 x4 x8 w)
abbrev q4 (R:EP) (C13:VP):XP:=QX (fun z w=>b15 R C13 (z 1) (z 4) (z 8) w) (r0 R) [(2,(fun z w=>b11 R (z 0) (z 1) (z 4) (z 8) w)),(0,(fun z w=>b3 R (z 1) (z 4) w))]
theorem b17_ok (R:EP) (C13:VP):TI prog R p8 (q4 R C13) fun z w=>b17 R C13 (z 0) (z 1) (z 4) (z 8) (z 48) w:=ofT

def b16 (R:EP) (C13:VP) (x0 x1 x4 x8:Value) (w:World) (_r:Tok R:=tok R) (_C13:Tok C13:=tok C13):Prop :=
 RUN prog R (Builtin.len_ #[9] 3 #[x0]) w fun v1 w2 =>
 RUN prog R (bins .lss 3 (.tmp 39) (.tmp 41) x8 v1) w2 fun v3 w4 =>
 SPL v3
 (RUN prog R (index 9 x0 x8) w4 fun v5 w6 =>
 CALL prog R ref03_inner.id #[v5] w6 fun v7 w8 =>
 b17 R C13 x0 x1 x4 x8 v7 w8)
 (b17 R C13 x0 x1 x4 x8 (Value.bool false) w4)
theorem b16_ok (R:EP) (C13:VP):TI prog R (fstC p7) (q4 R C13) fun z w=>b16 R C13 (z 0) (z 1) (z 4) (z 8) w:=appT 0 (b17_ok R C13)
theorem k14_ok (R:EP) (C13:VP):TI prog R p7 (q3 R C13) fun z w=>b16 R C13 (z 0) (z 1) (z 4) (z 8) w:=seqT (b16_ok R C13) (b15_ok R C13)

def l13 (R:EP) (x0 x1 x4 x8:Value) (w:World) (_r:Tok R:=tok R):Prop :=
 ∃(J:VP) (μ:Value→World→Nat),J x8 w∧∀y8 w0,J y8 w0→b16 R (fun z8 w1=>J z8 w1∧μ z8 w1<μ y8 w0) x0 x1 x4 y8 w0
abbrev q5 (R:EP):XP:=QX (fun z w=>b11 R (z 0) (z 1) (z 4) (z 8) w) (r0 R) [(2,(fun z w=>b11 R (z 0) (z 1) (z 4) (z 8) w)),(0,(fun z w=>b3 R (z 1) (z 4) w))]
theorem l13_ok (R:EP):TI prog R (blkC p6) (q5 R) fun z w=>l13 R (z 0) (z 1) (z 4) (z 8) w:=fun z w h=>by
 unfold l13 at h
 obtain ⟨J,μ,h0,hr⟩:=h
 refine loopT (fun z' w'=>J (z' 8) w') (fun z' w'=>μ (z' 8) w') h0 fun z' w' hA hI=>k14_ok R (fun z8 w1=>J z8 w1∧μ z8 w1<μ (z' 8) w') z' w' ?_
 have h1:=hr (z' 8) w' hI
 rwa [←hA.on 0,←hA.on 1,←hA.on 4] at h1
theorem l13_intro (R:EP) (x0 x1 x4 x8:Value) (w:World) (J:VP) (μ:Value→World→Nat) (h0:J x8 w)
   (hr:∀y8 w0,J y8 w0→∀C13:VP,(∀z8 w1,J z8 w1→μ z8 w1<μ y8 w0→C13 z8 w1)→b16 R C13 x0 x1 x4 y8 w0):l13 R x0 x1 x4 x8 w:=by
 unfold l13
 exact ⟨J,μ,h0,fun y8 w0 hJ=>hr y8 w0 hJ _ (fun z8 w1 h1 h2=>⟨h1,h2⟩)⟩
abbrev q6 (R:EP):XP:=QX (fun z w=>b11 R (z 0) (z 1) (z 4) (z 8) w) (r0 R) [(0,(fun z w=>b3 R (z 1) (z 4) w))]
theorem k12_ok (R:EP):TI prog R p6 (q6 R) fun z w=>l13 R (z 0) (z 1) (z 4) (z 8) w:=blockT 1 (l13_ok R)
theorem k10_ok (R:EP):TI prog R (thnC p4) (q2 R) fun z w=>l13 R (z 0) (z 1) (z 4) (z 8) w:=seqT (k12_ok R) (b11_ok R)
noncomputable abbrev p9:Code:=dropC 1 (elsC p4)
noncomputable abbrev p10:Code:=sndC (thnC p9)

def b22 (R:EP) (x0 x1 x4 x8:Value) (w:World) (_r:Tok R:=tok R):Prop :=
 RUN prog R (bins .add 3 (.tmp 116) (.const (Value.int .i64 1)) x1 (Value.int .i64 1)) w fun v1 w2 =>
 RUN prog R (sliceAt 9 x0 (some v1) (some x8) none) w2 fun v3 w4 =>
 RUN prog R (build 46 #[(0,(Value.int .i64 2)),(1,v3),(2,x1)]) w4 fun v5 w6 =>
 RUN prog R (bins .add 3 (.tmp 122) (.const (Value.int .i64 1)) x8 (Value.int .i64 1)) w6 fun v7 w8 =>
 RUNU prog R (storeAt 46 x4 v5) w8 fun w9 =>
 LD prog (loadAt 46 x4) w9 fun r0=>R (.returned (.tuple #[r0,v7,(Value.int .i64 (-1))])) w9
theorem b22_ok (R:EP):TI prog R (sndC p10) (q2 R) fun z w=>b22 R (z 0) (z 1) (z 4) (z 8) w:=ofT
noncomputable abbrev p11:Code:=dropC 1 (fstC p10)

def b24 (R:EP) (x0 x1 x4 x8 x112:Value) (w:World) (_r:Tok R:=tok R):Prop :=
 SPL x112
 (RUN prog R (build 46 #[]) w fun v1 w2 =>
 RUNU prog R (storeAt 46 x4 v1) w2 fun w3 =>
 LD prog (loadAt 46 x4) w3 fun r0=>R (.returned (.tuple #[r0,(Value.int .i64 0),x8])) w3)
 (b22 R x0 x1 x4 x8 w)
abbrev q7 (R:EP):XP:=QX (fun z w=>b22 R (z 0) (z 1) (z 4) (z 8) w) (r0 R) [(0,(fun z w=>b3 R (z 1) (z 4) w))]
theorem b24_ok (R:EP):TI prog R p11 (q7 R) fun z w=>b24 R (z 0) (z 1) (z 4) (z 8) (z 112) w:=ofT

def b23 (R:EP) (x0 x1 x4 x8:Value) (w:World) (_r:Tok R:=tok R):Prop :=
 RUN prog R (Builtin.len_ #[9] 3 #[x0]) w fun v1 w2 =>
 RUN prog R (bins .geq 3 (.tmp 97) (.tmp 99) x8 v1) w2 fun v3 w4 =>
 SPL v3
 (b24 R x0 x1 x4 x8 (Value.bool true) w4)
 (RUN prog R (index 9 x0 x8) w4 fun v5 w6 =>
 RUN prog R (bins .neq 5 (.tmp 104) (.const (Value.int .u8 39)) v5 (Value.int .u8 39)) w6 fun v7 w8 =>
 SPL v7
 (b24 R x0 x1 x4 x8 (Value.bool true) w8)
 (RUN prog R (bins .add 3 (.tmp 109) (.const (Value.int .i64 1)) x1 (Value.int .i64 1)) w8 fun v9 w10 =>
 RUN prog R (bins .eql 3 (.tmp 108) (.tmp 110) x8 v9) w10 fun v11 w12 =>
 b24 R x0 x1 x4 x8 v11 w12))
theorem b23_ok (R:EP):TI prog R (fstC p10) (q7 R) fun z w=>b23 R (z 0) (z 1) (z 4) (z 8) w:=appT 0 (b24_ok R)
theorem k21_ok (R:EP):TI prog R p10 (q2 R) fun z w=>b23 R (z 0) (z 1) (z 4) (z 8) w:=seqT (b23_ok R) (b22_ok R)
noncomputable abbrev p12:Code:=fstC (thnC p9)
noncomputable abbrev p13:Code:=loopC (blkC p12)

def b28 (R:EP) (C26:VP) (x8:Value) (w:World) (_r:Tok R:=tok R) (_C26:Tok C26:=tok C26):Prop :=
 RUN prog R (bins .add 3 (.tmp 95) (.const (Value.int .i64 1)) x8 (Value.int .i64 1)) w fun v1 w2 =>
 C26 v1 w2
abbrev q8 (R:EP) (C26:VP):XP:=QX (fun z w=>C26 (z 8) w) (r0 R) [(6,(fun z w=>b23 R (z 0) (z 1) (z 4) (z 8) w)),(0,(fun z w=>b3 R (z 1) (z 4) w))]
theorem b28_ok (R:EP) (C26:VP):TI prog R (sndC p13) (q8 R C26) fun z w=>b28 R C26 (z 8) w:=ofT
noncomputable abbrev p14:Code:=dropC 1 (fstC p13)

def b30 (R:EP) (C26:VP) (x0 x1 x4 x8 x94:Value) (w:World) (_r:Tok R:=tok R) (_C26:Tok C26:=tok C26):Prop :=
 SPL x94
 (b28 R C26 x8 w)
 (b23 R x0 x1 x4 x8 w)
abbrev q9 (R:EP) (C26:VP):XP:=QX (fun z w=>b28 R C26 (z 8) w) (r0 R) [(6,(fun z w=>b23 R (z 0) (z 1) (z 4) (z 8) w)),(0,(fun z w=>b3 R (z 1) (z 4) w))]
theorem b30_ok (R:EP) (C26:VP):TI prog R p14 (q9 R C26) fun z w=>b30 R C26 (z 0) (z 1) (z 4) (z 8) (z 94) w:=ofT

def b29 (R:EP) (C26:VP) (x0 x1 x4 x8:Value) (w:World) (_r:Tok R:=tok R) (_C26:Tok C26:=tok C26):Prop :=
 RUN prog R (Builtin.len_ #[9] 3 #[x0]) w fun v1 w2 =>
 RUN prog R (bins .lss 3 (.tmp 67) (.tmp 69) x8 v1) w2 fun v3 w4 =>
 SPL v3
 (RUN prog R (index 9 x0 x8) w4 fun v5 w6 =>
 RUN prog R (bins .neq 5 (.tmp 74) (.const (Value.int .u8 39)) v5 (Value.int .u8 39)) w6 fun v7 w8 =>
 SPL v7
 (RUN prog R (index 9 x0 x8) w8 fun v9 w10 =>
 RUN prog R (bins .geq 5 (.tmp 80) (.const (Value.int .u8 32)) v9 (Value.int .u8 32)) w10 fun v11 w12 =>
 SPL v11
 (RUN prog R (index 9 x0 x8) w12 fun v13 w14 =>
 RUN prog R (bins .leq 5 (.tmp 86) (.const (Value.int .u8 126)) v13 (Value.int .u8 126)) w14 fun v15 w16 =>
 SPL v15
 (RUN prog R (bins .sub 3 (.tmp 90) (.tmp 91) x8 x1) w16 fun v17 w18 =>
 RUN prog R (bins .leq 3 (.tmp 92) (.const (Value.int .i64 16)) v17 (Value.int .i64 16)) w18 fun v19 w20 =>
 b30 R C26 x0 x1 x4 x8 v19 w20)
 (b30 R C26 x0 x1 x4 x8 (Value.bool false) w16))
 (b30 R C26 x0 x1 x4 x8 (Value.bool false) w12))
 (b30 R C26 x0 x1 x4 x8 (Value.bool false) w8))
 (b30 R C26 x0 x1 x4 x8 (Value.bool false) w4)
theorem b29_ok (R:EP) (C26:VP):TI prog R (fstC p13) (q9 R C26) fun z w=>b29 R C26 (z 0) (z 1) (z 4) (z 8) w:=appT 0 (b30_ok R C26)
theorem k27_ok (R:EP) (C26:VP):TI prog R p13 (q8 R C26) fun z w=>b29 R C26 (z 0) (z 1) (z 4) (z 8) w:=seqT (b29_ok R C26) (b28_ok R C26)

def l26 (R:EP) (x0 x1 x4 x8:Value) (w:World) (_r:Tok R:=tok R):Prop :=
 ∃(J:VP) (μ:Value→World→Nat),J x8 w∧∀y8 w0,J y8 w0→b29 R (fun z8 w1=>J z8 w1∧μ z8 w1<μ y8 w0) x0 x1 x4 y8 w0
abbrev q10 (R:EP):XP:=QX (fun z w=>b23 R (z 0) (z 1) (z 4) (z 8) w) (r0 R) [(6,(fun z w=>b23 R (z 0) (z 1) (z 4) (z 8) w)),(0,(fun z w=>b3 R (z 1) (z 4) w))]
theorem l26_ok (R:EP):TI prog R (blkC p12) (q10 R) fun z w=>l26 R (z 0) (z 1) (z 4) (z 8) w:=fun z w h=>by
 unfold l26 at h
 obtain ⟨J,μ,h0,hr⟩:=h
 refine loopT (fun z' w'=>J (z' 8) w') (fun z' w'=>μ (z' 8) w') h0 fun z' w' hA hI=>k27_ok R (fun z8 w1=>J z8 w1∧μ z8 w1<μ (z' 8) w') z' w' ?_
 have h1:=hr (z' 8) w' hI
 rwa [←hA.on 0,←hA.on 1,←hA.on 4] at h1
theorem l26_intro (R:EP) (x0 x1 x4 x8:Value) (w:World) (J:VP) (μ:Value→World→Nat) (h0:J x8 w)
   (hr:∀y8 w0,J y8 w0→∀C26:VP,(∀z8 w1,J z8 w1→μ z8 w1<μ y8 w0→C26 z8 w1)→b29 R C26 x0 x1 x4 y8 w0):l26 R x0 x1 x4 x8 w:=by
 unfold l26
 exact ⟨J,μ,h0,fun y8 w0 hJ=>hr y8 w0 hJ _ (fun z8 w1 h1 h2=>⟨h1,h2⟩)⟩
abbrev q11 (R:EP):XP:=QX (fun z w=>b23 R (z 0) (z 1) (z 4) (z 8) w) (r0 R) [(0,(fun z w=>b3 R (z 1) (z 4) w))]
theorem k25_ok (R:EP):TI prog R p12 (q11 R) fun z w=>l26 R (z 0) (z 1) (z 4) (z 8) w:=blockT 3 (l26_ok R)
theorem k20_ok (R:EP):TI prog R (thnC p9) (q2 R) fun z w=>l26 R (z 0) (z 1) (z 4) (z 8) w:=seqT (k25_ok R) (k21_ok R)
noncomputable abbrev p15:Code:=dropC 1 (elsC p9)
noncomputable abbrev p16:Code:=sndC (thnC p15)

def b34 (R:EP) (x0 x1 x4 x8:Value) (w:World) (_r:Tok R:=tok R):Prop :=
 RUN prog R (sliceAt 9 x0 (some x1) (some x8) none) w fun v1 w2 =>
 CALL prog R ref03_begun.id #[v1,(Value.bool true)] w2 fun v3 w4 =>
 RUN prog R (Op.unary .not v3) w4 fun v5 w6 =>
 SPL v5
 (RUN prog R (build 46 #[]) w6 fun v7 w8 =>
 RUNU prog R (storeAt 46 x4 v7) w8 fun w9 =>
 LD prog (loadAt 46 x4) w9 fun r0=>R (.returned (.tuple #[r0,(Value.int .i64 0),x8])) w9)
 (RUN prog R (sliceAt 9 x0 (some x1) (some x8) none) w6 fun v10 w11 =>
 RUN prog R (build 46 #[(0,(Value.int .i64 3)),(1,v10),(2,x1)]) w11 fun v12 w13 =>
 RUNU prog R (storeAt 46 x4 v12) w13 fun w14 =>
 LD prog (loadAt 46 x4) w14 fun r0=>R (.returned (.tuple #[r0,x8,(Value.int .i64 (-1))])) w14)
theorem b34_ok (R:EP):TI prog R p16 (q2 R) fun z w=>b34 R (z 0) (z 1) (z 4) (z 8) w:=ofT
noncomputable abbrev p17:Code:=fstC (thnC p15)
noncomputable abbrev p18:Code:=loopC (blkC p17)

def b38 (R:EP) (C36:VP) (x0 x1 x4 x8:Value) (w:World) (_r:Tok R:=tok R) (_C36:Tok C36:=tok C36):Prop :=
 RUN prog R (bins .add 3 (.tmp 139) (.const (Value.int .i64 1)) x8 (Value.int .i64 1)) w fun v1 w2 =>
 RUN prog R (sliceAt 9 x0 (some x1) (some v1) none) w2 fun v3 w4 =>
 CALL prog R ref03_begun.id #[v3,(Value.bool false)] w4 fun v5 w6 =>
 RUN prog R (Op.unary .not v5) w6 fun v7 w8 =>
 SPL v7
 (RUN prog R (build 46 #[]) w8 fun v9 w10 =>
 RUNU prog R (storeAt 46 x4 v9) w10 fun w11 =>
 LD prog (loadAt 46 x4) w11 fun r0=>R (.returned (.tuple #[r0,(Value.int .i64 0),x8])) w11)
 (RUN prog R (bins .add 3 (.tmp 146) (.const (Value.int .i64 1)) x8 (Value.int .i64 1)) w8 fun v12 w13 =>
 C36 v12 w13)
abbrev q12 (R:EP) (C36:VP):XP:=QX (fun z w=>C36 (z 8) w) (r0 R) [(10,(fun z w=>b34 R (z 0) (z 1) (z 4) (z 8) w)),(0,(fun z w=>b3 R (z 1) (z 4) w))]
theorem b38_ok (R:EP) (C36:VP):TI prog R (sndC p18) (q12 R C36) fun z w=>b38 R C36 (z 0) (z 1) (z 4) (z 8) w:=ofT
noncomputable abbrev p19:Code:=dropC 1 (fstC p18)

def b40 (R:EP) (C36:VP) (x0 x1 x4 x8 x136:Value) (w:World) (_r:Tok R:=tok R) (_C36:Tok C36:=tok C36):Prop :=
 SPL x136
 (b38 R C36 x0 x1 x4 x8 w)
 (b34 R x0 x1 x4 x8 w)
abbrev q13 (R:EP) (C36:VP):XP:=QX (fun z w=>b38 R C36 (z 0) (z 1) (z 4) (z 8) w) (r0 R) [(10,(fun z w=>b34 R (z 0) (z 1) (z 4) (z 8) w)),(0,(fun z w=>b3 R (z 1) (z 4) w))]
theorem b40_ok (R:EP) (C36:VP):TI prog R p19 (q13 R C36) fun z w=>b40 R C36 (z 0) (z 1) (z 4) (z 8) (z 136) w:=ofT

def b39 (R:EP) (C36:VP) (x0 x1 x4 x8:Value) (w:World) (_r:Tok R:=tok R) (_C36:Tok C36:=tok C36):Prop :=
 RUN prog R (Builtin.len_ #[9] 3 #[x0]) w fun v1 w2 =>
 RUN prog R (bins .lss 3 (.tmp 127) (.tmp 129) x8 v1) w2 fun v3 w4 =>
 SPL v3
 (RUN prog R (index 9 x0 x8) w4 fun v5 w6 =>
 CALL prog R ref03_letter.id #[v5] w6 fun v7 w8 =>
 b40 R C36 x0 x1 x4 x8 v7 w8)
 (b40 R C36 x0 x1 x4 x8 (Value.bool false) w4)
theorem b39_ok (R:EP) (C36:VP):TI prog R (fstC p18) (q13 R C36) fun z w=>b39 R C36 (z 0) (z 1) (z 4) (z 8) w:=appT 0 (b40_ok R C36)
theorem k37_ok (R:EP) (C36:VP):TI prog R p18 (q12 R C36) fun z w=>b39 R C36 (z 0) (z 1) (z 4) (z 8) w:=seqT (b39_ok R C36) (b38_ok R C36)

def l36 (R:EP) (x0 x1 x4 x8:Value) (w:World) (_r:Tok R:=tok R):Prop :=
 ∃(J:VP) (μ:Value→World→Nat),J x8 w∧∀y8 w0,J y8 w0→b39 R (fun z8 w1=>J z8 w1∧μ z8 w1<μ y8 w0) x0 x1 x4 y8 w0
abbrev q14 (R:EP):XP:=QX (fun z w=>b34 R (z 0) (z 1) (z 4) (z 8) w) (r0 R) [(10,(fun z w=>b34 R (z 0) (z 1) (z 4) (z 8) w)),(0,(fun z w=>b3 R (z 1) (z 4) w))]
theorem l36_ok (R:EP):TI prog R (blkC p17) (q14 R) fun z w=>l36 R (z 0) (z 1) (z 4) (z 8) w:=fun z w h=>by
 unfold l36 at h
 obtain ⟨J,μ,h0,hr⟩:=h
 refine loopT (fun z' w'=>J (z' 8) w') (fun z' w'=>μ (z' 8) w') h0 fun z' w' hA hI=>k37_ok R (fun z8 w1=>J z8 w1∧μ z8 w1<μ (z' 8) w') z' w' ?_
 have h1:=hr (z' 8) w' hI
 rwa [←hA.on 0,←hA.on 1,←hA.on 4] at h1
theorem l36_intro (R:EP) (x0 x1 x4 x8:Value) (w:World) (J:VP) (μ:Value→World→Nat) (h0:J x8 w)
   (hr:∀y8 w0,J y8 w0→∀C36:VP,(∀z8 w1,J z8 w1→μ z8 w1<μ y8 w0→C36 z8 w1)→b39 R C36 x0 x1 x4 y8 w0):l36 R x0 x1 x4 x8 w:=by
 unfold l36
 exact ⟨J,μ,h0,fun y8 w0 hJ=>hr y8 w0 hJ _ (fun z8 w1 h1 h2=>⟨h1,h2⟩)⟩
abbrev q15 (R:EP):XP:=QX (fun z w=>b34 R (z 0) (z 1) (z 4) (z 8) w) (r0 R) [(0,(fun z w=>b3 R (z 1) (z 4) w))]
theorem k35_ok (R:EP):TI prog R p17 (q15 R) fun z w=>l36 R (z 0) (z 1) (z 4) (z 8) w:=blockT 5 (l36_ok R)
theorem k33_ok (R:EP):TI prog R (thnC p15) (q2 R) fun z w=>l36 R (z 0) (z 1) (z 4) (z 8) w:=seqT (k35_ok R) (b34_ok R)

def b41 (R:EP) (x1 x4:Value) (w:World) (_r:Tok R:=tok R):Prop :=
 b3 R x1 x4 w
theorem b41_ok (R:EP):TI prog R (elsC p15) (q2 R) fun z w=>b41 R (z 1) (z 4) w:=ofT

def b32 (R:EP) (x0 x1 x4 x8 x124:Value) (w:World) (_r:Tok R:=tok R):Prop :=
 SPL x124 (l36 R x0 x1 x4 x8 w) (b41 R x1 x4 w)
theorem b32_ok (R:EP):TI prog R p15 (q2 R) fun z w=>b32 R (z 0) (z 1) (z 4) (z 8) (z 124) w:=fun z w h=>by
 have e:Code.cond (.tmp 124) (thnC p15) (elsC p15)=p15:=by kernel_rfl
 rw [←e]
 exact condQ' h (fun h=>k33_ok R z w h) (fun h=>b41_ok R z w h)

def b31 (R:EP) (x0 x1 x4 x7 x8:Value) (w:World) (_r:Tok R:=tok R):Prop :=
 RUN prog R (bins .eql 5 (.tmp 125) (.const (Value.int .u8 37)) x7 (Value.int .u8 37)) w fun v1 w2 =>
 b32 R x0 x1 x4 x8 v1 w2
theorem b31_ok (R:EP):TI prog R (elsC p9) (q2 R) fun z w=>b31 R (z 0) (z 1) (z 4) (z 7) (z 8) w:=appT 0 (b32_ok R)

def b19 (R:EP) (x0 x1 x4 x7 x8 x64:Value) (w:World) (_r:Tok R:=tok R):Prop :=
 SPL x64 (l26 R x0 x1 x4 x8 w) (b31 R x0 x1 x4 x7 x8 w)
theorem b19_ok (R:EP):TI prog R p9 (q2 R) fun z w=>b19 R (z 0) (z 1) (z 4) (z 7) (z 8) (z 64) w:=fun z w h=>by
 have e:Code.cond (.tmp 64) (thnC p9) (elsC p9)=p9:=by kernel_rfl
 rw [←e]
 exact condQ' h (fun h=>k20_ok R z w h) (fun h=>b31_ok R z w h)

def b18 (R:EP) (x0 x1 x4 x7 x8:Value) (w:World) (_r:Tok R:=tok R):Prop :=
 RUN prog R (bins .eql 5 (.tmp 65) (.const (Value.int .u8 39)) x7 (Value.int .u8 39)) w fun v1 w2 =>
 b19 R x0 x1 x4 x7 x8 v1 w2
theorem b18_ok (R:EP):TI prog R (elsC p4) (q2 R) fun z w=>b18 R (z 0) (z 1) (z 4) (z 7) (z 8) w:=appT 0 (b19_ok R)

def b9 (R:EP) (x0 x1 x4 x7 x8 x32:Value) (w:World) (_r:Tok R:=tok R):Prop :=
 SPL x32 (l13 R x0 x1 x4 x8 w) (b18 R x0 x1 x4 x7 x8 w)
theorem b9_ok (R:EP):TI prog R p4 (q2 R) fun z w=>b9 R (z 0) (z 1) (z 4) (z 7) (z 8) (z 32) w:=fun z w h=>by
 have e:Code.cond (.tmp 32) (thnC p4) (elsC p4)=p4:=by kernel_rfl
 rw [←e]
 exact condQ' h (fun h=>k10_ok R z w h) (fun h=>b18_ok R z w h)

def b8 (R:EP) (x0 x1 x4 x7 x8:Value) (w:World) (_r:Tok R:=tok R):Prop :=
 CALL prog R ref03_letter.id #[x7] w fun v1 w2 =>
 SPL v1
 (b9 R x0 x1 x4 x7 x8 (Value.bool true) w2)
 (RUN prog R (bins .eql 5 (.tmp 36) (.const (Value.int .u8 95)) x7 (Value.int .u8 95)) w2 fun v3 w4 =>
 b9 R x0 x1 x4 x7 x8 v3 w4)
theorem b8_ok (R:EP):TI prog R (elsC p3) (q2 R) fun z w=>b8 R (z 0) (z 1) (z 4) (z 7) (z 8) w:=appT 0 (b9_ok R)

def b6 (R:EP) (x0 x1 x4 x7 x8 x14:Value) (w:World) (_r:Tok R:=tok R):Prop :=
 SPL x14 (b7 R x0 x1 x4 x8 w) (b8 R x0 x1 x4 x7 x8 w)
theorem b6_ok (R:EP):TI prog R p3 (q2 R) fun z w=>b6 R (z 0) (z 1) (z 4) (z 7) (z 8) (z 14) w:=fun z w h=>by
 have e:Code.cond (.tmp 14) (thnC p3) (elsC p3)=p3:=by kernel_rfl
 rw [←e]
 exact condQ' h (fun h=>b7_ok R z w h) (fun h=>b8_ok R z w h)

def b5 (R:EP) (x0 x1 x4 x7 x8:Value) (w:World) (_r:Tok R:=tok R):Prop :=
 RUN prog R (bins .eql 5 (.tmp 15) (.const (Value.int .u8 58)) x7 (Value.int .u8 58)) w fun v1 w2 =>
 SPL v1
 (b6 R x0 x1 x4 x7 x8 (Value.bool true) w2)
 (RUN prog R (bins .eql 5 (.tmp 18) (.const (Value.int .u8 124)) x7 (Value.int .u8 124)) w2 fun v3 w4 =>
 SPL v3
 (b6 R x0 x1 x4 x7 x8 (Value.bool true) w4)
 (RUN prog R (bins .eql 5 (.tmp 22) (.const (Value.int .u8 59)) x7 (Value.int .u8 59)) w4 fun v5 w6 =>
 b6 R x0 x1 x4 x7 x8 v5 w6))
theorem b5_ok (R:EP):TI prog R p2 (q2 R) fun z w=>b5 R (z 0) (z 1) (z 4) (z 7) (z 8) w:=appT 0 (b6_ok R)
abbrev q16 (R:EP):XP:=QX (fun z w=>b3 R (z 1) (z 4) w) (r0 R) []
theorem k4_ok (R:EP):TI prog R (fstC p1) (q16 R) fun z w=>b5 R (z 0) (z 1) (z 4) (z 7) (z 8) w:=blockT 0 (b5_ok R)
theorem k2_ok (R:EP):TI prog R p1 (q1 R) fun z w=>b5 R (z 0) (z 1) (z 4) (z 7) (z 8) w:=seqT (k4_ok R) (b3_ok R)

def b1 (R:EP) (x0 x1:Value) (w:World) (_r:Tok R:=tok R):Prop :=
 RUN prog R (alloc 46 true (.tuple #[])) w fun v1 w2 =>
 RUN prog R (index 9 x0 x1) w2 fun v3 w4 =>
 RUN prog R (bins .add 3 (.tmp 12) (.const (Value.int .i64 1)) x1 (Value.int .i64 1)) w4 fun v5 w6 =>
 b5 R x0 x1 v1 v3 v5 w6
theorem b1_ok (R:EP):TI prog R code (q1 R) fun z w=>b1 R (z 0) (z 1) w:=appT 2 (k2_ok R)
def run (R:EP) (a0 a1:Value) (w:World):Prop:=b1 R a0 a1 w
theorem calls (R:EP) (a0 a1:Value) (w:World) (h:run R a0 a1 w):Calls prog id #[a0,a1] w R :=
 calls_of_ctt (f:=id) (fn:=f35) (c:=code) (by kernel_rfl) func35 (by kernel_rfl) (by kernel_rfl) (args:=[a0,a1]) (Nat.le_of_ble_eq_true rfl) rfl (b1_ok R (envOf [a0,a1]) w h)
theorem enters:Enters prog id:=fun args w=>call35 args w
theorem ct {a0 a1:Value} {w:World} {S:VP} (h:∀R:EP,(∀v w,S v w→R (.returned v) w)→run R a0 a1 w):Ct prog id #[a0,a1] w S :=
 Ct.intro enters fun R hR=>calls R a0 a1 w (h R hR)
attribute [irreducible] b3 b7 b11 b15 b17 b16 l13 b22 b24 b23 b28 b30 b29 l26 b34 b38 b40 b39 l36 b41 b32 b31 b19 b18 b9 b8 b6 b5 b1 run
end ref03_One

/-! ### presage/presageref03.letter -/
namespace ref03_letter
noncomputable def code:Code:=bodyOf f60
def b1 (R:EP) (x0:Value) (w:World) (_r:Tok R:=tok R):Prop :=
 RUN prog R (bins .geq 5 (.tmp 3) (.const (Value.int .u8 65)) x0 (Value.int .u8 65)) w fun v1 w2 =>
 SPL v1
 (RUN prog R (bins .leq 5 (.tmp 6) (.const (Value.int .u8 90)) x0 (Value.int .u8 90)) w2 fun v3 w4 =>
 SPL v3
 (R (.returned (Value.bool true)) w4)
 (RUN prog R (bins .geq 5 (.tmp 10) (.const (Value.int .u8 97)) x0 (Value.int .u8 97)) w4 fun v5 w6 =>
 SPL v5
 (RUN prog R (bins .leq 5 (.tmp 13) (.const (Value.int .u8 122)) x0 (Value.int .u8 122)) w6 fun v7 w8 =>
 R (.returned v7) w8)
 (R (.returned (Value.bool false)) w6)))
 (RUN prog R (bins .geq 5 (.tmp 10) (.const (Value.int .u8 97)) x0 (Value.int .u8 97)) w2 fun v9 w10 =>
 SPL v9
 (RUN prog R (bins .leq 5 (.tmp 13) (.const (Value.int .u8 122)) x0 (Value.int .u8 122)) w10 fun v11 w12 =>
 R (.returned v11) w12)
 (R (.returned (Value.bool false)) w10))
abbrev r0 (R:EP) (z:Env) (w:World):Prop:=R (.returned (z 2)) w
abbrev q1 (R:EP):XP:=QX (r0 R) (r0 R) []
theorem b1_ok (R:EP):TI prog R code (q1 R) fun z w=>b1 R (z 0) w:=ofT
def run (R:EP) (a0:Value) (w:World):Prop:=b1 R a0 w
theorem calls (R:EP) (a0:Value) (w:World) (h:run R a0 w):Calls prog id #[a0] w R:=cls_t func60 [a0] (b1_ok R _ w h)
theorem enters:Enters prog id:=fun args w=>call60 args w
theorem ct {a0:Value} {w:World} {S:VP} (h:∀R:EP,(∀v w,S v w→R (.returned v) w)→run R a0 w):Ct prog id #[a0] w S :=
 Ct.intro enters fun R hR=>calls R a0 w (h R hR)
attribute [irreducible] b1 run
end ref03_letter

/-! ### presage/presageref03.inner -/
namespace ref03_inner
noncomputable def code:Code:=bodyOf f61
def b1 (R:EP) (x0:Value) (w:World) (_r:Tok R:=tok R):Prop :=
 CALL prog R ref03_letter.id #[x0] w fun v1 w2 =>
 SPL v1
 (R (.returned (Value.bool true)) w2)
 (RUN prog R (bins .eql 5 (.tmp 6) (.const (Value.int .u8 95)) x0 (Value.int .u8 95)) w2 fun v3 w4 =>
 SPL v3
 (R (.returned (Value.bool true)) w4)
 (RUN prog R (bins .geq 5 (.tmp 10) (.const (Value.int .u8 48)) x0 (Value.int .u8 48)) w4 fun v5 w6 =>
 SPL v5
 (RUN prog R (bins .leq 5 (.tmp 13) (.const (Value.int .u8 57)) x0 (Value.int .u8 57)) w6 fun v7 w8 =>
 R (.returned v7) w8)
 (R (.returned (Value.bool false)) w6)))
abbrev r0 (R:EP) (z:Env) (w:World):Prop:=R (.returned (z 2)) w
abbrev q1 (R:EP):XP:=QX (r0 R) (r0 R) []
theorem b1_ok (R:EP):TI prog R code (q1 R) fun z w=>b1 R (z 0) w:=ofT
def run (R:EP) (a0:Value) (w:World):Prop:=b1 R a0 w
theorem calls (R:EP) (a0:Value) (w:World) (h:run R a0 w):Calls prog id #[a0] w R:=cls_t func61 [a0] (b1_ok R _ w h)
theorem enters:Enters prog id:=fun args w=>call61 args w
theorem ct {a0:Value} {w:World} {S:VP} (h:∀R:EP,(∀v w,S v w→R (.returned v) w)→run R a0 w):Ct prog id #[a0] w S :=
 Ct.intro enters fun R hR=>calls R a0 w (h R hR)
attribute [irreducible] b1 run
end ref03_inner

/-! ### presage/presageref03.begun -/
namespace ref03_begun
noncomputable def code:Code:=bodyOf f62
noncomputable abbrev p1:Code:=dropC 2 code

def b3 (R:EP) (w:World) (_r:Tok R:=tok R):Prop :=
 R (.returned (Value.bool false)) w
abbrev r0 (R:EP) (z:Env) (w:World):Prop:=R (.returned (z 4)) w
abbrev q1 (R:EP):XP:=QX (r0 R) (r0 R) []
theorem b3_ok (R:EP):TI prog R (sndC p1) (q1 R) fun z w=>b3 R w:=ofT
noncomputable abbrev p2:Code:=dropC 1 (fstC p1)
noncomputable abbrev p3:Code:=loopC (blkC p2)
noncomputable abbrev p4:Code:=dropC 1 p3
def b9 (R:EP) (C6:VP) (x6:Value) (w:World) (_r:Tok R:=tok R) (_C6:Tok C6:=tok C6):Prop :=
 RUN prog R (bins .add 3 (.tmp 12) (.const (Value.int .i64 1)) x6 (Value.int .i64 1)) w fun v1 w2 =>
 C6 v1 w2
abbrev q2 (R:EP) (C6:VP):XP:=QX (fun z w=>C6 (z 6) w) (r0 R) [(0,(fun z w=>b3 R  w))]
theorem b9_ok (R:EP) (C6:VP):TI prog R (sndC p4) (q2 R C6) fun z w=>b9 R C6 (z 6) w:=ofT
noncomputable abbrev p5:Code:=blkC (fstC p4)
noncomputable abbrev p6:Code:=dropC 1 p5
def b12 (R:EP) (C6:VP) (x6 x44:Value) (w:World) (_r:Tok R:=tok R) (_C6:Tok C6:=tok C6):Prop :=
 SPL x44
 (R (.returned (Value.bool true)) w)
 (b9 R C6 x6 w)
abbrev q3 (R:EP) (C6:VP):XP:=QX (fun z w=>b9 R C6 (z 6) w) (r0 R) [(2,(fun z w=>b9 R C6 (z 6) w)),(0,(fun z w=>b3 R  w))]
theorem b12_ok (R:EP) (C6:VP):TI prog R p6 (q3 R C6) fun z w=>b12 R C6 (z 6) (z 44) w:=ofT
def b11 (R:EP) (C6:VP) (x0 x1 x5 x6:Value) (w:World) (_r:Tok R:=tok R) (_C6:Tok C6:=tok C6):Prop :=
 RUN prog R (indexAt 24 x5 x6) w fun v1 w2 =>
 RUN prog R (loadAt 9 v1) w2 fun v3 w4 =>
 RUN prog R (bins .eql 9 (.tmp 17) (.tmp 18) v3 x0) w4 fun v5 w6 =>
 SPL v5
 (b12 R C6 x6 (Value.bool true) w6)
 (RUN prog R (Op.unary .not x1) w6 fun v7 w8 =>
 SPL v7
 (RUN prog R (indexAt 24 x5 x6) w8 fun v9 w10 =>
 RUN prog R (loadAt 9 v9) w10 fun v11 w12 =>
 RUN prog R (Builtin.len_ #[9] 3 #[v11]) w12 fun v13 w14 =>
 RUN prog R (Builtin.len_ #[9] 3 #[x0]) w14 fun v15 w16 =>
 RUN prog R (bins .gtr 3 (.tmp 28) (.tmp 30) v13 v15) w16 fun v17 w18 =>
 SPL v17
 (RUN prog R (indexAt 24 x5 x6) w18 fun v19 w20 =>
 RUN prog R (loadAt 9 v19) w20 fun v21 w22 =>
 RUN prog R (Builtin.len_ #[9] 3 #[x0]) w22 fun v23 w24 =>
 RUN prog R (sliceAt 9 v21 none (some v23) none) w24 fun v25 w26 =>
 RUN prog R (bins .eql 9 (.tmp 40) (.tmp 41) v25 x0) w26 fun v27 w28 =>
 b12 R C6 x6 v27 w28)
 (b12 R C6 x6 (Value.bool false) w18))
 (b12 R C6 x6 (Value.bool false) w8))
theorem b11_ok (R:EP) (C6:VP):TI prog R p5 (q3 R C6) fun z w=>b11 R C6 (z 0) (z 1) (z 5) (z 6) w:=appT 0 (b12_ok R C6)
abbrev q4 (R:EP) (C6:VP):XP:=QX (fun z w=>b9 R C6 (z 6) w) (r0 R) [(0,(fun z w=>b3 R  w))]
theorem k10_ok (R:EP) (C6:VP):TI prog R (fstC p4) (q4 R C6) fun z w=>b11 R C6 (z 0) (z 1) (z 5) (z 6) w:=blockT 1 (b11_ok R C6)
theorem k8_ok (R:EP) (C6:VP):TI prog R p4 (q2 R C6) fun z w=>b11 R C6 (z 0) (z 1) (z 5) (z 6) w:=seqT (k10_ok R C6) (b9_ok R C6)
def b7 (R:EP) (C6:VP) (x0 x1 x5 x6:Value) (w:World) (_r:Tok R:=tok R) (_C6:Tok C6:=tok C6):Prop :=
 RUN prog R (Builtin.len_ #[24] 3 #[x5]) w fun v1 w2 =>
 RUN prog R (bins .lss 3 (.tmp 8) (.tmp 10) x6 v1) w2 fun v3 w4 =>
 SPL v3
 (b11 R C6 x0 x1 x5 x6 w4)
 (b3 R w4)
theorem b7_ok (R:EP) (C6:VP):TI prog R p3 (q2 R C6) fun z w=>b7 R C6 (z 0) (z 1) (z 5) (z 6) w:=appT 0 (k8_ok R C6)
def l6 (R:EP) (x0 x1 x5 x6:Value) (w:World) (_r:Tok R:=tok R):Prop :=
 ∃(J:VP) (μ:Value→World→Nat),J x6 w∧∀y6 w0,J y6 w0→b7 R (fun z6 w1=>J z6 w1∧μ z6 w1<μ y6 w0) x0 x1 x5 y6 w0
abbrev q5 (R:EP):XP:=QX (fun z w=>b3 R  w) (r0 R) [(0,(fun z w=>b3 R  w))]
theorem l6_ok (R:EP):TI prog R (blkC p2) (q5 R) fun z w=>l6 R (z 0) (z 1) (z 5) (z 6) w:=fun z w h=>by
 unfold l6 at h
 obtain ⟨J,μ,h0,hr⟩:=h
 refine loopT (fun z' w'=>J (z' 6) w') (fun z' w'=>μ (z' 6) w') h0 fun z' w' hA hI=>b7_ok R (fun z6 w1=>J z6 w1∧μ z6 w1<μ (z' 6) w') z' w' ?_
 have h1:=hr (z' 6) w' hI
 rwa [←hA.on 0,←hA.on 1,←hA.on 5] at h1
theorem l6_intro (R:EP) (x0 x1 x5 x6:Value) (w:World) (J:VP) (μ:Value→World→Nat) (h0:J x6 w)
   (hr:∀y6 w0,J y6 w0→∀C6:VP,(∀z6 w1,J z6 w1→μ z6 w1<μ y6 w0→C6 z6 w1)→b7 R C6 x0 x1 x5 y6 w0):l6 R x0 x1 x5 x6 w:=by
 unfold l6
 exact ⟨J,μ,h0,fun y6 w0 hJ=>hr y6 w0 hJ _ (fun z6 w1 h1 h2=>⟨h1,h2⟩)⟩
abbrev q6 (R:EP):XP:=QX (fun z w=>b3 R  w) (r0 R) []
theorem k5_ok (R:EP):TI prog R p2 (q6 R) fun z w=>l6 R (z 0) (z 1) (z 5) (z 6) w:=blockT 0 (l6_ok R)
def b4 (R:EP) (x0 x1 x5:Value) (w:World) (_r:Tok R:=tok R):Prop :=
 l6 R x0 x1 x5 (Value.int .i64 0) w
theorem b4_ok (R:EP):TI prog R (fstC p1) (q6 R) fun z w=>b4 R (z 0) (z 1) (z 5) w:=appT 0 (k5_ok R)
theorem k2_ok (R:EP):TI prog R p1 (q1 R) fun z w=>b4 R (z 0) (z 1) (z 5) w:=seqT (b4_ok R) (b3_ok R)
def b1 (R:EP) (x0 x1:Value) (w:World) (_r:Tok R:=tok R):Prop :=
 CALL prog R ref03_Orders.id #[] w fun v1 w2 =>
 b4 R x0 x1 v1 w2
theorem b1_ok (R:EP):TI prog R code (q1 R) fun z w=>b1 R (z 0) (z 1) w:=appT 1 (k2_ok R)
def run (R:EP) (a0 a1:Value) (w:World):Prop:=b1 R a0 a1 w
theorem calls (R:EP) (a0 a1:Value) (w:World) (h:run R a0 a1 w):Calls prog id #[a0,a1] w R:=cls_t func62 [a0,a1] (b1_ok R _ w h)
theorem enters:Enters prog id:=fun args w=>call62 args w
theorem ct {a0 a1:Value} {w:World} {S:VP} (h:∀R:EP,(∀v w,S v w→R (.returned v) w)→run R a0 a1 w):Ct prog id #[a0,a1] w S :=
 Ct.intro enters fun R hR=>calls R a0 a1 w (h R hR)
attribute [irreducible] b3 b9 b12 b11 b7 l6 b4 b1 run
end ref03_begun

/-! ### presage/presageref03.Orders -/
namespace ref03_Orders
noncomputable def code:Code:=bodyOf f89

def b1 (R:EP) (w:World) (_r:Tok R:=tok R):Prop :=
 RUN prog R (buildSlice 24 7 #[(0,(Value.string ⟨#[37,116,111,107,101,110]⟩)),(1,(Value.string ⟨#[37,108,101,102,116]⟩)),(2,(Value.string ⟨#[37,114,105,103,104,116]⟩)),(3,(Value.string ⟨#[37,110,111,110,97,115,115,111,99]⟩)),(4,(Value.string ⟨#[37,115,116,97,114,116]⟩)),(5,(Value.string ⟨#[37,112,114,101,99]⟩)),(6,(Value.string ⟨#[37,110,111,110,101]⟩))]) w fun v1 w2 =>
 R (.returned v1) w2
abbrev r0 (R:EP) (z:Env) (w:World):Prop:=R (.returned (z 0)) w
abbrev q1 (R:EP):XP:=QX (r0 R) (r0 R) []
theorem b1_ok (R:EP):TI prog R code (q1 R) fun z w=>b1 R w:=ofT
def run (R:EP) (w:World):Prop:=b1 R w
theorem calls (R:EP) (w:World) (h:run R w):Calls prog id #[] w R:=cls_t func89 [] (b1_ok R _ w h)
theorem enters:Enters prog id:=fun args w=>call89 args w
theorem ct {w:World} {S:VP} (h:∀R:EP,(∀v w,S v w→R (.returned v) w)→run R w):Ct prog id #[] w S :=
 Ct.intro enters fun R hR=>calls R w (h R hR)
attribute [irreducible] b1 run
end ref03_Orders
end Go.Proofs.YtckbgeedlobfaaaDoor

/- Shallow programs, written by a program of ours (gen.py) off the translation; each is tied to the code by the kernel. -/
namespace Go.Proofs.YtckbgeedlobfaaaDoor
open Go.Px Tryd Instr

end Go.Proofs.YtckbgeedlobfaaaDoor
