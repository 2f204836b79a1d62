/-
  Texts of this claim: T03R, T03All.
-/
import Derived.Test.YtckbgeedlobfaaaDoorY04
import Derived.Test.YtckbgeedlobfaaaDoorY06
set_option linter.unusedVariables false
set_option maxRecDepth 100000
/- Shallow programs, written by a program of ours (gen.py) off the translation; each is tied to the code by the kernel. -/
namespace Go.Proofs.YtckbgeedlobfaaaDoor
open Go.Px Tryd
abbrev cP3 (R:EP):=codeP prog (pan R)
variable (R:EP) (ρ:Env) (w:World)

/-! ### presage/presageref03.All -/
namespace ref03_All
noncomputable def code:Code:=bodyOf f17
noncomputable abbrev p1:Code:=dropC 3 code
def b3 (x4:Value) (w:World) (_r:Tok R:=tok R):Prop :=
 R (.returned (.tuple #[x4,(.int .i64 (-1))])) w
abbrev q1:XP:=QX (fun ρ w=>R (.returned (.tuple #[(ρ 2),(ρ 3)])) w) (fun ρ w=>R (.returned (.tuple #[(ρ 2),(ρ 3)])) w) []
theorem b3_ok (h:b3 R (ρ 4) w):cP3 R (sndC p1) (q1 R) ρ w:=cast (by kernel_rfl) h
noncomputable abbrev p2:Code:=dropC 1 (fstC p1)
noncomputable abbrev p3:Code:=loopC (blkC p2)
def b7 (C6:Value→VP) (x0 x4 x5:Value) (w:World) (_r:Tok R:=tok R) (_C6:Tok C6:=tok C6):Prop :=
 RUN prog (pan R) (Builtin.len_ #[9] 3 #[x0]) w fun v1 w2 =>
 RUN prog (pan R) (bins .lss 3 (.tmp 14) (.tmp 16) x5 v1) w2 fun v3 w4 =>
 SPL v3
 (CALL prog (pan R) ref03_One.id #[x0,x5] w4 fun v5 w6 =>
 RUN prog (pan R) (Instr.extract v5 0) w6 fun v7 w8 =>
 RUN prog (pan R) (Instr.extract v5 1) w8 fun v9 w10 =>
 RUN prog (pan R) (Instr.extract v5 2) w10 fun v11 w12 =>
 RUN prog (pan R) (Instr.alloc 46 true (.tuple #[])) w12 fun v13 w14 =>
 RUNU prog (pan R) (Instr.storeAt 46 v13 v7) w14 fun w15 =>
 RUN prog (pan R) (bins .geq 3 (.tmp 25) (.const (.int .i64 0)) v11 (.int .i64 0)) w15 fun v16 w17 =>
 SPL v16
 (R (.returned (.tuple #[x4,v11])) w17)
 (RUN prog (pan R) (Instr.loadAt 46 v13) w17 fun v18 w19 =>
 RUN prog (pan R) (Instr.buildSlice 41 1 #[(0,v18)]) w19 fun v20 w21 =>
 RUN prog (pan R) (Builtin.append_ #[41,41] 41 #[x4,v20]) w21 fun v22 w23 =>
 CALL prog (pan R) ref03_Skip.id #[x0,v9] w23 fun v24 w25 =>
 C6 v22 v24 w25))
 (b3 R x4 w4)
abbrev q2 (C6:Value→VP):XP:=QX (fun ρ w=>C6 (ρ 4) (ρ 5) w) (fun ρ w=>R (.returned (.tuple #[(ρ 2),(ρ 3)])) w) [(0,(fun ρ w=>b3 R (ρ 4) w))]
theorem b7_ok (R:EP) (C6:Value→VP) (ρ:Env) (w:World) (h:b7 R C6 (ρ 0) (ρ 4) (ρ 5) w):cP3 R p3 (q2 R C6) ρ w:=cast (by kernel_rfl) h
def l6 (x0 x4 x5:Value) (w:World) (_r:Tok R:=tok R):Prop :=
 ∃(J:Value→VP) (μ:Value→Value→World→Nat),J x4 x5 w∧∀y4 y5 w0,J y4 y5 w0→b7 R (fun z4 z5 w1=>J z4 z5 w1∧μ z4 z5 w1<μ y4 y5 w0) x0 y4 y5 w0
abbrev q3:XP:=QX (fun ρ w=>b3 R (ρ 4) w) (fun ρ w=>R (.returned (.tuple #[(ρ 2),(ρ 3)])) w) [(0,(fun ρ w=>b3 R (ρ 4) w))]
theorem l6_ok (h:l6 R (ρ 0) (ρ 4) (ρ 5) w):cP3 R (blkC p2) (q3 R) ρ w:=by
 unfold l6 at h
 obtain ⟨J,μ,h0,hr⟩:=h
 have e:Code.loop (loopC (blkC p2))=(blkC p2):=by kernel_rfl
 rw [←e]
 refine loopQ (fun ρ' w'=>J (ρ' 4) (ρ' 5) w') (fun ρ' w'=>μ (ρ' 4) (ρ' 5) w') h0 fun ρ' w' hA hI=>?_
 have e0:ρ' 0=ρ 0:=Agree.at hA 0 (by kernel_rfl)
 have h1:=hr (ρ' 4) (ρ' 5) w' hI
 rw [←e0] at h1
 exact b7_ok R (fun z4 z5 w1=>J z4 z5 w1∧μ z4 z5 w1<μ (ρ' 4) (ρ' 5) w') ρ' w' h1
theorem l6_intro (R:EP) (x0 x4 x5:Value) (w:World) (J:Value→VP) (μ:Value→Value→World→Nat) (h0:J x4 x5 w)
  (hr:∀y4 y5 w0,J y4 y5 w0→∀C6:Value→VP,(∀z4 z5 w1,J z4 z5 w1→μ z4 z5 w1<μ y4 y5 w0→C6 z4 z5 w1)→b7 R C6 x0 y4 y5 w0):l6 R x0 x4 x5 w:=by
 unfold l6
 exact ⟨J,μ,h0,fun y4 y5 w0 hJ=>hr y4 y5 w0 hJ _ (fun z4 z5 w1 h1 h2=>⟨h1,h2⟩)⟩
abbrev q4:XP:=QX (fun ρ w=>b3 R (ρ 4) w) (fun ρ w=>R (.returned (.tuple #[(ρ 2),(ρ 3)])) w) []
theorem k5_ok (h:l6 R (ρ 0) (ρ 4) (ρ 5) w):cP3 R p2 (q4 R) ρ w:=by
 have e:Code.block 0 (blkC p2)=p2:=by kernel_rfl
 rw [←e]
 exact blockQ (l6_ok R ρ w h)
def b4 (x0 x4:Value) (w:World) (_r:Tok R:=tok R):Prop :=
 CALL prog (pan R) ref03_Skip.id #[x0,(.int .i64 0)] w fun v1 w2 =>
 l6 R x0 x4 v1 w2
abbrev q5:XP:=QX (fun ρ w=>l6 R (ρ 0) (ρ 4) (ρ 5) w) (fun ρ w=>R (.returned (.tuple #[(ρ 2),(ρ 3)])) w) []
theorem b4_eq:(b4 R (ρ 0) (ρ 4) w)=cP3 R (preC 0 (fstC p1)) (q5 R) ρ w:=by kernel_rfl
theorem b4_ok (h:b4 R (ρ 0) (ρ 4) w):cP3 R (fstC p1) (q4 R) ρ w:=by
 have e:appC 0 (preC 0 (fstC p1)) (dropC 1 (fstC p1))=(fstC p1):=by kernel_rfl
 rw [←e]
 exact appQ (fun ρ w=>l6 R (ρ 0) (ρ 4) (ρ 5) w) 0 ((b4_eq R ρ w).mp h) (fun ρ w h=>k5_ok R ρ w h)
theorem k2_ok (h:b4 R (ρ 0) (ρ 4) w):cP3 R p1 (q1 R) ρ w:=by
 have e:Code.seq (fstC p1) (sndC p1)=p1:=by kernel_rfl
 rw [←e]
 exact seqQ (fun ρ w=>b3 R (ρ 4) w) (b4_ok R ρ w h) (fun ρ w h=>b3_ok R ρ w h)
def b1 (x0:Value) (w:World) (_r:Tok R:=tok R):Prop :=
 RUN prog (pan R) (Builtin.len_ #[9] 3 #[x0]) w fun v1 w2 =>
 RUN prog (pan R) (bins .gtr 3 (.tmp 10) (.const (.int .i64 8192)) v1 (.int .i64 8192)) w2 fun v3 w4 =>
 SPL v3
 (R (.returned (.tuple #[(.slice Option.none 0 0),(.int .i64 8192)])) w4)
 (b4 R x0 (.slice Option.none 0 0) w4)
abbrev q6:XP:=QX (fun ρ w=>b4 R (ρ 0) (ρ 4) w) (fun ρ w=>R (.returned (.tuple #[(ρ 2),(ρ 3)])) w) []
theorem b1_eq:(b1 R (ρ 0) w)=cP3 R (preC 2 code) (q6 R) ρ w:=by kernel_rfl
theorem b1_ok (h:b1 R (ρ 0) w):cP3 R code (q1 R) ρ w:=by
 have e:appC 2 (preC 2 code) (dropC 3 code)=code:=by kernel_rfl
 rw [←e]
 exact appQ (fun ρ w=>b4 R (ρ 0) (ρ 4) w) 2 ((b1_eq R ρ w).mp h) (fun ρ w h=>k2_ok R ρ w h)
/-- What is owed for a call. -/
def run (a0:Value) (w:World):Prop:=b1 R a0 w
theorem calls (R:EP) (a0:Value) (w:World) (h:run R a0 w):Calls prog id #[a0] w R :=
 calls_of_tt (f:=id) (fn:=f17) (c:=code) (by kernel_rfl) func17 (by kernel_rfl) (by kernel_rfl) (args:=[a0]) (Nat.le_of_ble_eq_true rfl) rfl (b1_ok R (envOf [a0]) w h)
theorem enters:Enters prog id:=fun args w=>call17 args w
theorem ct {a0:Value} {w:World} {S:VP} (h:∀R:EP,(∀v w,S v w→R (.returned v) w)→run R a0 w):Ct prog id #[a0] w S :=
 Ct.intro enters fun R hR=>calls R a0 w (h R hR)
attribute [irreducible] b3 b7 l6 b4 b1 run
end ref03_All

/-! ### presage/presageref03.Skip -/
namespace ref03_Skip
noncomputable def code:Code:=bodyOf f34
noncomputable abbrev p1:Code:=dropC 2 code
def b3 (x1:Value) (w:World) (_r:Tok R:=tok R):Prop :=
 R (.returned x1) w
abbrev q1:XP:=QX (fun ρ w=>R (.returned (ρ 4)) w) (fun ρ w=>R (.returned (ρ 4)) w) []
theorem b3_ok (h:b3 R (ρ 1) w):cP3 R (sndC p1) (q1 R) ρ w:=cast (by kernel_rfl) h
noncomputable abbrev p2:Code:=blkC (fstC p1)
noncomputable abbrev p3:Code:=dropC 1 (loopC p2)
noncomputable abbrev p4:Code:=dropC 2 (blkC p3)
noncomputable abbrev p5:Code:=dropC 1 p4
def b10 (C5:Value→VP) (x1 x5:Value) (w:World) (_r:Tok R:=tok R) (_C5:Tok C5:=tok C5):Prop :=
 RUN prog (pan R) (bins .add 3 (.tmp 40) (.const (.int .i64 1)) x1 (.int .i64 1)) w fun v1 w2 =>
 C5 v1 x5 w2
abbrev q2 (C5:Value→VP):XP:=QX (fun ρ w=>C5 (ρ 1) (ρ 5) w) (fun ρ w=>R (.returned (ρ 4)) w) [(2,(fun ρ w=>C5 (ρ 1) (ρ 5) w)),(0,(fun ρ w=>b3 R (ρ 1) w))]
theorem b10_ok (R:EP) (C5:Value→VP) (ρ:Env) (w:World) (h:b10 R C5 (ρ 1) (ρ 5) w):cP3 R p5 (q2 R C5) ρ w:=cast (by kernel_rfl) h
def b9 (C5:Value→VP) (x1 x5 x6 x7:Value) (w:World) (_r:Tok R:=tok R) (_C5:Tok C5:=tok C5):Prop :=
 SPL x5
 (RUN prog (pan R) (bins .neq 5 (.tmp 31) (.const (.int .u8 10)) x6 (.int .u8 10)) w fun v1 w2 =>
 b10 R C5 x1 v1 w2)
 (RUN prog (pan R) (bins .eql 5 (.tmp 34) (.const (.int .u8 35)) x6 (.int .u8 35)) w fun v3 w4 =>
 SPL v3
 (b10 R C5 x1 (.bool Bool.true) w4)
 (RUN prog (pan R) (Op.unary .not x7) w4 fun v5 w6 =>
 SPL v5
 (R (.returned x1) w6)
 (b10 R C5 x1 x5 w6)))
abbrev q3 (C5:Value→VP):XP:=QX (fun ρ w=>b10 R C5 (ρ 1) (ρ 5) w) (fun ρ w=>R (.returned (ρ 4)) w) [(2,(fun ρ w=>C5 (ρ 1) (ρ 5) w)),(0,(fun ρ w=>b3 R (ρ 1) w))]
theorem b9_eq (R:EP) (C5:Value→VP) (ρ:Env) (w:World):(b9 R C5 (ρ 1) (ρ 5) (ρ 6) (ρ 7) w)=cP3 R (preC 0 p4) (q3 R C5) ρ w:=by kernel_rfl
theorem b9_ok (R:EP) (C5:Value→VP) (ρ:Env) (w:World) (h:b9 R C5 (ρ 1) (ρ 5) (ρ 6) (ρ 7) w):cP3 R p4 (q2 R C5) ρ w:=by
 have e:appC 0 (preC 0 p4) (dropC 1 p4)=p4:=by kernel_rfl
 rw [←e]
 exact appQ (fun ρ w=>b10 R C5 (ρ 1) (ρ 5) w) 0 ((b9_eq R C5 ρ w).mp h) (fun ρ w h=>b10_ok R C5 ρ w h)
def b8 (C5:Value→VP) (x0 x1 x5:Value) (w:World) (_r:Tok R:=tok R) (_C5:Tok C5:=tok C5):Prop :=
 RUN prog (pan R) (Instr.index 9 x0 x1) w fun v1 w2 =>
 RUN prog (pan R) (bins .eql 5 (.tmp 15) (.const (.int .u8 32)) v1 (.int .u8 32)) w2 fun v3 w4 =>
 SPL v3
 (b9 R C5 x1 x5 v1 (.bool Bool.true) w4)
 (RUN prog (pan R) (bins .eql 5 (.tmp 18) (.const (.int .u8 9)) v1 (.int .u8 9)) w4 fun v5 w6 =>
 SPL v5
 (b9 R C5 x1 x5 v1 (.bool Bool.true) w6)
 (RUN prog (pan R) (bins .eql 5 (.tmp 22) (.const (.int .u8 10)) v1 (.int .u8 10)) w6 fun v7 w8 =>
 SPL v7
 (b9 R C5 x1 x5 v1 (.bool Bool.true) w8)
 (RUN prog (pan R) (bins .eql 5 (.tmp 26) (.const (.int .u8 13)) v1 (.int .u8 13)) w8 fun v9 w10 =>
 b9 R C5 x1 x5 v1 v9 w10)))
abbrev q4 (C5:Value→VP):XP:=QX (fun ρ w=>b9 R C5 (ρ 1) (ρ 5) (ρ 6) (ρ 7) w) (fun ρ w=>R (.returned (ρ 4)) w) [(2,(fun ρ w=>C5 (ρ 1) (ρ 5) w)),(0,(fun ρ w=>b3 R (ρ 1) w))]
theorem b8_eq (R:EP) (C5:Value→VP) (ρ:Env) (w:World):(b8 R C5 (ρ 0) (ρ 1) (ρ 5) w)=cP3 R (preC 1 (blkC p3)) (q4 R C5) ρ w:=by kernel_rfl
theorem b8_ok (R:EP) (C5:Value→VP) (ρ:Env) (w:World) (h:b8 R C5 (ρ 0) (ρ 1) (ρ 5) w):cP3 R (blkC p3) (q2 R C5) ρ w:=by
 have e:appC 1 (preC 1 (blkC p3)) (dropC 2 (blkC p3))=(blkC p3):=by kernel_rfl
 rw [←e]
 exact appQ (fun ρ w=>b9 R C5 (ρ 1) (ρ 5) (ρ 6) (ρ 7) w) 1 ((b8_eq R C5 ρ w).mp h) (fun ρ w h=>b9_ok R C5 ρ w h)
abbrev q5 (C5:Value→VP):XP:=QX (fun ρ w=>C5 (ρ 1) (ρ 5) w) (fun ρ w=>R (.returned (ρ 4)) w) [(0,(fun ρ w=>b3 R (ρ 1) w))]
theorem k7_ok (R:EP) (C5:Value→VP) (ρ:Env) (w:World) (h:b8 R C5 (ρ 0) (ρ 1) (ρ 5) w):cP3 R p3 (q5 R C5) ρ w:=by
 have e:Code.block 1 (blkC p3)=p3:=by kernel_rfl
 rw [←e]
 exact blockQ (b8_ok R C5 ρ w h)
def b6 (C5:Value→VP) (x0 x1 x5:Value) (w:World) (_r:Tok R:=tok R) (_C5:Tok C5:=tok C5):Prop :=
 RUN prog (pan R) (Builtin.len_ #[9] 3 #[x0]) w fun v1 w2 =>
 RUN prog (pan R) (bins .lss 3 (.tmp 8) (.tmp 10) x1 v1) w2 fun v3 w4 =>
 SPL v3
 (b8 R C5 x0 x1 x5 w4)
 (b3 R x1 w4)
abbrev q6 (C5:Value→VP):XP:=QX (fun ρ w=>b8 R C5 (ρ 0) (ρ 1) (ρ 5) w) (fun ρ w=>R (.returned (ρ 4)) w) [(0,(fun ρ w=>b3 R (ρ 1) w))]
theorem b6_eq (R:EP) (C5:Value→VP) (ρ:Env) (w:World):(b6 R C5 (ρ 0) (ρ 1) (ρ 5) w)=cP3 R (preC 0 (loopC p2)) (q6 R C5) ρ w:=by kernel_rfl
theorem b6_ok (R:EP) (C5:Value→VP) (ρ:Env) (w:World) (h:b6 R C5 (ρ 0) (ρ 1) (ρ 5) w):cP3 R (loopC p2) (q5 R C5) ρ w:=by
 have e:appC 0 (preC 0 (loopC p2)) (dropC 1 (loopC p2))=(loopC p2):=by kernel_rfl
 rw [←e]
 exact appQ (fun ρ w=>b8 R C5 (ρ 0) (ρ 1) (ρ 5) w) 0 ((b6_eq R C5 ρ w).mp h) (fun ρ w h=>k7_ok R C5 ρ w h)
def l5 (x0 x1 x5:Value) (w:World) (_r:Tok R:=tok R):Prop :=
 ∃(J:Value→VP) (μ:Value→Value→World→Nat),J x1 x5 w∧∀y1 y5 w0,J y1 y5 w0→b6 R (fun z1 z5 w1=>J z1 z5 w1∧μ z1 z5 w1<μ y1 y5 w0) x0 y1 y5 w0
abbrev q7:XP:=QX (fun ρ w=>b3 R (ρ 1) w) (fun ρ w=>R (.returned (ρ 4)) w) [(0,(fun ρ w=>b3 R (ρ 1) w))]
theorem l5_ok (h:l5 R (ρ 0) (ρ 1) (ρ 5) w):cP3 R p2 (q7 R) ρ w:=by
 unfold l5 at h
 obtain ⟨J,μ,h0,hr⟩:=h
 have e:Code.loop (loopC p2)=p2:=by kernel_rfl
 rw [←e]
 refine loopQ (fun ρ' w'=>J (ρ' 1) (ρ' 5) w') (fun ρ' w'=>μ (ρ' 1) (ρ' 5) w') h0 fun ρ' w' hA hI=>?_
 have e0:ρ' 0=ρ 0:=Agree.at hA 0 (by kernel_rfl)
 have h1:=hr (ρ' 1) (ρ' 5) w' hI
 rw [←e0] at h1
 exact b6_ok R (fun z1 z5 w1=>J z1 z5 w1∧μ z1 z5 w1<μ (ρ' 1) (ρ' 5) w') ρ' w' h1
theorem l5_intro (R:EP) (x0 x1 x5:Value) (w:World) (J:Value→VP) (μ:Value→Value→World→Nat) (h0:J x1 x5 w)
  (hr:∀y1 y5 w0,J y1 y5 w0→∀C5:Value→VP,(∀z1 z5 w1,J z1 z5 w1→μ z1 z5 w1<μ y1 y5 w0→C5 z1 z5 w1)→b6 R C5 x0 y1 y5 w0):l5 R x0 x1 x5 w:=by
 unfold l5
 exact ⟨J,μ,h0,fun y1 y5 w0 hJ=>hr y1 y5 w0 hJ _ (fun z1 z5 w1 h1 h2=>⟨h1,h2⟩)⟩
abbrev q8:XP:=QX (fun ρ w=>b3 R (ρ 1) w) (fun ρ w=>R (.returned (ρ 4)) w) []
theorem k4_ok (h:l5 R (ρ 0) (ρ 1) (ρ 5) w):cP3 R (fstC p1) (q8 R) ρ w:=by
 have e:Code.block 0 (blkC (fstC p1))=(fstC p1):=by kernel_rfl
 rw [←e]
 exact blockQ (l5_ok R ρ w h)
theorem k2_ok (h:l5 R (ρ 0) (ρ 1) (ρ 5) w):cP3 R p1 (q1 R) ρ w:=by
 have e:Code.seq (fstC p1) (sndC p1)=p1:=by kernel_rfl
 rw [←e]
 exact seqQ (fun ρ w=>b3 R (ρ 1) w) (k4_ok R ρ w h) (fun ρ w h=>b3_ok R ρ w h)
def b1 (x0 x1:Value) (w:World) (_r:Tok R:=tok R):Prop :=
 l5 R x0 x1 (.bool Bool.false) w
abbrev q9:XP:=QX (fun ρ w=>l5 R (ρ 0) (ρ 1) (ρ 5) w) (fun ρ w=>R (.returned (ρ 4)) w) []
theorem b1_eq:(b1 R (ρ 0) (ρ 1) w)=cP3 R (preC 1 code) (q9 R) ρ w:=by kernel_rfl
theorem b1_ok (h:b1 R (ρ 0) (ρ 1) w):cP3 R code (q1 R) ρ w:=by
 have e:appC 1 (preC 1 code) (dropC 2 code)=code:=by kernel_rfl
 rw [←e]
 exact appQ (fun ρ w=>l5 R (ρ 0) (ρ 1) (ρ 5) w) 1 ((b1_eq R ρ w).mp h) (fun ρ w h=>k2_ok R ρ w h)
/-- What is owed for a call. -/
def run (a0 a1:Value) (w:World):Prop:=b1 R a0 a1 w
theorem calls (R:EP) (a0 a1:Value) (w:World) (h:run R a0 a1 w):Calls prog id #[a0,a1] w R :=
 calls_of_t (f:=id) (fn:=f34) (c:=code) (by kernel_rfl) func34 (by kernel_rfl) (by kernel_rfl) (args:=[a0,a1]) (Nat.le_of_ble_eq_true rfl) rfl (b1_ok R (envOf [a0,a1]) w h)
theorem enters:Enters prog id:=fun args w=>call34 args w
theorem ct {a0 a1:Value} {w:World} {S:VP} (h:∀R:EP,(∀v w,S v w→R (.returned v) w)→run R a0 a1 w):Ct prog id #[a0,a1] w S :=
 Ct.intro enters fun R hR=>calls R a0 a1 w (h R hR)
attribute [irreducible] b3 b10 b9 b8 b6 l5 b1 run
end ref03_Skip

/-! ### presage/presageref03.One -/
namespace ref03_One
noncomputable def code:Code:=bodyOf f35
noncomputable abbrev p1:Code:=dropC 3 code

def b3 (x1 x4:Value) (w:World) (_r:Tok R:=tok R):Prop :=
 RUN prog (pan R) (Instr.build 46 #[]) w fun v1 w2 =>
 RUNU prog (pan R) (Instr.storeAt 46 x4 v1) w2 fun w3 =>
 LD prog (Instr.loadAt 46 x4) w3 fun r0=>R (.returned (.tuple #[r0,(.int .i64 0),x1])) w3
abbrev q1:XP:=QX (fun ρ w=>LD prog (Instr.loadAt 46 (ρ 4)) w fun r0=>R (.returned (.tuple #[r0,(ρ 5),(ρ 6)])) w) (fun ρ w=>LD prog (Instr.loadAt 46 (ρ 4)) w fun r0=>R (.returned (.tuple #[r0,(ρ 5),(ρ 6)])) w) []
theorem b3_ok (h:b3 R (ρ 1) (ρ 4) w):cP3 R (sndC p1) (q1 R) ρ w:=cast (by kernel_rfl) h
noncomputable abbrev p2:Code:=blkC (fstC p1)
noncomputable abbrev p3:Code:=dropC 1 p2

def b7 (x0 x1 x4 x8:Value) (w:World) (_r:Tok R:=tok R):Prop :=
 RUN prog (pan R) (Instr.sliceAt 9 x0 (some x1) (some x8) none) w fun v1 w2 =>
 RUN prog (pan R) (Instr.build 46 #[(0,(.int .i64 4)),(1,v1),(2,x1)]) w2 fun v3 w4 =>
 RUNU prog (pan R) (Instr.storeAt 46 x4 v3) w4 fun w5 =>
 LD prog (Instr.loadAt 46 x4) w5 fun r0=>R (.returned (.tuple #[r0,x8,(.int .i64 (-1))])) w5
abbrev q2:XP:=QX (fun ρ w=>b3 R (ρ 1) (ρ 4) w) (fun ρ w=>LD prog (Instr.loadAt 46 (ρ 4)) w fun r0=>R (.returned (.tuple #[r0,(ρ 5),(ρ 6)])) w) [(0,(fun ρ w=>b3 R (ρ 1) (ρ 4) w))]
theorem b7_ok (h:b7 R (ρ 0) (ρ 1) (ρ 4) (ρ 8) w):cP3 R (thnC p3) (q2 R) ρ w:=cast (by kernel_rfl) h
noncomputable abbrev p4:Code:=dropC 1 (elsC p3)
noncomputable abbrev p5:Code:=sndC (thnC p4)

def b11 (x0 x1 x4 x8:Value) (w:World) (_r:Tok R:=tok R):Prop :=
 RUN prog (pan R) (Instr.sliceAt 9 x0 (some x1) (some x8) none) w fun v1 w2 =>
 RUN prog (pan R) (Instr.build 46 #[(0,(.int .i64 1)),(1,v1),(2,x1)]) w2 fun v3 w4 =>
 RUNU prog (pan R) (Instr.storeAt 46 x4 v3) w4 fun w5 =>
 LD prog (Instr.loadAt 46 x4) w5 fun r0=>R (.returned (.tuple #[r0,x8,(.int .i64 (-1))])) w5
theorem b11_ok (h:b11 R (ρ 0) (ρ 1) (ρ 4) (ρ 8) w):cP3 R p5 (q2 R) ρ w:=cast (by kernel_rfl) h
noncomputable abbrev p6:Code:=fstC (thnC p4)
noncomputable abbrev p7:Code:=loopC (blkC p6)

def b15 (C13:VP) (x1 x4 x8:Value) (w:World) (_r:Tok R:=tok R) (_C13:Tok C13:=tok C13):Prop :=
 RUN prog (pan R) (bins .sub 3 (.tmp 49) (.tmp 50) x8 x1) w fun v1 w2 =>
 RUN prog (pan R) (bins .eql 3 (.tmp 51) (.const (.int .i64 16)) v1 (.int .i64 16)) w2 fun v3 w4 =>
 SPL v3
 (RUN prog (pan R) (Instr.build 46 #[]) w4 fun v5 w6 =>
 RUNU prog (pan R) (Instr.storeAt 46 x4 v5) w6 fun w7 =>
 LD prog (Instr.loadAt 46 x4) w7 fun r0=>R (.returned (.tuple #[r0,(.int .i64 0),x8])) w7)
 (RUN prog (pan R) (bins .add 3 (.tmp 55) (.const (.int .i64 1)) x8 (.int .i64 1)) w4 fun v8 w9 =>
 C13 v8 w9)
abbrev q3 (C13:VP):XP:=QX (fun ρ w=>C13 (ρ 8) w) (fun ρ w=>LD prog (Instr.loadAt 46 (ρ 4)) w fun r0=>R (.returned (.tuple #[r0,(ρ 5),(ρ 6)])) w) [(2,(fun ρ w=>b11 R (ρ 0) (ρ 1) (ρ 4) (ρ 8) w)),(0,(fun ρ w=>b3 R (ρ 1) (ρ 4) w))]
theorem b15_ok (R:EP) (C13:VP) (ρ:Env) (w:World) (h:b15 R C13 (ρ 1) (ρ 4) (ρ 8) w):cP3 R (sndC p7) (q3 R C13) ρ w:=cast (by kernel_rfl) h
noncomputable abbrev p8:Code:=dropC 1 (fstC p7)

def b17 (C13:VP) (x0 x1 x4 x8 x48:Value) (w:World) (_r:Tok R:=tok R) (_C13:Tok C13:=tok C13):Prop :=
 SPL x48
 (b15 R C13 x1 x4 x8 w)
 (b11 R x0 x1 x4 x8 w)
abbrev q4 (C13:VP):XP:=QX (fun ρ w=>b15 R C13 (ρ 1) (ρ 4) (ρ 8) w) (fun ρ w=>LD prog (Instr.loadAt 46 (ρ 4)) w fun r0=>R (.returned (.tuple #[r0,(ρ 5),(ρ 6)])) w) [(2,(fun ρ w=>b11 R (ρ 0) (ρ 1) (ρ 4) (ρ 8) w)),(0,(fun ρ w=>b3 R (ρ 1) (ρ 4) w))]
theorem b17_ok (R:EP) (C13:VP) (ρ:Env) (w:World) (h:b17 R C13 (ρ 0) (ρ 1) (ρ 4) (ρ 8) (ρ 48) w):cP3 R p8 (q4 R C13) ρ w:=cast (by kernel_rfl) h

def b16 (C13:VP) (x0 x1 x4 x8:Value) (w:World) (_r:Tok R:=tok R) (_C13:Tok C13:=tok C13):Prop :=
 RUN prog (pan R) (Builtin.len_ #[9] 3 #[x0]) w fun v1 w2 =>
 RUN prog (pan R) (bins .lss 3 (.tmp 39) (.tmp 41) x8 v1) w2 fun v3 w4 =>
 SPL v3
 (RUN prog (pan R) (Instr.index 9 x0 x8) w4 fun v5 w6 =>
 CALL prog (pan R) ref03_inner.id #[v5] w6 fun v7 w8 =>
 b17 R C13 x0 x1 x4 x8 v7 w8)
 (b17 R C13 x0 x1 x4 x8 (.bool Bool.false) w4)
abbrev q5 (C13:VP):XP:=QX (fun ρ w=>b17 R C13 (ρ 0) (ρ 1) (ρ 4) (ρ 8) (ρ 48) w) (fun ρ w=>LD prog (Instr.loadAt 46 (ρ 4)) w fun r0=>R (.returned (.tuple #[r0,(ρ 5),(ρ 6)])) w) [(2,(fun ρ w=>b11 R (ρ 0) (ρ 1) (ρ 4) (ρ 8) w)),(0,(fun ρ w=>b3 R (ρ 1) (ρ 4) w))]
theorem b16_eq (R:EP) (C13:VP) (ρ:Env) (w:World):(b16 R C13 (ρ 0) (ρ 1) (ρ 4) (ρ 8) w)=cP3 R (preC 0 (fstC p7)) (q5 R C13) ρ w:=by kernel_rfl
theorem b16_ok (R:EP) (C13:VP) (ρ:Env) (w:World) (h:b16 R C13 (ρ 0) (ρ 1) (ρ 4) (ρ 8) w):cP3 R (fstC p7) (q4 R C13) ρ w:=by
 have e:appC 0 (preC 0 (fstC p7)) (dropC 1 (fstC p7))=(fstC p7):=by kernel_rfl
 rw [←e]
 exact appQ (fun ρ w=>b17 R C13 (ρ 0) (ρ 1) (ρ 4) (ρ 8) (ρ 48) w) 0 ((b16_eq R C13 ρ w).mp h) (fun ρ w h=>b17_ok R C13 ρ w h)
theorem k14_ok (R:EP) (C13:VP) (ρ:Env) (w:World) (h:b16 R C13 (ρ 0) (ρ 1) (ρ 4) (ρ 8) w):cP3 R p7 (q3 R C13) ρ w:=by
 have e:Code.seq (fstC p7) (sndC p7)=p7:=by kernel_rfl
 rw [←e]
 exact seqQ (fun ρ w=>b15 R C13 (ρ 1) (ρ 4) (ρ 8) w) (b16_ok R C13 ρ w h) (fun ρ w h=>b15_ok R C13 ρ w h)

def l13 (x0 x1 x4 x8:Value) (w:World) (_r:Tok R:=tok R):Prop :=
 ∃(J:VP) (μ:Value→World→Nat),J x8 w∧∀y8 w0,J y8 w0→b16 R (fun z8 w1=>J z8 w1∧μ z8 w1<μ y8 w0) x0 x1 x4 y8 w0
abbrev q6:XP:=QX (fun ρ w=>b11 R (ρ 0) (ρ 1) (ρ 4) (ρ 8) w) (fun ρ w=>LD prog (Instr.loadAt 46 (ρ 4)) w fun r0=>R (.returned (.tuple #[r0,(ρ 5),(ρ 6)])) w) [(2,(fun ρ w=>b11 R (ρ 0) (ρ 1) (ρ 4) (ρ 8) w)),(0,(fun ρ w=>b3 R (ρ 1) (ρ 4) w))]
theorem l13_ok (h:l13 R (ρ 0) (ρ 1) (ρ 4) (ρ 8) w):cP3 R (blkC p6) (q6 R) ρ w:=by
 unfold l13 at h
 obtain ⟨J,μ,h0,hr⟩:=h
 have e:Code.loop (loopC (blkC p6))=(blkC p6):=by kernel_rfl
 rw [←e]
 refine loopQ (fun ρ' w'=>J (ρ' 8) w') (fun ρ' w'=>μ (ρ' 8) w') h0 fun ρ' w' hA hI=>?_
 have e0:ρ' 0=ρ 0:=Agree.at hA 0 (by kernel_rfl)
 have e1:ρ' 1=ρ 1:=Agree.at hA 1 (by kernel_rfl)
 have e4:ρ' 4=ρ 4:=Agree.at hA 4 (by kernel_rfl)
 have h1:=hr (ρ' 8) w' hI
 rw [←e0,←e1,←e4] at h1
 exact k14_ok R (fun z8 w1=>J z8 w1∧μ z8 w1<μ (ρ' 8) w') ρ' w' h1
theorem l13_intro (R:EP) (x0 x1 x4 x8:Value) (w:World) (J:VP) (μ:Value→World→Nat) (h0:J x8 w)
  (hr:∀y8 w0,J y8 w0→∀C13:VP,(∀z8 w1,J z8 w1→μ z8 w1<μ y8 w0→C13 z8 w1)→b16 R C13 x0 x1 x4 y8 w0):l13 R x0 x1 x4 x8 w:=by
 unfold l13
 exact ⟨J,μ,h0,fun y8 w0 hJ=>hr y8 w0 hJ _ (fun z8 w1 h1 h2=>⟨h1,h2⟩)⟩
abbrev q7:XP:=QX (fun ρ w=>b11 R (ρ 0) (ρ 1) (ρ 4) (ρ 8) w) (fun ρ w=>LD prog (Instr.loadAt 46 (ρ 4)) w fun r0=>R (.returned (.tuple #[r0,(ρ 5),(ρ 6)])) w) [(0,(fun ρ w=>b3 R (ρ 1) (ρ 4) w))]
theorem k12_ok (h:l13 R (ρ 0) (ρ 1) (ρ 4) (ρ 8) w):cP3 R p6 (q7 R) ρ w:=by
 have e:Code.block 1 (blkC p6)=p6:=by kernel_rfl
 rw [←e]
 exact blockQ (l13_ok R ρ w h)
theorem k10_ok (h:l13 R (ρ 0) (ρ 1) (ρ 4) (ρ 8) w):cP3 R (thnC p4) (q2 R) ρ w:=by
 have e:Code.seq (fstC (thnC p4)) (sndC (thnC p4))=(thnC p4):=by kernel_rfl
 rw [←e]
 exact seqQ (fun ρ w=>b11 R (ρ 0) (ρ 1) (ρ 4) (ρ 8) w) (k12_ok R ρ w h) (fun ρ w h=>b11_ok R ρ w h)
noncomputable abbrev p9:Code:=dropC 1 (elsC p4)
noncomputable abbrev p10:Code:=sndC (thnC p9)

def b22 (x0 x1 x4 x8:Value) (w:World) (_r:Tok R:=tok R):Prop :=
 RUN prog (pan R) (bins .add 3 (.tmp 116) (.const (.int .i64 1)) x1 (.int .i64 1)) w fun v1 w2 =>
 RUN prog (pan R) (Instr.sliceAt 9 x0 (some v1) (some x8) none) w2 fun v3 w4 =>
 RUN prog (pan R) (Instr.build 46 #[(0,(.int .i64 2)),(1,v3),(2,x1)]) w4 fun v5 w6 =>
 RUN prog (pan R) (bins .add 3 (.tmp 122) (.const (.int .i64 1)) x8 (.int .i64 1)) w6 fun v7 w8 =>
 RUNU prog (pan R) (Instr.storeAt 46 x4 v5) w8 fun w9 =>
 LD prog (Instr.loadAt 46 x4) w9 fun r0=>R (.returned (.tuple #[r0,v7,(.int .i64 (-1))])) w9
theorem b22_ok (h:b22 R (ρ 0) (ρ 1) (ρ 4) (ρ 8) w):cP3 R (sndC p10) (q2 R) ρ w:=cast (by kernel_rfl) h
noncomputable abbrev p11:Code:=dropC 1 (fstC p10)

def b24 (x0 x1 x4 x8 x112:Value) (w:World) (_r:Tok R:=tok R):Prop :=
 SPL x112
 (RUN prog (pan R) (Instr.build 46 #[]) w fun v1 w2 =>
 RUNU prog (pan R) (Instr.storeAt 46 x4 v1) w2 fun w3 =>
 LD prog (Instr.loadAt 46 x4) w3 fun r0=>R (.returned (.tuple #[r0,(.int .i64 0),x8])) w3)
 (b22 R x0 x1 x4 x8 w)
abbrev q8:XP:=QX (fun ρ w=>b22 R (ρ 0) (ρ 1) (ρ 4) (ρ 8) w) (fun ρ w=>LD prog (Instr.loadAt 46 (ρ 4)) w fun r0=>R (.returned (.tuple #[r0,(ρ 5),(ρ 6)])) w) [(0,(fun ρ w=>b3 R (ρ 1) (ρ 4) w))]
theorem b24_ok (h:b24 R (ρ 0) (ρ 1) (ρ 4) (ρ 8) (ρ 112) w):cP3 R p11 (q8 R) ρ w:=cast (by kernel_rfl) h

def b23 (x0 x1 x4 x8:Value) (w:World) (_r:Tok R:=tok R):Prop :=
 RUN prog (pan R) (Builtin.len_ #[9] 3 #[x0]) w fun v1 w2 =>
 RUN prog (pan R) (bins .geq 3 (.tmp 97) (.tmp 99) x8 v1) w2 fun v3 w4 =>
 SPL v3
 (b24 R x0 x1 x4 x8 (.bool Bool.true) w4)
 (RUN prog (pan R) (Instr.index 9 x0 x8) w4 fun v5 w6 =>
 RUN prog (pan R) (bins .neq 5 (.tmp 104) (.const (.int .u8 39)) v5 (.int .u8 39)) w6 fun v7 w8 =>
 SPL v7
 (b24 R x0 x1 x4 x8 (.bool Bool.true) w8)
 (RUN prog (pan R) (bins .add 3 (.tmp 109) (.const (.int .i64 1)) x1 (.int .i64 1)) w8 fun v9 w10 =>
 RUN prog (pan R) (bins .eql 3 (.tmp 108) (.tmp 110) x8 v9) w10 fun v11 w12 =>
 b24 R x0 x1 x4 x8 v11 w12))
abbrev q9:XP:=QX (fun ρ w=>b24 R (ρ 0) (ρ 1) (ρ 4) (ρ 8) (ρ 112) w) (fun ρ w=>LD prog (Instr.loadAt 46 (ρ 4)) w fun r0=>R (.returned (.tuple #[r0,(ρ 5),(ρ 6)])) w) [(0,(fun ρ w=>b3 R (ρ 1) (ρ 4) w))]
theorem b23_eq:(b23 R (ρ 0) (ρ 1) (ρ 4) (ρ 8) w)=cP3 R (preC 0 (fstC p10)) (q9 R) ρ w:=by kernel_rfl
theorem b23_ok (h:b23 R (ρ 0) (ρ 1) (ρ 4) (ρ 8) w):cP3 R (fstC p10) (q8 R) ρ w:=by
 have e:appC 0 (preC 0 (fstC p10)) (dropC 1 (fstC p10))=(fstC p10):=by kernel_rfl
 rw [←e]
 exact appQ (fun ρ w=>b24 R (ρ 0) (ρ 1) (ρ 4) (ρ 8) (ρ 112) w) 0 ((b23_eq R ρ w).mp h) (fun ρ w h=>b24_ok R ρ w h)
theorem k21_ok (h:b23 R (ρ 0) (ρ 1) (ρ 4) (ρ 8) w):cP3 R p10 (q2 R) ρ w:=by
 have e:Code.seq (fstC p10) (sndC p10)=p10:=by kernel_rfl
 rw [←e]
 exact seqQ (fun ρ w=>b22 R (ρ 0) (ρ 1) (ρ 4) (ρ 8) w) (b23_ok R ρ w h) (fun ρ w h=>b22_ok R ρ w h)
noncomputable abbrev p12:Code:=fstC (thnC p9)
noncomputable abbrev p13:Code:=loopC (blkC p12)

def b28 (C26:VP) (x8:Value) (w:World) (_r:Tok R:=tok R) (_C26:Tok C26:=tok C26):Prop :=
 RUN prog (pan R) (bins .add 3 (.tmp 95) (.const (.int .i64 1)) x8 (.int .i64 1)) w fun v1 w2 =>
 C26 v1 w2
abbrev q10 (C26:VP):XP:=QX (fun ρ w=>C26 (ρ 8) w) (fun ρ w=>LD prog (Instr.loadAt 46 (ρ 4)) w fun r0=>R (.returned (.tuple #[r0,(ρ 5),(ρ 6)])) w) [(6,(fun ρ w=>b23 R (ρ 0) (ρ 1) (ρ 4) (ρ 8) w)),(0,(fun ρ w=>b3 R (ρ 1) (ρ 4) w))]
theorem b28_ok (R:EP) (C26:VP) (ρ:Env) (w:World) (h:b28 R C26 (ρ 8) w):cP3 R (sndC p13) (q10 R C26) ρ w:=cast (by kernel_rfl) h
noncomputable abbrev p14:Code:=dropC 1 (fstC p13)

def b30 (C26:VP) (x0 x1 x4 x8 x94:Value) (w:World) (_r:Tok R:=tok R) (_C26:Tok C26:=tok C26):Prop :=
 SPL x94
 (b28 R C26 x8 w)
 (b23 R x0 x1 x4 x8 w)
abbrev q11 (C26:VP):XP:=QX (fun ρ w=>b28 R C26 (ρ 8) w) (fun ρ w=>LD prog (Instr.loadAt 46 (ρ 4)) w fun r0=>R (.returned (.tuple #[r0,(ρ 5),(ρ 6)])) w) [(6,(fun ρ w=>b23 R (ρ 0) (ρ 1) (ρ 4) (ρ 8) w)),(0,(fun ρ w=>b3 R (ρ 1) (ρ 4) w))]
theorem b30_ok (R:EP) (C26:VP) (ρ:Env) (w:World) (h:b30 R C26 (ρ 0) (ρ 1) (ρ 4) (ρ 8) (ρ 94) w):cP3 R p14 (q11 R C26) ρ w:=cast (by kernel_rfl) h

def b29 (C26:VP) (x0 x1 x4 x8:Value) (w:World) (_r:Tok R:=tok R) (_C26:Tok C26:=tok C26):Prop :=
 RUN prog (pan R) (Builtin.len_ #[9] 3 #[x0]) w fun v1 w2 =>
 RUN prog (pan R) (bins .lss 3 (.tmp 67) (.tmp 69) x8 v1) w2 fun v3 w4 =>
 SPL v3
 (RUN prog (pan R) (Instr.index 9 x0 x8) w4 fun v5 w6 =>
 RUN prog (pan R) (bins .neq 5 (.tmp 74) (.const (.int .u8 39)) v5 (.int .u8 39)) w6 fun v7 w8 =>
 SPL v7
 (RUN prog (pan R) (Instr.index 9 x0 x8) w8 fun v9 w10 =>
 RUN prog (pan R) (bins .geq 5 (.tmp 80) (.const (.int .u8 32)) v9 (.int .u8 32)) w10 fun v11 w12 =>
 SPL v11
 (RUN prog (pan R) (Instr.index 9 x0 x8) w12 fun v13 w14 =>
 RUN prog (pan R) (bins .leq 5 (.tmp 86) (.const (.int .u8 126)) v13 (.int .u8 126)) w14 fun v15 w16 =>
 SPL v15
 (RUN prog (pan R) (bins .sub 3 (.tmp 90) (.tmp 91) x8 x1) w16 fun v17 w18 =>
 RUN prog (pan R) (bins .leq 3 (.tmp 92) (.const (.int .i64 16)) v17 (.int .i64 16)) w18 fun v19 w20 =>
 b30 R C26 x0 x1 x4 x8 v19 w20)
 (b30 R C26 x0 x1 x4 x8 (.bool Bool.false) w16))
 (b30 R C26 x0 x1 x4 x8 (.bool Bool.false) w12))
 (b30 R C26 x0 x1 x4 x8 (.bool Bool.false) w8))
 (b30 R C26 x0 x1 x4 x8 (.bool Bool.false) w4)
abbrev q12 (C26:VP):XP:=QX (fun ρ w=>b30 R C26 (ρ 0) (ρ 1) (ρ 4) (ρ 8) (ρ 94) w) (fun ρ w=>LD prog (Instr.loadAt 46 (ρ 4)) w fun r0=>R (.returned (.tuple #[r0,(ρ 5),(ρ 6)])) w) [(6,(fun ρ w=>b23 R (ρ 0) (ρ 1) (ρ 4) (ρ 8) w)),(0,(fun ρ w=>b3 R (ρ 1) (ρ 4) w))]
theorem b29_eq (R:EP) (C26:VP) (ρ:Env) (w:World):(b29 R C26 (ρ 0) (ρ 1) (ρ 4) (ρ 8) w)=cP3 R (preC 0 (fstC p13)) (q12 R C26) ρ w:=by kernel_rfl
theorem b29_ok (R:EP) (C26:VP) (ρ:Env) (w:World) (h:b29 R C26 (ρ 0) (ρ 1) (ρ 4) (ρ 8) w):cP3 R (fstC p13) (q11 R C26) ρ w:=by
 have e:appC 0 (preC 0 (fstC p13)) (dropC 1 (fstC p13))=(fstC p13):=by kernel_rfl
 rw [←e]
 exact appQ (fun ρ w=>b30 R C26 (ρ 0) (ρ 1) (ρ 4) (ρ 8) (ρ 94) w) 0 ((b29_eq R C26 ρ w).mp h) (fun ρ w h=>b30_ok R C26 ρ w h)
theorem k27_ok (R:EP) (C26:VP) (ρ:Env) (w:World) (h:b29 R C26 (ρ 0) (ρ 1) (ρ 4) (ρ 8) w):cP3 R p13 (q10 R C26) ρ w:=by
 have e:Code.seq (fstC p13) (sndC p13)=p13:=by kernel_rfl
 rw [←e]
 exact seqQ (fun ρ w=>b28 R C26 (ρ 8) w) (b29_ok R C26 ρ w h) (fun ρ w h=>b28_ok R C26 ρ w h)

def l26 (x0 x1 x4 x8:Value) (w:World) (_r:Tok R:=tok R):Prop :=
 ∃(J:VP) (μ:Value→World→Nat),J x8 w∧∀y8 w0,J y8 w0→b29 R (fun z8 w1=>J z8 w1∧μ z8 w1<μ y8 w0) x0 x1 x4 y8 w0
abbrev q13:XP:=QX (fun ρ w=>b23 R (ρ 0) (ρ 1) (ρ 4) (ρ 8) w) (fun ρ w=>LD prog (Instr.loadAt 46 (ρ 4)) w fun r0=>R (.returned (.tuple #[r0,(ρ 5),(ρ 6)])) w) [(6,(fun ρ w=>b23 R (ρ 0) (ρ 1) (ρ 4) (ρ 8) w)),(0,(fun ρ w=>b3 R (ρ 1) (ρ 4) w))]
theorem l26_ok (h:l26 R (ρ 0) (ρ 1) (ρ 4) (ρ 8) w):cP3 R (blkC p12) (q13 R) ρ w:=by
 unfold l26 at h
 obtain ⟨J,μ,h0,hr⟩:=h
 have e:Code.loop (loopC (blkC p12))=(blkC p12):=by kernel_rfl
 rw [←e]
 refine loopQ (fun ρ' w'=>J (ρ' 8) w') (fun ρ' w'=>μ (ρ' 8) w') h0 fun ρ' w' hA hI=>?_
 have e0:ρ' 0=ρ 0:=Agree.at hA 0 (by kernel_rfl)
 have e1:ρ' 1=ρ 1:=Agree.at hA 1 (by kernel_rfl)
 have e4:ρ' 4=ρ 4:=Agree.at hA 4 (by kernel_rfl)
 have h1:=hr (ρ' 8) w' hI
 rw [←e0,←e1,←e4] at h1
 exact k27_ok R (fun z8 w1=>J z8 w1∧μ z8 w1<μ (ρ' 8) w') ρ' w' h1
theorem l26_intro (R:EP) (x0 x1 x4 x8:Value) (w:World) (J:VP) (μ:Value→World→Nat) (h0:J x8 w)
  (hr:∀y8 w0,J y8 w0→∀C26:VP,(∀z8 w1,J z8 w1→μ z8 w1<μ y8 w0→C26 z8 w1)→b29 R C26 x0 x1 x4 y8 w0):l26 R x0 x1 x4 x8 w:=by
 unfold l26
 exact ⟨J,μ,h0,fun y8 w0 hJ=>hr y8 w0 hJ _ (fun z8 w1 h1 h2=>⟨h1,h2⟩)⟩
abbrev q14:XP:=QX (fun ρ w=>b23 R (ρ 0) (ρ 1) (ρ 4) (ρ 8) w) (fun ρ w=>LD prog (Instr.loadAt 46 (ρ 4)) w fun r0=>R (.returned (.tuple #[r0,(ρ 5),(ρ 6)])) w) [(0,(fun ρ w=>b3 R (ρ 1) (ρ 4) w))]
theorem k25_ok (h:l26 R (ρ 0) (ρ 1) (ρ 4) (ρ 8) w):cP3 R p12 (q14 R) ρ w:=by
 have e:Code.block 3 (blkC p12)=p12:=by kernel_rfl
 rw [←e]
 exact blockQ (l26_ok R ρ w h)
theorem k20_ok (h:l26 R (ρ 0) (ρ 1) (ρ 4) (ρ 8) w):cP3 R (thnC p9) (q2 R) ρ w:=by
 have e:Code.seq (fstC (thnC p9)) (sndC (thnC p9))=(thnC p9):=by kernel_rfl
 rw [←e]
 exact seqQ (fun ρ w=>b23 R (ρ 0) (ρ 1) (ρ 4) (ρ 8) w) (k25_ok R ρ w h) (fun ρ w h=>k21_ok R ρ w h)
noncomputable abbrev p15:Code:=dropC 1 (elsC p9)
noncomputable abbrev p16:Code:=sndC (thnC p15)

def b34 (x0 x1 x4 x8:Value) (w:World) (_r:Tok R:=tok R):Prop :=
 RUN prog (pan R) (Instr.sliceAt 9 x0 (some x1) (some x8) none) w fun v1 w2 =>
 CALL prog (pan R) ref03_begun.id #[v1,(.bool Bool.true)] w2 fun v3 w4 =>
 RUN prog (pan R) (Op.unary .not v3) w4 fun v5 w6 =>
 SPL v5
 (RUN prog (pan R) (Instr.build 46 #[]) w6 fun v7 w8 =>
 RUNU prog (pan R) (Instr.storeAt 46 x4 v7) w8 fun w9 =>
 LD prog (Instr.loadAt 46 x4) w9 fun r0=>R (.returned (.tuple #[r0,(.int .i64 0),x8])) w9)
 (RUN prog (pan R) (Instr.sliceAt 9 x0 (some x1) (some x8) none) w6 fun v10 w11 =>
 RUN prog (pan R) (Instr.build 46 #[(0,(.int .i64 3)),(1,v10),(2,x1)]) w11 fun v12 w13 =>
 RUNU prog (pan R) (Instr.storeAt 46 x4 v12) w13 fun w14 =>
 LD prog (Instr.loadAt 46 x4) w14 fun r0=>R (.returned (.tuple #[r0,x8,(.int .i64 (-1))])) w14)
theorem b34_ok (h:b34 R (ρ 0) (ρ 1) (ρ 4) (ρ 8) w):cP3 R p16 (q2 R) ρ w:=cast (by kernel_rfl) h
noncomputable abbrev p17:Code:=fstC (thnC p15)
noncomputable abbrev p18:Code:=loopC (blkC p17)

def b38 (C36:VP) (x0 x1 x4 x8:Value) (w:World) (_r:Tok R:=tok R) (_C36:Tok C36:=tok C36):Prop :=
 RUN prog (pan R) (bins .add 3 (.tmp 139) (.const (.int .i64 1)) x8 (.int .i64 1)) w fun v1 w2 =>
 RUN prog (pan R) (Instr.sliceAt 9 x0 (some x1) (some v1) none) w2 fun v3 w4 =>
 CALL prog (pan R) ref03_begun.id #[v3,(.bool Bool.false)] w4 fun v5 w6 =>
 RUN prog (pan R) (Op.unary .not v5) w6 fun v7 w8 =>
 SPL v7
 (RUN prog (pan R) (Instr.build 46 #[]) w8 fun v9 w10 =>
 RUNU prog (pan R) (Instr.storeAt 46 x4 v9) w10 fun w11 =>
 LD prog (Instr.loadAt 46 x4) w11 fun r0=>R (.returned (.tuple #[r0,(.int .i64 0),x8])) w11)
 (RUN prog (pan R) (bins .add 3 (.tmp 146) (.const (.int .i64 1)) x8 (.int .i64 1)) w8 fun v12 w13 =>
 C36 v12 w13)
abbrev q15 (C36:VP):XP:=QX (fun ρ w=>C36 (ρ 8) w) (fun ρ w=>LD prog (Instr.loadAt 46 (ρ 4)) w fun r0=>R (.returned (.tuple #[r0,(ρ 5),(ρ 6)])) w) [(10,(fun ρ w=>b34 R (ρ 0) (ρ 1) (ρ 4) (ρ 8) w)),(0,(fun ρ w=>b3 R (ρ 1) (ρ 4) w))]
theorem b38_ok (R:EP) (C36:VP) (ρ:Env) (w:World) (h:b38 R C36 (ρ 0) (ρ 1) (ρ 4) (ρ 8) w):cP3 R (sndC p18) (q15 R C36) ρ w:=cast (by kernel_rfl) h
noncomputable abbrev p19:Code:=dropC 1 (fstC p18)

def b40 (C36:VP) (x0 x1 x4 x8 x136:Value) (w:World) (_r:Tok R:=tok R) (_C36:Tok C36:=tok C36):Prop :=
 SPL x136
 (b38 R C36 x0 x1 x4 x8 w)
 (b34 R x0 x1 x4 x8 w)
abbrev q16 (C36:VP):XP:=QX (fun ρ w=>b38 R C36 (ρ 0) (ρ 1) (ρ 4) (ρ 8) w) (fun ρ w=>LD prog (Instr.loadAt 46 (ρ 4)) w fun r0=>R (.returned (.tuple #[r0,(ρ 5),(ρ 6)])) w) [(10,(fun ρ w=>b34 R (ρ 0) (ρ 1) (ρ 4) (ρ 8) w)),(0,(fun ρ w=>b3 R (ρ 1) (ρ 4) w))]
theorem b40_ok (R:EP) (C36:VP) (ρ:Env) (w:World) (h:b40 R C36 (ρ 0) (ρ 1) (ρ 4) (ρ 8) (ρ 136) w):cP3 R p19 (q16 R C36) ρ w:=cast (by kernel_rfl) h

def b39 (C36:VP) (x0 x1 x4 x8:Value) (w:World) (_r:Tok R:=tok R) (_C36:Tok C36:=tok C36):Prop :=
 RUN prog (pan R) (Builtin.len_ #[9] 3 #[x0]) w fun v1 w2 =>
 RUN prog (pan R) (bins .lss 3 (.tmp 127) (.tmp 129) x8 v1) w2 fun v3 w4 =>
 SPL v3
 (RUN prog (pan R) (Instr.index 9 x0 x8) w4 fun v5 w6 =>
 CALL prog (pan R) ref03_letter.id #[v5] w6 fun v7 w8 =>
 b40 R C36 x0 x1 x4 x8 v7 w8)
 (b40 R C36 x0 x1 x4 x8 (.bool Bool.false) w4)
abbrev q17 (C36:VP):XP:=QX (fun ρ w=>b40 R C36 (ρ 0) (ρ 1) (ρ 4) (ρ 8) (ρ 136) w) (fun ρ w=>LD prog (Instr.loadAt 46 (ρ 4)) w fun r0=>R (.returned (.tuple #[r0,(ρ 5),(ρ 6)])) w) [(10,(fun ρ w=>b34 R (ρ 0) (ρ 1) (ρ 4) (ρ 8) w)),(0,(fun ρ w=>b3 R (ρ 1) (ρ 4) w))]
theorem b39_eq (R:EP) (C36:VP) (ρ:Env) (w:World):(b39 R C36 (ρ 0) (ρ 1) (ρ 4) (ρ 8) w)=cP3 R (preC 0 (fstC p18)) (q17 R C36) ρ w:=by kernel_rfl
theorem b39_ok (R:EP) (C36:VP) (ρ:Env) (w:World) (h:b39 R C36 (ρ 0) (ρ 1) (ρ 4) (ρ 8) w):cP3 R (fstC p18) (q16 R C36) ρ w:=by
 have e:appC 0 (preC 0 (fstC p18)) (dropC 1 (fstC p18))=(fstC p18):=by kernel_rfl
 rw [←e]
 exact appQ (fun ρ w=>b40 R C36 (ρ 0) (ρ 1) (ρ 4) (ρ 8) (ρ 136) w) 0 ((b39_eq R C36 ρ w).mp h) (fun ρ w h=>b40_ok R C36 ρ w h)
theorem k37_ok (R:EP) (C36:VP) (ρ:Env) (w:World) (h:b39 R C36 (ρ 0) (ρ 1) (ρ 4) (ρ 8) w):cP3 R p18 (q15 R C36) ρ w:=by
 have e:Code.seq (fstC p18) (sndC p18)=p18:=by kernel_rfl
 rw [←e]
 exact seqQ (fun ρ w=>b38 R C36 (ρ 0) (ρ 1) (ρ 4) (ρ 8) w) (b39_ok R C36 ρ w h) (fun ρ w h=>b38_ok R C36 ρ w h)

def l36 (x0 x1 x4 x8:Value) (w:World) (_r:Tok R:=tok R):Prop :=
 ∃(J:VP) (μ:Value→World→Nat),J x8 w∧∀y8 w0,J y8 w0→b39 R (fun z8 w1=>J z8 w1∧μ z8 w1<μ y8 w0) x0 x1 x4 y8 w0
abbrev q18:XP:=QX (fun ρ w=>b34 R (ρ 0) (ρ 1) (ρ 4) (ρ 8) w) (fun ρ w=>LD prog (Instr.loadAt 46 (ρ 4)) w fun r0=>R (.returned (.tuple #[r0,(ρ 5),(ρ 6)])) w) [(10,(fun ρ w=>b34 R (ρ 0) (ρ 1) (ρ 4) (ρ 8) w)),(0,(fun ρ w=>b3 R (ρ 1) (ρ 4) w))]
theorem l36_ok (h:l36 R (ρ 0) (ρ 1) (ρ 4) (ρ 8) w):cP3 R (blkC p17) (q18 R) ρ w:=by
 unfold l36 at h
 obtain ⟨J,μ,h0,hr⟩:=h
 have e:Code.loop (loopC (blkC p17))=(blkC p17):=by kernel_rfl
 rw [←e]
 refine loopQ (fun ρ' w'=>J (ρ' 8) w') (fun ρ' w'=>μ (ρ' 8) w') h0 fun ρ' w' hA hI=>?_
 have e0:ρ' 0=ρ 0:=Agree.at hA 0 (by kernel_rfl)
 have e1:ρ' 1=ρ 1:=Agree.at hA 1 (by kernel_rfl)
 have e4:ρ' 4=ρ 4:=Agree.at hA 4 (by kernel_rfl)
 have h1:=hr (ρ' 8) w' hI
 rw [←e0,←e1,←e4] at h1
 exact k37_ok R (fun z8 w1=>J z8 w1∧μ z8 w1<μ (ρ' 8) w') ρ' w' h1
theorem l36_intro (R:EP) (x0 x1 x4 x8:Value) (w:World) (J:VP) (μ:Value→World→Nat) (h0:J x8 w)
  (hr:∀y8 w0,J y8 w0→∀C36:VP,(∀z8 w1,J z8 w1→μ z8 w1<μ y8 w0→C36 z8 w1)→b39 R C36 x0 x1 x4 y8 w0):l36 R x0 x1 x4 x8 w:=by
 unfold l36
 exact ⟨J,μ,h0,fun y8 w0 hJ=>hr y8 w0 hJ _ (fun z8 w1 h1 h2=>⟨h1,h2⟩)⟩
abbrev q19:XP:=QX (fun ρ w=>b34 R (ρ 0) (ρ 1) (ρ 4) (ρ 8) w) (fun ρ w=>LD prog (Instr.loadAt 46 (ρ 4)) w fun r0=>R (.returned (.tuple #[r0,(ρ 5),(ρ 6)])) w) [(0,(fun ρ w=>b3 R (ρ 1) (ρ 4) w))]
theorem k35_ok (h:l36 R (ρ 0) (ρ 1) (ρ 4) (ρ 8) w):cP3 R p17 (q19 R) ρ w:=by
 have e:Code.block 5 (blkC p17)=p17:=by kernel_rfl
 rw [←e]
 exact blockQ (l36_ok R ρ w h)
theorem k33_ok (h:l36 R (ρ 0) (ρ 1) (ρ 4) (ρ 8) w):cP3 R (thnC p15) (q2 R) ρ w:=by
 have e:Code.seq (fstC (thnC p15)) (sndC (thnC p15))=(thnC p15):=by kernel_rfl
 rw [←e]
 exact seqQ (fun ρ w=>b34 R (ρ 0) (ρ 1) (ρ 4) (ρ 8) w) (k35_ok R ρ w h) (fun ρ w h=>b34_ok R ρ w h)

def b41 (x1 x4:Value) (w:World) (_r:Tok R:=tok R):Prop :=
 b3 R x1 x4 w
theorem b41_ok (h:b41 R (ρ 1) (ρ 4) w):cP3 R (elsC p15) (q2 R) ρ w:=cast (by kernel_rfl) h

def b32 (x0 x1 x4 x8 x124:Value) (w:World) (_r:Tok R:=tok R):Prop :=
 SPL x124 (l36 R x0 x1 x4 x8 w) (b41 R x1 x4 w)
theorem b32_ok (h:b32 R (ρ 0) (ρ 1) (ρ 4) (ρ 8) (ρ 124) w):cP3 R p15 (q2 R) ρ w:=by
 have e:Code.cond (.tmp 124) (thnC p15) (elsC p15)=p15:=by kernel_rfl
 rw [←e]
 exact condQ' h (fun h=>k33_ok R ρ w h) (fun h=>b41_ok R ρ w h)

def b31 (x0 x1 x4 x7 x8:Value) (w:World) (_r:Tok R:=tok R):Prop :=
 RUN prog (pan R) (bins .eql 5 (.tmp 125) (.const (.int .u8 37)) x7 (.int .u8 37)) w fun v1 w2 =>
 b32 R x0 x1 x4 x8 v1 w2
abbrev q20:XP:=QX (fun ρ w=>b32 R (ρ 0) (ρ 1) (ρ 4) (ρ 8) (ρ 124) w) (fun ρ w=>LD prog (Instr.loadAt 46 (ρ 4)) w fun r0=>R (.returned (.tuple #[r0,(ρ 5),(ρ 6)])) w) [(0,(fun ρ w=>b3 R (ρ 1) (ρ 4) w))]
theorem b31_eq:(b31 R (ρ 0) (ρ 1) (ρ 4) (ρ 7) (ρ 8) w)=cP3 R (preC 0 (elsC p9)) (q20 R) ρ w:=by kernel_rfl
theorem b31_ok (h:b31 R (ρ 0) (ρ 1) (ρ 4) (ρ 7) (ρ 8) w):cP3 R (elsC p9) (q2 R) ρ w:=by
 have e:appC 0 (preC 0 (elsC p9)) (dropC 1 (elsC p9))=(elsC p9):=by kernel_rfl
 rw [←e]
 exact appQ (fun ρ w=>b32 R (ρ 0) (ρ 1) (ρ 4) (ρ 8) (ρ 124) w) 0 ((b31_eq R ρ w).mp h) (fun ρ w h=>b32_ok R ρ w h)

def b19 (x0 x1 x4 x7 x8 x64:Value) (w:World) (_r:Tok R:=tok R):Prop :=
 SPL x64 (l26 R x0 x1 x4 x8 w) (b31 R x0 x1 x4 x7 x8 w)
theorem b19_ok (h:b19 R (ρ 0) (ρ 1) (ρ 4) (ρ 7) (ρ 8) (ρ 64) w):cP3 R p9 (q2 R) ρ w:=by
 have e:Code.cond (.tmp 64) (thnC p9) (elsC p9)=p9:=by kernel_rfl
 rw [←e]
 exact condQ' h (fun h=>k20_ok R ρ w h) (fun h=>b31_ok R ρ w h)

def b18 (x0 x1 x4 x7 x8:Value) (w:World) (_r:Tok R:=tok R):Prop :=
 RUN prog (pan R) (bins .eql 5 (.tmp 65) (.const (.int .u8 39)) x7 (.int .u8 39)) w fun v1 w2 =>
 b19 R x0 x1 x4 x7 x8 v1 w2
abbrev q21:XP:=QX (fun ρ w=>b19 R (ρ 0) (ρ 1) (ρ 4) (ρ 7) (ρ 8) (ρ 64) w) (fun ρ w=>LD prog (Instr.loadAt 46 (ρ 4)) w fun r0=>R (.returned (.tuple #[r0,(ρ 5),(ρ 6)])) w) [(0,(fun ρ w=>b3 R (ρ 1) (ρ 4) w))]
theorem b18_eq:(b18 R (ρ 0) (ρ 1) (ρ 4) (ρ 7) (ρ 8) w)=cP3 R (preC 0 (elsC p4)) (q21 R) ρ w:=by kernel_rfl
theorem b18_ok (h:b18 R (ρ 0) (ρ 1) (ρ 4) (ρ 7) (ρ 8) w):cP3 R (elsC p4) (q2 R) ρ w:=by
 have e:appC 0 (preC 0 (elsC p4)) (dropC 1 (elsC p4))=(elsC p4):=by kernel_rfl
 rw [←e]
 exact appQ (fun ρ w=>b19 R (ρ 0) (ρ 1) (ρ 4) (ρ 7) (ρ 8) (ρ 64) w) 0 ((b18_eq R ρ w).mp h) (fun ρ w h=>b19_ok R ρ w h)

def b9 (x0 x1 x4 x7 x8 x32:Value) (w:World) (_r:Tok R:=tok R):Prop :=
 SPL x32 (l13 R x0 x1 x4 x8 w) (b18 R x0 x1 x4 x7 x8 w)
theorem b9_ok (h:b9 R (ρ 0) (ρ 1) (ρ 4) (ρ 7) (ρ 8) (ρ 32) w):cP3 R p4 (q2 R) ρ w:=by
 have e:Code.cond (.tmp 32) (thnC p4) (elsC p4)=p4:=by kernel_rfl
 rw [←e]
 exact condQ' h (fun h=>k10_ok R ρ w h) (fun h=>b18_ok R ρ w h)

def b8 (x0 x1 x4 x7 x8:Value) (w:World) (_r:Tok R:=tok R):Prop :=
 CALL prog (pan R) ref03_letter.id #[x7] w fun v1 w2 =>
 SPL v1
 (b9 R x0 x1 x4 x7 x8 (.bool Bool.true) w2)
 (RUN prog (pan R) (bins .eql 5 (.tmp 36) (.const (.int .u8 95)) x7 (.int .u8 95)) w2 fun v3 w4 =>
 b9 R x0 x1 x4 x7 x8 v3 w4)
abbrev q22:XP:=QX (fun ρ w=>b9 R (ρ 0) (ρ 1) (ρ 4) (ρ 7) (ρ 8) (ρ 32) w) (fun ρ w=>LD prog (Instr.loadAt 46 (ρ 4)) w fun r0=>R (.returned (.tuple #[r0,(ρ 5),(ρ 6)])) w) [(0,(fun ρ w=>b3 R (ρ 1) (ρ 4) w))]
theorem b8_eq:(b8 R (ρ 0) (ρ 1) (ρ 4) (ρ 7) (ρ 8) w)=cP3 R (preC 0 (elsC p3)) (q22 R) ρ w:=by kernel_rfl
theorem b8_ok (h:b8 R (ρ 0) (ρ 1) (ρ 4) (ρ 7) (ρ 8) w):cP3 R (elsC p3) (q2 R) ρ w:=by
 have e:appC 0 (preC 0 (elsC p3)) (dropC 1 (elsC p3))=(elsC p3):=by kernel_rfl
 rw [←e]
 exact appQ (fun ρ w=>b9 R (ρ 0) (ρ 1) (ρ 4) (ρ 7) (ρ 8) (ρ 32) w) 0 ((b8_eq R ρ w).mp h) (fun ρ w h=>b9_ok R ρ w h)

def b6 (x0 x1 x4 x7 x8 x14:Value) (w:World) (_r:Tok R:=tok R):Prop :=
 SPL x14 (b7 R x0 x1 x4 x8 w) (b8 R x0 x1 x4 x7 x8 w)
theorem b6_ok (h:b6 R (ρ 0) (ρ 1) (ρ 4) (ρ 7) (ρ 8) (ρ 14) w):cP3 R p3 (q2 R) ρ w:=by
 have e:Code.cond (.tmp 14) (thnC p3) (elsC p3)=p3:=by kernel_rfl
 rw [←e]
 exact condQ' h (fun h=>b7_ok R ρ w h) (fun h=>b8_ok R ρ w h)

def b5 (x0 x1 x4 x7 x8:Value) (w:World) (_r:Tok R:=tok R):Prop :=
 RUN prog (pan R) (bins .eql 5 (.tmp 15) (.const (.int .u8 58)) x7 (.int .u8 58)) w fun v1 w2 =>
 SPL v1
 (b6 R x0 x1 x4 x7 x8 (.bool Bool.true) w2)
 (RUN prog (pan R) (bins .eql 5 (.tmp 18) (.const (.int .u8 124)) x7 (.int .u8 124)) w2 fun v3 w4 =>
 SPL v3
 (b6 R x0 x1 x4 x7 x8 (.bool Bool.true) w4)
 (RUN prog (pan R) (bins .eql 5 (.tmp 22) (.const (.int .u8 59)) x7 (.int .u8 59)) w4 fun v5 w6 =>
 b6 R x0 x1 x4 x7 x8 v5 w6))
abbrev q23:XP:=QX (fun ρ w=>b6 R (ρ 0) (ρ 1) (ρ 4) (ρ 7) (ρ 8) (ρ 14) w) (fun ρ w=>LD prog (Instr.loadAt 46 (ρ 4)) w fun r0=>R (.returned (.tuple #[r0,(ρ 5),(ρ 6)])) w) [(0,(fun ρ w=>b3 R (ρ 1) (ρ 4) w))]
theorem b5_eq:(b5 R (ρ 0) (ρ 1) (ρ 4) (ρ 7) (ρ 8) w)=cP3 R (preC 0 p2) (q23 R) ρ w:=by kernel_rfl
theorem b5_ok (h:b5 R (ρ 0) (ρ 1) (ρ 4) (ρ 7) (ρ 8) w):cP3 R p2 (q2 R) ρ w:=by
 have e:appC 0 (preC 0 p2) (dropC 1 p2)=p2:=by kernel_rfl
 rw [←e]
 exact appQ (fun ρ w=>b6 R (ρ 0) (ρ 1) (ρ 4) (ρ 7) (ρ 8) (ρ 14) w) 0 ((b5_eq R ρ w).mp h) (fun ρ w h=>b6_ok R ρ w h)
abbrev q24:XP:=QX (fun ρ w=>b3 R (ρ 1) (ρ 4) w) (fun ρ w=>LD prog (Instr.loadAt 46 (ρ 4)) w fun r0=>R (.returned (.tuple #[r0,(ρ 5),(ρ 6)])) w) []
theorem k4_ok (h:b5 R (ρ 0) (ρ 1) (ρ 4) (ρ 7) (ρ 8) w):cP3 R (fstC p1) (q24 R) ρ w:=by
 have e:Code.block 0 (blkC (fstC p1))=(fstC p1):=by kernel_rfl
 rw [←e]
 exact blockQ (b5_ok R ρ w h)
theorem k2_ok (h:b5 R (ρ 0) (ρ 1) (ρ 4) (ρ 7) (ρ 8) w):cP3 R p1 (q1 R) ρ w:=by
 have e:Code.seq (fstC p1) (sndC p1)=p1:=by kernel_rfl
 rw [←e]
 exact seqQ (fun ρ w=>b3 R (ρ 1) (ρ 4) w) (k4_ok R ρ w h) (fun ρ w h=>b3_ok R ρ w h)

def b1 (x0 x1:Value) (w:World) (_r:Tok R:=tok R):Prop :=
 RUN prog (pan R) (Instr.alloc 46 true (.tuple #[])) w fun v1 w2 =>
 RUN prog (pan R) (Instr.index 9 x0 x1) w2 fun v3 w4 =>
 RUN prog (pan R) (bins .add 3 (.tmp 12) (.const (.int .i64 1)) x1 (.int .i64 1)) w4 fun v5 w6 =>
 b5 R x0 x1 v1 v3 v5 w6
abbrev q25:XP:=QX (fun ρ w=>b5 R (ρ 0) (ρ 1) (ρ 4) (ρ 7) (ρ 8) w) (fun ρ w=>LD prog (Instr.loadAt 46 (ρ 4)) w fun r0=>R (.returned (.tuple #[r0,(ρ 5),(ρ 6)])) w) []
theorem b1_eq:(b1 R (ρ 0) (ρ 1) w)=cP3 R (preC 2 code) (q25 R) ρ w:=by kernel_rfl
theorem b1_ok (h:b1 R (ρ 0) (ρ 1) w):cP3 R code (q1 R) ρ w:=by
 have e:appC 2 (preC 2 code) (dropC 3 code)=code:=by kernel_rfl
 rw [←e]
 exact appQ (fun ρ w=>b5 R (ρ 0) (ρ 1) (ρ 4) (ρ 7) (ρ 8) w) 2 ((b1_eq R ρ w).mp h) (fun ρ w h=>k2_ok R ρ w h)
/-- What is owed for a call. -/
def run (a0 a1:Value) (w:World):Prop:=b1 R a0 a1 w
theorem calls (R:EP) (a0 a1:Value) (w:World) (h:run R a0 a1 w):Calls prog id #[a0,a1] w R :=
 calls_of_ctt (f:=id) (fn:=f35) (c:=code) (by kernel_rfl) func35 (by kernel_rfl) (by kernel_rfl) (args:=[a0,a1]) (Nat.le_of_ble_eq_true rfl) rfl (b1_ok R (envOf [a0,a1]) w h)
theorem enters:Enters prog id:=fun args w=>call35 args w
theorem ct {a0 a1:Value} {w:World} {S:VP} (h:∀R:EP,(∀v w,S v w→R (.returned v) w)→run R a0 a1 w):Ct prog id #[a0,a1] w S :=
 Ct.intro enters fun R hR=>calls R a0 a1 w (h R hR)
attribute [irreducible] b3 b7 b11 b15 b17 b16 l13 b22 b24 b23 b28 b30 b29 l26 b34 b38 b40 b39 l36 b41 b32 b31 b19 b18 b9 b8 b6 b5 b1 run
end ref03_One

/-! ### presage/presageref03.letter -/
namespace ref03_letter
noncomputable def code:Code:=bodyOf f60
def b1 (x0:Value) (w:World) (_r:Tok R:=tok R):Prop :=
 RUN prog (pan R) (bins .geq 5 (.tmp 3) (.const (.int .u8 65)) x0 (.int .u8 65)) w fun v1 w2 =>
 SPL v1
 (RUN prog (pan R) (bins .leq 5 (.tmp 6) (.const (.int .u8 90)) x0 (.int .u8 90)) w2 fun v3 w4 =>
 SPL v3
 (R (.returned (.bool Bool.true)) w4)
 (RUN prog (pan R) (bins .geq 5 (.tmp 10) (.const (.int .u8 97)) x0 (.int .u8 97)) w4 fun v5 w6 =>
 SPL v5
 (RUN prog (pan R) (bins .leq 5 (.tmp 13) (.const (.int .u8 122)) x0 (.int .u8 122)) w6 fun v7 w8 =>
 R (.returned v7) w8)
 (R (.returned (.bool Bool.false)) w6)))
 (RUN prog (pan R) (bins .geq 5 (.tmp 10) (.const (.int .u8 97)) x0 (.int .u8 97)) w2 fun v9 w10 =>
 SPL v9
 (RUN prog (pan R) (bins .leq 5 (.tmp 13) (.const (.int .u8 122)) x0 (.int .u8 122)) w10 fun v11 w12 =>
 R (.returned v11) w12)
 (R (.returned (.bool Bool.false)) w10))
abbrev q1:XP:=QX (fun ρ w=>R (.returned (ρ 2)) w) (fun ρ w=>R (.returned (ρ 2)) w) []
theorem b1_ok (h:b1 R (ρ 0) w):cP3 R code (q1 R) ρ w:=cast (by kernel_rfl) h
/-- What is owed for a call. -/
def run (a0:Value) (w:World):Prop:=b1 R a0 w
theorem calls (R:EP) (a0:Value) (w:World) (h:run R a0 w):Calls prog id #[a0] w R :=
 calls_of_t (f:=id) (fn:=f60) (c:=code) (by kernel_rfl) func60 (by kernel_rfl) (by kernel_rfl) (args:=[a0]) (Nat.le_of_ble_eq_true rfl) rfl (b1_ok R (envOf [a0]) w h)
theorem enters:Enters prog id:=fun args w=>call60 args w
theorem ct {a0:Value} {w:World} {S:VP} (h:∀R:EP,(∀v w,S v w→R (.returned v) w)→run R a0 w):Ct prog id #[a0] w S :=
 Ct.intro enters fun R hR=>calls R a0 w (h R hR)
attribute [irreducible] b1 run
end ref03_letter

/-! ### presage/presageref03.inner -/
namespace ref03_inner
noncomputable def code:Code:=bodyOf f61
def b1 (x0:Value) (w:World) (_r:Tok R:=tok R):Prop :=
 CALL prog (pan R) ref03_letter.id #[x0] w fun v1 w2 =>
 SPL v1
 (R (.returned (.bool Bool.true)) w2)
 (RUN prog (pan R) (bins .eql 5 (.tmp 6) (.const (.int .u8 95)) x0 (.int .u8 95)) w2 fun v3 w4 =>
 SPL v3
 (R (.returned (.bool Bool.true)) w4)
 (RUN prog (pan R) (bins .geq 5 (.tmp 10) (.const (.int .u8 48)) x0 (.int .u8 48)) w4 fun v5 w6 =>
 SPL v5
 (RUN prog (pan R) (bins .leq 5 (.tmp 13) (.const (.int .u8 57)) x0 (.int .u8 57)) w6 fun v7 w8 =>
 R (.returned v7) w8)
 (R (.returned (.bool Bool.false)) w6)))
abbrev q1:XP:=QX (fun ρ w=>R (.returned (ρ 2)) w) (fun ρ w=>R (.returned (ρ 2)) w) []
theorem b1_ok (h:b1 R (ρ 0) w):cP3 R code (q1 R) ρ w:=cast (by kernel_rfl) h
/-- What is owed for a call. -/
def run (a0:Value) (w:World):Prop:=b1 R a0 w
theorem calls (R:EP) (a0:Value) (w:World) (h:run R a0 w):Calls prog id #[a0] w R :=
 calls_of_t (f:=id) (fn:=f61) (c:=code) (by kernel_rfl) func61 (by kernel_rfl) (by kernel_rfl) (args:=[a0]) (Nat.le_of_ble_eq_true rfl) rfl (b1_ok R (envOf [a0]) w h)
theorem enters:Enters prog id:=fun args w=>call61 args w
theorem ct {a0:Value} {w:World} {S:VP} (h:∀R:EP,(∀v w,S v w→R (.returned v) w)→run R a0 w):Ct prog id #[a0] w S :=
 Ct.intro enters fun R hR=>calls R a0 w (h R hR)
attribute [irreducible] b1 run
end ref03_inner

/-! ### presage/presageref03.begun -/
namespace ref03_begun
noncomputable def code:Code:=bodyOf f62
noncomputable abbrev p1:Code:=dropC 2 code

def b3 (w:World) (_r:Tok R:=tok R):Prop :=
 R (.returned (.bool Bool.false)) w
abbrev q1:XP:=QX (fun ρ w=>R (.returned (ρ 4)) w) (fun ρ w=>R (.returned (ρ 4)) w) []
theorem b3_ok (h:b3 R w):cP3 R (sndC p1) (q1 R) ρ w:=cast (by kernel_rfl) h
noncomputable abbrev p2:Code:=dropC 1 (fstC p1)
noncomputable abbrev p3:Code:=loopC (blkC p2)
noncomputable abbrev p4:Code:=dropC 1 p3
def b9 (C6:VP) (x6:Value) (w:World) (_r:Tok R:=tok R) (_C6:Tok C6:=tok C6):Prop :=
 RUN prog (pan R) (bins .add 3 (.tmp 12) (.const (.int .i64 1)) x6 (.int .i64 1)) w fun v1 w2 =>
 C6 v1 w2
abbrev q2 (C6:VP):XP:=QX (fun ρ w=>C6 (ρ 6) w) (fun ρ w=>R (.returned (ρ 4)) w) [(0,(fun ρ w=>b3 R  w))]
theorem b9_ok (R:EP) (C6:VP) (ρ:Env) (w:World) (h:b9 R C6 (ρ 6) w):cP3 R (sndC p4) (q2 R C6) ρ w:=cast (by kernel_rfl) h
noncomputable abbrev p5:Code:=blkC (fstC p4)
noncomputable abbrev p6:Code:=dropC 1 p5
def b12 (C6:VP) (x6 x44:Value) (w:World) (_r:Tok R:=tok R) (_C6:Tok C6:=tok C6):Prop :=
 SPL x44
 (R (.returned (.bool Bool.true)) w)
 (b9 R C6 x6 w)
abbrev q3 (C6:VP):XP:=QX (fun ρ w=>b9 R C6 (ρ 6) w) (fun ρ w=>R (.returned (ρ 4)) w) [(2,(fun ρ w=>b9 R C6 (ρ 6) w)),(0,(fun ρ w=>b3 R  w))]
theorem b12_ok (R:EP) (C6:VP) (ρ:Env) (w:World) (h:b12 R C6 (ρ 6) (ρ 44) w):cP3 R p6 (q3 R C6) ρ w:=cast (by kernel_rfl) h
def b11 (C6:VP) (x0 x1 x5 x6:Value) (w:World) (_r:Tok R:=tok R) (_C6:Tok C6:=tok C6):Prop :=
 RUN prog (pan R) (Instr.indexAt 24 x5 x6) w fun v1 w2 =>
 RUN prog (pan R) (Instr.loadAt 9 v1) w2 fun v3 w4 =>
 RUN prog (pan R) (bins .eql 9 (.tmp 17) (.tmp 18) v3 x0) w4 fun v5 w6 =>
 SPL v5
 (b12 R C6 x6 (.bool Bool.true) w6)
 (RUN prog (pan R) (Op.unary .not x1) w6 fun v7 w8 =>
 SPL v7
 (RUN prog (pan R) (Instr.indexAt 24 x5 x6) w8 fun v9 w10 =>
 RUN prog (pan R) (Instr.loadAt 9 v9) w10 fun v11 w12 =>
 RUN prog (pan R) (Builtin.len_ #[9] 3 #[v11]) w12 fun v13 w14 =>
 RUN prog (pan R) (Builtin.len_ #[9] 3 #[x0]) w14 fun v15 w16 =>
 RUN prog (pan R) (bins .gtr 3 (.tmp 28) (.tmp 30) v13 v15) w16 fun v17 w18 =>
 SPL v17
 (RUN prog (pan R) (Instr.indexAt 24 x5 x6) w18 fun v19 w20 =>
 RUN prog (pan R) (Instr.loadAt 9 v19) w20 fun v21 w22 =>
 RUN prog (pan R) (Builtin.len_ #[9] 3 #[x0]) w22 fun v23 w24 =>
 RUN prog (pan R) (Instr.sliceAt 9 v21 none (some v23) none) w24 fun v25 w26 =>
 RUN prog (pan R) (bins .eql 9 (.tmp 40) (.tmp 41) v25 x0) w26 fun v27 w28 =>
 b12 R C6 x6 v27 w28)
 (b12 R C6 x6 (.bool Bool.false) w18))
 (b12 R C6 x6 (.bool Bool.false) w8))
abbrev q4 (C6:VP):XP:=QX (fun ρ w=>b12 R C6 (ρ 6) (ρ 44) w) (fun ρ w=>R (.returned (ρ 4)) w) [(2,(fun ρ w=>b9 R C6 (ρ 6) w)),(0,(fun ρ w=>b3 R  w))]
theorem b11_eq (R:EP) (C6:VP) (ρ:Env) (w:World):(b11 R C6 (ρ 0) (ρ 1) (ρ 5) (ρ 6) w)=cP3 R (preC 0 p5) (q4 R C6) ρ w:=by kernel_rfl
theorem b11_ok (R:EP) (C6:VP) (ρ:Env) (w:World) (h:b11 R C6 (ρ 0) (ρ 1) (ρ 5) (ρ 6) w):cP3 R p5 (q3 R C6) ρ w:=by
 have e:appC 0 (preC 0 p5) (dropC 1 p5)=p5:=by kernel_rfl
 rw [←e]
 exact appQ (fun ρ w=>b12 R C6 (ρ 6) (ρ 44) w) 0 ((b11_eq R C6 ρ w).mp h) (fun ρ w h=>b12_ok R C6 ρ w h)
abbrev q5 (C6:VP):XP:=QX (fun ρ w=>b9 R C6 (ρ 6) w) (fun ρ w=>R (.returned (ρ 4)) w) [(0,(fun ρ w=>b3 R  w))]
theorem k10_ok (R:EP) (C6:VP) (ρ:Env) (w:World) (h:b11 R C6 (ρ 0) (ρ 1) (ρ 5) (ρ 6) w):cP3 R (fstC p4) (q5 R C6) ρ w:=by
 have e:Code.block 1 (blkC (fstC p4))=(fstC p4):=by kernel_rfl
 rw [←e]
 exact blockQ (b11_ok R C6 ρ w h)
theorem k8_ok (R:EP) (C6:VP) (ρ:Env) (w:World) (h:b11 R C6 (ρ 0) (ρ 1) (ρ 5) (ρ 6) w):cP3 R p4 (q2 R C6) ρ w:=by
 have e:Code.seq (fstC p4) (sndC p4)=p4:=by kernel_rfl
 rw [←e]
 exact seqQ (fun ρ w=>b9 R C6 (ρ 6) w) (k10_ok R C6 ρ w h) (fun ρ w h=>b9_ok R C6 ρ w h)
def b7 (C6:VP) (x0 x1 x5 x6:Value) (w:World) (_r:Tok R:=tok R) (_C6:Tok C6:=tok C6):Prop :=
 RUN prog (pan R) (Builtin.len_ #[24] 3 #[x5]) w fun v1 w2 =>
 RUN prog (pan R) (bins .lss 3 (.tmp 8) (.tmp 10) x6 v1) w2 fun v3 w4 =>
 SPL v3
 (b11 R C6 x0 x1 x5 x6 w4)
 (b3 R w4)
abbrev q6 (C6:VP):XP:=QX (fun ρ w=>b11 R C6 (ρ 0) (ρ 1) (ρ 5) (ρ 6) w) (fun ρ w=>R (.returned (ρ 4)) w) [(0,(fun ρ w=>b3 R  w))]
theorem b7_eq (R:EP) (C6:VP) (ρ:Env) (w:World):(b7 R C6 (ρ 0) (ρ 1) (ρ 5) (ρ 6) w)=cP3 R (preC 0 p3) (q6 R C6) ρ w:=by kernel_rfl
theorem b7_ok (R:EP) (C6:VP) (ρ:Env) (w:World) (h:b7 R C6 (ρ 0) (ρ 1) (ρ 5) (ρ 6) w):cP3 R p3 (q2 R C6) ρ w:=by
 have e:appC 0 (preC 0 p3) (dropC 1 p3)=p3:=by kernel_rfl
 rw [←e]
 exact appQ (fun ρ w=>b11 R C6 (ρ 0) (ρ 1) (ρ 5) (ρ 6) w) 0 ((b7_eq R C6 ρ w).mp h) (fun ρ w h=>k8_ok R C6 ρ w h)
def l6 (x0 x1 x5 x6:Value) (w:World) (_r:Tok R:=tok R):Prop :=
 ∃(J:VP) (μ:Value→World→Nat),J x6 w∧∀y6 w0,J y6 w0→b7 R (fun z6 w1=>J z6 w1∧μ z6 w1<μ y6 w0) x0 x1 x5 y6 w0
abbrev q7:XP:=QX (fun ρ w=>b3 R  w) (fun ρ w=>R (.returned (ρ 4)) w) [(0,(fun ρ w=>b3 R  w))]
theorem l6_ok (h:l6 R (ρ 0) (ρ 1) (ρ 5) (ρ 6) w):cP3 R (blkC p2) (q7 R) ρ w:=by
 unfold l6 at h
 obtain ⟨J,μ,h0,hr⟩:=h
 have e:Code.loop (loopC (blkC p2))=(blkC p2):=by kernel_rfl
 rw [←e]
 refine loopQ (fun ρ' w'=>J (ρ' 6) w') (fun ρ' w'=>μ (ρ' 6) w') h0 fun ρ' w' hA hI=>?_
 have e0:ρ' 0=ρ 0:=Agree.at hA 0 (by kernel_rfl)
 have e1:ρ' 1=ρ 1:=Agree.at hA 1 (by kernel_rfl)
 have e5:ρ' 5=ρ 5:=Agree.at hA 5 (by kernel_rfl)
 have h1:=hr (ρ' 6) w' hI
 rw [←e0,←e1,←e5] at h1
 exact b7_ok R (fun z6 w1=>J z6 w1∧μ z6 w1<μ (ρ' 6) w') ρ' w' h1
theorem l6_intro (R:EP) (x0 x1 x5 x6:Value) (w:World) (J:VP) (μ:Value→World→Nat) (h0:J x6 w)
  (hr:∀y6 w0,J y6 w0→∀C6:VP,(∀z6 w1,J z6 w1→μ z6 w1<μ y6 w0→C6 z6 w1)→b7 R C6 x0 x1 x5 y6 w0):l6 R x0 x1 x5 x6 w:=by
 unfold l6
 exact ⟨J,μ,h0,fun y6 w0 hJ=>hr y6 w0 hJ _ (fun z6 w1 h1 h2=>⟨h1,h2⟩)⟩
abbrev q8:XP:=QX (fun ρ w=>b3 R  w) (fun ρ w=>R (.returned (ρ 4)) w) []
theorem k5_ok (h:l6 R (ρ 0) (ρ 1) (ρ 5) (ρ 6) w):cP3 R p2 (q8 R) ρ w:=by
 have e:Code.block 0 (blkC p2)=p2:=by kernel_rfl
 rw [←e]
 exact blockQ (l6_ok R ρ w h)
def b4 (x0 x1 x5:Value) (w:World) (_r:Tok R:=tok R):Prop :=
 l6 R x0 x1 x5 (.int .i64 0) w
abbrev q9:XP:=QX (fun ρ w=>l6 R (ρ 0) (ρ 1) (ρ 5) (ρ 6) w) (fun ρ w=>R (.returned (ρ 4)) w) []
theorem b4_eq:(b4 R (ρ 0) (ρ 1) (ρ 5) w)=cP3 R (preC 0 (fstC p1)) (q9 R) ρ w:=by kernel_rfl
theorem b4_ok (h:b4 R (ρ 0) (ρ 1) (ρ 5) w):cP3 R (fstC p1) (q8 R) ρ w:=by
 have e:appC 0 (preC 0 (fstC p1)) (dropC 1 (fstC p1))=(fstC p1):=by kernel_rfl
 rw [←e]
 exact appQ (fun ρ w=>l6 R (ρ 0) (ρ 1) (ρ 5) (ρ 6) w) 0 ((b4_eq R ρ w).mp h) (fun ρ w h=>k5_ok R ρ w h)
theorem k2_ok (h:b4 R (ρ 0) (ρ 1) (ρ 5) w):cP3 R p1 (q1 R) ρ w:=by
 have e:Code.seq (fstC p1) (sndC p1)=p1:=by kernel_rfl
 rw [←e]
 exact seqQ (fun ρ w=>b3 R  w) (b4_ok R ρ w h) (fun ρ w h=>b3_ok R ρ w h)
def b1 (x0 x1:Value) (w:World) (_r:Tok R:=tok R):Prop :=
 CALL prog (pan R) ref03_Orders.id #[] w fun v1 w2 =>
 b4 R x0 x1 v1 w2
abbrev q10:XP:=QX (fun ρ w=>b4 R (ρ 0) (ρ 1) (ρ 5) w) (fun ρ w=>R (.returned (ρ 4)) w) []
theorem b1_eq:(b1 R (ρ 0) (ρ 1) w)=cP3 R (preC 1 code) (q10 R) ρ w:=by kernel_rfl
theorem b1_ok (h:b1 R (ρ 0) (ρ 1) w):cP3 R code (q1 R) ρ w:=by
 have e:appC 1 (preC 1 code) (dropC 2 code)=code:=by kernel_rfl
 rw [←e]
 exact appQ (fun ρ w=>b4 R (ρ 0) (ρ 1) (ρ 5) w) 1 ((b1_eq R ρ w).mp h) (fun ρ w h=>k2_ok R ρ w h)
/-- What is owed for a call. -/
def run (a0 a1:Value) (w:World):Prop:=b1 R a0 a1 w
theorem calls (R:EP) (a0 a1:Value) (w:World) (h:run R a0 a1 w):Calls prog id #[a0,a1] w R :=
 calls_of_t (f:=id) (fn:=f62) (c:=code) (by kernel_rfl) func62 (by kernel_rfl) (by kernel_rfl) (args:=[a0,a1]) (Nat.le_of_ble_eq_true rfl) rfl (b1_ok R (envOf [a0,a1]) w h)
theorem enters:Enters prog id:=fun args w=>call62 args w
theorem ct {a0 a1:Value} {w:World} {S:VP} (h:∀R:EP,(∀v w,S v w→R (.returned v) w)→run R a0 a1 w):Ct prog id #[a0,a1] w S :=
 Ct.intro enters fun R hR=>calls R a0 a1 w (h R hR)
attribute [irreducible] b3 b9 b12 b11 b7 l6 b4 b1 run
end ref03_begun

/-! ### presage/presageref03.Orders -/
namespace ref03_Orders
noncomputable def code:Code:=bodyOf f89

def b1 (w:World) (_r:Tok R:=tok R):Prop :=
 RUN prog (pan R) (Instr.buildSlice 24 7 #[(0,(.string {data:=#[37,116,111,107,101,110] })),(1,(.string {data:=#[37,108,101,102,116] })),(2,(.string {data:=#[37,114,105,103,104,116] })),(3,(.string {data:=#[37,110,111,110,97,115,115,111,99] })),(4,(.string {data:=#[37,115,116,97,114,116] })),(5,(.string {data:=#[37,112,114,101,99] })),(6,(.string {data:=#[37,110,111,110,101] }))]) w fun v1 w2 =>
 R (.returned v1) w2
abbrev q1:XP:=QX (fun ρ w=>R (.returned (ρ 0)) w) (fun ρ w=>R (.returned (ρ 0)) w) []
theorem b1_ok (h:b1 R w):cP3 R code (q1 R) ρ w:=cast (by kernel_rfl) h
/-- What is owed for a call. -/
def run (w:World):Prop:=b1 R w
theorem calls (R:EP) (w:World) (h:run R w):Calls prog id #[] w R :=
 calls_of_t (f:=id) (fn:=f89) (c:=code) (by kernel_rfl) func89 (by kernel_rfl) (by kernel_rfl) (args:=[]) (Nat.le_of_ble_eq_true rfl) rfl (b1_ok R (envOf []) w h)
theorem enters:Enters prog id:=fun args w=>call89 args w
theorem ct {w:World} {S:VP} (h:∀R:EP,(∀v w,S v w→R (.returned v) w)→run R w):Ct prog id #[] w S :=
 Ct.intro enters fun R hR=>calls R w (h R hR)
attribute [irreducible] b1 run
end ref03_Orders
end Go.Proofs.YtckbgeedlobfaaaDoor
