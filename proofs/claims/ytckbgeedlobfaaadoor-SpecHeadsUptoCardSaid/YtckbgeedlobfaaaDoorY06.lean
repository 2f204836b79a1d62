/- Shallow programs, written by a program of ours (gen.py) off the translation; each is tied to the code by the kernel. -/
import Derived.Test.YtckbgeedlobfaaaDoorY04
set_option linter.unusedVariables false
set_option maxRecDepth 100000
namespace Go.Proofs.YtckbgeedlobfaaaDoor
open Go.Px Tryd
abbrev cP2 (R:EP):=codeP prog (pan R)
variable (R:EP) (ρ:Env) (w:World)

/-! ### presage/scan.Each -/
namespace scan_Each
noncomputable def code:Code:=bodyOf f40
noncomputable abbrev p1:Code:=dropC 2 code
def b2 (x1:Value) (w:World) (_r:Tok R:=tok R):Prop :=
 RUN prog (pan R) (Instr.makeFunc (.func scan_Each_1.id) #[] #[x1]) w fun v1 w2 =>
 R (.returned v1) w2
abbrev q1:XP:=QX (fun ρ w=>R (.returned (ρ 2)) w) (fun ρ w=>R (.returned (ρ 2)) w) []
theorem b2_ok (h:b2 R (ρ 1) w):cP2 R p1 (q1 R) ρ w:=cast (by kernel_rfl) h
def b1 (x0:Value) (w:World) (_r:Tok R:=tok R):Prop :=
 RUN prog (pan R) (Instr.box 9 x0) w fun v1 w2 =>
 RUN prog (pan R) (Instr.loadAt 9 v1) w2 fun v3 w4 =>
 RUN prog (pan R) (Builtin.len_ #[9] 3 #[v3]) w4 fun v5 w6 =>
 RUN prog (pan R) (bins .gtr 3 (.tmp 4) (.const (.int .i64 8192)) v5 (.int .i64 8192)) w6 fun v7 w8 =>
 SPL v7
 (RUNU prog (pan R) (Instr.storeAt 9 v1 (.string {data:=#[] })) w8 fun w9 =>
 b2 R v1 w9)
 (b2 R v1 w8)
abbrev q2:XP:=QX (fun ρ w=>b2 R (ρ 1) w) (fun ρ w=>R (.returned (ρ 2)) w) []
theorem b1_eq:(b1 R (ρ 0) w)=cP2 R (preC 1 code) (q2 R) ρ w:=by kernel_rfl
theorem b1_ok (h:b1 R (ρ 0) w):cP2 R code (q1 R) ρ w:=by
 have e:appC 1 (preC 1 code) (dropC 2 code)=code:=by kernel_rfl
 rw [←e]
 exact appQ (fun ρ w=>b2 R (ρ 1) w) 1 ((b1_eq R ρ w).mp h) (fun ρ w h=>b2_ok R ρ w h)
/-- What is owed for a call. -/
def run (a0:Value) (w:World):Prop:=b1 R a0 w
theorem calls (R:EP) (a0:Value) (w:World) (h:run R a0 w):Calls prog id #[a0] w R :=
 calls_of_t (f:=id) (fn:=f40) (c:=code) (by kernel_rfl) func40 (by kernel_rfl) (by kernel_rfl) (args:=[a0]) (Nat.le_of_ble_eq_true rfl) rfl (b1_ok R (envOf [a0]) w h)
theorem enters:Enters prog id:=fun args w=>call40 args w
theorem ct {a0:Value} {w:World} {S:VP} (h:∀R:EP,(∀v w,S v w→R (.returned v) w)→run R a0 w):Ct prog id #[a0] w S :=
 Ct.intro enters fun R hR=>calls R a0 w (h R hR)
attribute [irreducible] b2 b1 run
end scan_Each

/-! ### presage/scan.Words -/
namespace scan_Words
noncomputable def code:Code:=bodyOf f41
def b1 (x0:Value) (w:World) (_r:Tok R:=tok R):Prop :=
 RUN prog (pan R) (Instr.alloc 31 true (.tuple #[])) w fun v1 w2 =>
 RUN prog (pan R) (Builtin.len_ #[9] 3 #[x0]) w2 fun v3 w4 =>
 RUN prog (pan R) (bins .gtr 3 (.tmp 7) (.const (.int .i64 8192)) v3 (.int .i64 8192)) w4 fun v5 w6 =>
 SPL v5
 (RUN prog (pan R) (Instr.build 31 #[(0,(.int .i64 10)),(1,(.int .i64 8192))]) w6 fun v7 w8 =>
 RUNU prog (pan R) (Instr.storeAt 31 v1 v7) w8 fun w9 =>
 LD prog (Instr.loadAt 31 v1) w9 fun r1=>R (.returned (.tuple #[(.slice Option.none 0 0),r1])) w9)
 (RUN prog (pan R) (Instr.alloc 83 true (.tuple #[])) w6 fun v10 w11 =>
 RUN prog (pan R) (Instr.build 135 #[(0,x0)]) w11 fun v12 w13 =>
 RUN prog (pan R) (Instr.box 135 v12) w13 fun v14 w15 =>
 RUN prog (pan R) (Instr.makeFunc (.func scan_Words_1.id) #[] #[v10]) w15 fun v16 w17 =>
 CALL prog (pan R) scan_scanner_each.id #[v14,v16] w17 fun v18 w19 =>
 RUN prog (pan R) (bins .geq 3 (.tmp 15) (.const (.int .i64 0)) v18 (.int .i64 0)) w19 fun v20 w21 =>
 SPL v20
 (RUN prog (pan R) (Instr.build 31 #[(0,(.int .i64 10)),(1,v18)]) w21 fun v22 w23 =>
 RUNU prog (pan R) (Instr.storeAt 31 v1 v22) w23 fun w24 =>
 LD prog (Instr.loadAt 31 v1) w24 fun r1=>R (.returned (.tuple #[(.slice Option.none 0 0),r1])) w24)
 (RUN prog (pan R) (Instr.loadAt 83 v10) w21 fun v25 w26 =>
 RUN prog (pan R) (Instr.build 31 #[]) w26 fun v27 w28 =>
 RUNU prog (pan R) (Instr.storeAt 31 v1 v27) w28 fun w29 =>
 LD prog (Instr.loadAt 31 v1) w29 fun r1=>R (.returned (.tuple #[v25,r1])) w29))
abbrev q1:XP:=QX (fun ρ w=>LD prog (Instr.loadAt 31 (ρ 3)) w fun r1=>R (.returned (.tuple #[(ρ 2),r1])) w) (fun ρ w=>LD prog (Instr.loadAt 31 (ρ 3)) w fun r1=>R (.returned (.tuple #[(ρ 2),r1])) w) []
theorem b1_ok (h:b1 R (ρ 0) w):cP2 R code (q1 R) ρ w:=cast (by kernel_rfl) h
/-- What is owed for a call. -/
def run (a0:Value) (w:World):Prop:=b1 R a0 w
theorem calls (R:EP) (a0:Value) (w:World) (h:run R a0 w):Calls prog id #[a0] w R :=
 calls_of_tc (f:=id) (fn:=f41) (c:=code) (by kernel_rfl) func41 (by kernel_rfl) (by kernel_rfl) (args:=[a0]) (Nat.le_of_ble_eq_true rfl) rfl (b1_ok R (envOf [a0]) w h)
theorem enters:Enters prog id:=fun args w=>call41 args w
theorem ct {a0:Value} {w:World} {S:VP} (h:∀R:EP,(∀v w,S v w→R (.returned v) w)→run R a0 w):Ct prog id #[a0] w S :=
 Ct.intro enters fun R hR=>calls R a0 w (h R hR)
attribute [irreducible] b1 run
end scan_Words

/-! ### slices.ContainsFunc[[]string,string] -/
namespace slices_ContainsFunc_string_string
noncomputable def code:Code:=bodyOf f65
def b1 (x0 x1:Value) (w:World) (_r:Tok R:=tok R):Prop :=
 CALL prog (pan R) slices_IndexFunc_string_string.id #[x0,x1] w fun v1 w2 =>
 RUN prog (pan R) (bins .geq 3 (.tmp 7) (.const (.int .i64 0)) v1 (.int .i64 0)) w2 fun v3 w4 =>
 R (.returned v3) w4
abbrev q1:XP:=QX (fun ρ w=>R (.returned (ρ 4)) w) (fun ρ w=>R (.returned (ρ 4)) w) []
theorem b1_ok (h:b1 R (ρ 0) (ρ 1) w):cP2 R code (q1 R) ρ w:=cast (by kernel_rfl) h
/-- What is owed for a call. -/
def run (a0 a1:Value) (w:World):Prop:=b1 R a0 a1 w
theorem calls (R:EP) (a0 a1:Value) (w:World) (h:run R a0 a1 w):Calls prog id #[a0,a1] w R :=
 calls_of_t (f:=id) (fn:=f65) (c:=code) (by kernel_rfl) func65 (by kernel_rfl) (by kernel_rfl) (args:=[a0,a1]) (Nat.le_of_ble_eq_true rfl) rfl (b1_ok R (envOf [a0,a1]) w h)
theorem enters:Enters prog id:=fun args w=>call65 args w
theorem ct {a0 a1:Value} {w:World} {S:VP} (h:∀R:EP,(∀v w,S v w→R (.returned v) w)→run R a0 a1 w):Ct prog id #[a0,a1] w S :=
 Ct.intro enters fun R hR=>calls R a0 a1 w (h R hR)
attribute [irreducible] b1 run
end slices_ContainsFunc_string_string

/-! ### presage/scan.Each$1 -/
namespace scan_Each_1
noncomputable def code:Code:=bodyOf f70
def b1 (x0 x1:Value) (w:World) (_r:Tok R:=tok R):Prop :=
 RUN prog (pan R) (Instr.loadAt 9 x1) w fun v1 w2 =>
 RUN prog (pan R) (Instr.build 135 #[(0,v1)]) w2 fun v3 w4 =>
 RUN prog (pan R) (Instr.box 135 v3) w4 fun v5 w6 =>
 CALL prog (pan R) scan_scanner_each.id #[v5,x0] w6 fun v7 w8 =>
 R (.returned (.tuple #[])) w8
abbrev q1:XP:=QX (fun ρ w=>R (.returned (.tuple #[])) w) (fun ρ w=>R (.returned (.tuple #[])) w) []
theorem b1_ok (h:b1 R (ρ 0) (ρ 1) w):cP2 R code (q1 R) ρ w:=cast (by kernel_rfl) h
/-- What is owed for a call. -/
def run (a0 a1:Value) (w:World):Prop:=b1 R a0 a1 w
theorem calls (R:EP) (a0 a1:Value) (w:World) (h:run R a0 a1 w):Calls prog id #[a0,a1] w R :=
 calls_of_0 (f:=id) (fn:=f70) (c:=code) (by kernel_rfl) func70 (by kernel_rfl) (by kernel_rfl) (args:=[a0,a1]) (Nat.le_of_ble_eq_true rfl) rfl (b1_ok R (envOf [a0,a1]) w h)
theorem enters:Enters prog id:=fun args w=>call70 args w
theorem ct {a0 a1:Value} {w:World} {S:VP} (h:∀R:EP,(∀v w,S v w→R (.returned v) w)→run R a0 a1 w):Ct prog id #[a0,a1] w S :=
 Ct.intro enters fun R hR=>calls R a0 a1 w (h R hR)
attribute [irreducible] b1 run
end scan_Each_1

/-! ### (*presage/scan.scanner).each -/
namespace scan_scanner_each
noncomputable def code:Code:=bodyOf f71
noncomputable abbrev p1:Code:=dropC 1 code

def b3 (w:World) (_r:Tok R:=tok R):Prop :=
 R (.returned (.int .i64 (-1))) w
abbrev q1:XP:=QX (fun ρ w=>R (.returned (ρ 4)) w) (fun ρ w=>R (.returned (ρ 4)) w) []
theorem b3_ok (h:b3 R w):cP2 R (sndC p1) (q1 R) ρ w:=cast (by kernel_rfl) h
noncomputable abbrev p2:Code:=blkC (fstC p1)
def b6 (C5:World→Prop) (x0 x1:Value) (w:World) (_r:Tok R:=tok R) (_C5:Tok C5:=tok C5):Prop :=
 CALL prog (pan R) scan_scanner_skip.id #[x0] w fun v1 w2 =>
 SPL v1
 (CALL prog (pan R) scan_scanner_next.id #[x0] w2 fun v3 w4 =>
 RUN prog (pan R) (Instr.extract v3 0) w4 fun v5 w6 =>
 RUN prog (pan R) (Instr.extract v3 1) w6 fun v7 w8 =>
 RUN prog (pan R) (Instr.alloc 91 true (.tuple #[])) w8 fun v9 w10 =>
 RUNU prog (pan R) (Instr.storeAt 91 v9 v5) w10 fun w11 =>
 RUN prog (pan R) (Op.unary .not v7) w11 fun v12 w13 =>
 SPL v12
 (NILC x0 fun v14 =>
 RUN prog (pan R) (Instr.fieldAt 135 v14 1) w13 fun v15 w16 =>
 RUN prog (pan R) (Instr.loadAt 3 v15) w16 fun v17 w18 =>
 R (.returned v17) w18)
 (RUN prog (pan R) (Instr.loadAt 91 v9) w13 fun v19 w20 =>
 CALLY prog (pan R) x1 [v19] w20 fun v21 w22 =>
 RUN prog (pan R) (Op.unary .not v21) w22 fun v23 w24 =>
 SPL v23
 (b3 R w24)
 (C5  w24)))
 (b3 R w2)
abbrev q2 (C5:World→Prop):XP:=QX (fun ρ w=>C5  w) (fun ρ w=>R (.returned (ρ 4)) w) [(0,(fun ρ w=>b3 R  w))]
theorem b6_ok (R:EP) (C5:World→Prop) (ρ:Env) (w:World) (h:b6 R C5 (ρ 0) (ρ 1) w):cP2 R (loopC p2) (q2 R C5) ρ w:=cast (by kernel_rfl) h
def l5 (x0 x1:Value) (w:World) (_r:Tok R:=tok R):Prop :=
 ∃(J:World→Prop) (μ:World→Nat),J  w∧∀w0,J  w0→b6 R (fun  w1=>J  w1∧μ  w1<μ  w0) x0 x1 w0
abbrev q3:XP:=QX (fun ρ w=>b3 R  w) (fun ρ w=>R (.returned (ρ 4)) w) [(0,(fun ρ w=>b3 R  w))]
theorem l5_ok (h:l5 R (ρ 0) (ρ 1) w):cP2 R p2 (q3 R) ρ w:=by
 unfold l5 at h
 obtain ⟨J,μ,h0,hr⟩:=h
 have e:Code.loop (loopC p2)=p2:=by kernel_rfl
 rw [←e]
 refine loopQ (fun ρ' w'=>J  w') (fun ρ' w'=>μ  w') h0 fun ρ' w' hA hI=>?_
 have e0:ρ' 0=ρ 0:=Agree.at hA 0 (by kernel_rfl)
 have e1:ρ' 1=ρ 1:=Agree.at hA 1 (by kernel_rfl)
 have h1:=hr  w' hI
 rw [←e0,←e1] at h1
 exact b6_ok R (fun  w1=>J  w1∧μ  w1<μ  w') ρ' w' h1
theorem l5_intro (R:EP) (x0 x1:Value) (w:World) (J:World→Prop) (μ:World→Nat) (h0:J  w)
  (hr:∀w0,J  w0→∀C5:World→Prop,(∀w1,J  w1→μ  w1<μ  w0→C5  w1)→b6 R C5 x0 x1 w0):l5 R x0 x1 w:=by
 unfold l5
 exact ⟨J,μ,h0,fun  w0 hJ=>hr  w0 hJ _ (fun  w1 h1 h2=>⟨h1,h2⟩)⟩
abbrev q4:XP:=QX (fun ρ w=>b3 R  w) (fun ρ w=>R (.returned (ρ 4)) w) []
theorem k4_ok (h:l5 R (ρ 0) (ρ 1) w):cP2 R (fstC p1) (q4 R) ρ w:=by
 have e:Code.block 0 (blkC (fstC p1))=(fstC p1):=by kernel_rfl
 rw [←e]
 exact blockQ (l5_ok R ρ w h)
theorem k2_ok (h:l5 R (ρ 0) (ρ 1) w):cP2 R p1 (q1 R) ρ w:=by
 have e:Code.seq (fstC p1) (sndC p1)=p1:=by kernel_rfl
 rw [←e]
 exact seqQ (fun ρ w=>b3 R  w) (k4_ok R ρ w h) (fun ρ w h=>b3_ok R ρ w h)
def b1 (x0 x1:Value) (w:World) (_r:Tok R:=tok R):Prop :=
 l5 R x0 x1 w
abbrev q5:XP:=QX (fun ρ w=>l5 R (ρ 0) (ρ 1) w) (fun ρ w=>R (.returned (ρ 4)) w) []
theorem b1_eq:(b1 R (ρ 0) (ρ 1) w)=cP2 R (preC 0 code) (q5 R) ρ w:=by kernel_rfl
theorem b1_ok (h:b1 R (ρ 0) (ρ 1) w):cP2 R code (q1 R) ρ w:=by
 have e:appC 0 (preC 0 code) (dropC 1 code)=code:=by kernel_rfl
 rw [←e]
 exact appQ (fun ρ w=>l5 R (ρ 0) (ρ 1) w) 0 ((b1_eq R ρ w).mp h) (fun ρ w h=>k2_ok R ρ w h)
/-- What is owed for a call. -/
def run (a0 a1:Value) (w:World):Prop:=b1 R a0 a1 w
theorem calls (R:EP) (a0 a1:Value) (w:World) (h:run R a0 a1 w):Calls prog id #[a0,a1] w R :=
 calls_of_t (f:=id) (fn:=f71) (c:=code) (by kernel_rfl) func71 (by kernel_rfl) (by kernel_rfl) (args:=[a0,a1]) (Nat.le_of_ble_eq_true rfl) rfl (b1_ok R (envOf [a0,a1]) w h)
theorem enters:Enters prog id:=fun args w=>call71 args w
theorem ct {a0 a1:Value} {w:World} {S:VP} (h:∀R:EP,(∀v w,S v w→R (.returned v) w)→run R a0 a1 w):Ct prog id #[a0,a1] w S :=
 Ct.intro enters fun R hR=>calls R a0 a1 w (h R hR)
attribute [irreducible] b3 b6 l5 b1 run
end scan_scanner_each

/-! ### presage/scan.Words$1 -/
namespace scan_Words_1
noncomputable def code:Code:=bodyOf f72
def b1 (x0 x1:Value) (w:World) (_r:Tok R:=tok R):Prop :=
 RUN prog (pan R) (Instr.box 91 x0) w fun v1 w2 =>
 RUN prog (pan R) (Instr.loadAt 83 x1) w2 fun v3 w4 =>
 RUN prog (pan R) (Instr.loadAt 91 v1) w4 fun v5 w6 =>
 RUN prog (pan R) (Instr.buildSlice 83 1 #[(0,v5)]) w6 fun v7 w8 =>
 RUN prog (pan R) (Builtin.append_ #[83,83] 83 #[v3,v7]) w8 fun v9 w10 =>
 RUNU prog (pan R) (Instr.storeAt 83 x1 v9) w10 fun w11 =>
 R (.returned (.bool Bool.true)) w11
abbrev q1:XP:=QX (fun ρ w=>R (.returned (ρ 3)) w) (fun ρ w=>R (.returned (ρ 3)) w) []
theorem b1_ok (h:b1 R (ρ 0) (ρ 1) w):cP2 R code (q1 R) ρ w:=cast (by kernel_rfl) h
/-- What is owed for a call. -/
def run (a0 a1:Value) (w:World):Prop:=b1 R a0 a1 w
theorem calls (R:EP) (a0 a1:Value) (w:World) (h:run R a0 a1 w):Calls prog id #[a0,a1] w R :=
 calls_of_t (f:=id) (fn:=f72) (c:=code) (by kernel_rfl) func72 (by kernel_rfl) (by kernel_rfl) (args:=[a0,a1]) (Nat.le_of_ble_eq_true rfl) rfl (b1_ok R (envOf [a0,a1]) w h)
theorem enters:Enters prog id:=fun args w=>call72 args w
theorem ct {a0 a1:Value} {w:World} {S:VP} (h:∀R:EP,(∀v w,S v w→R (.returned v) w)→run R a0 a1 w):Ct prog id #[a0,a1] w S :=
 Ct.intro enters fun R hR=>calls R a0 a1 w (h R hR)
attribute [irreducible] b1 run
end scan_Words_1

/-! ### slices.IndexFunc[[]string,string] -/
namespace slices_IndexFunc_string_string
noncomputable def code:Code:=bodyOf f92
noncomputable abbrev p1:Code:=dropC 1 code

def b3 (w:World) (_r:Tok R:=tok R):Prop :=
 R (.returned (.int .i64 (-1))) w
abbrev q1:XP:=QX (fun ρ w=>R (.returned (ρ 4)) w) (fun ρ w=>R (.returned (ρ 4)) w) []
theorem b3_ok (h:b3 R w):cP2 R (sndC p1) (q1 R) ρ w:=cast (by kernel_rfl) h
noncomputable abbrev p2:Code:=dropC 1 (fstC p1)
noncomputable abbrev p3:Code:=loopC (blkC p2)
def b7 (C6:VP) (x0 x1 x7 x8:Value) (w:World) (_r:Tok R:=tok R) (_C6:Tok C6:=tok C6):Prop :=
 RUN prog (pan R) (bins .lss 3 (.tmp 8) (.tmp 7) x8 x7) w fun v1 w2 =>
 SPL v1
 (RUN prog (pan R) (Instr.indexAt 24 x0 x8) w2 fun v3 w4 =>
 RUN prog (pan R) (Instr.loadAt 9 v3) w4 fun v5 w6 =>
 CALLY prog (pan R) x1 [v5] w6 fun v7 w8 =>
 SPL v7
 (R (.returned x8) w8)
 (RUN prog (pan R) (bins .add 3 (.tmp 8) (.const (.int .i64 1)) x8 (.int .i64 1)) w8 fun v9 w10 =>
 C6 v9 w10))
 (b3 R w2)
abbrev q2 (C6:VP):XP:=QX (fun ρ w=>C6 (ρ 8) w) (fun ρ w=>R (.returned (ρ 4)) w) [(0,(fun ρ w=>b3 R  w))]
theorem b7_ok (R:EP) (C6:VP) (ρ:Env) (w:World) (h:b7 R C6 (ρ 0) (ρ 1) (ρ 7) (ρ 8) w):cP2 R p3 (q2 R C6) ρ w:=cast (by kernel_rfl) h
def l6 (x0 x1 x7 x8:Value) (w:World) (_r:Tok R:=tok R):Prop :=
 ∃(J:VP) (μ:Value→World→Nat),J x8 w∧∀y8 w0,J y8 w0→b7 R (fun z8 w1=>J z8 w1∧μ z8 w1<μ y8 w0) x0 x1 x7 y8 w0
abbrev q3:XP:=QX (fun ρ w=>b3 R  w) (fun ρ w=>R (.returned (ρ 4)) w) [(0,(fun ρ w=>b3 R  w))]
theorem l6_ok (h:l6 R (ρ 0) (ρ 1) (ρ 7) (ρ 8) w):cP2 R (blkC p2) (q3 R) ρ w:=by
 unfold l6 at h
 obtain ⟨J,μ,h0,hr⟩:=h
 have e:Code.loop (loopC (blkC p2))=(blkC p2):=by kernel_rfl
 rw [←e]
 refine loopQ (fun ρ' w'=>J (ρ' 8) w') (fun ρ' w'=>μ (ρ' 8) w') h0 fun ρ' w' hA hI=>?_
 have e0:ρ' 0=ρ 0:=Agree.at hA 0 (by kernel_rfl)
 have e1:ρ' 1=ρ 1:=Agree.at hA 1 (by kernel_rfl)
 have e7:ρ' 7=ρ 7:=Agree.at hA 7 (by kernel_rfl)
 have h1:=hr (ρ' 8) w' hI
 rw [←e0,←e1,←e7] at h1
 exact b7_ok R (fun z8 w1=>J z8 w1∧μ z8 w1<μ (ρ' 8) w') ρ' w' h1
theorem l6_intro (R:EP) (x0 x1 x7 x8:Value) (w:World) (J:VP) (μ:Value→World→Nat) (h0:J x8 w)
  (hr:∀y8 w0,J y8 w0→∀C6:VP,(∀z8 w1,J z8 w1→μ z8 w1<μ y8 w0→C6 z8 w1)→b7 R C6 x0 x1 x7 y8 w0):l6 R x0 x1 x7 x8 w:=by
 unfold l6
 exact ⟨J,μ,h0,fun y8 w0 hJ=>hr y8 w0 hJ _ (fun z8 w1 h1 h2=>⟨h1,h2⟩)⟩
abbrev q4:XP:=QX (fun ρ w=>b3 R  w) (fun ρ w=>R (.returned (ρ 4)) w) []
theorem k5_ok (h:l6 R (ρ 0) (ρ 1) (ρ 7) (ρ 8) w):cP2 R p2 (q4 R) ρ w:=by
 have e:Code.block 0 (blkC p2)=p2:=by kernel_rfl
 rw [←e]
 exact blockQ (l6_ok R ρ w h)
def b4 (x0 x1:Value) (w:World) (_r:Tok R:=tok R):Prop :=
 RUN prog (pan R) (Builtin.len_ #[24] 3 #[x0]) w fun v1 w2 =>
 l6 R x0 x1 v1 (.int .i64 0) w2
abbrev q5:XP:=QX (fun ρ w=>l6 R (ρ 0) (ρ 1) (ρ 7) (ρ 8) w) (fun ρ w=>R (.returned (ρ 4)) w) []
theorem b4_eq:(b4 R (ρ 0) (ρ 1) w)=cP2 R (preC 0 (fstC p1)) (q5 R) ρ w:=by kernel_rfl
theorem b4_ok (h:b4 R (ρ 0) (ρ 1) w):cP2 R (fstC p1) (q4 R) ρ w:=by
 have e:appC 0 (preC 0 (fstC p1)) (dropC 1 (fstC p1))=(fstC p1):=by kernel_rfl
 rw [←e]
 exact appQ (fun ρ w=>l6 R (ρ 0) (ρ 1) (ρ 7) (ρ 8) w) 0 ((b4_eq R ρ w).mp h) (fun ρ w h=>k5_ok R ρ w h)
theorem k2_ok (h:b4 R (ρ 0) (ρ 1) w):cP2 R p1 (q1 R) ρ w:=by
 have e:Code.seq (fstC p1) (sndC p1)=p1:=by kernel_rfl
 rw [←e]
 exact seqQ (fun ρ w=>b3 R  w) (b4_ok R ρ w h) (fun ρ w h=>b3_ok R ρ w h)
def b1 (x0 x1:Value) (w:World) (_r:Tok R:=tok R):Prop :=
 b4 R x0 x1 w
abbrev q6:XP:=QX (fun ρ w=>b4 R (ρ 0) (ρ 1) w) (fun ρ w=>R (.returned (ρ 4)) w) []
theorem b1_eq:(b1 R (ρ 0) (ρ 1) w)=cP2 R (preC 0 code) (q6 R) ρ w:=by kernel_rfl
theorem b1_ok (h:b1 R (ρ 0) (ρ 1) w):cP2 R code (q1 R) ρ w:=by
 have e:appC 0 (preC 0 code) (dropC 1 code)=code:=by kernel_rfl
 rw [←e]
 exact appQ (fun ρ w=>b4 R (ρ 0) (ρ 1) w) 0 ((b1_eq R ρ w).mp h) (fun ρ w h=>k2_ok R ρ w h)
/-- What is owed for a call. -/
def run (a0 a1:Value) (w:World):Prop:=b1 R a0 a1 w
theorem calls (R:EP) (a0 a1:Value) (w:World) (h:run R a0 a1 w):Calls prog id #[a0,a1] w R :=
 calls_of_t (f:=id) (fn:=f92) (c:=code) (by kernel_rfl) func92 (by kernel_rfl) (by kernel_rfl) (args:=[a0,a1]) (Nat.le_of_ble_eq_true rfl) rfl (b1_ok R (envOf [a0,a1]) w h)
theorem enters:Enters prog id:=fun args w=>call92 args w
theorem ct {a0 a1:Value} {w:World} {S:VP} (h:∀R:EP,(∀v w,S v w→R (.returned v) w)→run R a0 a1 w):Ct prog id #[a0,a1] w S :=
 Ct.intro enters fun R hR=>calls R a0 a1 w (h R hR)
attribute [irreducible] b3 b7 l6 b4 b1 run
end slices_IndexFunc_string_string

/-! ### (*presage/scan.scanner).skip -/
namespace scan_scanner_skip
noncomputable def code:Code:=bodyOf f95
noncomputable abbrev p1:Code:=dropC 1 code
noncomputable abbrev p2:Code:=sndC (scopeC p1)
noncomputable abbrev p3:Code:=sndC (sndC p2)

def b5 (C2:World→Prop) (x0:Value) (w:World) (_r:Tok R:=tok R) (_C2:Tok C2:=tok C2):Prop :=
 NILC x0 fun v1 =>
 PUR prog (Instr.fieldAt 135 v1 1) fun v2 =>
 LD prog (Instr.loadAt 3 v2) (World.drew w) fun v3 =>
 NILC x0 fun v4 =>
 PUR prog (Instr.fieldAt 135 v4 0) fun v5 =>
 LD prog (Instr.loadAt 9 v5) (World.drew w) fun v6 =>
 LD prog (Builtin.len_ #[9] 3 #[v6]) (World.drew w) fun v7 =>
 PUR prog (bins .lss 3 (.tmp 89) (.tmp 94) v3 v7) fun v8 =>
 R (.returned v8) (World.drew w)
abbrev q1 (C2:World→Prop):XP:=QX (fun ρ w=>R (.returned (ρ 2)) w) (fun ρ w=>R (.returned (ρ 2)) w) [(1,(fun ρ w=>C2  w))]
theorem b5_ok (R:EP) (C2:World→Prop) (ρ:Env) (w:World) (h:b5 R C2 (ρ 0) w):cP2 R p3 (q1 R C2) ρ w:=cast (by kernel_rfl) h
noncomputable abbrev p4:Code:=fstC (sndC p2)
noncomputable abbrev p5:Code:=dropC 1 p4
noncomputable abbrev p6:Code:=dropC 2 (thnC p5)

def b9 (C2:World→Prop) (x0 x3:Value) (w:World) (_r:Tok R:=tok R) (_C2:Tok C2:=tok C2):Prop :=
 NILC x0 fun v1 =>
 RUN prog (pan R) (Instr.fieldAt 135 v1 1) w fun v2 w3 =>
 RUN prog (pan R) (Instr.loadAt 3 v2) w3 fun v4 w5 =>
 RUN prog (pan R) (bins .add 3 (.tmp 81) (.tmp 82) v4 x3) w5 fun v6 w7 =>
 NILC x0 fun v8 =>
 RUN prog (pan R) (Instr.fieldAt 135 v8 1) w7 fun v9 w10 =>
 RUNU prog (pan R) (Instr.storeAt 3 v9 v6) w10 fun w11 =>
 C2  w11
abbrev q2 (C2:World→Prop):XP:=QX (fun ρ w=>b5 R C2 (ρ 0) w) (fun ρ w=>R (.returned (ρ 2)) w) [(1,(fun ρ w=>C2  w))]
theorem b9_ok (R:EP) (C2:World→Prop) (ρ:Env) (w:World) (h:b9 R C2 (ρ 0) (ρ 3) w):cP2 R p6 (q2 R C2) ρ w:=cast (by kernel_rfl) h

def b8 (C2:World→Prop) (x0:Value) (w:World) (_r:Tok R:=tok R) (_C2:Tok C2:=tok C2):Prop :=
 NILC x0 fun v1 =>
 PUR prog (Instr.fieldAt 135 v1 0) fun v2 =>
 LD prog (Instr.loadAt 9 v2) (World.drew w) fun v3 =>
 NILC x0 fun v4 =>
 PUR prog (Instr.fieldAt 135 v4 1) fun v5 =>
 LD prog (Instr.loadAt 3 v5) (World.drew w) fun v6 =>
 PUR prog (Instr.sliceAt 9 v3 (some v6) none none) fun v7 =>
 CALL prog (pan R) strings_IndexByte.id #[v7,(.int .u8 10)] (World.drew w) fun v8 w9 =>
 RUN prog (pan R) (bins .lss 3 (.tmp 66) (.const (.int .i64 0)) v8 (.int .i64 0)) w9 fun v10 w11 =>
 SPL v10
 (NILC x0 fun v12 =>
 PUR prog (Instr.fieldAt 135 v12 0) fun v13 =>
 LD prog (Instr.loadAt 9 v13) (World.drew w11) fun v14 =>
 LD prog (Builtin.len_ #[9] 3 #[v14]) (World.drew w11) fun v15 =>
 NILC x0 fun v16 =>
 PUR prog (Instr.fieldAt 135 v16 1) fun v17 =>
 LD prog (Instr.loadAt 3 v17) (World.drew w11) fun v18 =>
 PUR prog (bins .sub 3 (.tmp 72) (.tmp 76) v15 v18) fun v19 =>
 b9 R C2 x0 v19 (World.drew w11))
 (b9 R C2 x0 v8 w11)
abbrev q3 (C2:World→Prop):XP:=QX (fun ρ w=>b9 R C2 (ρ 0) (ρ 3) w) (fun ρ w=>R (.returned (ρ 2)) w) [(1,(fun ρ w=>C2  w))]
theorem b8_eq (R:EP) (C2:World→Prop) (ρ:Env) (w:World):(b8 R C2 (ρ 0) w)=cP2 R (preC 1 (thnC p5)) (q3 R C2) ρ w:=by kernel_rfl
theorem b8_ok (R:EP) (C2:World→Prop) (ρ:Env) (w:World) (h:b8 R C2 (ρ 0) w):cP2 R (thnC p5) (q2 R C2) ρ w:=by
 have e:appC 1 (preC 1 (thnC p5)) (dropC 2 (thnC p5))=(thnC p5):=by kernel_rfl
 rw [←e]
 exact appQ (fun ρ w=>b9 R C2 (ρ 0) (ρ 3) w) 1 ((b8_eq R C2 ρ w).mp h) (fun ρ w h=>b9_ok R C2 ρ w h)

def b10 (C2:World→Prop) (x0:Value) (w:World) (_r:Tok R:=tok R) (_C2:Tok C2:=tok C2):Prop :=
 b5 R C2 x0 w
theorem b10_ok (R:EP) (C2:World→Prop) (ρ:Env) (w:World) (h:b10 R C2 (ρ 0) w):cP2 R (elsC p5) (q2 R C2) ρ w:=cast (by kernel_rfl) h

def b7 (C2:World→Prop) (x0 x55:Value) (w:World) (_r:Tok R:=tok R) (_C2:Tok C2:=tok C2):Prop :=
 SPL x55 (b8 R C2 x0 w) (b10 R C2 x0 w)
theorem b7_ok (R:EP) (C2:World→Prop) (ρ:Env) (w:World) (h:b7 R C2 (ρ 0) (ρ 55) w):cP2 R p5 (q2 R C2) ρ w:=by
 have e:Code.cond (.tmp 55) (thnC p5) (elsC p5)=p5:=by kernel_rfl
 rw [←e]
 exact condQ' h (fun h=>b8_ok R C2 ρ w h) (fun h=>b10_ok R C2 ρ w h)

def b6 (C2:World→Prop) (x0:Value) (w:World) (_r:Tok R:=tok R) (_C2:Tok C2:=tok C2):Prop :=
 NILC x0 fun v1 =>
 PUR prog (Instr.fieldAt 135 v1 1) fun v2 =>
 LD prog (Instr.loadAt 3 v2) (World.drew w) fun v3 =>
 NILC x0 fun v4 =>
 PUR prog (Instr.fieldAt 135 v4 0) fun v5 =>
 LD prog (Instr.loadAt 9 v5) (World.drew w) fun v6 =>
 LD prog (Builtin.len_ #[9] 3 #[v6]) (World.drew w) fun v7 =>
 PUR prog (bins .lss 3 (.tmp 37) (.tmp 42) v3 v7) fun v8 =>
 SPL v8
 (NILC x0 fun v9 =>
 PUR prog (Instr.fieldAt 135 v9 0) fun v10 =>
 LD prog (Instr.loadAt 9 v10) (World.drew w) fun v11 =>
 NILC x0 fun v12 =>
 PUR prog (Instr.fieldAt 135 v12 1) fun v13 =>
 LD prog (Instr.loadAt 3 v13) (World.drew w) fun v14 =>
 PUR prog (Instr.index 9 v11 v14) fun v15 =>
 PUR prog (bins .eql 5 (.tmp 53) (.const (.int .u8 35)) v15 (.int .u8 35)) fun v16 =>
 b7 R C2 x0 v16 (World.drew w))
 (b7 R C2 x0 (.bool Bool.false) (World.drew w))
abbrev q4 (C2:World→Prop):XP:=QX (fun ρ w=>b7 R C2 (ρ 0) (ρ 55) w) (fun ρ w=>R (.returned (ρ 2)) w) [(1,(fun ρ w=>C2  w))]
theorem b6_eq (R:EP) (C2:World→Prop) (ρ:Env) (w:World):(b6 R C2 (ρ 0) w)=cP2 R (preC 0 p4) (q4 R C2) ρ w:=by kernel_rfl
theorem b6_ok (R:EP) (C2:World→Prop) (ρ:Env) (w:World) (h:b6 R C2 (ρ 0) w):cP2 R p4 (q2 R C2) ρ w:=by
 have e:appC 0 (preC 0 p4) (dropC 1 p4)=p4:=by kernel_rfl
 rw [←e]
 exact appQ (fun ρ w=>b7 R C2 (ρ 0) (ρ 55) w) 0 ((b6_eq R C2 ρ w).mp h) (fun ρ w h=>b7_ok R C2 ρ w h)
theorem k4_ok (R:EP) (C2:World→Prop) (ρ:Env) (w:World) (h:b6 R C2 (ρ 0) w):cP2 R (sndC p2) (q1 R C2) ρ w:=by
 have e:Code.seq (fstC (sndC p2)) (sndC (sndC p2))=(sndC p2):=by kernel_rfl
 rw [←e]
 exact seqQ (fun ρ w=>b5 R C2 (ρ 0) w) (b6_ok R C2 ρ w h) (fun ρ w h=>b5_ok R C2 ρ w h)
noncomputable abbrev p7:Code:=blkC (fstC p2)
noncomputable abbrev p8:Code:=sndC (loopC p7)

def b14 (C2:World→Prop) (C12:World→Prop) (x0:Value) (w:World) (_r:Tok R:=tok R) (_C2:Tok C2:=tok C2) (_C12:Tok C12:=tok C12):Prop :=
 NILC x0 fun v1 =>
 RUN prog (pan R) (Instr.fieldAt 135 v1 1) w fun v2 w3 =>
 RUN prog (pan R) (Instr.loadAt 3 v2) w3 fun v4 w5 =>
 RUN prog (pan R) (bins .add 3 (.tmp 30) (.const (.int .i64 1)) v4 (.int .i64 1)) w5 fun v6 w7 =>
 NILC x0 fun v8 =>
 RUN prog (pan R) (Instr.fieldAt 135 v8 1) w7 fun v9 w10 =>
 RUNU prog (pan R) (Instr.storeAt 3 v9 v6) w10 fun w11 =>
 C12  w11
abbrev q5 (C2:World→Prop) (C12:World→Prop):XP:=QX (fun ρ w=>C12  w) (fun ρ w=>R (.returned (ρ 2)) w) [(0,(fun ρ w=>b6 R C2 (ρ 0) w)),(1,(fun ρ w=>C2  w))]
theorem b14_ok (R:EP) (C2:World→Prop) (C12:World→Prop) (ρ:Env) (w:World) (h:b14 R C2 C12 (ρ 0) w):cP2 R p8 (q5 R C2 C12) ρ w:=cast (by kernel_rfl) h
noncomputable abbrev p9:Code:=fstC (loopC p7)
noncomputable abbrev p10:Code:=dropC 1 p9

def b16 (C2:World→Prop) (C12:World→Prop) (x0 x26:Value) (w:World) (_r:Tok R:=tok R) (_C2:Tok C2:=tok C2) (_C12:Tok C12:=tok C12):Prop :=
 SPL x26
 (b14 R C2 C12 x0 w)
 (b6 R C2 x0 w)
abbrev q6 (C2:World→Prop) (C12:World→Prop):XP:=QX (fun ρ w=>b14 R C2 C12 (ρ 0) w) (fun ρ w=>R (.returned (ρ 2)) w) [(0,(fun ρ w=>b6 R C2 (ρ 0) w)),(1,(fun ρ w=>C2  w))]
theorem b16_ok (R:EP) (C2:World→Prop) (C12:World→Prop) (ρ:Env) (w:World) (h:b16 R C2 C12 (ρ 0) (ρ 26) w):cP2 R p10 (q6 R C2 C12) ρ w:=cast (by kernel_rfl) h

def b15 (C2:World→Prop) (C12:World→Prop) (x0:Value) (w:World) (_r:Tok R:=tok R) (_C2:Tok C2:=tok C2) (_C12:Tok C12:=tok C12):Prop :=
 NILC x0 fun v1 =>
 PUR prog (Instr.fieldAt 135 v1 1) fun v2 =>
 LD prog (Instr.loadAt 3 v2) (World.drew w) fun v3 =>
 NILC x0 fun v4 =>
 PUR prog (Instr.fieldAt 135 v4 0) fun v5 =>
 LD prog (Instr.loadAt 9 v5) (World.drew w) fun v6 =>
 LD prog (Builtin.len_ #[9] 3 #[v6]) (World.drew w) fun v7 =>
 PUR prog (bins .lss 3 (.tmp 7) (.tmp 12) v3 v7) fun v8 =>
 SPL v8
 (NILC x0 fun v9 =>
 PUR prog (Instr.fieldAt 135 v9 0) fun v10 =>
 LD prog (Instr.loadAt 9 v10) (World.drew w) fun v11 =>
 NILC x0 fun v12 =>
 PUR prog (Instr.fieldAt 135 v12 1) fun v13 =>
 LD prog (Instr.loadAt 3 v13) (World.drew w) fun v14 =>
 PUR prog (Instr.index 9 v11 v14) fun v15 =>
 CALL prog (pan R) strings_IndexByte.id #[(.string {data:=#[32,9,10,13] }),v15] (World.drew w) fun v16 w17 =>
 PUR prog (bins .geq 3 (.tmp 24) (.const (.int .i64 0)) v16 (.int .i64 0)) fun v18 =>
 b16 R C2 C12 x0 v18 w17)
 (b16 R C2 C12 x0 (.bool Bool.false) (World.drew w))
abbrev q7 (C2:World→Prop) (C12:World→Prop):XP:=QX (fun ρ w=>b16 R C2 C12 (ρ 0) (ρ 26) w) (fun ρ w=>R (.returned (ρ 2)) w) [(0,(fun ρ w=>b6 R C2 (ρ 0) w)),(1,(fun ρ w=>C2  w))]
theorem b15_eq (R:EP) (C2:World→Prop) (C12:World→Prop) (ρ:Env) (w:World):(b15 R C2 C12 (ρ 0) w)=cP2 R (preC 0 p9) (q7 R C2 C12) ρ w:=by kernel_rfl
theorem b15_ok (R:EP) (C2:World→Prop) (C12:World→Prop) (ρ:Env) (w:World) (h:b15 R C2 C12 (ρ 0) w):cP2 R p9 (q6 R C2 C12) ρ w:=by
 have e:appC 0 (preC 0 p9) (dropC 1 p9)=p9:=by kernel_rfl
 rw [←e]
 exact appQ (fun ρ w=>b16 R C2 C12 (ρ 0) (ρ 26) w) 0 ((b15_eq R C2 C12 ρ w).mp h) (fun ρ w h=>b16_ok R C2 C12 ρ w h)
theorem k13_ok (R:EP) (C2:World→Prop) (C12:World→Prop) (ρ:Env) (w:World) (h:b15 R C2 C12 (ρ 0) w):cP2 R (loopC p7) (q5 R C2 C12) ρ w:=by
 have e:Code.seq (fstC (loopC p7)) (sndC (loopC p7))=(loopC p7):=by kernel_rfl
 rw [←e]
 exact seqQ (fun ρ w=>b14 R C2 C12 (ρ 0) w) (b15_ok R C2 C12 ρ w h) (fun ρ w h=>b14_ok R C2 C12 ρ w h)

def l12 (C2:World→Prop) (x0:Value) (w:World) (_r:Tok R:=tok R) (_C2:Tok C2:=tok C2):Prop :=
 ∃(J:World→Prop) (μ:World→Nat),J  w∧∀w0,J  w0→b15 R C2 (fun  w1=>J  w1∧μ  w1<μ  w0) x0 w0
abbrev q8 (C2:World→Prop):XP:=QX (fun ρ w=>b6 R C2 (ρ 0) w) (fun ρ w=>R (.returned (ρ 2)) w) [(0,(fun ρ w=>b6 R C2 (ρ 0) w)),(1,(fun ρ w=>C2  w))]
theorem l12_ok (R:EP) (C2:World→Prop) (ρ:Env) (w:World) (h:l12 R C2 (ρ 0) w):cP2 R p7 (q8 R C2) ρ w:=by
 unfold l12 at h
 obtain ⟨J,μ,h0,hr⟩:=h
 have e:Code.loop (loopC p7)=p7:=by kernel_rfl
 rw [←e]
 refine loopQ (fun ρ' w'=>J  w') (fun ρ' w'=>μ  w') h0 fun ρ' w' hA hI=>?_
 have e0:ρ' 0=ρ 0:=Agree.at hA 0 (by kernel_rfl)
 have h1:=hr  w' hI
 rw [←e0] at h1
 exact k13_ok R C2 (fun  w1=>J  w1∧μ  w1<μ  w') ρ' w' h1
theorem l12_intro (R:EP) (C2:World→Prop) (x0:Value) (w:World) (J:World→Prop) (μ:World→Nat) (h0:J  w)
  (hr:∀w0,J  w0→∀C12:World→Prop,(∀w1,J  w1→μ  w1<μ  w0→C12  w1)→b15 R C2 C12 x0 w0):l12 R C2 x0 w:=by
 unfold l12
 exact ⟨J,μ,h0,fun  w0 hJ=>hr  w0 hJ _ (fun  w1 h1 h2=>⟨h1,h2⟩)⟩
abbrev q9 (C2:World→Prop):XP:=QX (fun ρ w=>b6 R C2 (ρ 0) w) (fun ρ w=>R (.returned (ρ 2)) w) [(1,(fun ρ w=>C2  w))]
theorem k11_ok (R:EP) (C2:World→Prop) (ρ:Env) (w:World) (h:l12 R C2 (ρ 0) w):cP2 R (fstC p2) (q9 R C2) ρ w:=by
 have e:Code.block 0 (blkC (fstC p2))=(fstC p2):=by kernel_rfl
 rw [←e]
 exact blockQ (l12_ok R C2 ρ w h)
theorem k3_ok (R:EP) (C2:World→Prop) (ρ:Env) (w:World) (h:l12 R C2 (ρ 0) w):cP2 R p2 (q1 R C2) ρ w:=by
 have e:Code.seq (fstC p2) (sndC p2)=p2:=by kernel_rfl
 rw [←e]
 exact seqQ (fun ρ w=>b6 R C2 (ρ 0) w) (k11_ok R C2 ρ w h) (fun ρ w h=>k4_ok R C2 ρ w h)

def l2 (x0:Value) (w:World) (_r:Tok R:=tok R):Prop :=
 ∃(J:World→Prop) (μ:World→Nat),J  w∧∀w0,J  w0→l12 R (fun  w1=>J  w1∧μ  w1<μ  w0) x0 w0
abbrev q10:XP:=QX (fun ρ w=>R (.returned (ρ 2)) w) (fun ρ w=>R (.returned (ρ 2)) w) []
theorem l2_ok (h:l2 R (ρ 0) w):cP2 R p1 (q10 R) ρ w:=by
 unfold l2 at h
 obtain ⟨J,μ,h0,hr⟩:=h
 have e:Code.scope (Code.seq (Code.label 0) (sndC (scopeC p1)))=p1:=by kernel_rfl
 rw [←e]
 refine scopeQ (fun ρ' w'=>J  w') (fun ρ' w'=>μ  w') h0 (evenKeys (by kernel_rfl)) fun ρ' w' hA hI=>?_
 have e0:ρ' 0=ρ 0:=Agree.at hA 0 (by kernel_rfl)
 have h1:=hr  w' hI
 rw [←e0] at h1
 exact k3_ok R (fun  w1=>J  w1∧μ  w1<μ  w') ρ' w' h1
theorem l2_intro (R:EP) (x0:Value) (w:World) (J:World→Prop) (μ:World→Nat) (h0:J  w)
  (hr:∀w0,J  w0→∀C2:World→Prop,(∀w1,J  w1→μ  w1<μ  w0→C2  w1)→l12 R C2 x0 w0):l2 R x0 w:=by
 unfold l2
 exact ⟨J,μ,h0,fun  w0 hJ=>hr  w0 hJ _ (fun  w1 h1 h2=>⟨h1,h2⟩)⟩

def b1 (x0:Value) (w:World) (_r:Tok R:=tok R):Prop :=
 l2 R x0 w
abbrev q11:XP:=QX (fun ρ w=>l2 R (ρ 0) w) (fun ρ w=>R (.returned (ρ 2)) w) []
theorem b1_eq:(b1 R (ρ 0) w)=cP2 R (preC 0 code) (q11 R) ρ w:=by kernel_rfl
theorem b1_ok (h:b1 R (ρ 0) w):cP2 R code (q10 R) ρ w:=by
 have e:appC 0 (preC 0 code) (dropC 1 code)=code:=by kernel_rfl
 rw [←e]
 exact appQ (fun ρ w=>l2 R (ρ 0) w) 0 ((b1_eq R ρ w).mp h) (fun ρ w h=>l2_ok R ρ w h)
/-- What is owed for a call. -/
def run (a0:Value) (w:World):Prop:=b1 R a0 w
theorem calls (R:EP) (a0:Value) (w:World) (h:run R a0 w):Calls prog id #[a0] w R :=
 calls_of_t (f:=id) (fn:=f95) (c:=code) (by kernel_rfl) func95 (by kernel_rfl) (by kernel_rfl) (args:=[a0]) (Nat.le_of_ble_eq_true rfl) rfl (b1_ok R (envOf [a0]) w h)
theorem enters:Enters prog id:=fun args w=>call95 args w
theorem ct {a0:Value} {w:World} {S:VP} (h:∀R:EP,(∀v w,S v w→R (.returned v) w)→run R a0 w):Ct prog id #[a0] w S :=
 Ct.intro enters fun R hR=>calls R a0 w (h R hR)
attribute [irreducible] b5 b9 b8 b10 b7 b6 b14 b16 b15 l12 l2 b1 run
end scan_scanner_skip

/-! ### (*presage/scan.scanner).next -/
namespace scan_scanner_next
noncomputable def code:Code:=bodyOf f96
noncomputable abbrev p1:Code:=dropC 2 code

def b3 (x2 x4:Value) (w:World) (_r:Tok R:=tok R):Prop :=
 RUN prog (pan R) (Instr.loadAt 91 x4) w fun v1 w2 =>
 RUNU prog (pan R) (Instr.storeAt 91 x2 v1) w2 fun w3 =>
 LD prog (Instr.loadAt 91 x2) w3 fun r0=>R (.returned (.tuple #[r0,(.bool Bool.false)])) w3
abbrev q1:XP:=QX (fun ρ w=>LD prog (Instr.loadAt 91 (ρ 2)) w fun r0=>R (.returned (.tuple #[r0,(ρ 3)])) w) (fun ρ w=>LD prog (Instr.loadAt 91 (ρ 2)) w fun r0=>R (.returned (.tuple #[r0,(ρ 3)])) w) []
theorem b3_ok (h:b3 R (ρ 2) (ρ 4) w):cP2 R (sndC p1) (q1 R) ρ w:=cast (by kernel_rfl) h
noncomputable abbrev p2:Code:=dropC 1 (fstC p1)
noncomputable abbrev p3:Code:=dropC 1 (blkC p2)

def b8 (x0 x2 x4 x5:Value) (w:World) (_r:Tok R:=tok R):Prop :=
 NILC x0 fun v1 =>
 RUN prog (pan R) (Instr.fieldAt 135 v1 1) w fun v2 w3 =>
 RUN prog (pan R) (Instr.loadAt 3 v2) w3 fun v4 w5 =>
 RUN prog (pan R) (bins .add 3 (.tmp 28) (.const (.int .i64 1)) v4 (.int .i64 1)) w5 fun v6 w7 =>
 NILC x0 fun v8 =>
 RUN prog (pan R) (Instr.fieldAt 135 v8 1) w7 fun v9 w10 =>
 RUNU prog (pan R) (Instr.storeAt 3 v9 v6) w10 fun w11 =>
 RUN prog (pan R) (convert 5 9 x5) w11 fun v12 w13 =>
 RUN prog (pan R) (Instr.fieldAt 91 x4 0) w13 fun v14 w15 =>
 RUNU prog (pan R) (Instr.storeAt 3 v14 (.int .i64 4)) w15 fun w16 =>
 RUN prog (pan R) (Instr.fieldAt 91 x4 1) w16 fun v17 w18 =>
 RUNU prog (pan R) (Instr.storeAt 9 v17 v12) w18 fun w19 =>
 RUN prog (pan R) (Instr.loadAt 91 x4) w19 fun v20 w21 =>
 RUNU prog (pan R) (Instr.storeAt 91 x2 v20) w21 fun w22 =>
 LD prog (Instr.loadAt 91 x2) w22 fun r0=>R (.returned (.tuple #[r0,(.bool Bool.true)])) w22
abbrev q2:XP:=QX (fun ρ w=>b3 R (ρ 2) (ρ 4) w) (fun ρ w=>LD prog (Instr.loadAt 91 (ρ 2)) w fun r0=>R (.returned (.tuple #[r0,(ρ 3)])) w) [(0,(fun ρ w=>b3 R (ρ 2) (ρ 4) w))]
theorem b8_ok (h:b8 R (ρ 0) (ρ 2) (ρ 4) (ρ 5) w):cP2 R (thnC p3) (q2 R) ρ w:=cast (by kernel_rfl) h
noncomputable abbrev p4:Code:=dropC 1 (elsC p3)

def b11 (x0 x2 x4:Value) (w:World) (_r:Tok R:=tok R):Prop :=
 CALL prog (pan R) scan_scanner_order.id #[x0] w fun v1 w2 =>
 RUN prog (pan R) (Instr.fieldAt 91 x4 0) w2 fun v3 w4 =>
 RUNU prog (pan R) (Instr.storeAt 3 v3 (.int .i64 3)) w4 fun w5 =>
 RUN prog (pan R) (Instr.fieldAt 91 x4 1) w5 fun v6 w7 =>
 RUNU prog (pan R) (Instr.storeAt 9 v6 v1) w7 fun w8 =>
 LD prog (Instr.loadAt 91 x4) (World.drew w8) fun v9 =>
 LD prog (Instr.loadAt 24 (.pointer (some ⟨0,0,none⟩))) (World.drew w8) fun v10 =>
 PUR prog (Instr.fieldAt 91 x4 1) fun v11 =>
 LD prog (Instr.loadAt 9 v11) (World.drew w8) fun v12 =>
 CALL prog (pan R) slices_Contains_string_string.id #[v10,v12] (World.drew w8) fun v13 w14 =>
 Sem.run prog (Instr.loadAt 91 x4) w14 = .ok v9 w14∧(RUNU prog (pan R) (Instr.storeAt 91 x2 v9) w14 fun w15 =>
 LD prog (Instr.loadAt 91 x2) w15 fun r0=>R (.returned (.tuple #[r0,v13])) w15)
theorem b11_ok (h:b11 R (ρ 0) (ρ 2) (ρ 4) w):cP2 R (thnC p4) (q2 R) ρ w:=cast (by kernel_rfl) h
noncomputable abbrev p5:Code:=dropC 1 (elsC p4)
noncomputable abbrev p6:Code:=dropC 3 (thnC p5)
noncomputable abbrev p7:Code:=dropC 1 p6

def b16 (x2 x4 x6:Value) (w:World) (_r:Tok R:=tok R):Prop :=
 RUN prog (pan R) (Instr.loadAt 91 x4) w fun v1 w2 =>
 RUNU prog (pan R) (Instr.storeAt 91 x2 v1) w2 fun w3 =>
 LD prog (Instr.loadAt 91 x2) w3 fun r0=>R (.returned (.tuple #[r0,x6])) w3
theorem b16_ok (h:b16 R (ρ 2) (ρ 4) (ρ 6) w):cP2 R p7 (q2 R) ρ w:=cast (by kernel_rfl) h

def b15 (x0 x2 x4 x6:Value) (w:World) (_r:Tok R:=tok R):Prop :=
 SPL x6
 (NILC x0 fun v1 =>
 RUN prog (pan R) (Instr.fieldAt 135 v1 1) w fun v2 w3 =>
 RUN prog (pan R) (Instr.loadAt 3 v2) w3 fun v4 w5 =>
 RUN prog (pan R) (bins .add 3 (.tmp 74) (.const (.int .i64 1)) v4 (.int .i64 1)) w5 fun v6 w7 =>
 NILC x0 fun v8 =>
 RUN prog (pan R) (Instr.fieldAt 135 v8 1) w7 fun v9 w10 =>
 RUNU prog (pan R) (Instr.storeAt 3 v9 v6) w10 fun w11 =>
 b16 R x2 x4 x6 w11)
 (b16 R x2 x4 x6 w)
abbrev q3:XP:=QX (fun ρ w=>b16 R (ρ 2) (ρ 4) (ρ 6) w) (fun ρ w=>LD prog (Instr.loadAt 91 (ρ 2)) w fun r0=>R (.returned (.tuple #[r0,(ρ 3)])) w) [(0,(fun ρ w=>b3 R (ρ 2) (ρ 4) w))]
theorem b15_eq:(b15 R (ρ 0) (ρ 2) (ρ 4) (ρ 6) w)=cP2 R (preC 0 p6) (q3 R) ρ w:=by kernel_rfl
theorem b15_ok (h:b15 R (ρ 0) (ρ 2) (ρ 4) (ρ 6) w):cP2 R p6 (q2 R) ρ w:=by
 have e:appC 0 (preC 0 p6) (dropC 1 p6)=p6:=by kernel_rfl
 rw [←e]
 exact appQ (fun ρ w=>b16 R (ρ 2) (ρ 4) (ρ 6) w) 0 ((b15_eq R ρ w).mp h) (fun ρ w h=>b16_ok R ρ w h)

def b14 (x0 x2 x4:Value) (w:World) (_r:Tok R:=tok R):Prop :=
 NILC x0 fun v1 =>
 RUN prog (pan R) (Instr.fieldAt 135 v1 1) w fun v2 w3 =>
 RUN prog (pan R) (Instr.loadAt 3 v2) w3 fun v4 w5 =>
 RUN prog (pan R) (bins .add 3 (.tmp 55) (.const (.int .i64 1)) v4 (.int .i64 1)) w5 fun v6 w7 =>
 NILC x0 fun v8 =>
 RUN prog (pan R) (Instr.fieldAt 135 v8 1) w7 fun v9 w10 =>
 RUNU prog (pan R) (Instr.storeAt 3 v9 v6) w10 fun w11 =>
 CALL prog (pan R) scan_scanner_run.id #[x0,(.func (.func scan_plain.id) #[] #[]),(.int .i64 16)] w11 fun v12 w13 =>
 RUN prog (pan R) (Instr.fieldAt 91 x4 0) w13 fun v14 w15 =>
 RUNU prog (pan R) (Instr.storeAt 3 v14 (.int .i64 2)) w15 fun w16 =>
 RUN prog (pan R) (Instr.fieldAt 91 x4 1) w16 fun v17 w18 =>
 RUNU prog (pan R) (Instr.storeAt 9 v17 v12) w18 fun w19 =>
 RUN prog (pan R) (Instr.fieldAt 91 x4 1) w19 fun v20 w21 =>
 RUN prog (pan R) (Instr.loadAt 9 v20) w21 fun v22 w23 =>
 RUN prog (pan R) (bins .neq 9 (.tmp 64) (.const (.string {data:=#[] })) v22 (.string {data:=#[] })) w23 fun v24 w25 =>
 SPL v24
 (CALL prog (pan R) scan_scanner_sees.id #[x0,(.func (.func scan_scanner_next_1.id) #[] #[])] w25 fun v26 w27 =>
 b15 R x0 x2 x4 v26 w27)
 (b15 R x0 x2 x4 (.bool Bool.false) w25)
abbrev q4:XP:=QX (fun ρ w=>b15 R (ρ 0) (ρ 2) (ρ 4) (ρ 6) w) (fun ρ w=>LD prog (Instr.loadAt 91 (ρ 2)) w fun r0=>R (.returned (.tuple #[r0,(ρ 3)])) w) [(0,(fun ρ w=>b3 R (ρ 2) (ρ 4) w))]
theorem b14_eq:(b14 R (ρ 0) (ρ 2) (ρ 4) w)=cP2 R (preC 2 (thnC p5)) (q4 R) ρ w:=by kernel_rfl
theorem b14_ok (h:b14 R (ρ 0) (ρ 2) (ρ 4) w):cP2 R (thnC p5) (q2 R) ρ w:=by
 have e:appC 2 (preC 2 (thnC p5)) (dropC 3 (thnC p5))=(thnC p5):=by kernel_rfl
 rw [←e]
 exact appQ (fun ρ w=>b15 R (ρ 0) (ρ 2) (ρ 4) (ρ 6) w) 2 ((b14_eq R ρ w).mp h) (fun ρ w h=>b15_ok R ρ w h)
noncomputable abbrev p8:Code:=dropC 1 (elsC p5)

def b18 (x0 x2 x4 x80:Value) (w:World) (_r:Tok R:=tok R):Prop :=
 SPL x80
 (CALL prog (pan R) scan_scanner_run.id #[x0,(.func (.func scan_inner.id) #[] #[]),(.int .i64 16)] w fun v1 w2 =>
 RUN prog (pan R) (Instr.fieldAt 91 x4 0) w2 fun v3 w4 =>
 RUNU prog (pan R) (Instr.storeAt 3 v3 (.int .i64 1)) w4 fun w5 =>
 RUN prog (pan R) (Instr.fieldAt 91 x4 1) w5 fun v6 w7 =>
 RUNU prog (pan R) (Instr.storeAt 9 v6 v1) w7 fun w8 =>
 LD prog (Instr.loadAt 91 x4) (World.drew w8) fun v9 =>
 CALL prog (pan R) scan_scanner_sees.id #[x0,(.func (.func scan_inner.id) #[] #[])] (World.drew w8) fun v10 w11 =>
 Sem.run prog (Instr.loadAt 91 x4) w11 = .ok v9 w11∧(PUR prog (Op.unary .not v10) fun v12 =>
 RUNU prog (pan R) (Instr.storeAt 91 x2 v9) w11 fun w13 =>
 LD prog (Instr.loadAt 91 x2) w13 fun r0=>R (.returned (.tuple #[r0,v12])) w13))
 (b3 R x2 x4 w)
theorem b18_ok (h:b18 R (ρ 0) (ρ 2) (ρ 4) (ρ 80) w):cP2 R p8 (q2 R) ρ w:=cast (by kernel_rfl) h

def b17 (x0 x2 x4 x5:Value) (w:World) (_r:Tok R:=tok R):Prop :=
 CALL prog (pan R) scan_letter.id #[x5] w fun v1 w2 =>
 SPL v1
 (b18 R x0 x2 x4 (.bool Bool.true) w2)
 (RUN prog (pan R) (bins .eql 5 (.tmp 84) (.const (.int .u8 95)) x5 (.int .u8 95)) w2 fun v3 w4 =>
 b18 R x0 x2 x4 v3 w4)
abbrev q5:XP:=QX (fun ρ w=>b18 R (ρ 0) (ρ 2) (ρ 4) (ρ 80) w) (fun ρ w=>LD prog (Instr.loadAt 91 (ρ 2)) w fun r0=>R (.returned (.tuple #[r0,(ρ 3)])) w) [(0,(fun ρ w=>b3 R (ρ 2) (ρ 4) w))]
theorem b17_eq:(b17 R (ρ 0) (ρ 2) (ρ 4) (ρ 5) w)=cP2 R (preC 0 (elsC p5)) (q5 R) ρ w:=by kernel_rfl
theorem b17_ok (h:b17 R (ρ 0) (ρ 2) (ρ 4) (ρ 5) w):cP2 R (elsC p5) (q2 R) ρ w:=by
 have e:appC 0 (preC 0 (elsC p5)) (dropC 1 (elsC p5))=(elsC p5):=by kernel_rfl
 rw [←e]
 exact appQ (fun ρ w=>b18 R (ρ 0) (ρ 2) (ρ 4) (ρ 80) w) 0 ((b17_eq R ρ w).mp h) (fun ρ w h=>b18_ok R ρ w h)

def b13 (x0 x2 x4 x5 x49:Value) (w:World) (_r:Tok R:=tok R):Prop :=
 SPL x49 (b14 R x0 x2 x4 w) (b17 R x0 x2 x4 x5 w)
theorem b13_ok (h:b13 R (ρ 0) (ρ 2) (ρ 4) (ρ 5) (ρ 49) w):cP2 R p5 (q2 R) ρ w:=by
 have e:Code.cond (.tmp 49) (thnC p5) (elsC p5)=p5:=by kernel_rfl
 rw [←e]
 exact condQ' h (fun h=>b14_ok R ρ w h) (fun h=>b17_ok R ρ w h)

def b12 (x0 x2 x4 x5:Value) (w:World) (_r:Tok R:=tok R):Prop :=
 RUN prog (pan R) (bins .eql 5 (.tmp 50) (.const (.int .u8 39)) x5 (.int .u8 39)) w fun v1 w2 =>
 b13 R x0 x2 x4 x5 v1 w2
abbrev q6:XP:=QX (fun ρ w=>b13 R (ρ 0) (ρ 2) (ρ 4) (ρ 5) (ρ 49) w) (fun ρ w=>LD prog (Instr.loadAt 91 (ρ 2)) w fun r0=>R (.returned (.tuple #[r0,(ρ 3)])) w) [(0,(fun ρ w=>b3 R (ρ 2) (ρ 4) w))]
theorem b12_eq:(b12 R (ρ 0) (ρ 2) (ρ 4) (ρ 5) w)=cP2 R (preC 0 (elsC p4)) (q6 R) ρ w:=by kernel_rfl
theorem b12_ok (h:b12 R (ρ 0) (ρ 2) (ρ 4) (ρ 5) w):cP2 R (elsC p4) (q2 R) ρ w:=by
 have e:appC 0 (preC 0 (elsC p4)) (dropC 1 (elsC p4))=(elsC p4):=by kernel_rfl
 rw [←e]
 exact appQ (fun ρ w=>b13 R (ρ 0) (ρ 2) (ρ 4) (ρ 5) (ρ 49) w) 0 ((b12_eq R ρ w).mp h) (fun ρ w h=>b13_ok R ρ w h)

def b10 (x0 x2 x4 x5 x37:Value) (w:World) (_r:Tok R:=tok R):Prop :=
 SPL x37 (b11 R x0 x2 x4 w) (b12 R x0 x2 x4 x5 w)
theorem b10_ok (h:b10 R (ρ 0) (ρ 2) (ρ 4) (ρ 5) (ρ 37) w):cP2 R p4 (q2 R) ρ w:=by
 have e:Code.cond (.tmp 37) (thnC p4) (elsC p4)=p4:=by kernel_rfl
 rw [←e]
 exact condQ' h (fun h=>b11_ok R ρ w h) (fun h=>b12_ok R ρ w h)

def b9 (x0 x2 x4 x5:Value) (w:World) (_r:Tok R:=tok R):Prop :=
 RUN prog (pan R) (bins .eql 5 (.tmp 38) (.const (.int .u8 37)) x5 (.int .u8 37)) w fun v1 w2 =>
 b10 R x0 x2 x4 x5 v1 w2
abbrev q7:XP:=QX (fun ρ w=>b10 R (ρ 0) (ρ 2) (ρ 4) (ρ 5) (ρ 37) w) (fun ρ w=>LD prog (Instr.loadAt 91 (ρ 2)) w fun r0=>R (.returned (.tuple #[r0,(ρ 3)])) w) [(0,(fun ρ w=>b3 R (ρ 2) (ρ 4) w))]
theorem b9_eq:(b9 R (ρ 0) (ρ 2) (ρ 4) (ρ 5) w)=cP2 R (preC 0 (elsC p3)) (q7 R) ρ w:=by kernel_rfl
theorem b9_ok (h:b9 R (ρ 0) (ρ 2) (ρ 4) (ρ 5) w):cP2 R (elsC p3) (q2 R) ρ w:=by
 have e:appC 0 (preC 0 (elsC p3)) (dropC 1 (elsC p3))=(elsC p3):=by kernel_rfl
 rw [←e]
 exact appQ (fun ρ w=>b10 R (ρ 0) (ρ 2) (ρ 4) (ρ 5) (ρ 37) w) 0 ((b9_eq R ρ w).mp h) (fun ρ w h=>b10_ok R ρ w h)

def b7 (x0 x2 x4 x5 x21:Value) (w:World) (_r:Tok R:=tok R):Prop :=
 SPL x21 (b8 R x0 x2 x4 x5 w) (b9 R x0 x2 x4 x5 w)
theorem b7_ok (h:b7 R (ρ 0) (ρ 2) (ρ 4) (ρ 5) (ρ 21) w):cP2 R p3 (q2 R) ρ w:=by
 have e:Code.cond (.tmp 21) (thnC p3) (elsC p3)=p3:=by kernel_rfl
 rw [←e]
 exact condQ' h (fun h=>b8_ok R ρ w h) (fun h=>b9_ok R ρ w h)

def b6 (x0 x2 x4 x5:Value) (w:World) (_r:Tok R:=tok R):Prop :=
 CALL prog (pan R) strings_IndexByte.id #[(.string {data:=#[58,124,59] }),x5] w fun v1 w2 =>
 RUN prog (pan R) (bins .geq 3 (.tmp 23) (.const (.int .i64 0)) v1 (.int .i64 0)) w2 fun v3 w4 =>
 b7 R x0 x2 x4 x5 v3 w4
abbrev q8:XP:=QX (fun ρ w=>b7 R (ρ 0) (ρ 2) (ρ 4) (ρ 5) (ρ 21) w) (fun ρ w=>LD prog (Instr.loadAt 91 (ρ 2)) w fun r0=>R (.returned (.tuple #[r0,(ρ 3)])) w) [(0,(fun ρ w=>b3 R (ρ 2) (ρ 4) w))]
theorem b6_eq:(b6 R (ρ 0) (ρ 2) (ρ 4) (ρ 5) w)=cP2 R (preC 0 (blkC p2)) (q8 R) ρ w:=by kernel_rfl
theorem b6_ok (h:b6 R (ρ 0) (ρ 2) (ρ 4) (ρ 5) w):cP2 R (blkC p2) (q2 R) ρ w:=by
 have e:appC 0 (preC 0 (blkC p2)) (dropC 1 (blkC p2))=(blkC p2):=by kernel_rfl
 rw [←e]
 exact appQ (fun ρ w=>b7 R (ρ 0) (ρ 2) (ρ 4) (ρ 5) (ρ 21) w) 0 ((b6_eq R ρ w).mp h) (fun ρ w h=>b7_ok R ρ w h)
abbrev q9:XP:=QX (fun ρ w=>b3 R (ρ 2) (ρ 4) w) (fun ρ w=>LD prog (Instr.loadAt 91 (ρ 2)) w fun r0=>R (.returned (.tuple #[r0,(ρ 3)])) w) []
theorem k5_ok (h:b6 R (ρ 0) (ρ 2) (ρ 4) (ρ 5) w):cP2 R p2 (q9 R) ρ w:=by
 have e:Code.block 0 (blkC p2)=p2:=by kernel_rfl
 rw [←e]
 exact blockQ (b6_ok R ρ w h)

def b4 (x0 x2 x4:Value) (w:World) (_r:Tok R:=tok R):Prop :=
 NILC x0 fun v1 =>
 PUR prog (Instr.fieldAt 135 v1 0) fun v2 =>
 LD prog (Instr.loadAt 9 v2) (World.drew w) fun v3 =>
 NILC x0 fun v4 =>
 PUR prog (Instr.fieldAt 135 v4 1) fun v5 =>
 LD prog (Instr.loadAt 3 v5) (World.drew w) fun v6 =>
 PUR prog (Instr.index 9 v3 v6) fun v7 =>
 b6 R x0 x2 x4 v7 (World.drew w)
abbrev q10:XP:=QX (fun ρ w=>b6 R (ρ 0) (ρ 2) (ρ 4) (ρ 5) w) (fun ρ w=>LD prog (Instr.loadAt 91 (ρ 2)) w fun r0=>R (.returned (.tuple #[r0,(ρ 3)])) w) []
theorem b4_eq:(b4 R (ρ 0) (ρ 2) (ρ 4) w)=cP2 R (preC 0 (fstC p1)) (q10 R) ρ w:=by kernel_rfl
theorem b4_ok (h:b4 R (ρ 0) (ρ 2) (ρ 4) w):cP2 R (fstC p1) (q9 R) ρ w:=by
 have e:appC 0 (preC 0 (fstC p1)) (dropC 1 (fstC p1))=(fstC p1):=by kernel_rfl
 rw [←e]
 exact appQ (fun ρ w=>b6 R (ρ 0) (ρ 2) (ρ 4) (ρ 5) w) 0 ((b4_eq R ρ w).mp h) (fun ρ w h=>k5_ok R ρ w h)
theorem k2_ok (h:b4 R (ρ 0) (ρ 2) (ρ 4) w):cP2 R p1 (q1 R) ρ w:=by
 have e:Code.seq (fstC p1) (sndC p1)=p1:=by kernel_rfl
 rw [←e]
 exact seqQ (fun ρ w=>b3 R (ρ 2) (ρ 4) w) (b4_ok R ρ w h) (fun ρ w h=>b3_ok R ρ w h)

def b1 (x0:Value) (w:World) (_r:Tok R:=tok R):Prop :=
 RUN prog (pan R) (Instr.alloc 91 true (.tuple #[])) w fun v1 w2 =>
 NILC x0 fun v3 =>
 RUN prog (pan R) (Instr.fieldAt 135 v3 1) w2 fun v4 w5 =>
 RUN prog (pan R) (Instr.loadAt 3 v4) w5 fun v6 w7 =>
 RUN prog (pan R) (Instr.build 91 #[(2,v6)]) w7 fun v8 w9 =>
 RUN prog (pan R) (Instr.alloc 91 true (.tuple #[])) w9 fun v10 w11 =>
 RUNU prog (pan R) (Instr.storeAt 91 v10 v8) w11 fun w12 =>
 b4 R x0 v1 v10 w12
abbrev q11:XP:=QX (fun ρ w=>b4 R (ρ 0) (ρ 2) (ρ 4) w) (fun ρ w=>LD prog (Instr.loadAt 91 (ρ 2)) w fun r0=>R (.returned (.tuple #[r0,(ρ 3)])) w) []
theorem b1_eq:(b1 R (ρ 0) w)=cP2 R (preC 1 code) (q11 R) ρ w:=by kernel_rfl
theorem b1_ok (h:b1 R (ρ 0) w):cP2 R code (q1 R) ρ w:=by
 have e:appC 1 (preC 1 code) (dropC 2 code)=code:=by kernel_rfl
 rw [←e]
 exact appQ (fun ρ w=>b4 R (ρ 0) (ρ 2) (ρ 4) w) 1 ((b1_eq R ρ w).mp h) (fun ρ w h=>k2_ok R ρ w h)
/-- What is owed for a call. -/
def run (a0:Value) (w:World):Prop:=b1 R a0 w
theorem calls (R:EP) (a0:Value) (w:World) (h:run R a0 w):Calls prog id #[a0] w R :=
 calls_of_ct (f:=id) (fn:=f96) (c:=code) (by kernel_rfl) func96 (by kernel_rfl) (by kernel_rfl) (args:=[a0]) (Nat.le_of_ble_eq_true rfl) rfl (b1_ok R (envOf [a0]) w h)
theorem enters:Enters prog id:=fun args w=>call96 args w
theorem ct {a0:Value} {w:World} {S:VP} (h:∀R:EP,(∀v w,S v w→R (.returned v) w)→run R a0 w):Ct prog id #[a0] w S :=
 Ct.intro enters fun R hR=>calls R a0 w (h R hR)
attribute [irreducible] b3 b8 b11 b16 b15 b14 b18 b17 b13 b12 b10 b9 b7 b6 b4 b1 run
end scan_scanner_next

/-! ### strings.IndexByte -/
namespace strings_IndexByte
noncomputable def code:Code:=bodyOf f104
def b1 (x0 x1:Value) (w:World) (_r:Tok R:=tok R):Prop :=
 CALL prog (pan R) internal_stringslite_IndexByte.id #[x0,x1] w fun v1 w2 =>
 R (.returned v1) w2
abbrev q1:XP:=QX (fun ρ w=>R (.returned (ρ 4)) w) (fun ρ w=>R (.returned (ρ 4)) w) []
theorem b1_ok (h:b1 R (ρ 0) (ρ 1) w):cP2 R code (q1 R) ρ w:=cast (by kernel_rfl) h
/-- What is owed for a call. -/
def run (a0 a1:Value) (w:World):Prop:=b1 R a0 a1 w
theorem calls (R:EP) (a0 a1:Value) (w:World) (h:run R a0 a1 w):Calls prog id #[a0,a1] w R :=
 calls_of_t (f:=id) (fn:=f104) (c:=code) (by kernel_rfl) func104 (by kernel_rfl) (by kernel_rfl) (args:=[a0,a1]) (Nat.le_of_ble_eq_true rfl) rfl (b1_ok R (envOf [a0,a1]) w h)
theorem enters:Enters prog id:=fun args w=>call104 args w
theorem ct {a0 a1:Value} {w:World} {S:VP} (h:∀R:EP,(∀v w,S v w→R (.returned v) w)→run R a0 a1 w):Ct prog id #[a0,a1] w S :=
 Ct.intro enters fun R hR=>calls R a0 a1 w (h R hR)
attribute [irreducible] b1 run
end strings_IndexByte

/-! ### (*presage/scan.scanner).order -/
namespace scan_scanner_order
noncomputable def code:Code:=bodyOf f105
noncomputable abbrev p1:Code:=dropC 2 code
def b3 (x1 x3:Value) (w:World) (_r:Tok R:=tok R):Prop :=
 LD prog (Instr.loadAt 133 x1) (World.drew w) fun v1 =>
 NILC v1 fun v2 =>
 PUR prog (Instr.fieldAt 135 v2 0) fun v3 =>
 LD prog (Instr.loadAt 9 v3) (World.drew w) fun v4 =>
 LD prog (Instr.loadAt 3 x3) (World.drew w) fun v5 =>
 LD prog (Instr.loadAt 133 x1) (World.drew w) fun v6 =>
 NILC v6 fun v7 =>
 PUR prog (Instr.fieldAt 135 v7 1) fun v8 =>
 LD prog (Instr.loadAt 3 v8) (World.drew w) fun v9 =>
 PUR prog (Instr.sliceAt 9 v4 (some v5) (some v9) none) fun v10 =>
 R (.returned v10) (World.drew w)
abbrev q1:XP:=QX (fun ρ w=>R (.returned (ρ 2)) w) (fun ρ w=>R (.returned (ρ 2)) w) []
theorem b3_ok (h:b3 R (ρ 1) (ρ 3) w):cP2 R (sndC p1) (q1 R) ρ w:=cast (by kernel_rfl) h
noncomputable abbrev p2:Code:=dropC 1 (fstC p1)
noncomputable abbrev p3:Code:=loopC (blkC p2)
def b7 (C6:World→Prop) (x1 x3:Value) (w:World) (_r:Tok R:=tok R) (_C6:Tok C6:=tok C6):Prop :=
 RUN prog (pan R) (Instr.loadAt 133 x1) w fun v1 w2 =>
 CALL prog (pan R) scan_scanner_sees.id #[v1,(.func (.func scan_letter.id) #[] #[])] w2 fun v3 w4 =>
 SPL v3
 (RUN prog (pan R) (Instr.loadAt 24 (.pointer (some ⟨0,0,none⟩))) w4 fun v5 w6 =>
 RUN prog (pan R) (Instr.makeFunc (.func scan_scanner_order_1.id) #[] #[x1,x3]) w6 fun v7 w8 =>
 CALL prog (pan R) slices_ContainsFunc_string_string.id #[v5,v7] w8 fun v9 w10 =>
 RUN prog (pan R) (Op.unary .not v9) w10 fun v11 w12 =>
 SPL v11
 (R (.returned (.string {data:=#[] })) w12)
 (RUN prog (pan R) (Instr.loadAt 133 x1) w12 fun v13 w14 =>
 NILC v13 fun v15 =>
 RUN prog (pan R) (Instr.fieldAt 135 v15 1) w14 fun v16 w17 =>
 RUN prog (pan R) (Instr.loadAt 3 v16) w17 fun v18 w19 =>
 RUN prog (pan R) (bins .add 3 (.tmp 20) (.const (.int .i64 1)) v18 (.int .i64 1)) w19 fun v20 w21 =>
 NILC v13 fun v22 =>
 RUN prog (pan R) (Instr.fieldAt 135 v22 1) w21 fun v23 w24 =>
 RUNU prog (pan R) (Instr.storeAt 3 v23 v20) w24 fun w25 =>
 C6  w25))
 (b3 R x1 x3 w4)
abbrev q2 (C6:World→Prop):XP:=QX (fun ρ w=>C6  w) (fun ρ w=>R (.returned (ρ 2)) w) [(0,(fun ρ w=>b3 R (ρ 1) (ρ 3) w))]
theorem b7_ok (R:EP) (C6:World→Prop) (ρ:Env) (w:World) (h:b7 R C6 (ρ 1) (ρ 3) w):cP2 R p3 (q2 R C6) ρ w:=cast (by kernel_rfl) h
def l6 (x1 x3:Value) (w:World) (_r:Tok R:=tok R):Prop :=
 ∃(J:World→Prop) (μ:World→Nat),J  w∧∀w0,J  w0→b7 R (fun  w1=>J  w1∧μ  w1<μ  w0) x1 x3 w0
abbrev q3:XP:=QX (fun ρ w=>b3 R (ρ 1) (ρ 3) w) (fun ρ w=>R (.returned (ρ 2)) w) [(0,(fun ρ w=>b3 R (ρ 1) (ρ 3) w))]
theorem l6_ok (h:l6 R (ρ 1) (ρ 3) w):cP2 R (blkC p2) (q3 R) ρ w:=by
 unfold l6 at h
 obtain ⟨J,μ,h0,hr⟩:=h
 have e:Code.loop (loopC (blkC p2))=(blkC p2):=by kernel_rfl
 rw [←e]
 refine loopQ (fun ρ' w'=>J  w') (fun ρ' w'=>μ  w') h0 fun ρ' w' hA hI=>?_
 have e1:ρ' 1=ρ 1:=Agree.at hA 1 (by kernel_rfl)
 have e3:ρ' 3=ρ 3:=Agree.at hA 3 (by kernel_rfl)
 have h1:=hr  w' hI
 rw [←e1,←e3] at h1
 exact b7_ok R (fun  w1=>J  w1∧μ  w1<μ  w') ρ' w' h1
theorem l6_intro (R:EP) (x1 x3:Value) (w:World) (J:World→Prop) (μ:World→Nat) (h0:J  w)
  (hr:∀w0,J  w0→∀C6:World→Prop,(∀w1,J  w1→μ  w1<μ  w0→C6  w1)→b7 R C6 x1 x3 w0):l6 R x1 x3 w:=by
 unfold l6
 exact ⟨J,μ,h0,fun  w0 hJ=>hr  w0 hJ _ (fun  w1 h1 h2=>⟨h1,h2⟩)⟩
abbrev q4:XP:=QX (fun ρ w=>b3 R (ρ 1) (ρ 3) w) (fun ρ w=>R (.returned (ρ 2)) w) []
theorem k5_ok (h:l6 R (ρ 1) (ρ 3) w):cP2 R p2 (q4 R) ρ w:=by
 have e:Code.block 0 (blkC p2)=p2:=by kernel_rfl
 rw [←e]
 exact blockQ (l6_ok R ρ w h)
def b4 (x1 x3:Value) (w:World) (_r:Tok R:=tok R):Prop :=
 RUN prog (pan R) (Instr.loadAt 133 x1) w fun v1 w2 =>
 NILC v1 fun v3 =>
 RUN prog (pan R) (Instr.fieldAt 135 v3 1) w2 fun v4 w5 =>
 RUN prog (pan R) (Instr.loadAt 3 v4) w5 fun v6 w7 =>
 RUN prog (pan R) (bins .add 3 (.tmp 11) (.const (.int .i64 1)) v6 (.int .i64 1)) w7 fun v8 w9 =>
 NILC v1 fun v10 =>
 RUN prog (pan R) (Instr.fieldAt 135 v10 1) w9 fun v11 w12 =>
 RUNU prog (pan R) (Instr.storeAt 3 v11 v8) w12 fun w13 =>
 l6 R x1 x3 w13
abbrev q5:XP:=QX (fun ρ w=>l6 R (ρ 1) (ρ 3) w) (fun ρ w=>R (.returned (ρ 2)) w) []
theorem b4_eq:(b4 R (ρ 1) (ρ 3) w)=cP2 R (preC 0 (fstC p1)) (q5 R) ρ w:=by kernel_rfl
theorem b4_ok (h:b4 R (ρ 1) (ρ 3) w):cP2 R (fstC p1) (q4 R) ρ w:=by
 have e:appC 0 (preC 0 (fstC p1)) (dropC 1 (fstC p1))=(fstC p1):=by kernel_rfl
 rw [←e]
 exact appQ (fun ρ w=>l6 R (ρ 1) (ρ 3) w) 0 ((b4_eq R ρ w).mp h) (fun ρ w h=>k5_ok R ρ w h)
theorem k2_ok (h:b4 R (ρ 1) (ρ 3) w):cP2 R p1 (q1 R) ρ w:=by
 have e:Code.seq (fstC p1) (sndC p1)=p1:=by kernel_rfl
 rw [←e]
 exact seqQ (fun ρ w=>b3 R (ρ 1) (ρ 3) w) (b4_ok R ρ w h) (fun ρ w h=>b3_ok R ρ w h)
def b1 (x0:Value) (w:World) (_r:Tok R:=tok R):Prop :=
 RUN prog (pan R) (Instr.box 133 x0) w fun v1 w2 =>
 RUN prog (pan R) (Instr.loadAt 133 v1) w2 fun v3 w4 =>
 NILC v3 fun v5 =>
 RUN prog (pan R) (Instr.fieldAt 135 v5 1) w4 fun v6 w7 =>
 RUN prog (pan R) (Instr.loadAt 3 v6) w7 fun v8 w9 =>
 RUN prog (pan R) (Instr.alloc 3 true (.tuple #[])) w9 fun v10 w11 =>
 RUNU prog (pan R) (Instr.storeAt 3 v10 v8) w11 fun w12 =>
 b4 R v1 v10 w12
abbrev q6:XP:=QX (fun ρ w=>b4 R (ρ 1) (ρ 3) w) (fun ρ w=>R (.returned (ρ 2)) w) []
theorem b1_eq:(b1 R (ρ 0) w)=cP2 R (preC 1 code) (q6 R) ρ w:=by kernel_rfl
theorem b1_ok (h:b1 R (ρ 0) w):cP2 R code (q1 R) ρ w:=by
 have e:appC 1 (preC 1 code) (dropC 2 code)=code:=by kernel_rfl
 rw [←e]
 exact appQ (fun ρ w=>b4 R (ρ 1) (ρ 3) w) 1 ((b1_eq R ρ w).mp h) (fun ρ w h=>k2_ok R ρ w h)
/-- What is owed for a call. -/
def run (a0:Value) (w:World):Prop:=b1 R a0 w
theorem calls (R:EP) (a0:Value) (w:World) (h:run R a0 w):Calls prog id #[a0] w R :=
 calls_of_t (f:=id) (fn:=f105) (c:=code) (by kernel_rfl) func105 (by kernel_rfl) (by kernel_rfl) (args:=[a0]) (Nat.le_of_ble_eq_true rfl) rfl (b1_ok R (envOf [a0]) w h)
theorem enters:Enters prog id:=fun args w=>call105 args w
theorem ct {a0:Value} {w:World} {S:VP} (h:∀R:EP,(∀v w,S v w→R (.returned v) w)→run R a0 w):Ct prog id #[a0] w S :=
 Ct.intro enters fun R hR=>calls R a0 w (h R hR)
attribute [irreducible] b3 b7 l6 b4 b1 run
end scan_scanner_order

/-! ### slices.Contains[[]string,string] -/
namespace slices_Contains_string_string
noncomputable def code:Code:=bodyOf f106
def b1 (x0 x1:Value) (w:World) (_r:Tok R:=tok R):Prop :=
 CALL prog (pan R) slices_Index_string_string.id #[x0,x1] w fun v1 w2 =>
 RUN prog (pan R) (bins .geq 3 (.tmp 7) (.const (.int .i64 0)) v1 (.int .i64 0)) w2 fun v3 w4 =>
 R (.returned v3) w4
abbrev q1:XP:=QX (fun ρ w=>R (.returned (ρ 4)) w) (fun ρ w=>R (.returned (ρ 4)) w) []
theorem b1_ok (h:b1 R (ρ 0) (ρ 1) w):cP2 R code (q1 R) ρ w:=cast (by kernel_rfl) h
/-- What is owed for a call. -/
def run (a0 a1:Value) (w:World):Prop:=b1 R a0 a1 w
theorem calls (R:EP) (a0 a1:Value) (w:World) (h:run R a0 a1 w):Calls prog id #[a0,a1] w R :=
 calls_of_t (f:=id) (fn:=f106) (c:=code) (by kernel_rfl) func106 (by kernel_rfl) (by kernel_rfl) (args:=[a0,a1]) (Nat.le_of_ble_eq_true rfl) rfl (b1_ok R (envOf [a0,a1]) w h)
theorem enters:Enters prog id:=fun args w=>call106 args w
theorem ct {a0 a1:Value} {w:World} {S:VP} (h:∀R:EP,(∀v w,S v w→R (.returned v) w)→run R a0 a1 w):Ct prog id #[a0,a1] w S :=
 Ct.intro enters fun R hR=>calls R a0 a1 w (h R hR)
attribute [irreducible] b1 run
end slices_Contains_string_string

/-! ### (*presage/scan.scanner).run -/
namespace scan_scanner_run
noncomputable def code:Code:=bodyOf f107
noncomputable abbrev p1:Code:=dropC 2 code
def b3 (x0 x7:Value) (w:World) (_r:Tok R:=tok R):Prop :=
 NILC x0 fun v1 =>
 PUR prog (Instr.fieldAt 135 v1 0) fun v2 =>
 LD prog (Instr.loadAt 9 v2) (World.drew w) fun v3 =>
 NILC x0 fun v4 =>
 PUR prog (Instr.fieldAt 135 v4 1) fun v5 =>
 LD prog (Instr.loadAt 3 v5) (World.drew w) fun v6 =>
 PUR prog (Instr.sliceAt 9 v3 (some x7) (some v6) none) fun v7 =>
 R (.returned v7) (World.drew w)
abbrev q1:XP:=QX (fun ρ w=>R (.returned (ρ 6)) w) (fun ρ w=>R (.returned (ρ 6)) w) []
theorem b3_ok (h:b3 R (ρ 0) (ρ 7) w):cP2 R (sndC p1) (q1 R) ρ w:=cast (by kernel_rfl) h
noncomputable abbrev p2:Code:=blkC (fstC p1)
noncomputable abbrev p3:Code:=sndC (loopC p2)
def b7 (C5:World→Prop) (x0:Value) (w:World) (_r:Tok R:=tok R) (_C5:Tok C5:=tok C5):Prop :=
 NILC x0 fun v1 =>
 RUN prog (pan R) (Instr.fieldAt 135 v1 1) w fun v2 w3 =>
 RUN prog (pan R) (Instr.loadAt 3 v2) w3 fun v4 w5 =>
 RUN prog (pan R) (bins .add 3 (.tmp 48) (.const (.int .i64 1)) v4 (.int .i64 1)) w5 fun v6 w7 =>
 NILC x0 fun v8 =>
 RUN prog (pan R) (Instr.fieldAt 135 v8 1) w7 fun v9 w10 =>
 RUNU prog (pan R) (Instr.storeAt 3 v9 v6) w10 fun w11 =>
 C5  w11
abbrev q2 (C5:World→Prop):XP:=QX (fun ρ w=>C5  w) (fun ρ w=>R (.returned (ρ 6)) w) [(0,(fun ρ w=>b3 R (ρ 0) (ρ 7) w))]
theorem b7_ok (R:EP) (C5:World→Prop) (ρ:Env) (w:World) (h:b7 R C5 (ρ 0) w):cP2 R p3 (q2 R C5) ρ w:=cast (by kernel_rfl) h
noncomputable abbrev p4:Code:=fstC (loopC p2)
noncomputable abbrev p5:Code:=dropC 1 p4
def b9 (C5:World→Prop) (x0 x7 x44:Value) (w:World) (_r:Tok R:=tok R) (_C5:Tok C5:=tok C5):Prop :=
 SPL x44
 (b7 R C5 x0 w)
 (b3 R x0 x7 w)
abbrev q3 (C5:World→Prop):XP:=QX (fun ρ w=>b7 R C5 (ρ 0) w) (fun ρ w=>R (.returned (ρ 6)) w) [(0,(fun ρ w=>b3 R (ρ 0) (ρ 7) w))]
theorem b9_ok (R:EP) (C5:World→Prop) (ρ:Env) (w:World) (h:b9 R C5 (ρ 0) (ρ 7) (ρ 44) w):cP2 R p5 (q3 R C5) ρ w:=cast (by kernel_rfl) h
def b8 (C5:World→Prop) (x0 x1 x2 x7:Value) (w:World) (_r:Tok R:=tok R) (_C5:Tok C5:=tok C5):Prop :=
 NILC x0 fun v1 =>
 PUR prog (Instr.fieldAt 135 v1 1) fun v2 =>
 LD prog (Instr.loadAt 3 v2) (World.drew w) fun v3 =>
 NILC x0 fun v4 =>
 PUR prog (Instr.fieldAt 135 v4 0) fun v5 =>
 LD prog (Instr.loadAt 9 v5) (World.drew w) fun v6 =>
 LD prog (Builtin.len_ #[9] 3 #[v6]) (World.drew w) fun v7 =>
 PUR prog (bins .lss 3 (.tmp 15) (.tmp 20) v3 v7) fun v8 =>
 SPL v8
 (NILC x0 fun v9 =>
 PUR prog (Instr.fieldAt 135 v9 1) fun v10 =>
 LD prog (Instr.loadAt 3 v10) (World.drew w) fun v11 =>
 PUR prog (bins .sub 3 (.tmp 26) (.tmp 27) v11 x7) fun v12 =>
 PUR prog (bins .lss 3 (.tmp 28) (.tmp 29) v12 x2) fun v13 =>
 SPL v13
 (NILC x0 fun v14 =>
 PUR prog (Instr.fieldAt 135 v14 0) fun v15 =>
 LD prog (Instr.loadAt 9 v15) (World.drew w) fun v16 =>
 NILC x0 fun v17 =>
 PUR prog (Instr.fieldAt 135 v17 1) fun v18 =>
 LD prog (Instr.loadAt 3 v18) (World.drew w) fun v19 =>
 PUR prog (Instr.index 9 v16 v19) fun v20 =>
 CALLV prog (pan R) x1 [v20] (World.drew w) fun v21 w22 =>
 b9 R C5 x0 x7 v21 w22)
 (b9 R C5 x0 x7 (.bool Bool.false) (World.drew w)))
 (b9 R C5 x0 x7 (.bool Bool.false) (World.drew w))
abbrev q4 (C5:World→Prop):XP:=QX (fun ρ w=>b9 R C5 (ρ 0) (ρ 7) (ρ 44) w) (fun ρ w=>R (.returned (ρ 6)) w) [(0,(fun ρ w=>b3 R (ρ 0) (ρ 7) w))]
theorem b8_eq (R:EP) (C5:World→Prop) (ρ:Env) (w:World):(b8 R C5 (ρ 0) (ρ 1) (ρ 2) (ρ 7) w)=cP2 R (preC 0 p4) (q4 R C5) ρ w:=by kernel_rfl
theorem b8_ok (R:EP) (C5:World→Prop) (ρ:Env) (w:World) (h:b8 R C5 (ρ 0) (ρ 1) (ρ 2) (ρ 7) w):cP2 R p4 (q3 R C5) ρ w:=by
 have e:appC 0 (preC 0 p4) (dropC 1 p4)=p4:=by kernel_rfl
 rw [←e]
 exact appQ (fun ρ w=>b9 R C5 (ρ 0) (ρ 7) (ρ 44) w) 0 ((b8_eq R C5 ρ w).mp h) (fun ρ w h=>b9_ok R C5 ρ w h)
theorem k6_ok (R:EP) (C5:World→Prop) (ρ:Env) (w:World) (h:b8 R C5 (ρ 0) (ρ 1) (ρ 2) (ρ 7) w):cP2 R (loopC p2) (q2 R C5) ρ w:=by
 have e:Code.seq (fstC (loopC p2)) (sndC (loopC p2))=(loopC p2):=by kernel_rfl
 rw [←e]
 exact seqQ (fun ρ w=>b7 R C5 (ρ 0) w) (b8_ok R C5 ρ w h) (fun ρ w h=>b7_ok R C5 ρ w h)
def l5 (x0 x1 x2 x7:Value) (w:World) (_r:Tok R:=tok R):Prop :=
 ∃(J:World→Prop) (μ:World→Nat),J  w∧∀w0,J  w0→b8 R (fun  w1=>J  w1∧μ  w1<μ  w0) x0 x1 x2 x7 w0
abbrev q5:XP:=QX (fun ρ w=>b3 R (ρ 0) (ρ 7) w) (fun ρ w=>R (.returned (ρ 6)) w) [(0,(fun ρ w=>b3 R (ρ 0) (ρ 7) w))]
theorem l5_ok (h:l5 R (ρ 0) (ρ 1) (ρ 2) (ρ 7) w):cP2 R p2 (q5 R) ρ w:=by
 unfold l5 at h
 obtain ⟨J,μ,h0,hr⟩:=h
 have e:Code.loop (loopC p2)=p2:=by kernel_rfl
 rw [←e]
 refine loopQ (fun ρ' w'=>J  w') (fun ρ' w'=>μ  w') h0 fun ρ' w' hA hI=>?_
 have e0:ρ' 0=ρ 0:=Agree.at hA 0 (by kernel_rfl)
 have e1:ρ' 1=ρ 1:=Agree.at hA 1 (by kernel_rfl)
 have e2:ρ' 2=ρ 2:=Agree.at hA 2 (by kernel_rfl)
 have e7:ρ' 7=ρ 7:=Agree.at hA 7 (by kernel_rfl)
 have h1:=hr  w' hI
 rw [←e0,←e1,←e2,←e7] at h1
 exact k6_ok R (fun  w1=>J  w1∧μ  w1<μ  w') ρ' w' h1
theorem l5_intro (R:EP) (x0 x1 x2 x7:Value) (w:World) (J:World→Prop) (μ:World→Nat) (h0:J  w)
  (hr:∀w0,J  w0→∀C5:World→Prop,(∀w1,J  w1→μ  w1<μ  w0→C5  w1)→b8 R C5 x0 x1 x2 x7 w0):l5 R x0 x1 x2 x7 w:=by
 unfold l5
 exact ⟨J,μ,h0,fun  w0 hJ=>hr  w0 hJ _ (fun  w1 h1 h2=>⟨h1,h2⟩)⟩
abbrev q6:XP:=QX (fun ρ w=>b3 R (ρ 0) (ρ 7) w) (fun ρ w=>R (.returned (ρ 6)) w) []
theorem k4_ok (h:l5 R (ρ 0) (ρ 1) (ρ 2) (ρ 7) w):cP2 R (fstC p1) (q6 R) ρ w:=by
 have e:Code.block 0 (blkC (fstC p1))=(fstC p1):=by kernel_rfl
 rw [←e]
 exact blockQ (l5_ok R ρ w h)
theorem k2_ok (h:l5 R (ρ 0) (ρ 1) (ρ 2) (ρ 7) w):cP2 R p1 (q1 R) ρ w:=by
 have e:Code.seq (fstC p1) (sndC p1)=p1:=by kernel_rfl
 rw [←e]
 exact seqQ (fun ρ w=>b3 R (ρ 0) (ρ 7) w) (k4_ok R ρ w h) (fun ρ w h=>b3_ok R ρ w h)
def b1 (x0 x1 x2:Value) (w:World) (_r:Tok R:=tok R):Prop :=
 NILC x0 fun v1 =>
 RUN prog (pan R) (Instr.fieldAt 135 v1 1) w fun v2 w3 =>
 RUN prog (pan R) (Instr.loadAt 3 v2) w3 fun v4 w5 =>
 l5 R x0 x1 x2 v4 w5
abbrev q7:XP:=QX (fun ρ w=>l5 R (ρ 0) (ρ 1) (ρ 2) (ρ 7) w) (fun ρ w=>R (.returned (ρ 6)) w) []
theorem b1_eq:(b1 R (ρ 0) (ρ 1) (ρ 2) w)=cP2 R (preC 1 code) (q7 R) ρ w:=by kernel_rfl
theorem b1_ok (h:b1 R (ρ 0) (ρ 1) (ρ 2) w):cP2 R code (q1 R) ρ w:=by
 have e:appC 1 (preC 1 code) (dropC 2 code)=code:=by kernel_rfl
 rw [←e]
 exact appQ (fun ρ w=>l5 R (ρ 0) (ρ 1) (ρ 2) (ρ 7) w) 1 ((b1_eq R ρ w).mp h) (fun ρ w h=>k2_ok R ρ w h)
/-- What is owed for a call. -/
def run (a0 a1 a2:Value) (w:World):Prop:=b1 R a0 a1 a2 w
theorem calls (R:EP) (a0 a1 a2:Value) (w:World) (h:run R a0 a1 a2 w):Calls prog id #[a0,a1,a2] w R :=
 calls_of_t (f:=id) (fn:=f107) (c:=code) (by kernel_rfl) func107 (by kernel_rfl) (by kernel_rfl) (args:=[a0,a1,a2]) (Nat.le_of_ble_eq_true rfl) rfl (b1_ok R (envOf [a0,a1,a2]) w h)
theorem enters:Enters prog id:=fun args w=>call107 args w
theorem ct {a0 a1 a2:Value} {w:World} {S:VP} (h:∀R:EP,(∀v w,S v w→R (.returned v) w)→run R a0 a1 a2 w):Ct prog id #[a0,a1,a2] w S :=
 Ct.intro enters fun R hR=>calls R a0 a1 a2 w (h R hR)
attribute [irreducible] b3 b7 b9 b8 l5 b1 run
end scan_scanner_run

/-! ### presage/scan.plain -/
namespace scan_plain
noncomputable def code:Code:=bodyOf f108
def b1 (x0:Value) (w:World) (_r:Tok R:=tok R):Prop :=
 RUN prog (pan R) (bins .leq 5 (.const (.int .u8 32)) (.tmp 3) (.int .u8 32) x0) w fun v1 w2 =>
 SPL v1
 (RUN prog (pan R) (bins .leq 5 (.tmp 6) (.const (.int .u8 126)) x0 (.int .u8 126)) w2 fun v3 w4 =>
 SPL v3
 (RUN prog (pan R) (bins .neq 5 (.tmp 10) (.const (.int .u8 39)) x0 (.int .u8 39)) w4 fun v5 w6 =>
 R (.returned v5) w6)
 (R (.returned (.bool Bool.false)) w4))
 (R (.returned (.bool Bool.false)) w2)
abbrev q1:XP:=QX (fun ρ w=>R (.returned (ρ 2)) w) (fun ρ w=>R (.returned (ρ 2)) w) []
theorem b1_ok (h:b1 R (ρ 0) w):cP2 R code (q1 R) ρ w:=cast (by kernel_rfl) h
/-- What is owed for a call. -/
def run (a0:Value) (w:World):Prop:=b1 R a0 w
theorem calls (R:EP) (a0:Value) (w:World) (h:run R a0 w):Calls prog id #[a0] w R :=
 calls_of_t (f:=id) (fn:=f108) (c:=code) (by kernel_rfl) func108 (by kernel_rfl) (by kernel_rfl) (args:=[a0]) (Nat.le_of_ble_eq_true rfl) rfl (b1_ok R (envOf [a0]) w h)
theorem enters:Enters prog id:=fun args w=>call108 args w
theorem ct {a0:Value} {w:World} {S:VP} (h:∀R:EP,(∀v w,S v w→R (.returned v) w)→run R a0 w):Ct prog id #[a0] w S :=
 Ct.intro enters fun R hR=>calls R a0 w (h R hR)
attribute [irreducible] b1 run
end scan_plain

/-! ### (*presage/scan.scanner).sees -/
namespace scan_scanner_sees
noncomputable def code:Code:=bodyOf f109
def b1 (x0 x1:Value) (w:World) (_r:Tok R:=tok R):Prop :=
 NILC x0 fun v1 =>
 PUR prog (Instr.fieldAt 135 v1 1) fun v2 =>
 LD prog (Instr.loadAt 3 v2) (World.drew w) fun v3 =>
 NILC x0 fun v4 =>
 PUR prog (Instr.fieldAt 135 v4 0) fun v5 =>
 LD prog (Instr.loadAt 9 v5) (World.drew w) fun v6 =>
 LD prog (Builtin.len_ #[9] 3 #[v6]) (World.drew w) fun v7 =>
 PUR prog (bins .lss 3 (.tmp 8) (.tmp 13) v3 v7) fun v8 =>
 SPL v8
 (NILC x0 fun v9 =>
 PUR prog (Instr.fieldAt 135 v9 0) fun v10 =>
 LD prog (Instr.loadAt 9 v10) (World.drew w) fun v11 =>
 NILC x0 fun v12 =>
 PUR prog (Instr.fieldAt 135 v12 1) fun v13 =>
 LD prog (Instr.loadAt 3 v13) (World.drew w) fun v14 =>
 PUR prog (Instr.index 9 v11 v14) fun v15 =>
 CALLV prog (pan R) x1 [v15] (World.drew w) fun v16 w17 =>
 R (.returned v16) w17)
 (R (.returned (.bool Bool.false)) (World.drew w))
abbrev q1:XP:=QX (fun ρ w=>R (.returned (ρ 4)) w) (fun ρ w=>R (.returned (ρ 4)) w) []
theorem b1_ok (h:b1 R (ρ 0) (ρ 1) w):cP2 R code (q1 R) ρ w:=cast (by kernel_rfl) h
/-- What is owed for a call. -/
def run (a0 a1:Value) (w:World):Prop:=b1 R a0 a1 w
theorem calls (R:EP) (a0 a1:Value) (w:World) (h:run R a0 a1 w):Calls prog id #[a0,a1] w R :=
 calls_of_t (f:=id) (fn:=f109) (c:=code) (by kernel_rfl) func109 (by kernel_rfl) (by kernel_rfl) (args:=[a0,a1]) (Nat.le_of_ble_eq_true rfl) rfl (b1_ok R (envOf [a0,a1]) w h)
theorem enters:Enters prog id:=fun args w=>call109 args w
theorem ct {a0 a1:Value} {w:World} {S:VP} (h:∀R:EP,(∀v w,S v w→R (.returned v) w)→run R a0 a1 w):Ct prog id #[a0,a1] w S :=
 Ct.intro enters fun R hR=>calls R a0 a1 w (h R hR)
attribute [irreducible] b1 run
end scan_scanner_sees

/-! ### (*presage/scan.scanner).next$1 -/
namespace scan_scanner_next_1
noncomputable def code:Code:=bodyOf f110
def b1 (x0:Value) (w:World) (_r:Tok R:=tok R):Prop :=
 RUN prog (pan R) (bins .eql 5 (.tmp 3) (.const (.int .u8 39)) x0 (.int .u8 39)) w fun v1 w2 =>
 R (.returned v1) w2
abbrev q1:XP:=QX (fun ρ w=>R (.returned (ρ 2)) w) (fun ρ w=>R (.returned (ρ 2)) w) []
theorem b1_ok (h:b1 R (ρ 0) w):cP2 R code (q1 R) ρ w:=cast (by kernel_rfl) h
/-- What is owed for a call. -/
def run (a0:Value) (w:World):Prop:=b1 R a0 w
theorem calls (R:EP) (a0:Value) (w:World) (h:run R a0 w):Calls prog id #[a0] w R :=
 calls_of_t (f:=id) (fn:=f110) (c:=code) (by kernel_rfl) func110 (by kernel_rfl) (by kernel_rfl) (args:=[a0]) (Nat.le_of_ble_eq_true rfl) rfl (b1_ok R (envOf [a0]) w h)
theorem enters:Enters prog id:=fun args w=>call110 args w
theorem ct {a0:Value} {w:World} {S:VP} (h:∀R:EP,(∀v w,S v w→R (.returned v) w)→run R a0 w):Ct prog id #[a0] w S :=
 Ct.intro enters fun R hR=>calls R a0 w (h R hR)
attribute [irreducible] b1 run
end scan_scanner_next_1

/-! ### presage/scan.letter -/
namespace scan_letter
noncomputable def code:Code:=bodyOf f111
def b1 (x0:Value) (w:World) (_r:Tok R:=tok R):Prop :=
 RUN prog (pan R) (bins .or 5 (.tmp 3) (.const (.int .u8 32)) x0 (.int .u8 32)) w fun v1 w2 =>
 RUN prog (pan R) (bins .leq 5 (.const (.int .u8 97)) (.tmp 4) (.int .u8 97) v1) w2 fun v3 w4 =>
 SPL v3
 (RUN prog (pan R) (bins .or 5 (.tmp 7) (.const (.int .u8 32)) x0 (.int .u8 32)) w4 fun v5 w6 =>
 RUN prog (pan R) (bins .leq 5 (.tmp 8) (.const (.int .u8 122)) v5 (.int .u8 122)) w6 fun v7 w8 =>
 R (.returned v7) w8)
 (R (.returned (.bool Bool.false)) w4)
abbrev q1:XP:=QX (fun ρ w=>R (.returned (ρ 2)) w) (fun ρ w=>R (.returned (ρ 2)) w) []
theorem b1_ok (h:b1 R (ρ 0) w):cP2 R code (q1 R) ρ w:=cast (by kernel_rfl) h
/-- What is owed for a call. -/
def run (a0:Value) (w:World):Prop:=b1 R a0 w
theorem calls (R:EP) (a0:Value) (w:World) (h:run R a0 w):Calls prog id #[a0] w R :=
 calls_of_t (f:=id) (fn:=f111) (c:=code) (by kernel_rfl) func111 (by kernel_rfl) (by kernel_rfl) (args:=[a0]) (Nat.le_of_ble_eq_true rfl) rfl (b1_ok R (envOf [a0]) w h)
theorem enters:Enters prog id:=fun args w=>call111 args w
theorem ct {a0:Value} {w:World} {S:VP} (h:∀R:EP,(∀v w,S v w→R (.returned v) w)→run R a0 w):Ct prog id #[a0] w S :=
 Ct.intro enters fun R hR=>calls R a0 w (h R hR)
attribute [irreducible] b1 run
end scan_letter

/-! ### presage/scan.inner -/
namespace scan_inner
noncomputable def code:Code:=bodyOf f112
def b1 (x0:Value) (w:World) (_r:Tok R:=tok R):Prop :=
 CALL prog (pan R) scan_letter.id #[x0] w fun v1 w2 =>
 SPL v1
 (R (.returned (.bool Bool.true)) w2)
 (RUN prog (pan R) (bins .eql 5 (.tmp 6) (.const (.int .u8 95)) x0 (.int .u8 95)) w2 fun v3 w4 =>
 SPL v3
 (R (.returned (.bool Bool.true)) w4)
 (RUN prog (pan R) (bins .leq 5 (.const (.int .u8 48)) (.tmp 10) (.int .u8 48) x0) w4 fun v5 w6 =>
 SPL v5
 (RUN prog (pan R) (bins .leq 5 (.tmp 13) (.const (.int .u8 57)) x0 (.int .u8 57)) w6 fun v7 w8 =>
 R (.returned v7) w8)
 (R (.returned (.bool Bool.false)) w6)))
abbrev q1:XP:=QX (fun ρ w=>R (.returned (ρ 2)) w) (fun ρ w=>R (.returned (ρ 2)) w) []
theorem b1_ok (h:b1 R (ρ 0) w):cP2 R code (q1 R) ρ w:=cast (by kernel_rfl) h
/-- What is owed for a call. -/
def run (a0:Value) (w:World):Prop:=b1 R a0 w
theorem calls (R:EP) (a0:Value) (w:World) (h:run R a0 w):Calls prog id #[a0] w R :=
 calls_of_t (f:=id) (fn:=f112) (c:=code) (by kernel_rfl) func112 (by kernel_rfl) (by kernel_rfl) (args:=[a0]) (Nat.le_of_ble_eq_true rfl) rfl (b1_ok R (envOf [a0]) w h)
theorem enters:Enters prog id:=fun args w=>call112 args w
theorem ct {a0:Value} {w:World} {S:VP} (h:∀R:EP,(∀v w,S v w→R (.returned v) w)→run R a0 w):Ct prog id #[a0] w S :=
 Ct.intro enters fun R hR=>calls R a0 w (h R hR)
attribute [irreducible] b1 run
end scan_inner

/-! ### internal/stringslite.IndexByte -/
namespace internal_stringslite_IndexByte
noncomputable def code:Code:=bodyOf f114
def b1 (x0 x1:Value) (w:World) (_r:Tok R:=tok R):Prop :=
 CALL prog (pan R) internal_bytealg_IndexByteString.id #[x0,x1] w fun v1 w2 =>
 R (.returned v1) w2
abbrev q1:XP:=QX (fun ρ w=>R (.returned (ρ 4)) w) (fun ρ w=>R (.returned (ρ 4)) w) []
theorem b1_ok (h:b1 R (ρ 0) (ρ 1) w):cP2 R code (q1 R) ρ w:=cast (by kernel_rfl) h
/-- What is owed for a call. -/
def run (a0 a1:Value) (w:World):Prop:=b1 R a0 a1 w
theorem calls (R:EP) (a0 a1:Value) (w:World) (h:run R a0 a1 w):Calls prog id #[a0,a1] w R :=
 calls_of_t (f:=id) (fn:=f114) (c:=code) (by kernel_rfl) func114 (by kernel_rfl) (by kernel_rfl) (args:=[a0,a1]) (Nat.le_of_ble_eq_true rfl) rfl (b1_ok R (envOf [a0,a1]) w h)
theorem enters:Enters prog id:=fun args w=>call114 args w
theorem ct {a0 a1:Value} {w:World} {S:VP} (h:∀R:EP,(∀v w,S v w→R (.returned v) w)→run R a0 a1 w):Ct prog id #[a0,a1] w S :=
 Ct.intro enters fun R hR=>calls R a0 a1 w (h R hR)
attribute [irreducible] b1 run
end internal_stringslite_IndexByte

/-! ### (*presage/scan.scanner).order$1 -/
namespace scan_scanner_order_1
noncomputable def code:Code:=bodyOf f115
def b1 (x0 x1 x2:Value) (w:World) (_r:Tok R:=tok R):Prop :=
 LD prog (Instr.loadAt 133 x1) (World.drew w) fun v1 =>
 NILC v1 fun v2 =>
 PUR prog (Instr.fieldAt 135 v2 0) fun v3 =>
 LD prog (Instr.loadAt 9 v3) (World.drew w) fun v4 =>
 LD prog (Instr.loadAt 3 x2) (World.drew w) fun v5 =>
 LD prog (Instr.loadAt 133 x1) (World.drew w) fun v6 =>
 NILC v6 fun v7 =>
 PUR prog (Instr.fieldAt 135 v7 1) fun v8 =>
 LD prog (Instr.loadAt 3 v8) (World.drew w) fun v9 =>
 PUR prog (bins .add 3 (.tmp 14) (.const (.int .i64 1)) v9 (.int .i64 1)) fun v10 =>
 PUR prog (Instr.sliceAt 9 v4 (some v5) (some v10) none) fun v11 =>
 CALL prog (pan R) strings_HasPrefix.id #[x0,v11] (World.drew w) fun v12 w13 =>
 R (.returned v12) w13
abbrev q1:XP:=QX (fun ρ w=>R (.returned (ρ 4)) w) (fun ρ w=>R (.returned (ρ 4)) w) []
theorem b1_ok (h:b1 R (ρ 0) (ρ 1) (ρ 2) w):cP2 R code (q1 R) ρ w:=cast (by kernel_rfl) h
/-- What is owed for a call. -/
def run (a0 a1 a2:Value) (w:World):Prop:=b1 R a0 a1 a2 w
theorem calls (R:EP) (a0 a1 a2:Value) (w:World) (h:run R a0 a1 a2 w):Calls prog id #[a0,a1,a2] w R :=
 calls_of_t (f:=id) (fn:=f115) (c:=code) (by kernel_rfl) func115 (by kernel_rfl) (by kernel_rfl) (args:=[a0,a1,a2]) (Nat.le_of_ble_eq_true rfl) rfl (b1_ok R (envOf [a0,a1,a2]) w h)
theorem enters:Enters prog id:=fun args w=>call115 args w
theorem ct {a0 a1 a2:Value} {w:World} {S:VP} (h:∀R:EP,(∀v w,S v w→R (.returned v) w)→run R a0 a1 a2 w):Ct prog id #[a0,a1,a2] w S :=
 Ct.intro enters fun R hR=>calls R a0 a1 a2 w (h R hR)
attribute [irreducible] b1 run
end scan_scanner_order_1

/-! ### strings.HasPrefix -/
namespace strings_HasPrefix
noncomputable def code:Code:=bodyOf f116
def b1 (x0 x1:Value) (w:World) (_r:Tok R:=tok R):Prop :=
 CALL prog (pan R) internal_stringslite_HasPrefix.id #[x0,x1] w fun v1 w2 =>
 R (.returned v1) w2
abbrev q1:XP:=QX (fun ρ w=>R (.returned (ρ 4)) w) (fun ρ w=>R (.returned (ρ 4)) w) []
theorem b1_ok (h:b1 R (ρ 0) (ρ 1) w):cP2 R code (q1 R) ρ w:=cast (by kernel_rfl) h
/-- What is owed for a call. -/
def run (a0 a1:Value) (w:World):Prop:=b1 R a0 a1 w
theorem calls (R:EP) (a0 a1:Value) (w:World) (h:run R a0 a1 w):Calls prog id #[a0,a1] w R :=
 calls_of_t (f:=id) (fn:=f116) (c:=code) (by kernel_rfl) func116 (by kernel_rfl) (by kernel_rfl) (args:=[a0,a1]) (Nat.le_of_ble_eq_true rfl) rfl (b1_ok R (envOf [a0,a1]) w h)
theorem enters:Enters prog id:=fun args w=>call116 args w
theorem ct {a0 a1:Value} {w:World} {S:VP} (h:∀R:EP,(∀v w,S v w→R (.returned v) w)→run R a0 a1 w):Ct prog id #[a0,a1] w S :=
 Ct.intro enters fun R hR=>calls R a0 a1 w (h R hR)
attribute [irreducible] b1 run
end strings_HasPrefix

/-! ### slices.Index[[]string,string] -/
namespace slices_Index_string_string
noncomputable def code:Code:=bodyOf f117
noncomputable abbrev p1:Code:=dropC 1 code

def b3 (w:World) (_r:Tok R:=tok R):Prop :=
 R (.returned (.int .i64 (-1))) w
abbrev q1:XP:=QX (fun ρ w=>R (.returned (ρ 4)) w) (fun ρ w=>R (.returned (ρ 4)) w) []
theorem b3_ok (h:b3 R w):cP2 R (sndC p1) (q1 R) ρ w:=cast (by kernel_rfl) h
noncomputable abbrev p2:Code:=dropC 1 (fstC p1)
noncomputable abbrev p3:Code:=loopC (blkC p2)
def b7 (C6:VP) (x0 x1 x7 x8:Value) (w:World) (_r:Tok R:=tok R) (_C6:Tok C6:=tok C6):Prop :=
 RUN prog (pan R) (bins .lss 3 (.tmp 8) (.tmp 7) x8 x7) w fun v1 w2 =>
 SPL v1
 (RUN prog (pan R) (Instr.indexAt 24 x0 x8) w2 fun v3 w4 =>
 RUN prog (pan R) (Instr.loadAt 9 v3) w4 fun v5 w6 =>
 RUN prog (pan R) (bins .eql 9 (.tmp 11) (.tmp 15) x1 v5) w6 fun v7 w8 =>
 SPL v7
 (R (.returned x8) w8)
 (RUN prog (pan R) (bins .add 3 (.tmp 8) (.const (.int .i64 1)) x8 (.int .i64 1)) w8 fun v9 w10 =>
 C6 v9 w10))
 (b3 R w2)
abbrev q2 (C6:VP):XP:=QX (fun ρ w=>C6 (ρ 8) w) (fun ρ w=>R (.returned (ρ 4)) w) [(0,(fun ρ w=>b3 R  w))]
theorem b7_ok (R:EP) (C6:VP) (ρ:Env) (w:World) (h:b7 R C6 (ρ 0) (ρ 1) (ρ 7) (ρ 8) w):cP2 R p3 (q2 R C6) ρ w:=cast (by kernel_rfl) h
def l6 (x0 x1 x7 x8:Value) (w:World) (_r:Tok R:=tok R):Prop :=
 ∃(J:VP) (μ:Value→World→Nat),J x8 w∧∀y8 w0,J y8 w0→b7 R (fun z8 w1=>J z8 w1∧μ z8 w1<μ y8 w0) x0 x1 x7 y8 w0
abbrev q3:XP:=QX (fun ρ w=>b3 R  w) (fun ρ w=>R (.returned (ρ 4)) w) [(0,(fun ρ w=>b3 R  w))]
theorem l6_ok (h:l6 R (ρ 0) (ρ 1) (ρ 7) (ρ 8) w):cP2 R (blkC p2) (q3 R) ρ w:=by
 unfold l6 at h
 obtain ⟨J,μ,h0,hr⟩:=h
 have e:Code.loop (loopC (blkC p2))=(blkC p2):=by kernel_rfl
 rw [←e]
 refine loopQ (fun ρ' w'=>J (ρ' 8) w') (fun ρ' w'=>μ (ρ' 8) w') h0 fun ρ' w' hA hI=>?_
 have e0:ρ' 0=ρ 0:=Agree.at hA 0 (by kernel_rfl)
 have e1:ρ' 1=ρ 1:=Agree.at hA 1 (by kernel_rfl)
 have e7:ρ' 7=ρ 7:=Agree.at hA 7 (by kernel_rfl)
 have h1:=hr (ρ' 8) w' hI
 rw [←e0,←e1,←e7] at h1
 exact b7_ok R (fun z8 w1=>J z8 w1∧μ z8 w1<μ (ρ' 8) w') ρ' w' h1
theorem l6_intro (R:EP) (x0 x1 x7 x8:Value) (w:World) (J:VP) (μ:Value→World→Nat) (h0:J x8 w)
  (hr:∀y8 w0,J y8 w0→∀C6:VP,(∀z8 w1,J z8 w1→μ z8 w1<μ y8 w0→C6 z8 w1)→b7 R C6 x0 x1 x7 y8 w0):l6 R x0 x1 x7 x8 w:=by
 unfold l6
 exact ⟨J,μ,h0,fun y8 w0 hJ=>hr y8 w0 hJ _ (fun z8 w1 h1 h2=>⟨h1,h2⟩)⟩
abbrev q4:XP:=QX (fun ρ w=>b3 R  w) (fun ρ w=>R (.returned (ρ 4)) w) []
theorem k5_ok (h:l6 R (ρ 0) (ρ 1) (ρ 7) (ρ 8) w):cP2 R p2 (q4 R) ρ w:=by
 have e:Code.block 0 (blkC p2)=p2:=by kernel_rfl
 rw [←e]
 exact blockQ (l6_ok R ρ w h)
def b4 (x0 x1:Value) (w:World) (_r:Tok R:=tok R):Prop :=
 RUN prog (pan R) (Builtin.len_ #[24] 3 #[x0]) w fun v1 w2 =>
 l6 R x0 x1 v1 (.int .i64 0) w2
abbrev q5:XP:=QX (fun ρ w=>l6 R (ρ 0) (ρ 1) (ρ 7) (ρ 8) w) (fun ρ w=>R (.returned (ρ 4)) w) []
theorem b4_eq:(b4 R (ρ 0) (ρ 1) w)=cP2 R (preC 0 (fstC p1)) (q5 R) ρ w:=by kernel_rfl
theorem b4_ok (h:b4 R (ρ 0) (ρ 1) w):cP2 R (fstC p1) (q4 R) ρ w:=by
 have e:appC 0 (preC 0 (fstC p1)) (dropC 1 (fstC p1))=(fstC p1):=by kernel_rfl
 rw [←e]
 exact appQ (fun ρ w=>l6 R (ρ 0) (ρ 1) (ρ 7) (ρ 8) w) 0 ((b4_eq R ρ w).mp h) (fun ρ w h=>k5_ok R ρ w h)
theorem k2_ok (h:b4 R (ρ 0) (ρ 1) w):cP2 R p1 (q1 R) ρ w:=by
 have e:Code.seq (fstC p1) (sndC p1)=p1:=by kernel_rfl
 rw [←e]
 exact seqQ (fun ρ w=>b3 R  w) (b4_ok R ρ w h) (fun ρ w h=>b3_ok R ρ w h)
def b1 (x0 x1:Value) (w:World) (_r:Tok R:=tok R):Prop :=
 b4 R x0 x1 w
abbrev q6:XP:=QX (fun ρ w=>b4 R (ρ 0) (ρ 1) w) (fun ρ w=>R (.returned (ρ 4)) w) []
theorem b1_eq:(b1 R (ρ 0) (ρ 1) w)=cP2 R (preC 0 code) (q6 R) ρ w:=by kernel_rfl
theorem b1_ok (h:b1 R (ρ 0) (ρ 1) w):cP2 R code (q1 R) ρ w:=by
 have e:appC 0 (preC 0 code) (dropC 1 code)=code:=by kernel_rfl
 rw [←e]
 exact appQ (fun ρ w=>b4 R (ρ 0) (ρ 1) w) 0 ((b1_eq R ρ w).mp h) (fun ρ w h=>k2_ok R ρ w h)
/-- What is owed for a call. -/
def run (a0 a1:Value) (w:World):Prop:=b1 R a0 a1 w
theorem calls (R:EP) (a0 a1:Value) (w:World) (h:run R a0 a1 w):Calls prog id #[a0,a1] w R :=
 calls_of_t (f:=id) (fn:=f117) (c:=code) (by kernel_rfl) func117 (by kernel_rfl) (by kernel_rfl) (args:=[a0,a1]) (Nat.le_of_ble_eq_true rfl) rfl (b1_ok R (envOf [a0,a1]) w h)
theorem enters:Enters prog id:=fun args w=>call117 args w
theorem ct {a0 a1:Value} {w:World} {S:VP} (h:∀R:EP,(∀v w,S v w→R (.returned v) w)→run R a0 a1 w):Ct prog id #[a0,a1] w S :=
 Ct.intro enters fun R hR=>calls R a0 a1 w (h R hR)
attribute [irreducible] b3 b7 l6 b4 b1 run
end slices_Index_string_string

/-! ### internal/stringslite.HasPrefix -/
namespace internal_stringslite_HasPrefix
noncomputable def code:Code:=bodyOf f119
def b1 (x0 x1:Value) (w:World) (_r:Tok R:=tok R):Prop :=
 RUN prog (pan R) (Builtin.len_ #[9] 3 #[x0]) w fun v1 w2 =>
 RUN prog (pan R) (Builtin.len_ #[9] 3 #[x1]) w2 fun v3 w4 =>
 RUN prog (pan R) (bins .geq 3 (.tmp 6) (.tmp 8) v1 v3) w4 fun v5 w6 =>
 SPL v5
 (RUN prog (pan R) (Builtin.len_ #[9] 3 #[x1]) w6 fun v7 w8 =>
 RUN prog (pan R) (Instr.sliceAt 9 x0 none (some v7) none) w8 fun v9 w10 =>
 RUN prog (pan R) (bins .eql 9 (.tmp 14) (.tmp 15) v9 x1) w10 fun v11 w12 =>
 R (.returned v11) w12)
 (R (.returned (.bool Bool.false)) w6)
abbrev q1:XP:=QX (fun ρ w=>R (.returned (ρ 4)) w) (fun ρ w=>R (.returned (ρ 4)) w) []
theorem b1_ok (h:b1 R (ρ 0) (ρ 1) w):cP2 R code (q1 R) ρ w:=cast (by kernel_rfl) h
/-- What is owed for a call. -/
def run (a0 a1:Value) (w:World):Prop:=b1 R a0 a1 w
theorem calls (R:EP) (a0 a1:Value) (w:World) (h:run R a0 a1 w):Calls prog id #[a0,a1] w R :=
 calls_of_t (f:=id) (fn:=f119) (c:=code) (by kernel_rfl) func119 (by kernel_rfl) (by kernel_rfl) (args:=[a0,a1]) (Nat.le_of_ble_eq_true rfl) rfl (b1_ok R (envOf [a0,a1]) w h)
theorem enters:Enters prog id:=fun args w=>call119 args w
theorem ct {a0 a1:Value} {w:World} {S:VP} (h:∀R:EP,(∀v w,S v w→R (.returned v) w)→run R a0 a1 w):Ct prog id #[a0,a1] w S :=
 Ct.intro enters fun R hR=>calls R a0 a1 w (h R hR)
attribute [irreducible] b1 run
end internal_stringslite_HasPrefix
end Go.Proofs.YtckbgeedlobfaaaDoor
