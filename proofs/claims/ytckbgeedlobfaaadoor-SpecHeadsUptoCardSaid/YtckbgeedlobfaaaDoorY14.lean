/-
  Texts of this claim: TBQA, TBQB, TBQC, TBQD, TBQE, TBP4.
-/
import Derived.Test.YtckbgeedlobfaaaDoorY04
set_option linter.unusedVariables false
set_option maxRecDepth 100000
/- Shallow programs, written by a program of ours (gen.py) off the translation; each is tied to the code by the kernel. -/
namespace Go.Proofs.YtckbgeedlobfaaaDoor
open Go.Px Tryd
abbrev cP18 (R:EP):=codeP prog (pan R)
variable (R:EP) (ρ:Env) (w:World)

/-! ### a part of presage/spec.Read -/
namespace RqA
noncomputable def code:Code:=fstC (bodyOf f12)
def b1 (x0:Value) (w:World) (_r:Tok R:=tok R):Prop :=
 RUN prog (pan R) (Instr.alloc 28 true (.tuple #[])) w fun v1 w2 =>
 RUN prog (pan R) (Instr.alloc 31 true (.tuple #[])) w2 fun v3 w4 =>
 R (.returned (.tuple #[x0,v1,v3])) w4
abbrev q1:XP:=QX (fun ρ w=>R (.returned (.tuple #[ρ 0,ρ 2,ρ 3])) w) (fun ρ w=>R (.returned (.agg #[ρ 0])) w) []
theorem b1_ok (h:b1 R (ρ 0) w):cP18 R code (q1 R) ρ w:=cast (by kernel_rfl) h
/-- What the part owes. -/
abbrev run (x0:Value) (w:World):Prop:=b1 R x0 w
theorem part_wp {R:EP} {ρ:Env} {a:Act} {D:List Deferred} {w:World} (hr:Rel f12.ntmps a ρ D) (h:run R (ρ 0) w):code.wp prog (post (pan R) f12.ntmps (q1 R) D) a w :=
 codeP_sound (by kernel_rfl) code (q1 R) ρ a w (by kernel_rfl) hr (b1_ok R ρ w h)
attribute [irreducible] b1
attribute [go_sem] b1
end RqA
end Go.Proofs.YtckbgeedlobfaaaDoor

/- Shallow programs, written by a program of ours (gen.py) off the translation; each is tied to the code by the kernel. -/
namespace Go.Proofs.YtckbgeedlobfaaaDoor
open Go.Px Tryd
abbrev cP19 (R:EP):=codeP prog (pan R)
variable (R:EP) (ρ:Env) (w:World)

/-! ### a part of presage/spec.Read -/
namespace RqB
noncomputable def code:Code:=fstC (sndC (bodyOf f12))
def b1_1 (x2 x3 v1:Value) (w2:World) (_r:Tok R:=tok R):Prop :=
 RUN prog (pan R) (Instr.extract v1 0) w2 fun v3 w4 =>
 RUN prog (pan R) (Instr.extract v1 1) w4 fun v5 w6 =>
 R (.returned (.tuple #[x2,x3,v3,v5])) w6
def b1 (x0 x2 x3:Value) (w:World) (_r:Tok R:=tok R):Prop :=
 CALL prog (pan R) spec_read.id #[x0] w fun v1 w2 =>
 b1_1 R x2 x3 v1 w2
abbrev q1:XP:=QX (fun ρ w=>R (.returned (.tuple #[ρ 2,ρ 3,ρ 4,ρ 5])) w) (fun ρ w=>R (.returned (.agg #[ρ 0])) w) []
theorem b1_ok (h:b1 R (ρ 0) (ρ 2) (ρ 3) w):cP19 R code (q1 R) ρ w:=cast (by kernel_rfl) h
/-- What the part owes. -/
abbrev run (x0 x2 x3:Value) (w:World):Prop:=b1 R x0 x2 x3 w
theorem part_wp {R:EP} {ρ:Env} {a:Act} {D:List Deferred} {w:World} (hr:Rel f12.ntmps a ρ D) (h:run R (ρ 0) (ρ 2) (ρ 3) w):code.wp prog (post (pan R) f12.ntmps (q1 R) D) a w :=
 codeP_sound (by kernel_rfl) code (q1 R) ρ a w (by kernel_rfl) hr (b1_ok R ρ w h)
attribute [irreducible] b1_1 b1
attribute [go_sem] b1_1 b1
end RqB
end Go.Proofs.YtckbgeedlobfaaaDoor

/- Shallow programs, written by a program of ours (gen.py) off the translation; each is tied to the code by the kernel. -/
namespace Go.Proofs.YtckbgeedlobfaaaDoor
open Go.Px Tryd
abbrev cP20 (R:EP):=codeP prog (pan R)
variable (R:EP) (ρ:Env) (w:World)

/-! ### a part of presage/spec.Read -/
namespace RqC
noncomputable def code:Code:=fstC (sndC (sndC (bodyOf f12)))
def b1_1 (x2 x3 x5:Value) (w2:World) (_r:Tok R:=tok R):Prop :=
 RUN prog (pan R) (Instr.build 28 #[]) w2 fun v3 w4 =>
 RUN prog (pan R) (Instr.build 31 #[(0,(.int .i64 10)),(1,x5)]) w4 fun v5 w6 =>
 RUNU prog (pan R) (Instr.storeAt 28 x2 v3) w6 fun w7 =>
 RUNU prog (pan R) (Instr.storeAt 31 x3 v5) w7 fun w8 =>
 R (.returned (.agg #[x2,x3])) w8
def b1 (x2 x3 x4 x5:Value) (w:World) (_r:Tok R:=tok R):Prop :=
 RUN prog (pan R) (bins .geq 3 (.tmp 13) (.const (.int .i64 0)) x5 (.int .i64 0)) w fun v1 w2 =>
 SPL v1
 (b1_1 R x2 x3 x5 w2)
 (R (.returned (.tuple #[x2,x3,x4,x5])) w2)
abbrev q1:XP:=QX (fun ρ w=>R (.returned (.tuple #[ρ 2,ρ 3,ρ 4,ρ 5])) w) (fun ρ w=>R (.returned (.agg #[ρ 2,ρ 3])) w) []
theorem b1_ok (h:b1 R (ρ 2) (ρ 3) (ρ 4) (ρ 5) w):cP20 R code (q1 R) ρ w:=cast (by kernel_rfl) h
/-- What the part owes. -/
abbrev run (x2 x3 x4 x5:Value) (w:World):Prop:=b1 R x2 x3 x4 x5 w
theorem part_wp {R:EP} {ρ:Env} {a:Act} {D:List Deferred} {w:World} (hr:Rel f12.ntmps a ρ D) (h:run R (ρ 2) (ρ 3) (ρ 4) (ρ 5) w):code.wp prog (post (pan R) f12.ntmps (q1 R) D) a w :=
 codeP_sound (by kernel_rfl) code (q1 R) ρ a w (by kernel_rfl) hr (b1_ok R ρ w h)
attribute [irreducible] b1_1 b1
attribute [go_sem] b1_1 b1
end RqC
end Go.Proofs.YtckbgeedlobfaaaDoor

/- Shallow programs, written by a program of ours (gen.py) off the translation; each is tied to the code by the kernel. -/
namespace Go.Proofs.YtckbgeedlobfaaaDoor
open Go.Px Tryd
abbrev cP21 (R:EP):=codeP prog (pan R)
variable (R:EP) (ρ:Env) (w:World)

/-! ### a part of presage/spec.Read -/
namespace RqD
noncomputable def code:Code:=fstC (sndC (sndC (sndC (sndC (bodyOf f12)))))
def b1_1 (x2 x3 x4 v1:Value) (w2:World) (_r:Tok R:=tok R):Prop :=
 RUN prog (pan R) (Instr.build 64 #[(0,v1),(1,x4)]) w2 fun v3 w4 =>
 RUN prog (pan R) (Instr.box 64 v3) w4 fun v5 w6 =>
 R (.returned (.tuple #[x2,x3,v5])) w6
def b1 (x2 x3 x4:Value) (w:World) (_r:Tok R:=tok R):Prop :=
 CALL prog (pan R) gram_New.id #[] w fun v1 w2 =>
 b1_1 R x2 x3 x4 v1 w2
abbrev q1:XP:=QX (fun ρ w=>R (.returned (.tuple #[ρ 2,ρ 3,ρ 6])) w) (fun ρ w=>R (.returned (.agg #[ρ 0])) w) []
theorem b1_ok (h:b1 R (ρ 2) (ρ 3) (ρ 4) w):cP21 R code (q1 R) ρ w:=cast (by kernel_rfl) h
/-- What the part owes. -/
abbrev run (x2 x3 x4:Value) (w:World):Prop:=b1 R x2 x3 x4 w
theorem part_wp {R:EP} {ρ:Env} {a:Act} {D:List Deferred} {w:World} (hr:Rel f12.ntmps a ρ D) (h:run R (ρ 2) (ρ 3) (ρ 4) w):code.wp prog (post (pan R) f12.ntmps (q1 R) D) a w :=
 codeP_sound (by kernel_rfl) code (q1 R) ρ a w (by kernel_rfl) hr (b1_ok R ρ w h)
attribute [irreducible] b1_1 b1
attribute [go_sem] b1_1 b1
end RqD
end Go.Proofs.YtckbgeedlobfaaaDoor

/- Shallow programs, written by a program of ours (gen.py) off the translation; each is tied to the code by the kernel. -/
namespace Go.Proofs.YtckbgeedlobfaaaDoor
open Go.Px Tryd
abbrev cP22 (R:EP):=codeP prog (pan R)
variable (R:EP) (ρ:Env) (w:World)

/-! ### a part of presage/spec.Read -/
namespace RqE
noncomputable def code:Code:=sndC (sndC (sndC (sndC (sndC (sndC (bodyOf f12))))))
def b1_1 (x2 x3 v6:Value) (w7:World) (_r:Tok R:=tok R):Prop :=
 RUN prog (pan R) (Instr.extract v6 0) w7 fun v8 w9 =>
 RUN prog (pan R) (Instr.extract v6 1) w9 fun v10 w11 =>
 RUNU prog (pan R) (Instr.storeAt 28 x2 v8) w11 fun w12 =>
 RUN prog (pan R) (Instr.loadAt 28 x2) w12 fun v13 w14 =>
 RUN prog (pan R) (Instr.build 31 #[(0,v10)]) w14 fun v15 w16 =>
 RUNU prog (pan R) (Instr.storeAt 28 x2 v13) w16 fun w17 =>
 RUNU prog (pan R) (Instr.storeAt 31 x3 v15) w17 fun w18 =>
 R (.returned (.agg #[x2,x3])) w18
def b1 (x2 x3 x6:Value) (w:World) (_r:Tok R:=tok R):Prop :=
 NILC x6 fun v1 =>
 RUN prog (pan R) (Instr.fieldAt 64 v1 0) w fun v2 w3 =>
 RUN prog (pan R) (Instr.loadAt 61 v2) w3 fun v4 w5 =>
 CALL prog (pan R) gram_Builder_Grammar.id #[v4] w5 fun v6 w7 =>
 b1_1 R x2 x3 v6 w7
abbrev q1:XP:=QX (fun ρ w=>R (.returned (.tuple #[ρ 2,ρ 3])) w) (fun ρ w=>R (.returned (.agg #[ρ 2,ρ 3])) w) []
theorem b1_ok (h:b1 R (ρ 2) (ρ 3) (ρ 6) w):cP22 R code (q1 R) ρ w:=cast (by kernel_rfl) h
/-- What the part owes. -/
abbrev run (x2 x3 x6:Value) (w:World):Prop:=b1 R x2 x3 x6 w
theorem part_wp {R:EP} {ρ:Env} {a:Act} {D:List Deferred} {w:World} (hr:Rel f12.ntmps a ρ D) (h:run R (ρ 2) (ρ 3) (ρ 6) w):code.wp prog (post (pan R) f12.ntmps (q1 R) D) a w :=
 codeP_sound (by kernel_rfl) code (q1 R) ρ a w (by kernel_rfl) hr (b1_ok R ρ w h)
attribute [irreducible] b1_1 b1
attribute [go_sem] b1_1 b1
end RqE
end Go.Proofs.YtckbgeedlobfaaaDoor

/- Shallow programs, written by a program of ours (gen.py) off the translation; each is tied to the code by the kernel. -/
namespace Go.Proofs.YtckbgeedlobfaaaDoor
open Go.Px Tryd
abbrev cP23 (R:EP):=codeP prog (pan R)
variable (R:EP) (ρ:Env) (w:World)

/-! ### a part of presage/spec.Read$1 -/
namespace Rec2
noncomputable def code:Code:=sndC (bodyOf f26)
noncomputable abbrev p1:Code:=dropC 3 code
def b2 (x0 x1 x3:Value) (w:World) (_r:Tok R:=tok R):Prop :=
 RUN prog (pan R) (Instr.build 28 #[]) w fun v1 w2 =>
 RUN prog (pan R) (Instr.build 31 #[(0,x3)]) w2 fun v3 w4 =>
 RUNU prog (pan R) (Instr.storeAt 28 x0 v1) w4 fun w5 =>
 RUNU prog (pan R) (Instr.storeAt 31 x1 v3) w5 fun w6 =>
 R (.returned (.tuple #[x0])) w6
abbrev q1:XP:=QX (fun ρ w=>R (.returned (.tuple #[ρ 0])) w) (fun ρ w=>R (.returned (.agg #[ρ 0])) w) []
theorem b2_ok (h:b2 R (ρ 0) (ρ 1) (ρ 3) w):cP23 R p1 (q1 R) ρ w:=cast (by kernel_rfl) h
def b1_1 (x0 x1 x2:Value) (w2:World) (_r:Tok R:=tok R):Prop :=
 RUN prog (pan R) (Instr.typeAssert x2 20 29 true) w2 fun v3 w4 =>
 RUN prog (pan R) (Instr.extract v3 0) w4 fun v5 w6 =>
 RUN prog (pan R) (Instr.extract v3 1) w6 fun v7 w8 =>
 RUN prog (pan R) (Op.unary .not v7) w8 fun v9 w10 =>
 SPL v9
 (RUN prog (pan R) (Instr.panic x2) w10 fun v11 w12 =>
 b2 R x0 x1 v5 w12)
 (b2 R x0 x1 v5 w10)
def b1 (x0 x1 x2:Value) (w:World) (_r:Tok R:=tok R):Prop :=
 RUN prog (pan R) (bins .eql 20 (.tmp 6) (.const (.nilIface)) x2 .nilIface) w fun v1 w2 =>
 SPL v1
 (R (.returned (.agg #[x0])) w2)
 (b1_1 R x0 x1 x2 w2)
abbrev q2:XP:=QX (fun ρ w=>b2 R (ρ 0) (ρ 1) (ρ 3) w) (fun ρ w=>R (.returned (.agg #[ρ 0])) w) []
theorem b1_eq:(b1 R (ρ 0) (ρ 1) (ρ 2) w)=cP23 R (preC 2 code) (q2 R) ρ w:=by kernel_rfl
theorem b1_ok (h:b1 R (ρ 0) (ρ 1) (ρ 2) w):cP23 R code (q1 R) ρ w:=by
 have e:appC 2 (preC 2 code) (dropC 3 code)=code:=by kernel_rfl
 rw [←e]
 exact appQ (fun ρ w=>b2 R (ρ 0) (ρ 1) (ρ 3) w) 2 ((b1_eq R ρ w).mp h) (fun ρ w h=>b2_ok R ρ w h)
/-- What the part owes. -/
abbrev run (x0 x1 x2:Value) (w:World):Prop:=b1 R x0 x1 x2 w
theorem part_wp {R:EP} {ρ:Env} {a:Act} {D:List Deferred} {w:World} (hr:Rel f26.ntmps a ρ D) (h:run R (ρ 0) (ρ 1) (ρ 2) w):code.wp prog (post (pan R) f26.ntmps (q1 R) D) a w :=
 codeP_sound (by kernel_rfl) code (q1 R) ρ a w (by kernel_rfl) hr (b1_ok R ρ w h)
attribute [irreducible] b2 b1_1 b1
attribute [go_sem] b2 b1_1 b1
end Rec2
end Go.Proofs.YtckbgeedlobfaaaDoor
