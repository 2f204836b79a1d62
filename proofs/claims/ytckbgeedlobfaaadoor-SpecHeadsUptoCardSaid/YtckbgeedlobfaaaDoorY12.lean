/-
  Texts of this claim: TBPY, TBPZ.
-/
import Derived.Test.YtckbgeedlobfaaaDoorY04
import Derived.Test.YtckbgeedlobfaaaDoorY02
set_option linter.unusedVariables false
set_option maxRecDepth 100000
/- Shallow programs, written by a program of ours (gen.py) off the translation; each is tied to the code by the kernel. -/
namespace Go.Proofs.YtckbgeedlobfaaaDoor
open Go.Px Tryd
abbrev cP16 (R:EP):=codeP prog (pan R)
variable (R:EP) (ρ:Env) (w:World)

/-! ### a body in presage/spec.read -/
namespace RdBody
noncomputable def code:Code:=rngB (blkC (sndC (fstC (sndC (sndC (bodyOf f25))))))
def b1 (x2 x4:Value) (w:World) (_r:Tok R:=tok R):Prop :=
 LD prog (Instr.loadAt 56 x2) (World.drew w) fun v1 =>
 LD prog (Instr.loadAt 56 x2) (World.drew w) fun v2 =>
 NILC v2 fun v3 =>
 PUR prog (Instr.fieldAt 87 v3 0) fun v4 =>
 LD prog (Instr.loadAt 83 v4) (World.drew w) fun v5 =>
 LD prog (Instr.loadAt 91 x4) (World.drew w) fun v6 =>
 RUN prog (pan R) (Instr.buildSlice 83 1 #[(0,v6)]) (World.drew w) fun v7 w8 =>
 Sem.run prog (Instr.loadAt 83 v4) w8 = .ok v5 w8∧(Sem.run prog (Instr.loadAt 56 x2) w8 = .ok v2 w8∧(Sem.run prog (Instr.loadAt 56 x2) w8 = .ok v1 w8∧(RUN prog (pan R) (Builtin.append_ #[83,83] 83 #[v5,v7]) w8 fun v9 w10 =>
 Sem.run prog (Instr.loadAt 56 x2) w10 = .ok v1 w10∧(NILC v1 fun v11 =>
 PUR prog (Instr.fieldAt 87 v11 0) fun v12 =>
 RUNU prog (pan R) (Instr.storeAt 83 v12 v9) w10 fun w13 =>
 R (.returned (.bool true)) w13))))
abbrev q1:XP:=QX (fun ρ w=>R (.returned (.bool true)) w) (fun ρ w=>R (.returned (.bool false)) w) []
theorem b1_ok (h:b1 R (ρ 2) (ρ 4) w):cP16 R code (q1 R) ρ w:=cast (by kernel_rfl) h
/-- What the body owes. -/
abbrev run (x2 x4:Value) (w:World):Prop:=b1 R x2 x4 w
theorem body_wp {R:EP} {l:Nat} {ρ:Env} {a:Act} {w:World} (hr:Rel f25.ntmps a ρ) (h:run R (ρ 2) (ρ 4) w):code.wpIn (Fence.wide.inRound l) 0 prog (post (pan R) f25.ntmps (q1 R)) a w :=
 codeR_sound (by kernel_rfl) code (q1 R) ρ a w (fun _ _ h=>h) (by kernel_rfl) (by kernel_rfl) hr (b1_ok R ρ w h)
attribute [irreducible] b1
attribute [go_sem] b1
end RdBody
end Go.Proofs.YtckbgeedlobfaaaDoor

/- Shallow programs, written by a program of ours (gen.py) off the translation; each is tied to the code by the kernel. -/
namespace Go.Proofs.YtckbgeedlobfaaaDoor
open Go.Px Tryd
abbrev cP17 (R:EP):=codeP prog (pan R)
variable (R:EP) (ρ:Env) (w:World)

/-! ### a body in presage/spec.read -/
namespace RdAsg
noncomputable def code:Code:=rngA (blkC (sndC (fstC (sndC (sndC (bodyOf f25))))))
def b1 (x2 x15:Value) (w:World) (_r:Tok R:=tok R):Prop :=
 RUN prog (pan R) (Instr.alloc 91 true (.tuple #[])) w fun v1 w2 =>
 RUNU prog (pan R) (Instr.storeAt 91 v1 x15) w2 fun w3 =>
 R (.returned (.tuple #[x2,v1])) w3
abbrev q1:XP:=QX (fun ρ w=>R (.returned (.tuple #[ρ 2,ρ 4])) w) (fun ρ w=>R (.returned (.bool false)) w) []
theorem b1_ok (h:b1 R (ρ 2) (ρ 15) w):cP17 R code (q1 R) ρ w:=cast (by kernel_rfl) h
/-- What the body owes. -/
abbrev run (x2 x15:Value) (w:World):Prop:=b1 R x2 x15 w
theorem body_wp {R:EP} {l:Nat} {ρ:Env} {a:Act} {w:World} (hr:Rel f25.ntmps a ρ) (h:run R (ρ 2) (ρ 15) w):code.wpIn (Fence.wide.inRound l) 0 prog (post (pan R) f25.ntmps (q1 R)) a w :=
 codeR_sound (by kernel_rfl) code (q1 R) ρ a w (fun _ _ h=>h) (by kernel_rfl) (by kernel_rfl) hr (b1_ok R ρ w h)
attribute [irreducible] b1
attribute [go_sem] b1
end RdAsg
end Go.Proofs.YtckbgeedlobfaaaDoor
