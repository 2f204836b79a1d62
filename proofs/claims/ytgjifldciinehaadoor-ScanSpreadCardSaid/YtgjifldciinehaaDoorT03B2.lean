import Derived.Test.YtgjifldciinehaaDoorT03Ids
import Derived.Test.YtgjifldciinehaaDoorPxRound
/- Shallow programs, written by a program of ours (gen.py) off the translation; each is tied to the code by the kernel. -/
set_option linter.unusedVariables false
set_option maxRecDepth 100000
namespace Go.Proofs.YtgjifldciinehaaDoor
open Go.Px

/-! ### a body in presage/presagelaw03.ScanEach -/
namespace EachBody2
noncomputable def code : Code := rngB (blkC (sndC (fstC (sndC (sndC (sndC (sndC (sndC (sndC (sndC (sndC (sndC (bodyOf Tryd.f4)))))))))))))

def b1 (R : Ending → World → Prop) (x4 x5 x11 x12 : Value) (w : World) (_r : Tok R := tok R) : Prop :=
  RUN Tryd.prog (pan R) (Instr.loadAt 26 x11) w fun v1 w2 =>
  RUN Tryd.prog (pan R) (Builtin.len_ #[26] 3 #[v1]) w2 fun v3 w4 =>
  RUN Tryd.prog (pan R) (Instr.loadAt 23 x5) w4 fun v5 w6 =>
  RUN Tryd.prog (pan R) (Builtin.len_ #[23] 3 #[v5]) w6 fun v7 w8 =>
  RUN Tryd.prog (pan R) (bins .gtr 3 (.tmp 75) (.tmp 77) v3 v7) w8 fun v9 w10 =>
  SPL v9
  (RUNU Tryd.prog (pan R) (Instr.storeAt 4 x4 (Go.Value.bool Bool.false)) w10 fun w11 =>
  R (.returned (.bool false)) w11)
  (RUN Tryd.prog (pan R) (Instr.loadAt 26 x11) w10 fun v12 w13 =>
  RUN Tryd.prog (pan R) (Instr.loadAt 36 x12) w13 fun v14 w15 =>
  RUN Tryd.prog (pan R) (Instr.buildSlice 26 1 #[(0, v14)]) w15 fun v16 w17 =>
  RUN Tryd.prog (pan R) (Builtin.append_ #[26, 26] 26 #[v12, v16]) w17 fun v18 w19 =>
  RUNU Tryd.prog (pan R) (Instr.storeAt 26 x11 v18) w19 fun w20 =>
  R (.returned (.bool true)) w20)
abbrev q1 (R : Ending → World → Prop) : Exit → Env → World → Prop := QX (fun ρ w => R (.returned (.bool true)) w) (fun ρ w => R (.returned (.bool false)) w) []
theorem b1_eq (R : Ending → World → Prop) (ρ : Env) (w : World) : (b1 R (ρ 4) (ρ 5) (ρ 11) (ρ 12) w) = codeP Tryd.prog (pan R) code (q1 R) ρ w := by kernel_rfl
theorem b1_ok (R : Ending → World → Prop) (ρ : Env) (w : World) (h : b1 R (ρ 4) (ρ 5) (ρ 11) (ρ 12) w) : codeP Tryd.prog (pan R) code (q1 R) ρ w := (b1_eq R ρ w).mp h
/-- What the body owes. -/
abbrev run (R : Ending → World → Prop) (x4 x5 x11 x12 : Value) (w : World) : Prop := b1 R x4 x5 x11 x12 w
theorem body_wp {R : Ending → World → Prop} {l : Nat} {ρ : Env} {a : Act} {w : World} (hr : Rel Tryd.f4.ntmps a ρ) (h : run R (ρ 4) (ρ 5) (ρ 11) (ρ 12) w) : code.wpIn (Fence.wide.inRound l) 0 Tryd.prog (post (pan R) Tryd.f4.ntmps (q1 R)) a w :=
  codeR_sound (by kernel_rfl) code (q1 R) ρ a w (fun _ _ h => h) (by kernel_rfl) (by kernel_rfl) hr (b1_ok R ρ w h)
attribute [irreducible] b1
end EachBody2
end Go.Proofs.YtgjifldciinehaaDoor
