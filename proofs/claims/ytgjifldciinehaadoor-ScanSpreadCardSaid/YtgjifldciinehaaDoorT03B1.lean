import Derived.Test.YtgjifldciinehaaDoorT03Ids
import Derived.Test.YtgjifldciinehaaDoorPxRound
/- Shallow programs, written by a program of ours (gen.py) off the translation; each is tied to the code by the kernel. -/
set_option linter.unusedVariables false
set_option maxRecDepth 100000
namespace Go.Proofs.YtgjifldciinehaaDoor
open Go.Px

/-! ### a body in presage/presagelaw03.ScanEach -/
namespace EachBody1
noncomputable def code : Code := rngB (blkC (sndC (thnC (sndC (fstC (sndC (sndC (sndC (sndC (sndC (sndC (sndC (bodyOf Tryd.f4)))))))))))))
noncomputable abbrev p1 : Code := sndC (blkC code)

def b3 (R : Ending → World → Prop) (x8 x9 : Value) (w : World) (_r : Tok R := tok R) : Prop :=
  RUN Tryd.prog (pan R) (Instr.loadAt 3 x9) w fun v1 w2 =>
  RUN Tryd.prog (pan R) (bins .add 3 (.tmp 67) (.const (Go.Value.int Go.IntKind.i64 1)) v1 (Go.Value.int Go.IntKind.i64 1)) w2 fun v3 w4 =>
  RUNU Tryd.prog (pan R) (Instr.storeAt 3 x9 v3) w4 fun w5 =>
  RUN Tryd.prog (pan R) (Instr.loadAt 3 x9) w5 fun v6 w7 =>
  RUN Tryd.prog (pan R) (Instr.loadAt 3 x8) w7 fun v8 w9 =>
  RUN Tryd.prog (pan R) (bins .eql 3 (.tmp 69) (.tmp 70) v6 v8) w9 fun v10 w11 =>
  SPL v10
  (R (.returned (.int .i64 0)) w11)
  (R (.returned (.bool true)) w11)
abbrev q1 (R : Ending → World → Prop) : Exit → Env → World → Prop := QX (fun ρ w => R (.returned (.bool true)) w) (fun ρ w => R (.returned (.bool false)) w) [(2, (fun ρ w => R (.returned (.bool true)) w)), (0, (fun ρ w => R (.returned (.int .i64 0)) w))]
theorem b3_eq (R : Ending → World → Prop) (ρ : Env) (w : World) : (b3 R (ρ 8) (ρ 9) w) = codeP Tryd.prog (pan R) p1 (q1 R) ρ w := by kernel_rfl
theorem b3_ok (R : Ending → World → Prop) (ρ : Env) (w : World) (h : b3 R (ρ 8) (ρ 9) w) : codeP Tryd.prog (pan R) p1 (q1 R) ρ w := (b3_eq R ρ w).mp h
noncomputable abbrev p2 : Code := fstC (blkC code)
noncomputable abbrev p3 : Code := dropC 1 p2

def b5 (R : Ending → World → Prop) (x4 x8 x9 x66 : Value) (w : World) (_r : Tok R := tok R) : Prop :=
  SPL x66
  (RUNU Tryd.prog (pan R) (Instr.storeAt 4 x4 (Go.Value.bool Bool.false)) w fun w1 =>
  R (.returned (.bool false)) w1)
  (b3 R x8 x9 w)
abbrev q2 (R : Ending → World → Prop) : Exit → Env → World → Prop := QX (fun ρ w => b3 R (ρ 8) (ρ 9) w) (fun ρ w => R (.returned (.bool false)) w) [(2, (fun ρ w => R (.returned (.bool true)) w)), (0, (fun ρ w => R (.returned (.int .i64 0)) w))]
theorem b5_eq (R : Ending → World → Prop) (ρ : Env) (w : World) : (b5 R (ρ 4) (ρ 8) (ρ 9) (ρ 66) w) = codeP Tryd.prog (pan R) p3 (q2 R) ρ w := by kernel_rfl
theorem b5_ok (R : Ending → World → Prop) (ρ : Env) (w : World) (h : b5 R (ρ 4) (ρ 8) (ρ 9) (ρ 66) w) : codeP Tryd.prog (pan R) p3 (q2 R) ρ w := (b5_eq R ρ w).mp h

def b4 (R : Ending → World → Prop) (x4 x5 x8 x9 x10 : Value) (w : World) (_r : Tok R := tok R) : Prop :=
  LD Tryd.prog (Instr.loadAt 3 x9) (World.drew w) fun v1 =>
  LD Tryd.prog (Instr.loadAt 23 x5) (World.drew w) fun v2 =>
  LD Tryd.prog (Builtin.len_ #[23] 3 #[v2]) (World.drew w) fun v3 =>
  PUR Tryd.prog (bins .geq 3 (.tmp 33) (.tmp 35) v1 v3) fun v4 =>
  SPL v4
  (b5 R x4 x8 x9 (Go.Value.bool Bool.true) (World.drew w))
  (PUR Tryd.prog (Instr.fieldAt 36 x10 0) fun v5 =>
  LD Tryd.prog (Instr.loadAt 3 v5) (World.drew w) fun v6 =>
  LD Tryd.prog (Instr.loadAt 23 x5) (World.drew w) fun v7 =>
  LD Tryd.prog (Instr.loadAt 3 x9) (World.drew w) fun v8 =>
  PUR Tryd.prog (Instr.indexAt 23 v7 v8) fun v9 =>
  PUR Tryd.prog (Instr.fieldAt 42 v9 0) fun v10 =>
  LD Tryd.prog (Instr.loadAt 3 v10) (World.drew w) fun v11 =>
  PUR Tryd.prog (bins .neq 3 (.tmp 39) (.tmp 44) v6 v11) fun v12 =>
  SPL v12
  (b5 R x4 x8 x9 (Go.Value.bool Bool.true) (World.drew w))
  (PUR Tryd.prog (Instr.fieldAt 36 x10 1) fun v13 =>
  LD Tryd.prog (Instr.loadAt 9 v13) (World.drew w) fun v14 =>
  LD Tryd.prog (Instr.loadAt 23 x5) (World.drew w) fun v15 =>
  LD Tryd.prog (Instr.loadAt 3 x9) (World.drew w) fun v16 =>
  PUR Tryd.prog (Instr.indexAt 23 v15 v16) fun v17 =>
  PUR Tryd.prog (Instr.fieldAt 42 v17 1) fun v18 =>
  LD Tryd.prog (Instr.loadAt 9 v18) (World.drew w) fun v19 =>
  PUR Tryd.prog (bins .neq 9 (.tmp 49) (.tmp 54) v14 v19) fun v20 =>
  SPL v20
  (b5 R x4 x8 x9 (Go.Value.bool Bool.true) (World.drew w))
  (PUR Tryd.prog (Instr.fieldAt 36 x10 2) fun v21 =>
  LD Tryd.prog (Instr.loadAt 3 v21) (World.drew w) fun v22 =>
  LD Tryd.prog (Instr.loadAt 23 x5) (World.drew w) fun v23 =>
  LD Tryd.prog (Instr.loadAt 3 x9) (World.drew w) fun v24 =>
  PUR Tryd.prog (Instr.indexAt 23 v23 v24) fun v25 =>
  PUR Tryd.prog (Instr.fieldAt 42 v25 2) fun v26 =>
  LD Tryd.prog (Instr.loadAt 3 v26) (World.drew w) fun v27 =>
  PUR Tryd.prog (bins .neq 3 (.tmp 59) (.tmp 64) v22 v27) fun v28 =>
  b5 R x4 x8 x9 v28 (World.drew w))))
abbrev q3 (R : Ending → World → Prop) : Exit → Env → World → Prop := QX (fun ρ w => b5 R (ρ 4) (ρ 8) (ρ 9) (ρ 66) w) (fun ρ w => R (.returned (.bool false)) w) [(2, (fun ρ w => R (.returned (.bool true)) w)), (0, (fun ρ w => R (.returned (.int .i64 0)) w))]
theorem b4_eq (R : Ending → World → Prop) (ρ : Env) (w : World) : (b4 R (ρ 4) (ρ 5) (ρ 8) (ρ 9) (ρ 10) w) = codeP Tryd.prog (pan R) (preC 0 p2) (q3 R) ρ w := by kernel_rfl
theorem b4_ok (R : Ending → World → Prop) (ρ : Env) (w : World) (h : b4 R (ρ 4) (ρ 5) (ρ 8) (ρ 9) (ρ 10) w) : codeP Tryd.prog (pan R) p2 (q2 R) ρ w := by
  have e : appC 0 (preC 0 p2) (dropC 1 p2) = p2 := by kernel_rfl
  rw [← e]
  exact appQ (fun ρ w => b5 R (ρ 4) (ρ 8) (ρ 9) (ρ 66) w) 0 ((b4_eq R ρ w).mp h) (fun ρ w h => b5_ok R ρ w h)
theorem k2_ok (R : Ending → World → Prop) (ρ : Env) (w : World) (h : b4 R (ρ 4) (ρ 5) (ρ 8) (ρ 9) (ρ 10) w) : codeP Tryd.prog (pan R) (blkC code) (q1 R) ρ w := by
  have e : Code.seq (fstC (blkC code)) (sndC (blkC code)) = (blkC code) := by kernel_rfl
  rw [← e]
  exact seqQ (fun ρ w => b3 R (ρ 8) (ρ 9) w) (b4_ok R ρ w h) (fun ρ w h => b3_ok R ρ w h)
abbrev q4 (R : Ending → World → Prop) : Exit → Env → World → Prop := QX (fun ρ w => R (.returned (.bool true)) w) (fun ρ w => R (.returned (.bool false)) w) [(0, (fun ρ w => R (.returned (.int .i64 0)) w))]
theorem k1_ok (R : Ending → World → Prop) (ρ : Env) (w : World) (h : b4 R (ρ 4) (ρ 5) (ρ 8) (ρ 9) (ρ 10) w) : codeP Tryd.prog (pan R) code (q4 R) ρ w := by
  have e : Code.block 1 (blkC code) = code := by kernel_rfl
  rw [← e]
  exact blockQ (k2_ok R ρ w h)
/-- What the body owes. -/
abbrev run (R : Ending → World → Prop) (x4 x5 x8 x9 x10 : Value) (w : World) : Prop := b4 R x4 x5 x8 x9 x10 w
theorem body_wp {R : Ending → World → Prop} {l : Nat} {ρ : Env} {a : Act} {w : World} (hr : Rel Tryd.f4.ntmps a ρ) (h : run R (ρ 4) (ρ 5) (ρ 8) (ρ 9) (ρ 10) w) : code.wpIn (Fence.wide.inRound l) 0 Tryd.prog (post (pan R) Tryd.f4.ntmps (q4 R)) a w :=
  codeR_sound (by kernel_rfl) code (q4 R) ρ a w (fun _ _ h => h) (by kernel_rfl) (by kernel_rfl) hr (k1_ok R ρ w h)
attribute [irreducible] b3 b5 b4
end EachBody1
end Go.Proofs.YtgjifldciinehaaDoor
